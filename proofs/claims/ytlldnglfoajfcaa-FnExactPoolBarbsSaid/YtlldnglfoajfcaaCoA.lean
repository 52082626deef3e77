/- The annotated code of the functions that the law reaches. -/
import Derived.Test.YtlldnglfoajfcaaAnC
import Derived.Test.YtlldnglfoajfcaaProg
import Derived.KernelRfl
section
set_option maxRecDepth 100000
namespace Go.Am
open Go.Proofs
/-- laws.szIntS -/
def c70 : AC :=
 (.seq
  (.reg [] [⟨some 4, .move, [.k (.i 0)], none⟩] [0, 1] [])
  (.seq
   (.reg [] [⟨some 5, .move, [.t 1], none⟩,
     ⟨some 6, .move, [.t 0], none⟩,
     ⟨some 7, .len, [.t 6], none⟩,
     ⟨some 8, .bin .sub, [.t 5, .t 7], none⟩,
     ⟨some 1, .move, [.t 8], none⟩] [1] [])
   (.seq
    (.seq
     (.reg [] [⟨some 9, .move, [.t 1], none⟩,
       ⟨some 10, .bin .lt, [.t 9, .k (.i 0)], none⟩] [1, 10] [])
     (.cond (.t 10)
      (.seq
       (.reg [] [⟨some 4, .move, [.k (.i (-1))], none⟩] [4] [])
       .ret)
      .skip))
    (.seq
     (.reg [] [⟨some 11, .move, [.t 1], none⟩,
       ⟨some 4, .move, [.t 11], none⟩] [4] [])
     .ret))))
def a70 : AF := ⟨c70, [.tmp 4]⟩
/-- laws.szPi -/
def c126 : AC :=
 (.seq
  (.reg [] [⟨some 2, .box, [.t 0], none⟩,
    ⟨some 4, .move, [.k (.i 0)], none⟩] [1, 2] [2])
  (.seq
   (.reg [] [⟨some 5, .faddr 3, [.t 2], none⟩,
     ⟨some 6, .load none false, [.t 5], none⟩,
     ⟨some 7, .move, [.t 1], none⟩,
     ⟨some 8, .call [] false, [.f 71, .t 6, .t 7], none⟩,
     ⟨some 1, .move, [.t 8], none⟩] [1] [])
   (.seq
    (.seq
     (.reg [] [⟨some 9, .move, [.t 1], none⟩,
       ⟨some 10, .bin .lt, [.t 9, .k (.i 0)], none⟩] [1, 10] [])
     (.cond (.t 10)
      (.seq
       (.reg [] [⟨some 4, .move, [.k (.i (-1))], none⟩] [4] [])
       .ret)
      .skip))
    (.seq
     (.reg [] [⟨some 11, .move, [.t 1], none⟩,
       ⟨some 4, .move, [.t 11], none⟩] [4] [])
     .ret))))
def a126 : AF := ⟨c126, [.tmp 4]⟩
def b71l0 : AC :=
 (.seq
  (.seq
   (.reg [] [⟨some 12, .move, [.t 5], none⟩,
     ⟨some 13, .move, [.t 0], none⟩,
     ⟨some 14, .len, [.t 13], none⟩,
     ⟨some 15, .bin .lt, [.t 12, .t 14], none⟩] [0, 1, 5, 15] [])
   (.cond (.t 15)
    .skip
    (.exit 0)))
  (.seq
   (.block 1
    (.seq
     (.reg [] [⟨some 18, .move, [.t 0], none⟩,
       ⟨some 19, .move, [.t 5], none⟩,
       ⟨some 20, .iaddr 4, [.t 18, .t 19], none⟩,
       ⟨some 21, .load (some 4) false, [.t 20], none⟩,
       ⟨some 22, .move, [.t 1], none⟩,
       ⟨some 23, .call [] false, [.f 126, .t 21, .t 22], none⟩,
       ⟨some 1, .move, [.t 23], none⟩] [0, 1, 5] [])
     (.seq
      (.reg [] [⟨some 24, .move, [.t 1], none⟩,
        ⟨some 25, .bin .lt, [.t 24, .k (.i 0)], none⟩] [0, 1, 5, 25] [])
      (.cond (.t 25)
       (.seq
        (.reg [] [⟨some 4, .move, [.k (.i (-1))], none⟩] [4] [])
        .ret)
       .skip))))
   (.reg [] [⟨some 16, .move, [.t 5], none⟩,
     ⟨some 17, .bin .add, [.t 16, .k (.i 1)], none⟩,
     ⟨some 5, .move, [.t 17], none⟩] [0, 1, 5] [])))
def c71l0 : AC := b71l0
theorem r71l0 (call lp s) : run call lp c71l0 s = run call lp b71l0 s := rfl
/-- laws.szPiS -/
def c71 : AC :=
 (.seq
  (.reg [] [⟨some 4, .move, [.k (.i 0)], none⟩] [0, 1] [])
  (.seq
   (.reg [] [⟨some 6, .move, [.t 1], none⟩,
     ⟨some 7, .move, [.t 0], none⟩,
     ⟨some 8, .len, [.t 7], none⟩,
     ⟨some 9, .bin .sub, [.t 6, .t 8], none⟩,
     ⟨some 1, .move, [.t 9], none⟩] [0, 1] [])
   (.seq
    (.seq
     (.reg [] [⟨some 10, .move, [.t 1], none⟩,
       ⟨some 11, .bin .lt, [.t 10, .k (.i 0)], none⟩] [0, 1, 11] [])
     (.cond (.t 11)
      (.seq
       (.reg [] [⟨some 4, .move, [.k (.i (-1))], none⟩] [4] [])
       .ret)
      .skip))
    (.seq
     (.seq
      (.reg [] [⟨some 5, .move, [.k (.i 0)], none⟩] [0, 1, 5] [])
      (.block 0
       (.loop [0, 1, 5] [] c71l0)))
     (.seq
      (.reg [] [⟨some 26, .move, [.t 1], none⟩,
        ⟨some 4, .move, [.t 26], none⟩] [4] [])
      .ret)))))
def a71 : AF := ⟨c71, [.tmp 4]⟩
/-- laws.szPool -/
def c26 : AC :=
 (.seq
  (.reg [] [⟨some 2, .box, [.t 0], none⟩,
    ⟨some 4, .move, [.k (.i 0)], none⟩] [1, 2] [2])
  (.seq
   (.reg [] [⟨some 5, .faddr 0, [.t 2], none⟩,
     ⟨some 6, .load none false, [.t 5], none⟩,
     ⟨some 7, .move, [.t 1], none⟩,
     ⟨some 8, .call [] false, [.f 70, .t 6, .t 7], none⟩,
     ⟨some 1, .move, [.t 8], none⟩] [1, 2] [2])
   (.seq
    (.seq
     (.reg [] [⟨some 9, .move, [.t 1], none⟩,
       ⟨some 10, .bin .lt, [.t 9, .k (.i 0)], none⟩] [1, 2, 10] [2])
     (.cond (.t 10)
      (.seq
       (.reg [] [⟨some 4, .move, [.k (.i (-1))], none⟩] [4] [])
       .ret)
      .skip))
    (.seq
     (.reg [] [⟨some 11, .faddr 1, [.t 2], none⟩,
       ⟨some 12, .load none false, [.t 11], none⟩,
       ⟨some 13, .move, [.t 1], none⟩,
       ⟨some 14, .call [] false, [.f 71, .t 12, .t 13], none⟩,
       ⟨some 1, .move, [.t 14], none⟩] [1] [])
     (.seq
      (.seq
       (.reg [] [⟨some 15, .move, [.t 1], none⟩,
         ⟨some 16, .bin .lt, [.t 15, .k (.i 0)], none⟩] [1, 16] [])
       (.cond (.t 16)
        (.seq
         (.reg [] [⟨some 4, .move, [.k (.i (-1))], none⟩] [4] [])
         .ret)
        .skip))
      (.seq
       (.reg [] [⟨some 17, .move, [.t 1], none⟩,
         ⟨some 4, .move, [.t 17], none⟩] [4] [])
       .ret))))))
def a26 : AF := ⟨c26, [.tmp 4]⟩
def b29l0 : AC :=
 (.seq
  (.seq
   (.reg [] [⟨some 8, .move, [.t 4], none⟩,
     ⟨some 9, .move, [.t 0], none⟩,
     ⟨some 10, .len, [.t 9], none⟩,
     ⟨some 11, .bin .lt, [.t 8, .t 10], none⟩] [0, 3, 4, 11] [7])
   (.cond (.t 11)
    .skip
    (.exit 0)))
  (.seq
   (.block 1
    (.reg [] [⟨some 14, .move, [.t 3], none⟩,
      ⟨some 15, .move, [.t 4], none⟩,
      ⟨some 16, .move, [.t 0], none⟩,
      ⟨some 17, .move, [.t 4], none⟩,
      ⟨some 18, .iaddr 1, [.t 16, .t 17], none⟩,
      ⟨some 19, .load none false, [.t 18], none⟩,
      ⟨some 20, .iaddr 1, [.t 14, .t 15], none⟩,
      ⟨none, .store 1 true, [.t 20, .t 19], none⟩] [0, 3, 4] [7]))
   (.reg [] [⟨some 12, .move, [.t 4], none⟩,
     ⟨some 13, .bin .add, [.t 12, .k (.i 1)], none⟩,
     ⟨some 4, .move, [.t 13], none⟩] [0, 3, 4] [7])))
def c29l0 : AC := b29l0
theorem r29l0 (call lp s) : run call lp c29l0 s = run call lp b29l0 s := rfl
/-- laws.toIntS -/
def c29 : AC :=
 (.seq
  (.reg [] [⟨some 2, .move, [.k (.nils)], none⟩] [0] [])
  (.seq
   (.reg [] [⟨some 5, .move, [.t 0], none⟩,
     ⟨some 6, .len, [.t 5], none⟩,
     ⟨some 7, .mkslice 1 (.i 0), [.t 6, .t 6], none⟩,
     ⟨some 3, .move, [.t 7], none⟩] [0, 3] [7])
   (.seq
    (.seq
     (.reg [] [⟨some 4, .move, [.k (.i 0)], none⟩] [0, 3, 4] [7])
     (.block 0
      (.loop [0, 3, 4] [7] c29l0)))
    (.seq
     (.reg [] [⟨some 21, .move, [.t 3], none⟩,
       ⟨some 2, .move, [.t 21], none⟩] [2] [7])
     .ret))))
def a29 : AF := ⟨c29, [.tmp 2]⟩
/-- laws.toPi -/
def c130 : AC :=
 (.seq
  (.reg [] [⟨some 1, .box, [.t 0], none⟩,
    ⟨some 2, .alloc [.i 0, .i 0, .i 0, .nils], [], none⟩] [1, 2] [1, 2, 15])
  (.seq
   (.reg [] [⟨some 3, .alloc [.i 0, .i 0, .i 0, .nils], [], none⟩] [1, 2, 3] [1, 2, 3, 15])
   (.seq
    (.reg [] [⟨some 4, .faddr 0, [.t 1], none⟩,
      ⟨some 5, .load none false, [.t 4], none⟩,
      ⟨some 6, .faddr 0, [.t 3], none⟩,
      ⟨none, .store 1 true, [.t 6, .t 5], none⟩] [1, 2, 3] [1, 2, 3, 15])
    (.seq
     (.reg [] [⟨some 7, .faddr 1, [.t 1], none⟩,
       ⟨some 8, .load none false, [.t 7], none⟩,
       ⟨some 9, .faddr 1, [.t 3], none⟩,
       ⟨none, .store 1 true, [.t 9, .t 8], none⟩] [1, 2, 3] [1, 2, 3, 15])
     (.seq
      (.reg [] [⟨some 10, .faddr 2, [.t 1], none⟩,
        ⟨some 11, .load none false, [.t 10], none⟩,
        ⟨some 12, .faddr 2, [.t 3], none⟩,
        ⟨none, .store 1 true, [.t 12, .t 11], none⟩] [1, 2, 3] [1, 2, 3, 15])
      (.seq
       (.reg [] [⟨some 13, .faddr 3, [.t 1], none⟩,
         ⟨some 14, .load none false, [.t 13], none⟩,
         ⟨some 15, .call [] false, [.f 75, .t 14], none⟩,
         ⟨some 16, .faddr 3, [.t 3], none⟩,
         ⟨none, .store 1 true, [.t 16, .t 15], none⟩] [2, 3] [2, 3, 15])
       (.seq
        (.reg [] [⟨some 17, .load (some 4) false, [.t 3], none⟩,
          ⟨none, .store 4 true, [.t 2, .t 17], none⟩] [2] [2, 15])
        .ret)))))))
def a130 : AF := ⟨c130, [.cell 2 (some 4)]⟩
def b75l0 : AC :=
 (.seq
  (.seq
   (.reg [] [⟨some 8, .move, [.t 4], none⟩,
     ⟨some 9, .move, [.t 0], none⟩,
     ⟨some 10, .len, [.t 9], none⟩,
     ⟨some 11, .bin .lt, [.t 8, .t 10], none⟩] [0, 3, 4, 11] [7])
   (.cond (.t 11)
    .skip
    (.exit 0)))
  (.seq
   (.block 1
    (.reg [] [⟨some 14, .move, [.t 3], none⟩,
      ⟨some 15, .move, [.t 4], none⟩,
      ⟨some 16, .move, [.t 0], none⟩,
      ⟨some 17, .move, [.t 4], none⟩,
      ⟨some 18, .iaddr 4, [.t 16, .t 17], none⟩,
      ⟨some 19, .load (some 4) false, [.t 18], none⟩,
      ⟨some 20, .call [] false, [.f 130, .t 19], none⟩,
      ⟨some 21, .iaddr 4, [.t 14, .t 15], none⟩,
      ⟨none, .store 4 true, [.t 21, .t 20], none⟩] [0, 3, 4] [7]))
   (.reg [] [⟨some 12, .move, [.t 4], none⟩,
     ⟨some 13, .bin .add, [.t 12, .k (.i 1)], none⟩,
     ⟨some 4, .move, [.t 13], none⟩] [0, 3, 4] [7])))
def c75l0 : AC := b75l0
theorem r75l0 (call lp s) : run call lp c75l0 s = run call lp b75l0 s := rfl
/-- laws.toPiS -/
def c75 : AC :=
 (.seq
  (.reg [] [⟨some 2, .move, [.k (.nils)], none⟩] [0] [])
  (.seq
   (.reg [] [⟨some 5, .move, [.t 0], none⟩,
     ⟨some 6, .len, [.t 5], none⟩,
     ⟨some 7, .mkslice 4 (.agg [.i 0, .i 0, .i 0, .nils]), [.t 6, .t 6], none⟩,
     ⟨some 3, .move, [.t 7], none⟩] [0, 3] [7])
   (.seq
    (.seq
     (.reg [] [⟨some 4, .move, [.k (.i 0)], none⟩] [0, 3, 4] [7])
     (.block 0
      (.loop [0, 3, 4] [7] c75l0)))
    (.seq
     (.reg [] [⟨some 22, .move, [.t 3], none⟩,
       ⟨some 2, .move, [.t 22], none⟩] [2] [7])
     .ret))))
def a75 : AF := ⟨c75, [.tmp 2]⟩
/-- laws.toPool -/
def c28 : AC :=
 (.seq
  (.reg [] [⟨some 1, .box, [.t 0], none⟩,
    ⟨some 2, .alloc [.nils, .nils], [], none⟩] [1, 2] [1, 2, 6, 10])
  (.seq
   (.reg [] [⟨some 3, .alloc [.nils, .nils], [], none⟩] [1, 2, 3] [1, 2, 3, 6, 10])
   (.seq
    (.reg [] [⟨some 4, .faddr 0, [.t 1], none⟩,
      ⟨some 5, .load none false, [.t 4], none⟩,
      ⟨some 6, .call [] false, [.f 29, .t 5], none⟩,
      ⟨some 7, .faddr 0, [.t 3], none⟩,
      ⟨none, .store 1 true, [.t 7, .t 6], none⟩] [1, 2, 3] [1, 2, 3, 6, 10])
    (.seq
     (.reg [] [⟨some 8, .faddr 1, [.t 1], none⟩,
       ⟨some 9, .load none false, [.t 8], none⟩,
       ⟨some 10, .call [] false, [.f 75, .t 9], none⟩,
       ⟨some 11, .faddr 1, [.t 3], none⟩,
       ⟨none, .store 1 true, [.t 11, .t 10], none⟩] [2, 3] [2, 3, 6, 10])
     (.seq
      (.reg [] [⟨some 12, .load (some 2) false, [.t 3], none⟩,
        ⟨none, .store 2 true, [.t 2, .t 12], none⟩] [2] [2, 6, 10])
      .ret)))))
def a28 : AF := ⟨c28, [.cell 2 (some 2)]⟩
/-- spec.l6In -/
def c60 : AC :=
 (.seq
  (.reg [] [⟨some 6, .move, [.k (.b false)], none⟩] [0, 1, 2] [])
  (.seq
   (.reg [] [⟨some 7, .move, [.t 0], none⟩,
     ⟨some 8, .move, [.t 1], none⟩,
     ⟨some 9, .bin .ge, [.t 7, .t 8], none⟩,
     ⟨some 10, .move, [.t 9], none⟩,
     ⟨some 11, .move, [.t 0], some (10, true)⟩,
     ⟨some 12, .move, [.t 2], some (10, true)⟩,
     ⟨some 13, .bin .le, [.t 11, .t 12], some (10, true)⟩,
     ⟨some 14, .pick, [.t 10, .t 13, .k (.b false)], none⟩,
     ⟨some 6, .move, [.t 14], none⟩] [6] [])
   .ret))
def a60 : AF := ⟨c60, [.tmp 6]⟩
/-- spec.l13Name -/
def c171 : AC :=
 (.seq
  (.reg [] [⟨some 2, .move, [.k (.b false)], none⟩] [0] [])
  (.seq
   (.reg [] [⟨some 3, .move, [.t 0], none⟩,
     ⟨some 4, .call [] false, [.f 60, .t 3, .k (.i 0), .k (.i 29)], none⟩,
     ⟨some 2, .move, [.t 4], none⟩] [2] [])
   .ret))
def a171 : AF := ⟨c171, [.tmp 2]⟩
def b155l0 : AC :=
 (.seq
  (.seq
   (.reg [] [⟨some 70, .move, [.t 6], none⟩,
     ⟨some 71, .move, [.t 3], none⟩,
     ⟨some 72, .bin .lt, [.t 70, .t 71], none⟩] [1, 3, 5, 6, 72] [1])
   (.cond (.t 72)
    .skip
    (.exit 1)))
  (.seq
   (.block 2
    (.seq
     (.reg [] [⟨some 75, .faddr 3, [.t 1], none⟩,
       ⟨some 76, .load none false, [.t 75], none⟩,
       ⟨some 77, .move, [.t 6], none⟩,
       ⟨some 78, .iaddr 4, [.t 76, .t 77], none⟩,
       ⟨some 79, .load (some 4) false, [.t 78], none⟩,
       ⟨some 80, .call [] false, [.f 155, .t 79], none⟩,
       ⟨some 7, .move, [.t 80], none⟩] [1, 3, 5, 6, 7] [1])
     (.seq
      (.seq
       (.reg [] [⟨some 81, .move, [.t 7], none⟩,
         ⟨some 82, .bin .eq, [.t 81, .k (.i 0)], none⟩] [1, 3, 5, 6, 7, 82] [1])
       (.cond (.t 82)
        (.seq
         (.reg [] [⟨some 2, .move, [.k (.i 0)], none⟩] [2] [])
         .ret)
        .skip))
      (.reg [] [⟨some 83, .move, [.t 5], none⟩,
        ⟨some 84, .move, [.t 7], none⟩,
        ⟨some 85, .bin .add, [.t 83, .t 84], none⟩,
        ⟨some 86, .min2, [.k (.i 1000), .t 85], none⟩,
        ⟨some 5, .move, [.t 86], none⟩] [1, 3, 5, 6] [1]))))
   (.reg [] [⟨some 73, .move, [.t 6], none⟩,
     ⟨some 74, .bin .add, [.t 73, .k (.i 1)], none⟩,
     ⟨some 6, .move, [.t 74], none⟩] [1, 3, 5, 6] [1])))
def c155l0 : AC := b155l0
theorem r155l0 (call lp s) : run call lp c155l0 s = run call lp b155l0 s := rfl
/-- spec.l13Nodes -/
def c155 : AC :=
 (.seq
  (.reg [] [⟨some 1, .box, [.t 0], none⟩,
    ⟨some 2, .move, [.k (.i 0)], none⟩] [1] [1])
  (.seq
   (.reg [] [⟨some 3, .move, [.k (.i 1)], none⟩] [1, 3] [1])
   (.seq
    (.reg [] [⟨some 8, .faddr 1, [.t 1], none⟩,
      ⟨some 9, .load none false, [.t 8], none⟩,
      ⟨some 10, .call [] false, [.f 171, .t 9], none⟩,
      ⟨some 11, .move, [.t 10], none⟩,
      ⟨some 12, .faddr 2, [.t 1], some (11, true)⟩,
      ⟨some 13, .load none false, [.t 12], some (11, true)⟩,
      ⟨some 14, .call [] false, [.f 171, .t 13], some (11, true)⟩,
      ⟨some 15, .pick, [.t 11, .t 14, .k (.b false)], none⟩,
      ⟨some 4, .move, [.t 15], none⟩] [1, 3, 4] [1])
    (.seq
     (.seq
      (.reg [] [⟨some 16, .faddr 0, [.t 1], none⟩,
        ⟨some 17, .load none false, [.t 16], none⟩] [1, 3, 4, 17] [1])
      (.block 0
       (.seq
        (.reg [] [⟨some 19, .bin .eq, [.t 17, .k (.i 0)], none⟩,
          ⟨some 18, .move, [.t 19], none⟩] [1, 3, 4, 17, 18] [1])
        (.cond (.t 18)
         (.seq
          (.reg [] [⟨some 3, .move, [.k (.i 0)], none⟩] [1, 3] [1])
          (.reg [] [⟨some 20, .faddr 1, [.t 1], none⟩,
            ⟨some 21, .load none false, [.t 20], none⟩,
            ⟨some 22, .bin .eq, [.t 21, .k (.i 0)], none⟩,
            ⟨some 23, .move, [.t 22], none⟩,
            ⟨some 24, .faddr 2, [.t 1], some (23, true)⟩,
            ⟨some 25, .load none false, [.t 24], some (23, true)⟩,
            ⟨some 26, .bin .eq, [.t 25, .k (.i 0)], some (23, true)⟩,
            ⟨some 27, .pick, [.t 23, .t 26, .k (.b false)], none⟩,
            ⟨some 4, .move, [.t 27], none⟩] [1, 3, 4] [1]))
         (.seq
          (.reg [] [⟨some 29, .bin .eq, [.t 17, .k (.i 3)], none⟩,
            ⟨some 28, .move, [.t 29], none⟩] [1, 3, 4, 17, 28] [1])
          (.cond (.t 28)
           (.reg [] [⟨some 30, .faddr 1, [.t 1], none⟩,
             ⟨some 31, .load none false, [.t 30], none⟩,
             ⟨some 32, .bin .eq, [.t 31, .k (.i 0)], none⟩,
             ⟨some 33, .move, [.t 32], none⟩,
             ⟨some 34, .faddr 2, [.t 1], some (33, true)⟩,
             ⟨some 35, .load none false, [.t 34], some (33, true)⟩,
             ⟨some 36, .bin .eq, [.t 35, .k (.i 0)], some (33, true)⟩,
             ⟨some 37, .pick, [.t 33, .t 36, .k (.b false)], none⟩,
             ⟨some 4, .move, [.t 37], none⟩] [1, 3, 4] [1])
           (.seq
            (.seq
             (.reg [] [⟨some 39, .bin .eq, [.t 17, .k (.i 4)], none⟩,
               ⟨some 38, .move, [.t 39], none⟩] [1, 3, 4, 17, 38] [1])
             (.cond (.t 38)
              .skip
              (.reg [] [⟨some 40, .bin .eq, [.t 17, .k (.i 5)], none⟩,
                ⟨some 38, .move, [.t 40], none⟩] [1, 3, 4, 17, 38] [1])))
            (.cond (.t 38)
             (.seq
              (.reg [] [⟨some 3, .move, [.k (.i 2)], none⟩] [1, 3] [1])
              (.reg [] [⟨some 41, .faddr 1, [.t 1], none⟩,
                ⟨some 42, .load none false, [.t 41], none⟩,
                ⟨some 43, .bin .eq, [.t 42, .k (.i 0)], none⟩,
                ⟨some 44, .move, [.t 43], none⟩,
                ⟨some 45, .faddr 2, [.t 1], some (44, true)⟩,
                ⟨some 46, .load none false, [.t 45], some (44, true)⟩,
                ⟨some 47, .bin .eq, [.t 46, .k (.i 0)], some (44, true)⟩,
                ⟨some 48, .pick, [.t 44, .t 47, .k (.b false)], none⟩,
                ⟨some 4, .move, [.t 48], none⟩] [1, 3, 4] [1]))
             (.seq
              (.reg [] [⟨some 50, .bin .eq, [.t 17, .k (.i 6)], none⟩,
                ⟨some 49, .move, [.t 50], none⟩] [1, 3, 4, 17, 49] [1])
              (.cond (.t 49)
               (.reg [] [⟨some 51, .move, [.t 4], none⟩,
                 ⟨some 52, .move, [.t 51], none⟩,
                 ⟨some 53, .faddr 2, [.t 1], some (52, true)⟩,
                 ⟨some 54, .load none false, [.t 53], some (52, true)⟩,
                 ⟨some 55, .bin .lt, [.t 54, .k (.i 3)], some (52, true)⟩,
                 ⟨some 56, .pick, [.t 52, .t 55, .k (.b false)], none⟩,
                 ⟨some 4, .move, [.t 56], none⟩] [1, 3, 4] [1])
               (.seq
                (.seq
                 (.reg [] [⟨some 58, .bin .eq, [.t 17, .k (.i 1)], none⟩,
                   ⟨some 57, .move, [.t 58], none⟩] [1, 3, 4, 17, 57] [1])
                 (.cond (.t 57)
                  .skip
                  (.seq
                   (.reg [] [⟨some 59, .bin .eq, [.t 17, .k (.i 2)], none⟩,
                     ⟨some 57, .move, [.t 59], none⟩] [1, 3, 4, 17, 57] [1])
                   (.cond (.t 57)
                    .skip
                    (.reg [] [⟨some 60, .bin .eq, [.t 17, .k (.i 7)], none⟩,
                      ⟨some 57, .move, [.t 60], none⟩] [1, 3, 4, 57] [1])))))
                (.cond (.t 57)
                 .skip
                 (.seq
                  (.reg [] [⟨some 2, .move, [.k (.i 0)], none⟩] [2] [])
                  .ret)))))))))))))
     (.seq
      (.seq
       (.reg [] [⟨some 61, .move, [.t 4], none⟩,
         ⟨some 62, .not, [.t 61], none⟩,
         ⟨some 63, .move, [.t 62], none⟩,
         ⟨some 64, .faddr 3, [.t 1], some (63, false)⟩,
         ⟨some 65, .load none false, [.t 64], some (63, false)⟩,
         ⟨some 66, .len, [.t 65], some (63, false)⟩,
         ⟨some 67, .move, [.t 3], some (63, false)⟩,
         ⟨some 68, .bin .ne, [.t 66, .t 67], some (63, false)⟩,
         ⟨some 69, .pick, [.t 63, .k (.b true), .t 68], none⟩] [1, 3, 69] [1])
       (.cond (.t 69)
        (.seq
         (.reg [] [⟨some 2, .move, [.k (.i 0)], none⟩] [2] [])
         .ret)
        .skip))
      (.seq
       (.reg [] [⟨some 5, .move, [.k (.i 1)], none⟩] [1, 3, 5] [1])
       (.seq
        (.seq
         (.reg [] [⟨some 6, .move, [.k (.i 0)], none⟩] [1, 3, 5, 6] [1])
         (.block 1
          (.loop [1, 3, 5, 6] [1] c155l0)))
        (.seq
         (.reg [] [⟨some 87, .move, [.t 5], none⟩,
           ⟨some 2, .move, [.t 87], none⟩] [2] [])
         .ret))))))))
def a155 : AF := ⟨c155, [.tmp 2]⟩
/-- spec.PiOk -/
def c127 : AC :=
 (.seq
  (.reg [] [⟨some 1, .box, [.t 0], none⟩,
    ⟨some 2, .move, [.k (.b false)], none⟩] [1] [1])
  (.seq
   (.reg [] [⟨some 3, .load (some 4) false, [.t 1], none⟩,
     ⟨some 4, .call [] false, [.f 155, .t 3], none⟩,
     ⟨some 5, .call [] false, [.f 60, .t 4, .k (.i 1), .k (.i 14)], none⟩,
     ⟨some 2, .move, [.t 5], none⟩] [2] [])
   .ret))
def a127 : AF := ⟨c127, [.tmp 2]⟩
/-- spec.l14Member -/
def c128 : AC :=
 (.seq
  (.reg [] [⟨some 1, .box, [.t 0], none⟩,
    ⟨some 2, .move, [.k (.b false)], none⟩] [1] [1])
  (.seq
   (.reg [] [⟨some 3, .faddr 0, [.t 1], none⟩,
     ⟨some 4, .load none false, [.t 3], none⟩,
     ⟨some 5, .bin .ne, [.t 4, .k (.i 0)], none⟩,
     ⟨some 6, .move, [.t 5], none⟩,
     ⟨some 7, .faddr 0, [.t 1], some (6, true)⟩,
     ⟨some 8, .load none false, [.t 7], some (6, true)⟩,
     ⟨some 9, .bin .ne, [.t 8, .k (.i 5)], some (6, true)⟩,
     ⟨some 10, .pick, [.t 6, .t 9, .k (.b false)], none⟩,
     ⟨some 11, .move, [.t 10], none⟩,
     ⟨some 12, .faddr 0, [.t 1], some (11, true)⟩,
     ⟨some 13, .load none false, [.t 12], some (11, true)⟩,
     ⟨some 14, .bin .ne, [.t 13, .k (.i 6)], some (11, true)⟩,
     ⟨some 15, .pick, [.t 11, .t 14, .k (.b false)], none⟩,
     ⟨some 16, .move, [.t 15], none⟩,
     ⟨some 17, .faddr 0, [.t 1], some (16, true)⟩,
     ⟨some 18, .load none false, [.t 17], some (16, true)⟩,
     ⟨some 19, .bin .eq, [.t 18, .k (.i 7)], some (16, true)⟩,
     ⟨some 20, .move, [.t 19], some (16, true)⟩,
     ⟨some 21, .faddr 1, [.t 1], some (20, true)⟩,
     ⟨some 22, .load none false, [.t 21], some (20, true)⟩,
     ⟨some 23, .faddr 2, [.t 1], some (20, true)⟩,
     ⟨some 24, .load none false, [.t 23], some (20, true)⟩,
     ⟨some 25, .bin .eq, [.t 22, .t 24], some (20, true)⟩,
     ⟨some 26, .pick, [.t 20, .t 25, .k (.b false)], some (16, true)⟩,
     ⟨some 27, .not, [.t 26], some (16, true)⟩,
     ⟨some 28, .pick, [.t 16, .t 27, .k (.b false)], none⟩,
     ⟨some 2, .move, [.t 28], none⟩] [2] [])
   .ret))
def a128 : AF := ⟨c128, [.tmp 2]⟩
/-- spec.l13Uses -/
def c156 : AC :=
 (.seq
  (.reg [] [⟨some 2, .box, [.t 0], none⟩,
    ⟨some 4, .move, [.k (.b false)], none⟩] [1, 2] [2])
  (.seq
   (.seq
    (.reg [] [⟨some 5, .faddr 0, [.t 2], none⟩,
      ⟨some 6, .load none false, [.t 5], none⟩] [1, 2, 6] [2])
    (.block 0
     (.seq
      (.seq
       (.reg [] [⟨some 8, .bin .eq, [.t 6, .k (.i 1)], none⟩,
         ⟨some 7, .move, [.t 8], none⟩] [1, 2, 6, 7] [2])
       (.cond (.t 7)
        .skip
        (.reg [] [⟨some 9, .bin .eq, [.t 6, .k (.i 7)], none⟩,
          ⟨some 7, .move, [.t 9], none⟩] [1, 2, 6, 7] [2])))
      (.cond (.t 7)
       (.seq
        (.reg [] [⟨some 10, .faddr 1, [.t 2], none⟩,
          ⟨some 11, .load none false, [.t 10], none⟩,
          ⟨some 12, .move, [.t 1], none⟩,
          ⟨some 13, .bin .eq, [.t 11, .t 12], none⟩,
          ⟨some 14, .move, [.t 13], none⟩,
          ⟨some 15, .faddr 2, [.t 2], some (14, false)⟩,
          ⟨some 16, .load none false, [.t 15], some (14, false)⟩,
          ⟨some 17, .move, [.t 1], some (14, false)⟩,
          ⟨some 18, .bin .eq, [.t 16, .t 17], some (14, false)⟩,
          ⟨some 19, .pick, [.t 14, .k (.b true), .t 18], none⟩,
          ⟨some 4, .move, [.t 19], none⟩] [4] [])
        .ret)
       (.seq
        (.reg [] [⟨some 21, .bin .eq, [.t 6, .k (.i 2)], none⟩,
          ⟨some 20, .move, [.t 21], none⟩] [1, 2, 20] [2])
        (.cond (.t 20)
         (.seq
          (.reg [] [⟨some 22, .faddr 1, [.t 2], none⟩,
            ⟨some 23, .load none false, [.t 22], none⟩,
            ⟨some 24, .move, [.t 1], none⟩,
            ⟨some 25, .bin .eq, [.t 23, .t 24], none⟩,
            ⟨some 4, .move, [.t 25], none⟩] [4] [])
          .ret)
         .skip))))))
   (.seq
    (.reg [] [⟨some 4, .move, [.k (.b false)], none⟩] [4] [])
    .ret)))
def a156 : AF := ⟨c156, [.tmp 4]⟩
/-- spec.l13Binds -/
def c157 : AC :=
 (.seq
  (.reg [] [⟨some 1, .box, [.t 0], none⟩,
    ⟨some 2, .move, [.k (.i 0)], none⟩] [1] [1])
  (.seq
   (.seq
    (.reg [] [⟨some 3, .faddr 0, [.t 1], none⟩,
      ⟨some 4, .load none false, [.t 3], none⟩] [1, 4] [1])
    (.block 0
     (.seq
      (.reg [] [⟨some 6, .bin .eq, [.t 4, .k (.i 2)], none⟩,
        ⟨some 5, .move, [.t 6], none⟩] [1, 4, 5] [1])
      (.cond (.t 5)
       (.seq
        (.reg [] [⟨some 7, .faddr 2, [.t 1], none⟩,
          ⟨some 8, .load none false, [.t 7], none⟩,
          ⟨some 2, .move, [.t 8], none⟩] [2] [])
        .ret)
       (.seq
        (.reg [] [⟨some 10, .bin .eq, [.t 4, .k (.i 6)], none⟩,
          ⟨some 9, .move, [.t 10], none⟩] [1, 9] [1])
        (.cond (.t 9)
         (.seq
          (.reg [] [⟨some 11, .faddr 1, [.t 1], none⟩,
            ⟨some 12, .load none false, [.t 11], none⟩,
            ⟨some 2, .move, [.t 12], none⟩] [2] [])
          .ret)
         .skip))))))
   (.seq
    (.reg [] [⟨some 2, .move, [.k (.i (-1))], none⟩] [2] [])
    .ret)))
def a157 : AF := ⟨c157, [.tmp 2]⟩
def b129l0 : AC :=
 (.seq
  (.seq
   (.reg [] [⟨some 9, .move, [.t 5], none⟩,
     ⟨some 10, .faddr 3, [.t 2], none⟩,
     ⟨some 11, .load none false, [.t 10], none⟩,
     ⟨some 12, .len, [.t 11], none⟩,
     ⟨some 13, .bin .lt, [.t 9, .t 12], none⟩,
     ⟨some 14, .move, [.t 13], none⟩,
     ⟨some 15, .load (some 4) false, [.t 2], some (14, true)⟩,
     ⟨some 16, .call [] false, [.f 157, .t 15], some (14, true)⟩,
     ⟨some 17, .move, [.t 1], some (14, true)⟩,
     ⟨some 18, .bin .ne, [.t 16, .t 17], some (14, true)⟩,
     ⟨some 19, .pick, [.t 14, .t 18, .k (.b false)], none⟩] [1, 2, 5, 19] [2])
   (.cond (.t 19)
    .skip
    (.exit 0)))
  (.seq
   (.block 1
    (.seq
     (.reg [] [⟨some 22, .faddr 3, [.t 2], none⟩,
       ⟨some 23, .load none false, [.t 22], none⟩,
       ⟨some 24, .move, [.t 5], none⟩,
       ⟨some 25, .iaddr 4, [.t 23, .t 24], none⟩,
       ⟨some 26, .load (some 4) false, [.t 25], none⟩,
       ⟨some 27, .move, [.t 1], none⟩,
       ⟨some 28, .call [] false, [.f 129, .t 26, .t 27], none⟩] [1, 2, 5, 28] [2])
     (.cond (.t 28)
      (.seq
       (.reg [] [⟨some 4, .move, [.k (.b true)], none⟩] [4] [])
       .ret)
      .skip)))
   (.reg [] [⟨some 20, .move, [.t 5], none⟩,
     ⟨some 21, .bin .add, [.t 20, .k (.i 1)], none⟩,
     ⟨some 5, .move, [.t 21], none⟩] [1, 2, 5] [2])))
def c129l0 : AC := b129l0
theorem r129l0 (call lp s) : run call lp c129l0 s = run call lp b129l0 s := rfl
/-- spec.l13Free -/
def c129 : AC :=
 (.seq
  (.reg [] [⟨some 2, .box, [.t 0], none⟩,
    ⟨some 4, .move, [.k (.b false)], none⟩] [1, 2] [2])
  (.seq
   (.seq
    (.reg [] [⟨some 6, .load (some 4) false, [.t 2], none⟩,
      ⟨some 7, .move, [.t 1], none⟩,
      ⟨some 8, .call [] false, [.f 156, .t 6, .t 7], none⟩] [1, 2, 8] [2])
    (.cond (.t 8)
     (.seq
      (.reg [] [⟨some 4, .move, [.k (.b true)], none⟩] [4] [])
      .ret)
     .skip))
   (.seq
    (.seq
     (.reg [] [⟨some 5, .move, [.k (.i 0)], none⟩] [1, 2, 5] [2])
     (.block 0
      (.loop [1, 2, 5] [2] c129l0)))
    (.seq
     (.reg [] [⟨some 4, .move, [.k (.b false)], none⟩] [4] [])
     .ret))))
def a129 : AF := ⟨c129, [.tmp 4]⟩
def b72l0 : AC :=
 (.seq
  (.seq
   (.reg [] [⟨some 10, .move, [.t 3], none⟩,
     ⟨some 11, .faddr 0, [.t 1], none⟩,
     ⟨some 12, .load none false, [.t 11], none⟩,
     ⟨some 13, .len, [.t 12], none⟩,
     ⟨some 14, .bin .lt, [.t 10, .t 13], none⟩] [1, 3, 14] [1])
   (.cond (.t 14)
    .skip
    (.exit 0)))
  (.seq
   (.block 1
    (.seq
     (.reg [] [⟨some 17, .faddr 0, [.t 1], none⟩,
       ⟨some 18, .load none false, [.t 17], none⟩,
       ⟨some 19, .move, [.t 3], none⟩,
       ⟨some 20, .iaddr 1, [.t 18, .t 19], none⟩,
       ⟨some 21, .load none false, [.t 20], none⟩,
       ⟨some 22, .call [] false, [.f 60, .t 21, .k (.i 0), .k (.i 2)], none⟩,
       ⟨some 23, .not, [.t 22], none⟩] [1, 3, 23] [1])
     (.cond (.t 23)
      (.seq
       (.reg [] [⟨some 2, .move, [.k (.b false)], none⟩] [2] [])
       .ret)
      .skip)))
   (.reg [] [⟨some 15, .move, [.t 3], none⟩,
     ⟨some 16, .bin .add, [.t 15, .k (.i 1)], none⟩,
     ⟨some 3, .move, [.t 16], none⟩] [1, 3] [1])))
def c72l0 : AC := b72l0
theorem r72l0 (call lp s) : run call lp c72l0 s = run call lp b72l0 s := rfl
def b72l1 : AC :=
 (.seq
  (.seq
   (.reg [] [⟨some 51, .move, [.t 5], none⟩,
     ⟨some 52, .bin .lt, [.t 51, .k (.i 30)], none⟩] [1, 4, 5, 52] [1])
   (.cond (.t 52)
    .skip
    (.exit 4)))
  (.seq
   (.block 5
    (.seq
     (.reg [] [⟨some 55, .faddr 1, [.t 1], none⟩,
       ⟨some 56, .load none false, [.t 55], none⟩,
       ⟨some 57, .move, [.t 4], none⟩,
       ⟨some 58, .iaddr 4, [.t 56, .t 57], none⟩,
       ⟨some 59, .load (some 4) false, [.t 58], none⟩,
       ⟨some 60, .move, [.t 5], none⟩,
       ⟨some 61, .call [] false, [.f 129, .t 59, .t 60], none⟩] [1, 4, 5, 61] [1])
     (.cond (.t 61)
      (.seq
       (.reg [] [⟨some 2, .move, [.k (.b false)], none⟩] [2] [])
       .ret)
      .skip)))
   (.reg [] [⟨some 53, .move, [.t 5], none⟩,
     ⟨some 54, .bin .add, [.t 53, .k (.i 1)], none⟩,
     ⟨some 5, .move, [.t 54], none⟩] [1, 4, 5] [1])))
def c72l1 : AC := b72l1
theorem r72l1 (call lp s) : run call lp c72l1 s = run call lp b72l1 s := rfl
def b72l2 : AC :=
 (.seq
  (.seq
   (.reg [] [⟨some 24, .move, [.t 4], none⟩,
     ⟨some 25, .faddr 1, [.t 1], none⟩,
     ⟨some 26, .load none false, [.t 25], none⟩,
     ⟨some 27, .len, [.t 26], none⟩,
     ⟨some 28, .bin .lt, [.t 24, .t 27], none⟩] [1, 4, 28] [1])
   (.cond (.t 28)
    .skip
    (.exit 2)))
  (.seq
   (.block 3
    (.seq
     (.seq
      (.reg [] [⟨some 31, .faddr 1, [.t 1], none⟩,
        ⟨some 32, .load none false, [.t 31], none⟩,
        ⟨some 33, .move, [.t 4], none⟩,
        ⟨some 34, .iaddr 4, [.t 32, .t 33], none⟩,
        ⟨some 35, .load (some 4) false, [.t 34], none⟩,
        ⟨some 36, .call [] false, [.f 127, .t 35], none⟩,
        ⟨some 37, .not, [.t 36], none⟩,
        ⟨some 38, .move, [.t 37], none⟩,
        ⟨some 39, .faddr 1, [.t 1], some (38, false)⟩,
        ⟨some 40, .load none false, [.t 39], some (38, false)⟩,
        ⟨some 41, .move, [.t 4], some (38, false)⟩,
        ⟨some 42, .iaddr 4, [.t 40, .t 41], some (38, false)⟩,
        ⟨some 43, .load (some 4) false, [.t 42], some (38, false)⟩,
        ⟨some 44, .call [] false, [.f 128, .t 43], some (38, false)⟩,
        ⟨some 45, .not, [.t 44], some (38, false)⟩,
        ⟨some 46, .pick, [.t 38, .k (.b true), .t 45], none⟩] [1, 4, 46] [1])
      (.cond (.t 46)
       (.seq
        (.reg [] [⟨some 2, .move, [.k (.b false)], none⟩] [2] [])
        .ret)
       .skip))
     (.seq
      (.reg [] [⟨some 47, .faddr 0, [.t 1], none⟩,
        ⟨some 48, .load none false, [.t 47], none⟩,
        ⟨some 49, .len, [.t 48], none⟩,
        ⟨some 50, .bin .add, [.k (.i 6), .t 49], none⟩,
        ⟨some 5, .move, [.t 50], none⟩] [1, 4, 5] [1])
      (.block 4
       (.loop [1, 4, 5] [1] c72l1)))))
   (.reg [] [⟨some 29, .move, [.t 4], none⟩,
     ⟨some 30, .bin .add, [.t 29, .k (.i 1)], none⟩,
     ⟨some 4, .move, [.t 30], none⟩] [1, 4] [1])))
def c72l2 : AC := b72l2
theorem r72l2 (call lp s) : run call lp c72l2 s = run call lp b72l2 s := rfl
/-- spec.PoolOk -/
def c72 : AC :=
 (.seq
  (.reg [] [⟨some 1, .box, [.t 0], none⟩,
    ⟨some 2, .move, [.k (.b false)], none⟩] [1] [1])
  (.seq
   (.seq
    (.reg [] [⟨some 6, .faddr 0, [.t 1], none⟩,
      ⟨some 7, .load none false, [.t 6], none⟩,
      ⟨some 8, .len, [.t 7], none⟩,
      ⟨some 9, .bin .gt, [.t 8, .k (.i 4)], none⟩] [1, 9] [1])
    (.cond (.t 9)
     (.seq
      (.reg [] [⟨some 2, .move, [.k (.b false)], none⟩] [2] [])
      .ret)
     .skip))
   (.seq
    (.seq
     (.reg [] [⟨some 3, .move, [.k (.i 0)], none⟩] [1, 3] [1])
     (.block 0
      (.loop [1, 3] [1] c72l0)))
    (.seq
     (.seq
      (.reg [] [⟨some 4, .move, [.k (.i 0)], none⟩] [1, 4] [1])
      (.block 2
       (.loop [1, 4] [1] c72l2)))
     (.seq
      (.reg [] [⟨some 2, .move, [.k (.b true)], none⟩] [2] [])
      .ret)))))
def a72 : AF := ⟨c72, [.tmp 2]⟩
/-- spec.l14Offers -/
def c114 : AC :=
 (.seq
  (.reg [] [⟨some 1, .box, [.t 0], none⟩,
    ⟨some 2, .move, [.k (.nils)], none⟩] [1] [1])
  (.seq
   (.seq
    (.reg [] [⟨some 3, .faddr 0, [.t 1], none⟩,
      ⟨some 4, .load none false, [.t 3], none⟩] [1, 4] [1])
    (.block 0
     (.seq
      (.reg [] [⟨some 6, .bin .eq, [.t 4, .k (.i 4)], none⟩,
        ⟨some 5, .move, [.t 6], none⟩] [1, 4, 5] [1])
      (.cond (.t 5)
       (.seq
        (.reg [0, 1, 2, 3, 8, 4, 5, 6, 7, 13, 14, 15] [⟨some 7, .faddr 3, [.t 1], none⟩,
          ⟨some 8, .load none false, [.t 7], none⟩,
          ⟨some 9, .iaddr 4, [.t 8, .k (.i 0)], none⟩,
          ⟨some 10, .load (some 4) false, [.t 9], none⟩,
          ⟨some 12, .faddr 3, [.t 1], none⟩,
          ⟨some 13, .load none false, [.t 12], none⟩,
          ⟨some 14, .iaddr 4, [.t 13, .k (.i 1)], none⟩,
          ⟨some 15, .load (some 4) false, [.t 14], none⟩,
          ⟨some 11, .call [] false, [.f 114, .t 10], none⟩,
          ⟨none, .chk (.faddr 3), [.t 12, .t 1], none⟩,
          ⟨none, .chk (.load none false), [.t 13, .t 12], none⟩,
          ⟨none, .chk (.iaddr 4), [.t 14, .t 13, .k (.i 1)], none⟩,
          ⟨none, .chk (.load (some 4) false), [.t 15, .t 14], none⟩,
          ⟨some 16, .call [] false, [.f 114, .t 15], none⟩,
          ⟨some 17, .append 4 true, [.t 11, .t 16], none⟩,
          ⟨some 2, .move, [.t 17], none⟩] [2] [11, 17, 23, 24])
        .ret)
       (.seq
        (.seq
         (.reg [] [⟨some 19, .bin .eq, [.t 4, .k (.i 1)], none⟩,
           ⟨some 18, .move, [.t 19], none⟩] [1, 4, 18] [1])
         (.cond (.t 18)
          .skip
          (.seq
           (.reg [] [⟨some 20, .bin .eq, [.t 4, .k (.i 2)], none⟩,
             ⟨some 18, .move, [.t 20], none⟩] [1, 4, 18] [1])
           (.cond (.t 18)
            .skip
            (.reg [] [⟨some 21, .bin .eq, [.t 4, .k (.i 3)], none⟩,
              ⟨some 18, .move, [.t 21], none⟩] [1, 18] [1])))))
        (.cond (.t 18)
         (.seq
          (.reg [] [⟨some 22, .load (some 4) false, [.t 1], none⟩,
            ⟨some 23, .bslice 4 true, [.t 22], none⟩,
            ⟨some 2, .move, [.t 23], none⟩] [2] [11, 17, 23, 24])
          .ret)
         .skip))))))
   (.seq
    (.reg [] [⟨some 24, .bslice 4 true, [], none⟩,
      ⟨some 2, .move, [.t 24], none⟩] [2] [11, 17, 23, 24])
    .ret)))
def a114 : AF := ⟨c114, [.tmp 2]⟩
def b55l0 : AC :=
 (.seq
  (.seq
   (.reg [] [⟨some 35, .move, [.t 11], none⟩,
     ⟨some 36, .move, [.t 10], none⟩,
     ⟨some 37, .len, [.t 36], none⟩,
     ⟨some 38, .bin .lt, [.t 35, .t 37], none⟩] [1, 4, 5, 6, 7, 8, 9, 10, 11, 38] [1, 12, 13, 34, 81, 86])
   (.cond (.t 38)
    .skip
    (.exit 4)))
  (.seq
   (.block 5
    (.seq
     (.reg [] [⟨some 41, .move, [.t 7], none⟩,
       ⟨some 42, .move, [.t 41], none⟩,
       ⟨some 43, .move, [.t 10], some (42, false)⟩,
       ⟨some 44, .move, [.t 11], some (42, false)⟩,
       ⟨some 45, .iaddr 4, [.t 43, .t 44], some (42, false)⟩,
       ⟨some 46, .faddr 0, [.t 45], some (42, false)⟩,
       ⟨some 47, .load none false, [.t 46], some (42, false)⟩,
       ⟨some 48, .bin .eq, [.t 47, .k (.i 1)], some (42, false)⟩,
       ⟨some 49, .move, [.t 48], some (42, false)⟩,
       ⟨some 50, .move, [.t 10], some (49, true)⟩,
       ⟨some 51, .move, [.t 11], some (49, true)⟩,
       ⟨some 52, .iaddr 4, [.t 50, .t 51], some (49, true)⟩,
       ⟨some 53, .faddr 1, [.t 52], some (49, true)⟩,
       ⟨some 54, .load none false, [.t 53], some (49, true)⟩,
       ⟨some 55, .move, [.t 6], some (49, true)⟩,
       ⟨some 56, .bin .eq, [.t 54, .t 55], some (49, true)⟩,
       ⟨some 57, .pick, [.t 49, .t 56, .k (.b false)], some (42, false)⟩,
       ⟨some 58, .pick, [.t 42, .k (.b true), .t 57], none⟩,
       ⟨some 7, .move, [.t 58], none⟩] [1, 4, 5, 6, 7, 8, 9, 10, 11] [1, 12, 13, 34, 81, 86])
     (.reg [] [⟨some 59, .move, [.t 8], none⟩,
       ⟨some 60, .move, [.t 59], none⟩,
       ⟨some 61, .move, [.t 10], some (60, false)⟩,
       ⟨some 62, .move, [.t 11], some (60, false)⟩,
       ⟨some 63, .iaddr 4, [.t 61, .t 62], some (60, false)⟩,
       ⟨some 64, .faddr 0, [.t 63], some (60, false)⟩,
       ⟨some 65, .load none false, [.t 64], some (60, false)⟩,
       ⟨some 66, .bin .eq, [.t 65, .k (.i 2)], some (60, false)⟩,
       ⟨some 67, .move, [.t 66], some (60, false)⟩,
       ⟨some 68, .move, [.t 10], some (67, true)⟩,
       ⟨some 69, .move, [.t 11], some (67, true)⟩,
       ⟨some 70, .iaddr 4, [.t 68, .t 69], some (67, true)⟩,
       ⟨some 71, .faddr 1, [.t 70], some (67, true)⟩,
       ⟨some 72, .load none false, [.t 71], some (67, true)⟩,
       ⟨some 73, .move, [.t 6], some (67, true)⟩,
       ⟨some 74, .bin .eq, [.t 72, .t 73], some (67, true)⟩,
       ⟨some 75, .pick, [.t 67, .t 74, .k (.b false)], some (60, false)⟩,
       ⟨some 76, .pick, [.t 60, .k (.b true), .t 75], none⟩,
       ⟨some 8, .move, [.t 76], none⟩] [1, 4, 5, 6, 7, 8, 9, 10, 11] [1, 12, 13, 34, 81, 86])))
   (.reg [] [⟨some 39, .move, [.t 11], none⟩,
     ⟨some 40, .bin .add, [.t 39, .k (.i 1)], none⟩,
     ⟨some 11, .move, [.t 40], none⟩] [1, 4, 5, 6, 7, 8, 9, 10, 11] [1, 12, 13, 34, 81, 86])))
def c55l0 : AC := b55l0
theorem r55l0 (call lp s) : run call lp c55l0 s = run call lp b55l0 s := rfl
def b55l1 : AC :=
 (.seq
  (.seq
   (.reg [] [⟨some 22, .move, [.t 9], none⟩,
     ⟨some 23, .faddr 1, [.t 1], none⟩,
     ⟨some 24, .load none false, [.t 23], none⟩,
     ⟨some 25, .len, [.t 24], none⟩,
     ⟨some 26, .bin .lt, [.t 22, .t 25], none⟩] [1, 4, 5, 6, 7, 8, 9, 26] [1, 12, 13, 81, 86])
   (.cond (.t 26)
    .skip
    (.exit 2)))
  (.seq
   (.block 3
    (.seq
     (.reg [] [⟨some 29, .faddr 1, [.t 1], none⟩,
       ⟨some 30, .load none false, [.t 29], none⟩,
       ⟨some 31, .move, [.t 9], none⟩,
       ⟨some 32, .iaddr 4, [.t 30, .t 31], none⟩,
       ⟨some 33, .load (some 4) false, [.t 32], none⟩,
       ⟨some 34, .call [] false, [.f 114, .t 33], none⟩,
       ⟨some 10, .move, [.t 34], none⟩] [1, 4, 5, 6, 7, 8, 9, 10] [1, 12, 13, 34, 81, 86])
     (.seq
      (.reg [] [⟨some 11, .move, [.k (.i 0)], none⟩] [1, 4, 5, 6, 7, 8, 9, 10, 11] [1, 12, 13, 34, 81, 86])
      (.block 4
       (.loop [1, 4, 5, 6, 7, 8, 9, 10, 11] [1, 12, 13, 34, 81, 86] c55l0)))))
   (.reg [] [⟨some 27, .move, [.t 9], none⟩,
     ⟨some 28, .bin .add, [.t 27, .k (.i 1)], none⟩,
     ⟨some 9, .move, [.t 28], none⟩] [1, 4, 5, 6, 7, 8, 9] [1, 12, 13, 81, 86])))
def c55l1 : AC := b55l1
theorem r55l1 (call lp s) : run call lp c55l1 s = run call lp b55l1 s := rfl
def b55l2 : AC :=
 (.seq
  (.seq
   (.reg [] [⟨some 14, .move, [.t 6], none⟩,
     ⟨some 15, .bin .lt, [.t 14, .k (.i 6)], none⟩,
     ⟨some 16, .move, [.t 15], none⟩,
     ⟨some 17, .load (some 2) false, [.t 1], some (16, true)⟩,
     ⟨some 18, .call [] false, [.f 72, .t 17], some (16, true)⟩,
     ⟨some 19, .pick, [.t 16, .t 18, .k (.b false)], none⟩] [1, 4, 5, 6, 19] [1, 12, 13, 81, 86])
   (.cond (.t 19)
    .skip
    (.exit 0)))
  (.seq
   (.block 1
    (.seq
     (.reg [] [⟨some 7, .move, [.k (.b false)], none⟩] [1, 4, 5, 6, 7] [1, 12, 13, 81, 86])
     (.seq
      (.reg [] [⟨some 8, .move, [.k (.b false)], none⟩] [1, 4, 5, 6, 7, 8] [1, 12, 13, 81, 86])
      (.seq
       (.seq
        (.reg [] [⟨some 9, .move, [.k (.i 0)], none⟩] [1, 4, 5, 6, 7, 8, 9] [1, 12, 13, 81, 86])
        (.block 2
         (.loop [1, 4, 5, 6, 7, 8, 9] [1, 12, 13, 81, 86] c55l1)))
       (.seq
        (.seq
         (.reg [] [⟨some 77, .move, [.t 7], none⟩] [1, 4, 5, 6, 8, 77] [1, 12, 13, 81, 86])
         (.cond (.t 77)
          (.reg [] [⟨some 78, .move, [.t 4], none⟩,
            ⟨some 79, .move, [.t 6], none⟩,
            ⟨some 80, .bslice 1 true, [.t 79], none⟩,
            ⟨some 81, .append 1 true, [.t 78, .t 80], none⟩,
            ⟨some 4, .move, [.t 81], none⟩] [1, 4, 5, 6, 8] [1, 12, 13, 81, 86])
          .skip))
        (.seq
         (.reg [] [⟨some 82, .move, [.t 8], none⟩] [1, 4, 5, 6, 82] [1, 12, 13, 81, 86])
         (.cond (.t 82)
          (.reg [] [⟨some 83, .move, [.t 5], none⟩,
            ⟨some 84, .move, [.t 6], none⟩,
            ⟨some 85, .bslice 1 true, [.t 84], none⟩,
            ⟨some 86, .append 1 true, [.t 83, .t 85], none⟩,
            ⟨some 5, .move, [.t 86], none⟩] [1, 4, 5, 6] [1, 12, 13, 81, 86])
          .skip)))))))
   (.reg [] [⟨some 20, .move, [.t 6], none⟩,
     ⟨some 21, .bin .add, [.t 20, .k (.i 1)], none⟩,
     ⟨some 6, .move, [.t 21], none⟩] [1, 4, 5, 6] [1, 12, 13, 81, 86])))
def c55l2 : AC := b55l2
theorem r55l2 (call lp s) : run call lp c55l2 s = run call lp b55l2 s := rfl
/-- spec.PoolBarbs -/
def c55 : AC :=
 (.seq
  (.reg [] [⟨some 1, .box, [.t 0], none⟩,
    ⟨some 2, .move, [.k (.nils)], none⟩,
    ⟨some 3, .move, [.k (.nils)], none⟩] [1] [1])
  (.seq
   (.reg [] [⟨some 12, .bslice 1 true, [], none⟩,
     ⟨some 4, .move, [.t 12], none⟩] [1, 4] [1, 12, 81])
   (.seq
    (.reg [] [⟨some 13, .bslice 1 true, [], none⟩,
      ⟨some 5, .move, [.t 13], none⟩] [1, 4, 5] [1, 12, 13, 81, 86])
    (.seq
     (.seq
      (.reg [] [⟨some 6, .move, [.k (.i 0)], none⟩] [1, 4, 5, 6] [1, 12, 13, 81, 86])
      (.block 0
       (.loop [1, 4, 5, 6] [1, 12, 13, 81, 86] c55l2)))
     (.seq
      (.reg [] [⟨some 87, .move, [.t 4], none⟩,
        ⟨some 88, .move, [.t 5], none⟩,
        ⟨some 2, .move, [.t 87], none⟩,
        ⟨some 3, .move, [.t 88], none⟩] [2, 3] [12, 13, 81, 86])
      .ret)))))
def a55 : AF := ⟨c55, [.tmp 2, .tmp 3]⟩
def b172l0 : AC :=
 (.seq
  (.reg [] [⟨some 12, .bin .lt, [.t 11, .t 10], none⟩] [1, 5, 9, 10, 11, 12] [])
  (.seq
   (.cond (.t 12)
    .skip
    (.exit 0))
   (.seq
    (.block 1
     (.seq
      (.reg [] [⟨some 13, .iaddr 4, [.t 9, .t 11], none⟩,
        ⟨some 14, .load (some 4) false, [.t 13], none⟩,
        ⟨some 7, .alloc [.i 0, .i 0, .i 0, .nils], [], none⟩,
        ⟨none, .store 4 true, [.t 7, .t 14], none⟩] [1, 5, 7, 9, 10, 11] [7])
      (.seq
       (.seq
        (.reg [] [⟨some 15, .move, [.t 5], none⟩,
          ⟨some 16, .move, [.t 1], none⟩,
          ⟨some 17, .bin .gt, [.t 15, .t 16], none⟩] [1, 5, 7, 9, 10, 11, 17] [7])
        (.cond (.t 17)
         (.seq
          (.reg [] [⟨some 18, .move, [.t 5], none⟩,
            ⟨some 4, .move, [.t 18], none⟩] [4] [])
          .ret)
         .skip))
       (.reg [] [⟨some 19, .move, [.t 5], none⟩,
         ⟨some 20, .load (some 4) false, [.t 7], none⟩,
         ⟨some 21, .move, [.t 1], none⟩,
         ⟨some 22, .move, [.t 5], none⟩,
         ⟨some 23, .bin .sub, [.t 21, .t 22], none⟩,
         ⟨some 24, .call [] false, [.f 172, .t 20, .t 23], none⟩,
         ⟨some 25, .bin .add, [.t 19, .t 24], none⟩,
         ⟨some 5, .move, [.t 25], none⟩] [1, 5, 9, 10, 11] []))))
    (.reg [] [⟨some 26, .bin .add, [.t 11, .k (.i 1)], none⟩,
      ⟨some 11, .move, [.t 26], none⟩] [1, 5, 9, 10, 11] []))))
def c172l0 : AC := b172l0
theorem r172l0 (call lp s) : run call lp c172l0 s = run call lp b172l0 s := rfl
/-- impl.piNodes -/
def c172 : AC :=
 (.seq
  (.reg [] [⟨some 2, .box, [.t 0], none⟩,
    ⟨some 4, .move, [.k (.i 0)], none⟩] [1, 2] [2])
  (.seq
   (.reg [] [⟨some 5, .move, [.k (.i 1)], none⟩] [1, 2, 5] [2])
   (.seq
    (.seq
     (.reg [] [⟨some 8, .faddr 3, [.t 2], none⟩,
       ⟨some 9, .load none false, [.t 8], none⟩,
       ⟨some 10, .len, [.t 9], none⟩,
       ⟨some 11, .move, [.k (.i 0)], none⟩] [1, 5, 9, 10, 11] [])
     (.block 0
      (.loop [1, 5, 9, 10, 11] [] c172l0)))
    (.seq
     (.reg [] [⟨some 27, .move, [.t 5], none⟩,
       ⟨some 4, .move, [.t 27], none⟩] [4] [])
     .ret))))
def a172 : AF := ⟨c172, [.tmp 4]⟩
/-- impl.piName -/
def c199 : AC :=
 (.seq
  (.reg [] [⟨some 2, .move, [.k (.b false)], none⟩] [0] [])
  (.seq
   (.reg [] [⟨some 3, .move, [.t 0], none⟩,
     ⟨some 4, .bin .ge, [.t 3, .k (.i 0)], none⟩,
     ⟨some 5, .move, [.t 4], none⟩,
     ⟨some 6, .move, [.t 0], some (5, true)⟩,
     ⟨some 7, .bin .lt, [.t 6, .k (.i 30)], some (5, true)⟩,
     ⟨some 8, .pick, [.t 5, .t 7, .k (.b false)], none⟩,
     ⟨some 2, .move, [.t 8], none⟩] [2] [])
   .ret))
def a199 : AF := ⟨c199, [.tmp 2]⟩
def b135l0 : AC :=
 (.seq
  (.reg [] [⟨some 9, .bin .lt, [.t 8, .t 7], none⟩] [0, 1, 7, 8, 9] [])
  (.seq
   (.cond (.t 9)
    .skip
    (.exit 0))
   (.seq
    (.block 1
     (.seq
      (.reg [] [⟨some 10, .move, [.t 8], none⟩,
        ⟨some 5, .move, [.t 10], none⟩] [0, 1, 5, 7, 8] [])
      (.seq
       (.reg [] [⟨some 11, .move, [.t 1], none⟩,
         ⟨some 12, .move, [.t 0], none⟩,
         ⟨some 13, .move, [.t 5], none⟩,
         ⟨some 14, .iaddr 4, [.t 12, .t 13], none⟩,
         ⟨some 15, .load (some 4) false, [.t 14], none⟩,
         ⟨some 16, .call [] false, [.t 11, .t 15], none⟩] [0, 1, 5, 7, 8, 16] [])
       (.cond (.t 16)
        (.seq
         (.reg [] [⟨some 17, .move, [.t 5], none⟩,
           ⟨some 4, .move, [.t 17], none⟩] [4] [])
         .ret)
        .skip))))
    (.reg [] [⟨some 18, .bin .add, [.t 8, .k (.i 1)], none⟩,
      ⟨some 8, .move, [.t 18], none⟩] [0, 1, 7, 8] []))))
def c135l0 : AC := b135l0
theorem r135l0 (call lp s) : run call lp c135l0 s = run call lp b135l0 s := rfl
/-- impl.Pi] -/
def c135 : AC :=
 (.seq
  (.reg [] [⟨some 4, .move, [.k (.i 0)], none⟩] [0, 1] [])
  (.seq
   (.seq
    (.reg [] [⟨some 6, .move, [.t 0], none⟩,
      ⟨some 7, .len, [.t 6], none⟩,
      ⟨some 8, .move, [.k (.i 0)], none⟩] [0, 1, 7, 8] [])
    (.block 0
     (.loop [0, 1, 7, 8] [] c135l0)))
   (.seq
    (.reg [] [⟨some 4, .move, [.k (.i (-1))], none⟩] [4] [])
    .ret)))
def a135 : AF := ⟨c135, [.tmp 4]⟩
/-- impl.Pi] -/
def c79 : AC :=
 (.seq
  (.reg [] [⟨some 4, .move, [.k (.b false)], none⟩] [0, 1] [])
  (.seq
   (.reg [] [⟨some 5, .move, [.t 0], none⟩,
     ⟨some 6, .move, [.t 1], none⟩,
     ⟨some 7, .call [] false, [.f 135, .t 5, .t 6], none⟩,
     ⟨some 8, .bin .ge, [.t 7, .k (.i 0)], none⟩,
     ⟨some 4, .move, [.t 8], none⟩] [4] [])
   .ret))
def a79 : AF := ⟨c79, [.tmp 4]⟩
/-- impl.piShape$1 -/
def c200 : AC :=
 (.seq
  (.reg [] [⟨some 1, .box, [.t 0], none⟩,
    ⟨some 2, .move, [.k (.b false)], none⟩] [1] [1])
  (.seq
   (.reg [] [⟨some 3, .load (some 4) false, [.t 1], none⟩,
     ⟨some 4, .call [] false, [.f 173, .t 3], none⟩,
     ⟨some 5, .not, [.t 4], none⟩,
     ⟨some 2, .move, [.t 5], none⟩] [2] [])
   .ret))
def a200 : AF := ⟨c200, [.tmp 2]⟩
/-- impl.piShape -/
def c173 : AC :=
 (.seq
  (.reg [] [⟨some 1, .box, [.t 0], none⟩,
    ⟨some 2, .move, [.k (.b false)], none⟩] [1] [1])
  (.seq
   (.reg [] [⟨some 3, .move, [.k (.i 1)], none⟩] [1, 3] [1])
   (.seq
    (.seq
     (.reg [] [⟨some 4, .faddr 0, [.t 1], none⟩,
       ⟨some 5, .load none false, [.t 4], none⟩] [1, 3, 5] [1])
     (.block 0
      (.seq
       (.reg [] [⟨some 7, .bin .eq, [.t 5, .k (.i 0)], none⟩,
         ⟨some 6, .move, [.t 7], none⟩] [1, 3, 5, 6] [1])
       (.cond (.t 6)
        (.reg [] [⟨some 3, .move, [.k (.i 0)], none⟩] [1, 3] [1])
        (.seq
         (.seq
          (.reg [] [⟨some 9, .bin .eq, [.t 5, .k (.i 4)], none⟩,
            ⟨some 8, .move, [.t 9], none⟩] [1, 3, 5, 8] [1])
          (.cond (.t 8)
           .skip
           (.reg [] [⟨some 10, .bin .eq, [.t 5, .k (.i 5)], none⟩,
             ⟨some 8, .move, [.t 10], none⟩] [1, 3, 8] [1])))
         (.cond (.t 8)
          (.reg [] [⟨some 3, .move, [.k (.i 2)], none⟩] [1, 3] [1])
          .skip))))))
    (.seq
     (.seq
      (.reg [] [⟨some 11, .faddr 0, [.t 1], none⟩,
        ⟨some 12, .load none false, [.t 11], none⟩] [1, 3, 12] [1])
      (.block 1
       (.seq
        (.seq
         (.reg [] [⟨some 14, .bin .eq, [.t 12, .k (.i 0)], none⟩,
           ⟨some 13, .move, [.t 14], none⟩] [1, 3, 12, 13] [1])
         (.cond (.t 13)
          .skip
          (.seq
           (.reg [] [⟨some 15, .bin .eq, [.t 12, .k (.i 3)], none⟩,
             ⟨some 13, .move, [.t 15], none⟩] [1, 3, 12, 13] [1])
           (.cond (.t 13)
            .skip
            (.seq
             (.reg [] [⟨some 16, .bin .eq, [.t 12, .k (.i 4)], none⟩,
               ⟨some 13, .move, [.t 16], none⟩] [1, 3, 12, 13] [1])
             (.cond (.t 13)
              .skip
              (.reg [] [⟨some 17, .bin .eq, [.t 12, .k (.i 5)], none⟩,
                ⟨some 13, .move, [.t 17], none⟩] [1, 3, 12, 13] [1])))))))
        (.cond (.t 13)
         (.seq
          (.reg [] [⟨some 18, .faddr 1, [.t 1], none⟩,
            ⟨some 19, .load none false, [.t 18], none⟩,
            ⟨some 20, .bin .ne, [.t 19, .k (.i 0)], none⟩,
            ⟨some 21, .move, [.t 20], none⟩,
            ⟨some 22, .faddr 2, [.t 1], some (21, false)⟩,
            ⟨some 23, .load none false, [.t 22], some (21, false)⟩,
            ⟨some 24, .bin .ne, [.t 23, .k (.i 0)], some (21, false)⟩,
            ⟨some 25, .pick, [.t 21, .k (.b true), .t 24], none⟩] [1, 3, 25] [1])
          (.cond (.t 25)
           (.seq
            (.reg [] [⟨some 2, .move, [.k (.b false)], none⟩] [2] [])
            .ret)
           .skip))
         (.seq
          (.seq
           (.reg [] [⟨some 27, .bin .eq, [.t 12, .k (.i 1)], none⟩,
             ⟨some 26, .move, [.t 27], none⟩] [1, 3, 12, 26] [1])
           (.cond (.t 26)
            .skip
            (.seq
             (.reg [] [⟨some 28, .bin .eq, [.t 12, .k (.i 2)], none⟩,
               ⟨some 26, .move, [.t 28], none⟩] [1, 3, 12, 26] [1])
             (.cond (.t 26)
              .skip
              (.reg [] [⟨some 29, .bin .eq, [.t 12, .k (.i 7)], none⟩,
                ⟨some 26, .move, [.t 29], none⟩] [1, 3, 12, 26] [1])))))
          (.cond (.t 26)
           (.seq
            (.reg [] [⟨some 30, .faddr 1, [.t 1], none⟩,
              ⟨some 31, .load none false, [.t 30], none⟩,
              ⟨some 32, .call [] false, [.f 199, .t 31], none⟩,
              ⟨some 33, .not, [.t 32], none⟩,
              ⟨some 34, .move, [.t 33], none⟩,
              ⟨some 35, .faddr 2, [.t 1], some (34, false)⟩,
              ⟨some 36, .load none false, [.t 35], some (34, false)⟩,
              ⟨some 37, .call [] false, [.f 199, .t 36], some (34, false)⟩,
              ⟨some 38, .not, [.t 37], some (34, false)⟩,
              ⟨some 39, .pick, [.t 34, .k (.b true), .t 38], none⟩] [1, 3, 39] [1])
            (.cond (.t 39)
             (.seq
              (.reg [] [⟨some 2, .move, [.k (.b false)], none⟩] [2] [])
              .ret)
             .skip))
           (.seq
            (.reg [] [⟨some 41, .bin .eq, [.t 12, .k (.i 6)], none⟩,
              ⟨some 40, .move, [.t 41], none⟩] [1, 3, 40] [1])
            (.cond (.t 40)
             (.seq
              (.reg [] [⟨some 42, .faddr 1, [.t 1], none⟩,
                ⟨some 43, .load none false, [.t 42], none⟩,
                ⟨some 44, .call [] false, [.f 199, .t 43], none⟩,
                ⟨some 45, .not, [.t 44], none⟩,
                ⟨some 46, .move, [.t 45], none⟩,
                ⟨some 47, .faddr 2, [.t 1], some (46, false)⟩,
                ⟨some 48, .load none false, [.t 47], some (46, false)⟩,
                ⟨some 49, .bin .lt, [.t 48, .k (.i 0)], some (46, false)⟩,
                ⟨some 50, .pick, [.t 46, .k (.b true), .t 49], none⟩,
                ⟨some 51, .move, [.t 50], none⟩,
                ⟨some 52, .faddr 2, [.t 1], some (51, false)⟩,
                ⟨some 53, .load none false, [.t 52], some (51, false)⟩,
                ⟨some 54, .bin .ge, [.t 53, .k (.i 3)], some (51, false)⟩,
                ⟨some 55, .pick, [.t 51, .k (.b true), .t 54], none⟩] [1, 3, 55] [1])
              (.cond (.t 55)
               (.seq
                (.reg [] [⟨some 2, .move, [.k (.b false)], none⟩] [2] [])
                .ret)
               .skip))
             (.seq
              (.reg [] [⟨some 2, .move, [.k (.b false)], none⟩] [2] [])
              .ret)))))))))
     (.seq
      (.reg [] [⟨some 56, .faddr 3, [.t 1], none⟩,
        ⟨some 57, .load none false, [.t 56], none⟩,
        ⟨some 58, .len, [.t 57], none⟩,
        ⟨some 59, .move, [.t 3], none⟩,
        ⟨some 60, .bin .eq, [.t 58, .t 59], none⟩,
        ⟨some 61, .move, [.t 60], none⟩,
        ⟨some 62, .faddr 3, [.t 1], some (61, true)⟩,
        ⟨some 63, .load none false, [.t 62], some (61, true)⟩,
        ⟨some 64, .call [] false, [.f 79, .t 63, .f 200], some (61, true)⟩,
        ⟨some 65, .not, [.t 64], some (61, true)⟩,
        ⟨some 66, .pick, [.t 61, .t 65, .k (.b false)], none⟩,
        ⟨some 2, .move, [.t 66], none⟩] [2] [])
      .ret)))))
def a173 : AF := ⟨c173, [.tmp 2]⟩
/-- impl.PiOk -/
def c158 : AC :=
 (.seq
  (.reg [] [⟨some 1, .box, [.t 0], none⟩,
    ⟨some 2, .move, [.k (.b false)], none⟩] [1] [1])
  (.seq
   (.reg [] [⟨some 3, .load (some 4) false, [.t 1], none⟩,
     ⟨some 4, .call [] false, [.f 172, .t 3, .k (.i 14)], none⟩,
     ⟨some 5, .bin .le, [.t 4, .k (.i 14)], none⟩,
     ⟨some 6, .move, [.t 5], none⟩,
     ⟨some 7, .load (some 4) false, [.t 1], some (6, true)⟩,
     ⟨some 8, .call [] false, [.f 173, .t 7], some (6, true)⟩,
     ⟨some 9, .pick, [.t 6, .t 8, .k (.b false)], none⟩,
     ⟨some 2, .move, [.t 9], none⟩] [2] [])
   .ret))
def a158 : AF := ⟨c158, [.tmp 2]⟩
/-- impl.binds -/
def c174 : AC :=
 (.seq
  (.reg [] [⟨some 1, .box, [.t 0], none⟩,
    ⟨some 2, .move, [.k (.i 0)], none⟩] [1] [1])
  (.seq
   (.seq
    (.reg [] [⟨some 3, .faddr 0, [.t 1], none⟩,
      ⟨some 4, .load none false, [.t 3], none⟩] [1, 4] [1])
    (.block 0
     (.seq
      (.reg [] [⟨some 6, .bin .eq, [.t 4, .k (.i 2)], none⟩,
        ⟨some 5, .move, [.t 6], none⟩] [1, 4, 5] [1])
      (.cond (.t 5)
       (.seq
        (.reg [] [⟨some 7, .faddr 2, [.t 1], none⟩,
          ⟨some 8, .load none false, [.t 7], none⟩,
          ⟨some 2, .move, [.t 8], none⟩] [2] [])
        .ret)
       (.seq
        (.reg [] [⟨some 10, .bin .eq, [.t 4, .k (.i 6)], none⟩,
          ⟨some 9, .move, [.t 10], none⟩] [1, 9] [1])
        (.cond (.t 9)
         (.seq
          (.reg [] [⟨some 11, .faddr 1, [.t 1], none⟩,
            ⟨some 12, .load none false, [.t 11], none⟩,
            ⟨some 2, .move, [.t 12], none⟩] [2] [])
          .ret)
         .skip))))))
   (.seq
    (.reg [] [⟨some 2, .move, [.k (.i (-1))], none⟩] [2] [])
    .ret)))
def a174 : AF := ⟨c174, [.tmp 2]⟩
/-- impl.uses -/
def c175 : AC :=
 (.seq
  (.reg [] [⟨some 1, .box, [.t 0], none⟩,
    ⟨some 2, .move, [.k (.nils)], none⟩] [1] [1])
  (.seq
   (.seq
    (.reg [] [⟨some 3, .faddr 0, [.t 1], none⟩,
      ⟨some 4, .load none false, [.t 3], none⟩] [1, 4] [1])
    (.block 0
     (.seq
      (.seq
       (.reg [] [⟨some 6, .bin .eq, [.t 4, .k (.i 1)], none⟩,
         ⟨some 5, .move, [.t 6], none⟩] [1, 4, 5] [1])
       (.cond (.t 5)
        .skip
        (.reg [] [⟨some 7, .bin .eq, [.t 4, .k (.i 7)], none⟩,
          ⟨some 5, .move, [.t 7], none⟩] [1, 4, 5] [1])))
      (.cond (.t 5)
       (.seq
        (.reg [] [⟨some 8, .faddr 1, [.t 1], none⟩,
          ⟨some 9, .load none false, [.t 8], none⟩,
          ⟨some 10, .faddr 2, [.t 1], none⟩,
          ⟨some 11, .load none false, [.t 10], none⟩,
          ⟨some 12, .bslice 1 true, [.t 9, .t 11], none⟩,
          ⟨some 2, .move, [.t 12], none⟩] [2] [12, 17])
        .ret)
       (.seq
        (.reg [] [⟨some 14, .bin .eq, [.t 4, .k (.i 2)], none⟩,
          ⟨some 13, .move, [.t 14], none⟩] [1, 13] [1])
        (.cond (.t 13)
         (.seq
          (.reg [] [⟨some 15, .faddr 1, [.t 1], none⟩,
            ⟨some 16, .load none false, [.t 15], none⟩,
            ⟨some 17, .bslice 1 true, [.t 16], none⟩,
            ⟨some 2, .move, [.t 17], none⟩] [2] [12, 17])
          .ret)
         .skip))))))
   (.seq
    (.reg [] [⟨some 2, .move, [.k (.nils)], none⟩] [2] [12, 17])
    .ret)))
def a175 : AF := ⟨c175, [.tmp 2]⟩
def b159l0 : AC :=
 (.seq
  (.reg [] [⟨some 22, .bin .lt, [.t 21, .k (.i 30)], none⟩] [1, 2, 3, 13, 14, 15, 20, 21, 22] [1, 2, 3])
  (.seq
   (.cond (.t 22)
    .skip
    (.exit 2))
   (.seq
    (.block 3
     (.seq
      (.reg [] [⟨some 23, .move, [.t 21], none⟩,
        ⟨some 24, .idx none 1 30, [.t 20, .t 21], none⟩,
        ⟨some 6, .move, [.t 23], none⟩,
        ⟨some 7, .move, [.t 24], none⟩] [1, 2, 3, 6, 7, 13, 14, 15, 20, 21] [1, 2, 3])
      (.reg [] [⟨some 25, .move, [.t 6], none⟩,
        ⟨some 26, .move, [.t 6], none⟩,
        ⟨some 27, .iarr 1 30, [.t 3, .t 26], none⟩,
        ⟨some 28, .load none false, [.t 27], none⟩,
        ⟨some 29, .move, [.t 28], none⟩,
        ⟨some 30, .move, [.t 7], some (29, false)⟩,
        ⟨some 31, .pick, [.t 29, .k (.b true), .t 30], none⟩,
        ⟨some 32, .iarr 1 30, [.t 3, .t 25], none⟩,
        ⟨none, .store 1 true, [.t 32, .t 31], none⟩] [1, 2, 3, 13, 14, 15, 20, 21] [1, 2, 3])))
    (.reg [] [⟨some 33, .bin .add, [.t 21, .k (.i 1)], none⟩,
      ⟨some 21, .move, [.t 33], none⟩] [1, 2, 3, 13, 14, 15, 20, 21] [1, 2, 3]))))
def c159l0 : AC := b159l0
theorem r159l0 (call lp s) : run call lp c159l0 s = run call lp b159l0 s := rfl
def b159l1 : AC :=
 (.seq
  (.reg [] [⟨some 16, .bin .lt, [.t 15, .t 14], none⟩] [1, 2, 3, 13, 14, 15, 16] [1, 2, 3])
  (.seq
   (.cond (.t 16)
    .skip
    (.exit 0))
   (.seq
    (.block 1
     (.seq
      (.reg [] [⟨some 17, .iaddr 4, [.t 13, .t 15], none⟩,
        ⟨some 18, .load (some 4) false, [.t 17], none⟩,
        ⟨some 5, .alloc [.i 0, .i 0, .i 0, .nils], [], none⟩,
        ⟨none, .store 4 true, [.t 5, .t 18], none⟩] [1, 2, 3, 5, 13, 14, 15] [1, 2, 3, 5])
      (.seq
       (.reg [] [⟨some 19, .load (some 4) false, [.t 5], none⟩,
         ⟨some 20, .call [] false, [.f 159, .t 19], none⟩,
         ⟨some 21, .move, [.k (.i 0)], none⟩] [1, 2, 3, 13, 14, 15, 20, 21] [1, 2, 3])
       (.block 2
        (.loop [1, 2, 3, 13, 14, 15, 20, 21] [1, 2, 3] c159l0)))))
    (.reg [] [⟨some 34, .bin .add, [.t 15, .k (.i 1)], none⟩,
      ⟨some 15, .move, [.t 34], none⟩] [1, 2, 3, 13, 14, 15] [1, 2, 3]))))
def c159l1 : AC := b159l1
theorem r159l1 (call lp s) : run call lp c159l1 s = run call lp b159l1 s := rfl
def b159l2 : AC :=
 (.seq
  (.reg [] [⟨some 45, .bin .lt, [.t 44, .t 43], none⟩] [2, 3, 42, 43, 44, 45] [2, 3, 42])
  (.seq
   (.cond (.t 45)
    .skip
    (.exit 4))
   (.seq
    (.block 5
     (.seq
      (.reg [] [⟨some 46, .iaddr 1, [.t 42, .t 44], none⟩,
        ⟨some 47, .load none false, [.t 46], none⟩,
        ⟨some 10, .move, [.t 47], none⟩] [2, 3, 10, 42, 43, 44] [2, 3, 42])
      (.reg [] [⟨some 48, .move, [.t 10], none⟩,
        ⟨some 49, .iarr 1 30, [.t 3, .t 48], none⟩,
        ⟨none, .store 1 true, [.t 49, .k (.b true)], none⟩] [2, 3, 42, 43, 44] [2, 3, 42])))
    (.reg [] [⟨some 50, .bin .add, [.t 44, .k (.i 1)], none⟩,
      ⟨some 44, .move, [.t 50], none⟩] [2, 3, 42, 43, 44] [2, 3, 42]))))
def c159l2 : AC := b159l2
theorem r159l2 (call lp s) : run call lp c159l2 s = run call lp b159l2 s := rfl
/-- impl.free -/
def c159 : AC :=
 (.seq
  (.reg [] [⟨some 1, .box, [.t 0], none⟩,
    ⟨some 2, .alloc [.b false, .b false, .b false, .b false, .b false, .b false, .b false, .b false, .b false, .b false, .b false, .b false, .b false, .b false, .b false, .b false, .b false, .b false, .b false, .b false, .b false, .b false, .b false, .b false, .b false, .b false, .b false, .b false, .b false, .b false], [], none⟩] [1, 2] [1, 2])
  (.seq
   (.reg [] [⟨some 11, .build [.b false, .b false, .b false, .b false, .b false, .b false, .b false, .b false, .b false, .b false, .b false, .b false, .b false, .b false, .b false, .b false, .b false, .b false, .b false, .b false, .b false, .b false, .b false, .b false, .b false, .b false, .b false, .b false, .b false, .b false] [], [], none⟩,
     ⟨some 3, .alloc [.b false, .b false, .b false, .b false, .b false, .b false, .b false, .b false, .b false, .b false, .b false, .b false, .b false, .b false, .b false, .b false, .b false, .b false, .b false, .b false, .b false, .b false, .b false, .b false, .b false, .b false, .b false, .b false, .b false, .b false], [], none⟩,
     ⟨none, .store 30 true, [.t 3, .t 11], none⟩] [1, 2, 3] [1, 2, 3])
   (.seq
    (.seq
     (.reg [] [⟨some 12, .faddr 3, [.t 1], none⟩,
       ⟨some 13, .load none false, [.t 12], none⟩,
       ⟨some 14, .len, [.t 13], none⟩,
       ⟨some 15, .move, [.k (.i 0)], none⟩] [1, 2, 3, 13, 14, 15] [1, 2, 3])
     (.block 0
      (.loop [1, 2, 3, 13, 14, 15] [1, 2, 3] c159l1)))
    (.seq
     (.seq
      (.reg [] [⟨some 35, .load (some 4) false, [.t 1], none⟩,
        ⟨some 36, .call [] false, [.f 174, .t 35], none⟩,
        ⟨some 8, .move, [.t 36], none⟩] [1, 2, 3, 8] [1, 2, 3])
      (.seq
       (.reg [] [⟨some 37, .move, [.t 8], none⟩,
         ⟨some 38, .bin .ge, [.t 37, .k (.i 0)], none⟩] [1, 2, 3, 8, 38] [1, 2, 3])
       (.cond (.t 38)
        (.reg [] [⟨some 39, .move, [.t 8], none⟩,
          ⟨some 40, .iarr 1 30, [.t 3, .t 39], none⟩,
          ⟨none, .store 1 true, [.t 40, .k (.b false)], none⟩] [1, 2, 3] [1, 2, 3])
        .skip)))
     (.seq
      (.seq
       (.reg [] [⟨some 41, .load (some 4) false, [.t 1], none⟩,
         ⟨some 42, .call [] false, [.f 175, .t 41], none⟩,
         ⟨some 43, .len, [.t 42], none⟩,
         ⟨some 44, .move, [.k (.i 0)], none⟩] [2, 3, 42, 43, 44] [2, 3, 42])
       (.block 4
        (.loop [2, 3, 42, 43, 44] [2, 3, 42] c159l2)))
      (.seq
       (.reg [] [⟨some 51, .load (some 30) false, [.t 3], none⟩,
         ⟨none, .store 30 true, [.t 2, .t 51], none⟩] [2] [2])
       .ret))))))
def a159 : AF := ⟨c159, [.cell 2 (some 30)]⟩
def b132l0 : AC :=
 (.seq
  (.reg [] [⟨some 40, .bin .lt, [.t 39, .k (.i 30)], none⟩] [1, 38, 39, 40] [])
  (.seq
   (.cond (.t 40)
    .skip
    (.exit 0))
   (.seq
    (.block 1
     (.seq
      (.reg [] [⟨some 41, .move, [.t 39], none⟩,
        ⟨some 42, .idx none 1 30, [.t 38, .t 39], none⟩,
        ⟨some 5, .move, [.t 41], none⟩,
        ⟨some 6, .move, [.t 42], none⟩] [1, 5, 6, 38, 39] [])
      (.seq
       (.reg [] [⟨some 43, .move, [.t 6], none⟩,
         ⟨some 44, .move, [.t 43], none⟩,
         ⟨some 45, .move, [.t 5], some (44, true)⟩,
         ⟨some 46, .move, [.t 1], some (44, true)⟩,
         ⟨some 47, .bin .add, [.k (.i 6), .t 46], some (44, true)⟩,
         ⟨some 48, .bin .ge, [.t 45, .t 47], some (44, true)⟩,
         ⟨some 49, .pick, [.t 44, .t 48, .k (.b false)], none⟩] [1, 38, 39, 49] [])
       (.cond (.t 49)
        (.seq
         (.reg [] [⟨some 4, .move, [.k (.b false)], none⟩] [4] [])
         .ret)
        .skip))))
    (.reg [] [⟨some 50, .bin .add, [.t 39, .k (.i 1)], none⟩,
      ⟨some 39, .move, [.t 50], none⟩] [1, 38, 39] []))))
def c132l0 : AC := b132l0
theorem r132l0 (call lp s) : run call lp c132l0 s = run call lp b132l0 s := rfl
/-- impl.memberOk -/
def c132 : AC :=
 (.seq
  (.reg [] [⟨some 2, .box, [.t 0], none⟩,
    ⟨some 4, .move, [.k (.b false)], none⟩] [1, 2] [2])
  (.seq
   (.seq
    (.reg [] [⟨some 7, .load (some 4) false, [.t 2], none⟩,
      ⟨some 8, .call [] false, [.f 158, .t 7], none⟩,
      ⟨some 9, .not, [.t 8], none⟩,
      ⟨some 10, .move, [.t 9], none⟩,
      ⟨some 11, .faddr 0, [.t 2], some (10, false)⟩,
      ⟨some 12, .load none false, [.t 11], some (10, false)⟩,
      ⟨some 13, .bin .eq, [.t 12, .k (.i 0)], some (10, false)⟩,
      ⟨some 14, .pick, [.t 10, .k (.b true), .t 13], none⟩,
      ⟨some 15, .move, [.t 14], none⟩,
      ⟨some 16, .faddr 0, [.t 2], some (15, false)⟩,
      ⟨some 17, .load none false, [.t 16], some (15, false)⟩,
      ⟨some 18, .bin .eq, [.t 17, .k (.i 5)], some (15, false)⟩,
      ⟨some 19, .pick, [.t 15, .k (.b true), .t 18], none⟩,
      ⟨some 20, .move, [.t 19], none⟩,
      ⟨some 21, .faddr 0, [.t 2], some (20, false)⟩,
      ⟨some 22, .load none false, [.t 21], some (20, false)⟩,
      ⟨some 23, .bin .eq, [.t 22, .k (.i 6)], some (20, false)⟩,
      ⟨some 24, .pick, [.t 20, .k (.b true), .t 23], none⟩,
      ⟨some 25, .move, [.t 24], none⟩,
      ⟨some 26, .faddr 0, [.t 2], some (25, false)⟩,
      ⟨some 27, .load none false, [.t 26], some (25, false)⟩,
      ⟨some 28, .bin .eq, [.t 27, .k (.i 7)], some (25, false)⟩,
      ⟨some 29, .move, [.t 28], some (25, false)⟩,
      ⟨some 30, .faddr 1, [.t 2], some (29, true)⟩,
      ⟨some 31, .load none false, [.t 30], some (29, true)⟩,
      ⟨some 32, .faddr 2, [.t 2], some (29, true)⟩,
      ⟨some 33, .load none false, [.t 32], some (29, true)⟩,
      ⟨some 34, .bin .eq, [.t 31, .t 33], some (29, true)⟩,
      ⟨some 35, .pick, [.t 29, .t 34, .k (.b false)], some (25, false)⟩,
      ⟨some 36, .pick, [.t 25, .k (.b true), .t 35], none⟩] [1, 2, 36] [2])
    (.cond (.t 36)
     (.seq
      (.reg [] [⟨some 4, .move, [.k (.b false)], none⟩] [4] [])
      .ret)
     .skip))
   (.seq
    (.seq
     (.reg [] [⟨some 37, .load (some 4) false, [.t 2], none⟩,
       ⟨some 38, .call [] false, [.f 159, .t 37], none⟩,
       ⟨some 39, .move, [.k (.i 0)], none⟩] [1, 38, 39] [])
     (.block 0
      (.loop [1, 38, 39] [] c132l0)))
    (.seq
     (.reg [] [⟨some 4, .move, [.k (.b true)], none⟩] [4] [])
     .ret))))
def a132 : AF := ⟨c132, [.tmp 4]⟩
/-- impl.PoolOk$1 -/
def c131 : AC :=
 (.seq
  (.reg [] [⟨some 2, .box, [.t 0], none⟩,
    ⟨some 3, .move, [.k (.b false)], none⟩] [1, 2] [2])
  (.seq
   (.reg [] [⟨some 4, .load (some 4) false, [.t 2], none⟩,
     ⟨some 5, .faddr 0, [.t 1], none⟩,
     ⟨some 6, .load none false, [.t 5], none⟩,
     ⟨some 7, .len, [.t 6], none⟩,
     ⟨some 8, .call [] false, [.f 132, .t 4, .t 7], none⟩,
     ⟨some 9, .not, [.t 8], none⟩,
     ⟨some 3, .move, [.t 9], none⟩] [3] [])
   .ret))
def a131 : AF := ⟨c131, [.tmp 3]⟩
def b76l0 : AC :=
 (.seq
  (.reg [] [⟨some 13, .bin .lt, [.t 12, .t 11], none⟩] [1, 10, 11, 12, 13] [1])
  (.seq
   (.cond (.t 13)
    .skip
    (.exit 0))
   (.seq
    (.block 1
     (.seq
      (.reg [] [⟨some 14, .iaddr 1, [.t 10, .t 12], none⟩,
        ⟨some 15, .load none false, [.t 14], none⟩,
        ⟨some 4, .move, [.t 15], none⟩] [1, 4, 10, 11, 12] [1])
      (.seq
       (.reg [] [⟨some 16, .move, [.t 4], none⟩,
         ⟨some 17, .bin .lt, [.t 16, .k (.i 0)], none⟩,
         ⟨some 18, .move, [.t 17], none⟩,
         ⟨some 19, .move, [.t 4], some (18, false)⟩,
         ⟨some 20, .bin .ge, [.t 19, .k (.i 3)], some (18, false)⟩,
         ⟨some 21, .pick, [.t 18, .k (.b true), .t 20], none⟩] [1, 10, 11, 12, 21] [1])
       (.cond (.t 21)
        (.seq
         (.reg [] [⟨some 2, .move, [.k (.b false)], none⟩] [2] [])
         .ret)
        .skip))))
    (.reg [] [⟨some 22, .bin .add, [.t 12, .k (.i 1)], none⟩,
      ⟨some 12, .move, [.t 22], none⟩] [1, 10, 11, 12] [1]))))
def c76l0 : AC := b76l0
theorem r76l0 (call lp s) : run call lp c76l0 s = run call lp b76l0 s := rfl
/-- impl.PoolOk -/
def c76 : AC :=
 (.seq
  (.reg [] [⟨some 1, .box, [.t 0], none⟩,
    ⟨some 2, .move, [.k (.b false)], none⟩] [1] [1])
  (.seq
   (.seq
    (.reg [] [⟨some 5, .faddr 0, [.t 1], none⟩,
      ⟨some 6, .load none false, [.t 5], none⟩,
      ⟨some 7, .len, [.t 6], none⟩,
      ⟨some 8, .bin .gt, [.t 7, .k (.i 4)], none⟩] [1, 8] [1])
    (.cond (.t 8)
     (.seq
      (.reg [] [⟨some 2, .move, [.k (.b false)], none⟩] [2] [])
      .ret)
     .skip))
   (.seq
    (.seq
     (.reg [] [⟨some 9, .faddr 0, [.t 1], none⟩,
       ⟨some 10, .load none false, [.t 9], none⟩,
       ⟨some 11, .len, [.t 10], none⟩,
       ⟨some 12, .move, [.k (.i 0)], none⟩] [1, 10, 11, 12] [1])
     (.block 0
      (.loop [1, 10, 11, 12] [1] c76l0)))
    (.seq
     (.reg [] [⟨some 23, .faddr 1, [.t 1], none⟩,
       ⟨some 24, .load none false, [.t 23], none⟩,
       ⟨some 25, .mkfunc 131, [.t 1], none⟩,
       ⟨some 26, .call [] false, [.f 79, .t 24, .t 25], none⟩,
       ⟨some 27, .not, [.t 26], none⟩,
       ⟨some 2, .move, [.t 27], none⟩] [2] [])
     .ret))))
def a76 : AF := ⟨c76, [.tmp 2]⟩
/-- impl.offers -/
def c147 : AC :=
 (.seq
  (.reg [] [⟨some 1, .box, [.t 0], none⟩,
    ⟨some 2, .move, [.k (.nils)], none⟩] [1] [1])
  (.seq
   (.seq
    (.reg [] [⟨some 3, .faddr 0, [.t 1], none⟩,
      ⟨some 4, .load none false, [.t 3], none⟩] [1, 4] [1])
    (.block 0
     (.seq
      (.reg [] [⟨some 6, .bin .eq, [.t 4, .k (.i 4)], none⟩,
        ⟨some 5, .move, [.t 6], none⟩] [1, 4, 5] [1])
      (.cond (.t 5)
       (.seq
        (.reg [0, 1, 2, 3, 8, 4, 5, 6, 7, 13, 14, 15] [⟨some 7, .faddr 3, [.t 1], none⟩,
          ⟨some 8, .load none false, [.t 7], none⟩,
          ⟨some 9, .iaddr 4, [.t 8, .k (.i 0)], none⟩,
          ⟨some 10, .load (some 4) false, [.t 9], none⟩,
          ⟨some 12, .faddr 3, [.t 1], none⟩,
          ⟨some 13, .load none false, [.t 12], none⟩,
          ⟨some 14, .iaddr 4, [.t 13, .k (.i 1)], none⟩,
          ⟨some 15, .load (some 4) false, [.t 14], none⟩,
          ⟨some 11, .call [] false, [.f 147, .t 10], none⟩,
          ⟨none, .chk (.faddr 3), [.t 12, .t 1], none⟩,
          ⟨none, .chk (.load none false), [.t 13, .t 12], none⟩,
          ⟨none, .chk (.iaddr 4), [.t 14, .t 13, .k (.i 1)], none⟩,
          ⟨none, .chk (.load (some 4) false), [.t 15, .t 14], none⟩,
          ⟨some 16, .call [] false, [.f 147, .t 15], none⟩,
          ⟨some 17, .append 4 true, [.t 11, .t 16], none⟩,
          ⟨some 2, .move, [.t 17], none⟩] [2] [11, 17, 23])
        .ret)
       (.seq
        (.seq
         (.reg [] [⟨some 19, .bin .eq, [.t 4, .k (.i 1)], none⟩,
           ⟨some 18, .move, [.t 19], none⟩] [1, 4, 18] [1])
         (.cond (.t 18)
          .skip
          (.seq
           (.reg [] [⟨some 20, .bin .eq, [.t 4, .k (.i 2)], none⟩,
             ⟨some 18, .move, [.t 20], none⟩] [1, 4, 18] [1])
           (.cond (.t 18)
            .skip
            (.reg [] [⟨some 21, .bin .eq, [.t 4, .k (.i 3)], none⟩,
              ⟨some 18, .move, [.t 21], none⟩] [1, 18] [1])))))
        (.cond (.t 18)
         (.seq
          (.reg [] [⟨some 22, .load (some 4) false, [.t 1], none⟩,
            ⟨some 23, .bslice 4 true, [.t 22], none⟩,
            ⟨some 2, .move, [.t 23], none⟩] [2] [11, 17, 23])
          .ret)
         .skip))))))
   (.seq
    (.reg [] [⟨some 2, .move, [.k (.nils)], none⟩] [2] [11, 17, 23])
    .ret)))
def a147 : AF := ⟨c147, [.tmp 2]⟩
def b149l0 : AC :=
 (.seq
  (.seq
   (.reg [] [⟨some 29, .move, [.t 5], none⟩,
     ⟨some 30, .move, [.t 4], none⟩,
     ⟨some 31, .len, [.t 30], none⟩,
     ⟨some 32, .bin .lt, [.t 29, .t 31], none⟩] [0, 3, 4, 5, 32] [28])
   (.cond (.t 32)
    .skip
    (.exit 2)))
  (.seq
   (.block 3
    (.seq
     (.reg [0, 1, 2, 3, 4, 5, 6, 7, 8, 9] [⟨some 35, .move, [.t 4], none⟩,
       ⟨some 36, .move, [.t 5], none⟩,
       ⟨some 37, .iaddr 1, [.t 35, .t 36], none⟩,
       ⟨some 38, .load none false, [.t 37], none⟩,
       ⟨some 39, .move, [.t 4], none⟩,
       ⟨some 40, .move, [.t 5], none⟩,
       ⟨some 41, .bin .sub, [.t 40, .k (.i 1)], none⟩,
       ⟨some 42, .iaddr 1, [.t 39, .t 41], none⟩,
       ⟨some 43, .load none false, [.t 42], none⟩,
       ⟨some 44, .bin .ne, [.t 38, .t 43], none⟩] [0, 3, 4, 5, 44] [28])
     (.cond (.t 44)
      (.seq
       (.reg [] [⟨some 45, .move, [.t 0], none⟩,
         ⟨some 46, .move, [.t 3], none⟩,
         ⟨some 47, .move, [.t 4], none⟩,
         ⟨some 48, .move, [.t 5], none⟩,
         ⟨some 49, .iaddr 1, [.t 47, .t 48], none⟩,
         ⟨some 50, .load none false, [.t 49], none⟩,
         ⟨some 51, .iaddr 1, [.t 45, .t 46], none⟩,
         ⟨none, .store 1 true, [.t 51, .t 50], none⟩] [0, 3, 4, 5] [28])
       (.reg [] [⟨some 52, .move, [.t 3], none⟩,
         ⟨some 53, .bin .add, [.t 52, .k (.i 1)], none⟩,
         ⟨some 3, .move, [.t 53], none⟩] [0, 3, 4, 5] [28]))
      .skip)))
   (.reg [] [⟨some 33, .move, [.t 5], none⟩,
     ⟨some 34, .bin .add, [.t 33, .k (.i 1)], none⟩,
     ⟨some 5, .move, [.t 34], none⟩] [0, 3, 4, 5] [28])))
def c149l0 : AC := b149l0
theorem r149l0 (call lp s) : run call lp c149l0 s = run call lp b149l0 s := rfl
def b149l1 : AC :=
 (.seq
  (.seq
   (.reg [] [⟨some 10, .move, [.t 3], none⟩,
     ⟨some 11, .move, [.t 0], none⟩,
     ⟨some 12, .len, [.t 11], none⟩,
     ⟨some 13, .bin .lt, [.t 10, .t 12], none⟩] [0, 3, 13] [])
   (.cond (.t 13)
    .skip
    (.exit 0)))
  (.seq
   (.block 1
    (.seq
     (.reg [0, 1, 2, 3, 4, 5, 6, 7, 8, 9] [⟨some 16, .move, [.t 0], none⟩,
       ⟨some 17, .move, [.t 3], none⟩,
       ⟨some 18, .iaddr 1, [.t 16, .t 17], none⟩,
       ⟨some 19, .load none false, [.t 18], none⟩,
       ⟨some 20, .move, [.t 0], none⟩,
       ⟨some 21, .move, [.t 3], none⟩,
       ⟨some 22, .bin .sub, [.t 21, .k (.i 1)], none⟩,
       ⟨some 23, .iaddr 1, [.t 20, .t 22], none⟩,
       ⟨some 24, .load none false, [.t 23], none⟩,
       ⟨some 25, .bin .eq, [.t 19, .t 24], none⟩] [0, 3, 25] [])
     (.cond (.t 25)
      (.seq
       (.reg [] [⟨some 26, .move, [.t 0], none⟩,
         ⟨some 27, .move, [.t 3], none⟩,
         ⟨some 28, .slice 1 true false, [.t 26, .t 27], none⟩,
         ⟨some 4, .move, [.t 28], none⟩] [0, 3, 4] [28])
       (.seq
        (.seq
         (.reg [] [⟨some 5, .move, [.k (.i 1)], none⟩] [0, 3, 4, 5] [28])
         (.block 2
          (.loop [0, 3, 4, 5] [28] c149l0)))
        (.seq
         (.reg [] [⟨some 54, .move, [.t 0], none⟩,
           ⟨some 55, .move, [.t 3], none⟩,
           ⟨some 56, .slice 1 true false, [.t 54, .t 55], none⟩,
           ⟨none, .clear 1 (.i 0), [.t 56], none⟩] [0, 3] [])
         (.seq
          (.reg [] [⟨some 57, .move, [.t 0], none⟩,
            ⟨some 58, .move, [.t 3], none⟩,
            ⟨some 59, .slice 1 false true, [.t 57, .t 58], none⟩,
            ⟨some 2, .move, [.t 59], none⟩] [2] [59])
          .ret))))
      .skip)))
   (.reg [] [⟨some 14, .move, [.t 3], none⟩,
     ⟨some 15, .bin .add, [.t 14, .k (.i 1)], none⟩,
     ⟨some 3, .move, [.t 15], none⟩] [0, 3] [])))
def c149l1 : AC := b149l1
theorem r149l1 (call lp s) : run call lp c149l1 s = run call lp b149l1 s := rfl
/-- slices.Compact[[]int,int] -/
def c149 : AC :=
 (.seq
  (.reg [] [⟨some 2, .move, [.k (.nils)], none⟩] [0] [])
  (.seq
   (.seq
    (.reg [] [⟨some 6, .move, [.t 0], none⟩,
      ⟨some 7, .len, [.t 6], none⟩,
      ⟨some 8, .bin .lt, [.t 7, .k (.i 2)], none⟩] [0, 8] [])
    (.cond (.t 8)
     (.seq
      (.reg [] [⟨some 9, .move, [.t 0], none⟩,
        ⟨some 2, .move, [.t 9], none⟩] [2] [59])
      .ret)
     .skip))
   (.seq
    (.seq
     (.reg [] [⟨some 3, .move, [.k (.i 1)], none⟩] [0, 3] [])
     (.block 0
      (.loop [0, 3] [] c149l1)))
    (.seq
     (.reg [] [⟨some 60, .move, [.t 0], none⟩,
       ⟨some 2, .move, [.t 60], none⟩] [2] [59])
     .ret))))
def a149 : AF := ⟨c149, [.tmp 2]⟩
def b115l0 : AC :=
 (.seq
  (.reg [] [⟨some 22, .bin .lt, [.t 21, .t 20], none⟩] [1, 5, 12, 13, 14, 19, 20, 21, 22] [10, 19, 38])
  (.seq
   (.cond (.t 22)
    .skip
    (.exit 2))
   (.seq
    (.block 3
     (.seq
      (.reg [] [⟨some 23, .iaddr 4, [.t 19, .t 21], none⟩,
        ⟨some 24, .load (some 4) false, [.t 23], none⟩,
        ⟨some 9, .alloc [.i 0, .i 0, .i 0, .nils], [], none⟩,
        ⟨none, .store 4 true, [.t 9, .t 24], none⟩] [1, 5, 9, 12, 13, 14, 19, 20, 21] [9, 10, 19, 38])
      (.seq
       (.reg [] [⟨some 25, .faddr 0, [.t 9], none⟩,
         ⟨some 26, .load none false, [.t 25], none⟩,
         ⟨some 27, .move, [.t 1], none⟩,
         ⟨some 28, .bin .eq, [.t 26, .t 27], none⟩,
         ⟨some 29, .move, [.t 28], none⟩,
         ⟨some 30, .faddr 1, [.t 9], some (29, true)⟩,
         ⟨some 31, .load none false, [.t 30], some (29, true)⟩,
         ⟨some 32, .bin .lt, [.t 31, .k (.i 6)], some (29, true)⟩,
         ⟨some 33, .pick, [.t 29, .t 32, .k (.b false)], none⟩] [1, 5, 9, 12, 13, 14, 19, 20, 21, 33] [9, 10, 19, 38])
       (.cond (.t 33)
        (.reg [] [⟨some 34, .move, [.t 5], none⟩,
          ⟨some 35, .faddr 1, [.t 9], none⟩,
          ⟨some 36, .load none false, [.t 35], none⟩,
          ⟨some 37, .bslice 1 true, [.t 36], none⟩,
          ⟨some 38, .append 1 true, [.t 34, .t 37], none⟩,
          ⟨some 5, .move, [.t 38], none⟩] [1, 5, 12, 13, 14, 19, 20, 21] [10, 19, 38])
        .skip))))
    (.reg [] [⟨some 39, .bin .add, [.t 21, .k (.i 1)], none⟩,
      ⟨some 21, .move, [.t 39], none⟩] [1, 5, 12, 13, 14, 19, 20, 21] [10, 19, 38]))))
def c115l0 : AC := b115l0
theorem r115l0 (call lp s) : run call lp c115l0 s = run call lp b115l0 s := rfl
def b115l1 : AC :=
 (.seq
  (.reg [] [⟨some 15, .bin .lt, [.t 14, .t 13], none⟩] [1, 5, 12, 13, 14, 15] [10, 38])
  (.seq
   (.cond (.t 15)
    .skip
    (.exit 0))
   (.seq
    (.block 1
     (.seq
      (.reg [] [⟨some 16, .iaddr 4, [.t 12, .t 14], none⟩,
        ⟨some 17, .load (some 4) false, [.t 16], none⟩,
        ⟨some 7, .alloc [.i 0, .i 0, .i 0, .nils], [], none⟩,
        ⟨none, .store 4 true, [.t 7, .t 17], none⟩] [1, 5, 7, 12, 13, 14] [7, 10, 38])
      (.seq
       (.reg [] [⟨some 18, .load (some 4) false, [.t 7], none⟩,
         ⟨some 19, .call [] false, [.f 147, .t 18], none⟩,
         ⟨some 20, .len, [.t 19], none⟩,
         ⟨some 21, .move, [.k (.i 0)], none⟩] [1, 5, 12, 13, 14, 19, 20, 21] [10, 19, 38])
       (.block 2
        (.loop [1, 5, 12, 13, 14, 19, 20, 21] [10, 19, 38] c115l0)))))
    (.reg [] [⟨some 40, .bin .add, [.t 14, .k (.i 1)], none⟩,
      ⟨some 14, .move, [.t 40], none⟩] [1, 5, 12, 13, 14] [10, 38]))))
def c115l1 : AC := b115l1
theorem r115l1 (call lp s) : run call lp c115l1 s = run call lp b115l1 s := rfl
/-- impl.barbs -/
def c115 : AC :=
 (.seq
  (.reg [] [⟨some 2, .box, [.t 0], none⟩,
    ⟨some 4, .move, [.k (.nils)], none⟩] [1, 2] [2])
  (.seq
   (.reg [] [⟨some 10, .bslice 1 true, [], none⟩,
     ⟨some 5, .move, [.t 10], none⟩] [1, 2, 5] [2, 10, 38])
   (.seq
    (.seq
     (.reg [] [⟨some 11, .faddr 1, [.t 2], none⟩,
       ⟨some 12, .load none false, [.t 11], none⟩,
       ⟨some 13, .len, [.t 12], none⟩,
       ⟨some 14, .move, [.k (.i 0)], none⟩] [1, 5, 12, 13, 14] [10, 38])
     (.block 0
      (.loop [1, 5, 12, 13, 14] [10, 38] c115l1)))
    (.seq
     (.reg [] [⟨some 41, .move, [.t 5], none⟩,
       ⟨some 42, .call [0] false, [.f 148, .t 41], none⟩] [5] [10, 38])
     (.seq
      (.reg [] [⟨some 43, .move, [.t 5], none⟩,
        ⟨some 44, .call [0] false, [.f 149, .t 43], none⟩,
        ⟨some 4, .move, [.t 44], none⟩] [4] [10, 38, 44])
      .ret)))))
def a115 : AF := ⟨c115, [.tmp 4]⟩
/-- impl.PoolBarbs -/
def c56 : AC :=
 (.seq
  (.reg [] [⟨some 1, .box, [.t 0], none⟩,
    ⟨some 2, .move, [.k (.nils)], none⟩,
    ⟨some 3, .move, [.k (.nils)], none⟩] [1] [1])
  (.seq
   (.seq
    (.reg [] [⟨some 4, .load (some 2) false, [.t 1], none⟩,
      ⟨some 5, .call [] false, [.f 76, .t 4], none⟩,
      ⟨some 6, .not, [.t 5], none⟩] [1, 6] [1])
    (.cond (.t 6)
     (.seq
      (.reg [] [⟨some 2, .move, [.k (.nils)], none⟩,
        ⟨some 3, .move, [.k (.nils)], none⟩] [2, 3] [8, 10])
      .ret)
     .skip))
   (.seq
    (.reg [0, 2, 1, 4, 5, 6] [⟨some 7, .load (some 2) false, [.t 1], none⟩,
      ⟨some 9, .load (some 2) false, [.t 1], none⟩,
      ⟨some 8, .call [] false, [.f 115, .t 7, .k (.i 1)], none⟩,
      ⟨none, .chk (.load (some 2) false), [.t 9, .t 1], none⟩,
      ⟨some 10, .call [] false, [.f 115, .t 9, .k (.i 2)], none⟩,
      ⟨some 2, .move, [.t 8], none⟩,
      ⟨some 3, .move, [.t 10], none⟩] [2, 3] [8, 10])
    .ret)))
def a56 : AF := ⟨c56, [.tmp 2, .tmp 3]⟩
def b32l0 : AC :=
 (.seq
  (.seq
   (.reg [] [⟨some 11, .move, [.t 5], none⟩,
     ⟨some 12, .move, [.t 0], none⟩,
     ⟨some 13, .len, [.t 12], none⟩,
     ⟨some 14, .bin .lt, [.t 11, .t 13], none⟩] [0, 1, 5, 14] [])
   (.cond (.t 14)
    .skip
    (.exit 0)))
  (.seq
   (.block 1
    (.seq
     (.reg [0, 1, 2, 3, 4, 5, 6, 7, 8] [⟨some 17, .move, [.t 0], none⟩,
       ⟨some 18, .move, [.t 5], none⟩,
       ⟨some 19, .iaddr 1, [.t 17, .t 18], none⟩,
       ⟨some 20, .load none false, [.t 19], none⟩,
       ⟨some 21, .move, [.t 1], none⟩,
       ⟨some 22, .move, [.t 5], none⟩,
       ⟨some 23, .iaddr 1, [.t 21, .t 22], none⟩,
       ⟨some 24, .load none false, [.t 23], none⟩,
       ⟨some 25, .bin .ne, [.t 20, .t 24], none⟩] [0, 1, 5, 25] [])
     (.cond (.t 25)
      (.seq
       (.reg [] [⟨some 4, .move, [.k (.b false)], none⟩] [4] [])
       .ret)
      .skip)))
   (.reg [] [⟨some 15, .move, [.t 5], none⟩,
     ⟨some 16, .bin .add, [.t 15, .k (.i 1)], none⟩,
     ⟨some 5, .move, [.t 16], none⟩] [0, 1, 5] [])))
def c32l0 : AC := b32l0
theorem r32l0 (call lp s) : run call lp c32l0 s = run call lp b32l0 s := rfl
/-- laws.eqIntS -/
def c32 : AC :=
 (.seq
  (.reg [] [⟨some 4, .move, [.k (.b false)], none⟩] [0, 1] [])
  (.seq
   (.seq
    (.reg [] [⟨some 6, .move, [.t 0], none⟩,
      ⟨some 7, .len, [.t 6], none⟩,
      ⟨some 8, .move, [.t 1], none⟩,
      ⟨some 9, .len, [.t 8], none⟩,
      ⟨some 10, .bin .ne, [.t 7, .t 9], none⟩] [0, 1, 10] [])
    (.cond (.t 10)
     (.seq
      (.reg [] [⟨some 4, .move, [.k (.b false)], none⟩] [4] [])
      .ret)
     .skip))
   (.seq
    (.seq
     (.reg [] [⟨some 5, .move, [.k (.i 0)], none⟩] [0, 1, 5] [])
     (.block 0
      (.loop [0, 1, 5] [] c32l0)))
    (.seq
     (.reg [] [⟨some 4, .move, [.k (.b true)], none⟩] [4] [])
     .ret))))
def a32 : AF := ⟨c32, [.tmp 4]⟩
/-- laws.eqPi -/
def c137 : AC :=
 (.seq
  (.reg [] [⟨some 2, .box, [.t 0], none⟩,
    ⟨some 3, .box, [.t 1], none⟩,
    ⟨some 4, .move, [.k (.b false)], none⟩] [2, 3] [2, 3])
  (.seq
   (.seq
    (.reg [] [⟨some 5, .faddr 0, [.t 2], none⟩,
      ⟨some 6, .load none false, [.t 5], none⟩,
      ⟨some 7, .faddr 0, [.t 3], none⟩,
      ⟨some 8, .load none false, [.t 7], none⟩,
      ⟨some 9, .bin .ne, [.t 6, .t 8], none⟩] [2, 3, 9] [2, 3])
    (.cond (.t 9)
     (.seq
      (.reg [] [⟨some 4, .move, [.k (.b false)], none⟩] [4] [])
      .ret)
     .skip))
   (.seq
    (.seq
     (.reg [] [⟨some 10, .faddr 1, [.t 2], none⟩,
       ⟨some 11, .load none false, [.t 10], none⟩,
       ⟨some 12, .faddr 1, [.t 3], none⟩,
       ⟨some 13, .load none false, [.t 12], none⟩,
       ⟨some 14, .bin .ne, [.t 11, .t 13], none⟩] [2, 3, 14] [2, 3])
     (.cond (.t 14)
      (.seq
       (.reg [] [⟨some 4, .move, [.k (.b false)], none⟩] [4] [])
       .ret)
      .skip))
    (.seq
     (.seq
      (.reg [] [⟨some 15, .faddr 2, [.t 2], none⟩,
        ⟨some 16, .load none false, [.t 15], none⟩,
        ⟨some 17, .faddr 2, [.t 3], none⟩,
        ⟨some 18, .load none false, [.t 17], none⟩,
        ⟨some 19, .bin .ne, [.t 16, .t 18], none⟩] [2, 3, 19] [2, 3])
      (.cond (.t 19)
       (.seq
        (.reg [] [⟨some 4, .move, [.k (.b false)], none⟩] [4] [])
        .ret)
       .skip))
     (.seq
      (.seq
       (.reg [] [⟨some 20, .faddr 3, [.t 2], none⟩,
         ⟨some 21, .load none false, [.t 20], none⟩,
         ⟨some 22, .faddr 3, [.t 3], none⟩,
         ⟨some 23, .load none false, [.t 22], none⟩,
         ⟨some 24, .call [] false, [.f 82, .t 21, .t 23], none⟩,
         ⟨some 25, .not, [.t 24], none⟩] [25] [])
       (.cond (.t 25)
        (.seq
         (.reg [] [⟨some 4, .move, [.k (.b false)], none⟩] [4] [])
         .ret)
        .skip))
      (.seq
       (.reg [] [⟨some 4, .move, [.k (.b true)], none⟩] [4] [])
       .ret))))))
def a137 : AF := ⟨c137, [.tmp 4]⟩
def b82l0 : AC :=
 (.seq
  (.seq
   (.reg [] [⟨some 11, .move, [.t 5], none⟩,
     ⟨some 12, .move, [.t 0], none⟩,
     ⟨some 13, .len, [.t 12], none⟩,
     ⟨some 14, .bin .lt, [.t 11, .t 13], none⟩] [0, 1, 5, 14] [])
   (.cond (.t 14)
    .skip
    (.exit 0)))
  (.seq
   (.block 1
    (.seq
     (.reg [0, 1, 2, 3, 4, 5, 6, 7, 8, 9] [⟨some 17, .move, [.t 0], none⟩,
       ⟨some 18, .move, [.t 5], none⟩,
       ⟨some 19, .iaddr 4, [.t 17, .t 18], none⟩,
       ⟨some 20, .load (some 4) false, [.t 19], none⟩,
       ⟨some 21, .move, [.t 1], none⟩,
       ⟨some 22, .move, [.t 5], none⟩,
       ⟨some 23, .iaddr 4, [.t 21, .t 22], none⟩,
       ⟨some 24, .load (some 4) false, [.t 23], none⟩,
       ⟨some 25, .call [] false, [.f 137, .t 20, .t 24], none⟩,
       ⟨some 26, .not, [.t 25], none⟩] [0, 1, 5, 26] [])
     (.cond (.t 26)
      (.seq
       (.reg [] [⟨some 4, .move, [.k (.b false)], none⟩] [4] [])
       .ret)
      .skip)))
   (.reg [] [⟨some 15, .move, [.t 5], none⟩,
     ⟨some 16, .bin .add, [.t 15, .k (.i 1)], none⟩,
     ⟨some 5, .move, [.t 16], none⟩] [0, 1, 5] [])))
def c82l0 : AC := b82l0
theorem r82l0 (call lp s) : run call lp c82l0 s = run call lp b82l0 s := rfl
/-- laws.eqPiS -/
def c82 : AC :=
 (.seq
  (.reg [] [⟨some 4, .move, [.k (.b false)], none⟩] [0, 1] [])
  (.seq
   (.seq
    (.reg [] [⟨some 6, .move, [.t 0], none⟩,
      ⟨some 7, .len, [.t 6], none⟩,
      ⟨some 8, .move, [.t 1], none⟩,
      ⟨some 9, .len, [.t 8], none⟩,
      ⟨some 10, .bin .ne, [.t 7, .t 9], none⟩] [0, 1, 10] [])
    (.cond (.t 10)
     (.seq
      (.reg [] [⟨some 4, .move, [.k (.b false)], none⟩] [4] [])
      .ret)
     .skip))
   (.seq
    (.seq
     (.reg [] [⟨some 5, .move, [.k (.i 0)], none⟩] [0, 1, 5] [])
     (.block 0
      (.loop [0, 1, 5] [] c82l0)))
    (.seq
     (.reg [] [⟨some 4, .move, [.k (.b true)], none⟩] [4] [])
     .ret))))
def a82 : AF := ⟨c82, [.tmp 4]⟩
/-- laws.eqPool -/
def c31 : AC :=
 (.seq
  (.reg [] [⟨some 2, .box, [.t 0], none⟩,
    ⟨some 3, .box, [.t 1], none⟩,
    ⟨some 4, .move, [.k (.b false)], none⟩] [2, 3] [2, 3])
  (.seq
   (.seq
    (.reg [] [⟨some 5, .faddr 0, [.t 2], none⟩,
      ⟨some 6, .load none false, [.t 5], none⟩,
      ⟨some 7, .faddr 0, [.t 3], none⟩,
      ⟨some 8, .load none false, [.t 7], none⟩,
      ⟨some 9, .call [] false, [.f 32, .t 6, .t 8], none⟩,
      ⟨some 10, .not, [.t 9], none⟩] [2, 3, 10] [2, 3])
    (.cond (.t 10)
     (.seq
      (.reg [] [⟨some 4, .move, [.k (.b false)], none⟩] [4] [])
      .ret)
     .skip))
   (.seq
    (.seq
     (.reg [] [⟨some 11, .faddr 1, [.t 2], none⟩,
       ⟨some 12, .load none false, [.t 11], none⟩,
       ⟨some 13, .faddr 1, [.t 3], none⟩,
       ⟨some 14, .load none false, [.t 13], none⟩,
       ⟨some 15, .call [] false, [.f 82, .t 12, .t 14], none⟩,
       ⟨some 16, .not, [.t 15], none⟩] [16] [])
     (.cond (.t 16)
      (.seq
       (.reg [] [⟨some 4, .move, [.k (.b false)], none⟩] [4] [])
       .ret)
      .skip))
    (.seq
     (.reg [] [⟨some 4, .move, [.k (.b true)], none⟩] [4] [])
     .ret))))
def a31 : AF := ⟨c31, [.tmp 4]⟩
def b51l0 : AC :=
 (.seq
  (.seq
   (.reg [] [⟨some 6, .move, [.t 5], none⟩,
     ⟨some 7, .move, [.t 0], none⟩,
     ⟨some 8, .len, [.t 7], none⟩,
     ⟨some 9, .bin .lt, [.t 6, .t 8], none⟩] [0, 1, 5, 9] [])
   (.cond (.t 9)
    .skip
    (.exit 0)))
  (.seq
   (.block 1
    (.seq
     (.reg [] [⟨some 12, .move, [.t 0], none⟩,
       ⟨some 13, .move, [.t 5], none⟩,
       ⟨some 14, .move, [.t 1], none⟩,
       ⟨some 15, .iaddr 1, [.t 12, .t 13], none⟩,
       ⟨none, .store 1 true, [.t 15, .t 14], none⟩] [0, 1, 5] [])
     (.reg [] [⟨some 16, .move, [.t 1], none⟩,
       ⟨some 17, .bin .add, [.t 16, .k (.i 1)], none⟩,
       ⟨some 1, .move, [.t 17], none⟩] [0, 1, 5] [])))
   (.reg [] [⟨some 10, .move, [.t 5], none⟩,
     ⟨some 11, .bin .add, [.t 10, .k (.i 1)], none⟩,
     ⟨some 5, .move, [.t 11], none⟩] [0, 1, 5] [])))
def c51l0 : AC := b51l0
theorem r51l0 (call lp s) : run call lp c51l0 s = run call lp b51l0 s := rfl
/-- laws.markIntS -/
def c51 : AC :=
 (.seq
  (.reg [] [⟨some 4, .move, [.k (.i 0)], none⟩] [0, 1] [])
  (.seq
   (.seq
    (.reg [] [⟨some 5, .move, [.k (.i 0)], none⟩] [0, 1, 5] [])
    (.block 0
     (.loop [0, 1, 5] [] c51l0)))
   (.seq
    (.reg [] [⟨some 18, .move, [.t 1], none⟩,
      ⟨some 4, .move, [.t 18], none⟩] [4] [])
    .ret)))
def a51 : AF := ⟨c51, [.tmp 4]⟩
def b116l0 : AC :=
 (.seq
  (.seq
   (.reg [] [⟨some 6, .move, [.t 5], none⟩,
     ⟨some 7, .move, [.t 0], none⟩,
     ⟨some 8, .len, [.t 7], none⟩,
     ⟨some 9, .bin .lt, [.t 6, .t 8], none⟩] [0, 1, 5, 9] [])
   (.cond (.t 9)
    .skip
    (.exit 0)))
  (.seq
   (.block 1
    (.seq
     (.reg [] [⟨some 12, .move, [.t 0], none⟩,
       ⟨some 13, .move, [.t 5], none⟩,
       ⟨some 14, .move, [.t 1], none⟩,
       ⟨some 15, .iaddr 4, [.t 12, .t 13], none⟩,
       ⟨some 16, .faddr 0, [.t 15], none⟩,
       ⟨none, .store 1 true, [.t 16, .t 14], none⟩] [0, 1, 5] [])
     (.seq
      (.reg [] [⟨some 17, .move, [.t 1], none⟩,
        ⟨some 18, .bin .add, [.t 17, .k (.i 1)], none⟩,
        ⟨some 1, .move, [.t 18], none⟩] [0, 1, 5] [])
      (.seq
       (.reg [] [⟨some 19, .move, [.t 0], none⟩,
         ⟨some 20, .move, [.t 5], none⟩,
         ⟨some 21, .move, [.t 1], none⟩,
         ⟨some 22, .iaddr 4, [.t 19, .t 20], none⟩,
         ⟨some 23, .faddr 1, [.t 22], none⟩,
         ⟨none, .store 1 true, [.t 23, .t 21], none⟩] [0, 1, 5] [])
       (.seq
        (.reg [] [⟨some 24, .move, [.t 1], none⟩,
          ⟨some 25, .bin .add, [.t 24, .k (.i 1)], none⟩,
          ⟨some 1, .move, [.t 25], none⟩] [0, 1, 5] [])
        (.seq
         (.reg [] [⟨some 26, .move, [.t 0], none⟩,
           ⟨some 27, .move, [.t 5], none⟩,
           ⟨some 28, .move, [.t 1], none⟩,
           ⟨some 29, .iaddr 4, [.t 26, .t 27], none⟩,
           ⟨some 30, .faddr 2, [.t 29], none⟩,
           ⟨none, .store 1 true, [.t 30, .t 28], none⟩] [0, 1, 5] [])
         (.seq
          (.reg [] [⟨some 31, .move, [.t 1], none⟩,
            ⟨some 32, .bin .add, [.t 31, .k (.i 1)], none⟩,
            ⟨some 1, .move, [.t 32], none⟩] [0, 1, 5] [])
          (.nest [⟨some 33, .move, [.t 0], none⟩,
            ⟨some 34, .move, [.t 5], none⟩,
            ⟨some 35, .iaddr 4, [.t 33, .t 34], none⟩,
            ⟨some 36, .faddr 3, [.t 35], none⟩]
           ⟨some 37, .take, [.t 36], none⟩ [⟨some 38, .move, [.t 1], none⟩]
           ⟨some 39, .call [0] false, [.f 116, .t 37, .t 38], none⟩ [⟨some 1, .move, [.t 39], none⟩] [0, 1, 5] []))))))))
   (.reg [] [⟨some 10, .move, [.t 5], none⟩,
     ⟨some 11, .bin .add, [.t 10, .k (.i 1)], none⟩,
     ⟨some 5, .move, [.t 11], none⟩] [0, 1, 5] [])))
def c116l0 : AC := b116l0
theorem r116l0 (call lp s) : run call lp c116l0 s = run call lp b116l0 s := rfl
/-- laws.markPiS -/
def c116 : AC :=
 (.seq
  (.reg [] [⟨some 4, .move, [.k (.i 0)], none⟩] [0, 1] [])
  (.seq
   (.seq
    (.reg [] [⟨some 5, .move, [.k (.i 0)], none⟩] [0, 1, 5] [])
    (.block 0
     (.loop [0, 1, 5] [] c116l0)))
   (.seq
    (.reg [] [⟨some 40, .move, [.t 1], none⟩,
      ⟨some 4, .move, [.t 40], none⟩] [4] [])
    .ret)))
def a116 : AF := ⟨c116, [.tmp 4]⟩
/-- laws.markPool -/
def c57 : AC :=
 (.seq
  (.reg [] [⟨some 2, .box, [.t 0], none⟩,
    ⟨some 4, .move, [.k (.i 0)], none⟩] [1, 2] [2])
  (.seq
   (.reg [] [⟨some 5, .faddr 0, [.t 2], none⟩,
     ⟨some 6, .load none false, [.t 5], none⟩,
     ⟨some 7, .move, [.t 1], none⟩,
     ⟨some 8, .call [0] false, [.f 51, .t 6, .t 7], none⟩,
     ⟨some 1, .move, [.t 8], none⟩] [1, 2] [2])
   (.seq
    (.reg [] [⟨some 9, .faddr 1, [.t 2], none⟩,
      ⟨some 10, .load none false, [.t 9], none⟩,
      ⟨some 11, .move, [.t 1], none⟩,
      ⟨some 12, .call [0] false, [.f 116, .t 10, .t 11], none⟩,
      ⟨some 1, .move, [.t 12], none⟩] [1] [])
    (.seq
     (.reg [] [⟨some 13, .move, [.t 1], none⟩,
       ⟨some 4, .move, [.t 13], none⟩] [4] [])
     .ret))))
def a57 : AF := ⟨c57, [.tmp 4]⟩
def b52l0 : AC :=
 (.seq
  (.seq
   (.reg [] [⟨some 6, .move, [.t 5], none⟩,
     ⟨some 7, .move, [.t 0], none⟩,
     ⟨some 8, .len, [.t 7], none⟩,
     ⟨some 9, .bin .lt, [.t 6, .t 8], none⟩] [0, 1, 5, 9] [])
   (.cond (.t 9)
    .skip
    (.exit 0)))
  (.seq
   (.block 1
    (.seq
     (.seq
      (.reg [] [⟨some 12, .move, [.t 0], none⟩,
        ⟨some 13, .move, [.t 5], none⟩,
        ⟨some 14, .iaddr 1, [.t 12, .t 13], none⟩,
        ⟨some 15, .load none false, [.t 14], none⟩,
        ⟨some 16, .move, [.t 1], none⟩,
        ⟨some 17, .bin .ne, [.t 15, .t 16], none⟩] [0, 1, 5, 17] [])
      (.cond (.t 17)
       (.seq
        (.reg [] [⟨some 4, .move, [.k (.i (-1))], none⟩] [4] [])
        .ret)
       .skip))
     (.reg [] [⟨some 18, .move, [.t 1], none⟩,
       ⟨some 19, .bin .add, [.t 18, .k (.i 1)], none⟩,
       ⟨some 1, .move, [.t 19], none⟩] [0, 1, 5] [])))
   (.reg [] [⟨some 10, .move, [.t 5], none⟩,
     ⟨some 11, .bin .add, [.t 10, .k (.i 1)], none⟩,
     ⟨some 5, .move, [.t 11], none⟩] [0, 1, 5] [])))
def c52l0 : AC := b52l0
theorem r52l0 (call lp s) : run call lp c52l0 s = run call lp b52l0 s := rfl
/-- laws.heldIntS -/
def c52 : AC :=
 (.seq
  (.reg [] [⟨some 4, .move, [.k (.i 0)], none⟩] [0, 1] [])
  (.seq
   (.seq
    (.reg [] [⟨some 5, .move, [.k (.i 0)], none⟩] [0, 1, 5] [])
    (.block 0
     (.loop [0, 1, 5] [] c52l0)))
   (.seq
    (.reg [] [⟨some 20, .move, [.t 1], none⟩,
      ⟨some 4, .move, [.t 20], none⟩] [4] [])
    .ret)))
def a52 : AF := ⟨c52, [.tmp 4]⟩
/-- laws.FnExactPoolBarbs -/
def c13 : AC :=
 (.seq
  (.reg [] [⟨some 1, .box, [.t 0], none⟩,
    ⟨some 2, .move, [.k (.b false)], none⟩] [1] [1])
  (.seq
   (.reg [] [⟨some 3, .move, [.k (.i 1048576)], none⟩] [1, 3] [1])
   (.seq
    (.reg [] [⟨some 14, .load (some 2) false, [.t 1], none⟩,
      ⟨some 15, .move, [.t 3], none⟩,
      ⟨some 16, .call [] false, [.f 26, .t 14, .t 15], none⟩,
      ⟨some 3, .move, [.t 16], none⟩] [1, 3] [1])
    (.seq
     (.seq
      (.reg [] [⟨some 17, .move, [.t 3], none⟩,
        ⟨some 18, .bin .lt, [.t 17, .k (.i 0)], none⟩] [1, 18] [1])
      (.cond (.t 18)
       (.seq
        (.reg [] [⟨some 2, .move, [.k (.b true)], none⟩] [2] [])
        .ret)
       .skip))
     (.seq
      (.reg [] [⟨some 20, .load (some 2) false, [.t 1], none⟩,
        ⟨some 21, .call [] false, [.f 28, .t 20], none⟩,
        ⟨some 22, .call [] false, [.f 55, .t 21], none⟩,
        ⟨some 19, .move, [.t 22], none⟩,
        ⟨some 23, .ext 0, [.t 19], none⟩,
        ⟨some 24, .ext 1, [.t 19], none⟩,
        ⟨some 4, .move, [.t 23], none⟩,
        ⟨some 5, .move, [.t 24], none⟩] [1, 4, 5] [1, 21, 22, 1021, 1022])
      (.seq
       (.reg [] [⟨some 25, .load (some 2) false, [.t 1], none⟩,
         ⟨some 26, .call [] false, [.f 28, .t 25], none⟩,
         ⟨some 6, .alloc [.nils, .nils], [], none⟩,
         ⟨none, .store 2 true, [.t 6, .t 26], none⟩] [1, 4, 5, 6] [1, 6, 21, 22, 26, 1021, 1022, 1026])
       (.seq
        (.reg [] [⟨some 28, .load (some 2) false, [.t 6], none⟩,
          ⟨some 29, .call [] false, [.f 56, .t 28], none⟩,
          ⟨some 27, .move, [.t 29], none⟩,
          ⟨some 30, .ext 0, [.t 27], none⟩,
          ⟨some 31, .ext 1, [.t 27], none⟩,
          ⟨some 7, .move, [.t 30], none⟩,
          ⟨some 8, .move, [.t 31], none⟩] [1, 4, 5, 6, 7, 8] [1, 6, 21, 22, 26, 29, 1021, 1022, 1026, 1029])
        (.seq
         (.seq
          (.reg [] [⟨some 32, .move, [.t 7], none⟩,
            ⟨some 33, .move, [.t 4], none⟩,
            ⟨some 34, .call [] false, [.f 32, .t 32, .t 33], none⟩,
            ⟨some 35, .not, [.t 34], none⟩,
            ⟨some 36, .move, [.t 35], none⟩,
            ⟨some 37, .move, [.t 8], some (36, false)⟩,
            ⟨some 38, .move, [.t 5], some (36, false)⟩,
            ⟨some 39, .call [] false, [.f 32, .t 37, .t 38], some (36, false)⟩,
            ⟨some 40, .not, [.t 39], some (36, false)⟩,
            ⟨some 41, .pick, [.t 36, .k (.b true), .t 40], none⟩] [1, 4, 5, 6, 7, 8, 41] [1, 6, 21, 22, 26, 29, 1021, 1022, 1026, 1029])
          (.cond (.t 41)
           (.seq
            (.reg [] [⟨some 2, .move, [.k (.b false)], none⟩] [2] [])
            .ret)
           .skip))
         (.seq
          (.seq
           (.reg [0, 1, 2, 4, 5] [⟨some 42, .load (some 2) false, [.t 6], none⟩,
             ⟨some 43, .load (some 2) false, [.t 1], none⟩,
             ⟨some 44, .call [] false, [.f 28, .t 43], none⟩,
             ⟨none, .chk (.load (some 2) false), [.t 42, .t 6], none⟩,
             ⟨some 45, .call [] false, [.f 31, .t 42, .t 44], none⟩,
             ⟨some 46, .not, [.t 45], none⟩] [1, 4, 5, 6, 7, 8, 46] [1, 6, 21, 22, 26, 29, 1021, 1022, 1026, 1029])
           (.cond (.t 46)
            (.seq
             (.reg [] [⟨some 2, .move, [.k (.b false)], none⟩] [2] [])
             .ret)
            .skip))
          (.seq
           (.reg [] [⟨some 9, .move, [.k (.i 1)], none⟩] [1, 4, 5, 6, 7, 8, 9] [1, 6, 21, 22, 26, 29, 1021, 1022, 1026, 1029])
           (.seq
            (.reg [] [⟨some 47, .load (some 2) false, [.t 6], none⟩,
              ⟨some 48, .move, [.t 9], none⟩,
              ⟨some 49, .call [0] false, [.f 57, .t 47, .t 48], none⟩,
              ⟨some 9, .move, [.t 49], none⟩] [1, 4, 5, 7, 8, 9] [1, 21, 22, 26, 29, 1021, 1022, 1026, 1029])
            (.seq
             (.seq
              (.reg [] [⟨some 50, .move, [.t 9], none⟩,
                ⟨some 51, .bin .lt, [.t 50, .k (.i 0)], none⟩,
                ⟨some 52, .move, [.t 51], none⟩,
                ⟨some 53, .move, [.t 7], some (52, false)⟩,
                ⟨some 54, .move, [.t 4], some (52, false)⟩,
                ⟨some 55, .call [] false, [.f 32, .t 53, .t 54], some (52, false)⟩,
                ⟨some 56, .not, [.t 55], some (52, false)⟩,
                ⟨some 57, .pick, [.t 52, .k (.b true), .t 56], none⟩,
                ⟨some 58, .move, [.t 57], none⟩,
                ⟨some 59, .move, [.t 8], some (58, false)⟩,
                ⟨some 60, .move, [.t 5], some (58, false)⟩,
                ⟨some 61, .call [] false, [.f 32, .t 59, .t 60], some (58, false)⟩,
                ⟨some 62, .not, [.t 61], some (58, false)⟩,
                ⟨some 63, .pick, [.t 58, .k (.b true), .t 62], none⟩] [1, 4, 5, 7, 8, 63] [1, 21, 22, 26, 29, 1021, 1022, 1026, 1029])
              (.cond (.t 63)
               (.seq
                (.reg [] [⟨some 2, .move, [.k (.b false)], none⟩] [2] [])
                .ret)
               .skip))
             (.seq
              (.reg [] [⟨some 10, .move, [.k (.i 1)], none⟩] [1, 4, 5, 7, 8, 10] [1, 21, 22, 26, 29, 1021, 1022, 1026, 1029])
              (.seq
               (.reg [] [⟨some 64, .move, [.t 7], none⟩,
                 ⟨some 65, .move, [.t 10], none⟩,
                 ⟨some 66, .call [0] false, [.f 51, .t 64, .t 65], none⟩,
                 ⟨some 10, .move, [.t 66], none⟩] [1, 4, 5, 7, 8, 10] [1, 21, 22, 26, 29, 1021, 1022, 1026, 1029])
               (.seq
                (.reg [] [⟨some 67, .move, [.t 8], none⟩,
                  ⟨some 68, .move, [.t 10], none⟩,
                  ⟨some 69, .call [0] false, [.f 51, .t 67, .t 68], none⟩,
                  ⟨some 10, .move, [.t 69], none⟩] [1, 4, 5, 7, 8, 10] [1, 21, 22, 26, 29, 1021, 1022, 1026, 1029])
                (.seq
                 (.reg [] [⟨some 11, .move, [.k (.i 1)], none⟩] [1, 4, 5, 7, 8, 10, 11] [1, 21, 22, 26, 29, 1021, 1022, 1026, 1029])
                 (.seq
                  (.reg [] [⟨some 70, .move, [.t 7], none⟩,
                    ⟨some 71, .move, [.t 11], none⟩,
                    ⟨some 72, .call [] false, [.f 52, .t 70, .t 71], none⟩,
                    ⟨some 11, .move, [.t 72], none⟩] [1, 4, 5, 7, 8, 10, 11] [1, 21, 22, 26, 29, 1021, 1022, 1026, 1029])
                  (.seq
                   (.seq
                    (.reg [] [⟨some 73, .move, [.t 11], none⟩,
                      ⟨some 74, .bin .lt, [.t 73, .k (.i 0)], none⟩] [1, 4, 5, 7, 8, 10, 11, 74] [1, 21, 22, 26, 29, 1021, 1022, 1026, 1029])
                    (.cond (.t 74)
                     (.seq
                      (.reg [] [⟨some 2, .move, [.k (.b false)], none⟩] [2] [])
                      .ret)
                     .skip))
                   (.seq
                    (.reg [] [⟨some 75, .move, [.t 8], none⟩,
                      ⟨some 76, .move, [.t 11], none⟩,
                      ⟨some 77, .call [] false, [.f 52, .t 75, .t 76], none⟩,
                      ⟨some 11, .move, [.t 77], none⟩] [1, 4, 5, 7, 8, 10, 11] [1, 21, 22, 26, 29, 1021, 1022, 1026, 1029])
                    (.seq
                     (.seq
                      (.reg [] [⟨some 78, .move, [.t 11], none⟩,
                        ⟨some 79, .bin .lt, [.t 78, .k (.i 0)], none⟩] [1, 4, 5, 7, 8, 10, 11, 79] [1, 21, 22, 26, 29, 1021, 1022, 1026, 1029])
                      (.cond (.t 79)
                       (.seq
                        (.reg [] [⟨some 2, .move, [.k (.b false)], none⟩] [2] [])
                        .ret)
                       .skip))
                     (.seq
                      (.seq
                       (.reg [] [⟨some 80, .move, [.t 11], none⟩,
                         ⟨some 81, .move, [.t 10], none⟩,
                         ⟨some 82, .bin .ne, [.t 80, .t 81], none⟩] [1, 4, 5, 7, 8, 10, 82] [1, 21, 22, 26, 29, 1021, 1022, 1026, 1029])
                       (.cond (.t 82)
                        (.seq
                         (.reg [] [⟨some 2, .move, [.k (.b false)], none⟩] [2] [])
                         .ret)
                        .skip))
                      (.seq
                       (.reg [] [⟨some 84, .load (some 2) false, [.t 1], none⟩,
                         ⟨some 85, .call [] false, [.f 28, .t 84], none⟩,
                         ⟨some 86, .call [] false, [.f 56, .t 85], none⟩,
                         ⟨some 83, .move, [.t 86], none⟩,
                         ⟨some 87, .ext 0, [.t 83], none⟩,
                         ⟨some 88, .ext 1, [.t 83], none⟩,
                         ⟨some 12, .move, [.t 87], none⟩,
                         ⟨some 13, .move, [.t 88], none⟩] [4, 5, 7, 8, 10, 12, 13] [21, 22, 26, 29, 85, 86, 1021, 1022, 1026, 1029, 1085, 1086])
                       (.seq
                        (.seq
                         (.reg [] [⟨some 89, .move, [.t 12], none⟩,
                           ⟨some 90, .move, [.t 4], none⟩,
                           ⟨some 91, .call [] false, [.f 32, .t 89, .t 90], none⟩,
                           ⟨some 92, .not, [.t 91], none⟩,
                           ⟨some 93, .move, [.t 92], none⟩,
                           ⟨some 94, .move, [.t 13], some (93, false)⟩,
                           ⟨some 95, .move, [.t 5], some (93, false)⟩,
                           ⟨some 96, .call [] false, [.f 32, .t 94, .t 95], some (93, false)⟩,
                           ⟨some 97, .not, [.t 96], some (93, false)⟩,
                           ⟨some 98, .pick, [.t 93, .k (.b true), .t 97], none⟩] [7, 8, 10, 98] [26, 29, 1026, 1029])
                         (.cond (.t 98)
                          (.seq
                           (.reg [] [⟨some 2, .move, [.k (.b false)], none⟩] [2] [])
                           .ret)
                          .skip))
                        (.seq
                         (.reg [] [⟨some 11, .move, [.k (.i 1)], none⟩] [7, 8, 10, 11] [26, 29, 1026, 1029])
                         (.seq
                          (.reg [] [⟨some 99, .move, [.t 7], none⟩,
                            ⟨some 100, .move, [.t 11], none⟩,
                            ⟨some 101, .call [] false, [.f 52, .t 99, .t 100], none⟩,
                            ⟨some 11, .move, [.t 101], none⟩] [8, 10, 11] [26, 29, 1026, 1029])
                          (.seq
                           (.seq
                            (.reg [] [⟨some 102, .move, [.t 11], none⟩,
                              ⟨some 103, .bin .lt, [.t 102, .k (.i 0)], none⟩] [8, 10, 11, 103] [26, 29, 1026, 1029])
                            (.cond (.t 103)
                             (.seq
                              (.reg [] [⟨some 2, .move, [.k (.b false)], none⟩] [2] [])
                              .ret)
                             .skip))
                           (.seq
                            (.reg [] [⟨some 104, .move, [.t 8], none⟩,
                              ⟨some 105, .move, [.t 11], none⟩,
                              ⟨some 106, .call [] false, [.f 52, .t 104, .t 105], none⟩,
                              ⟨some 11, .move, [.t 106], none⟩] [10, 11] [])
                            (.seq
                             (.seq
                              (.reg [] [⟨some 107, .move, [.t 11], none⟩,
                                ⟨some 108, .bin .lt, [.t 107, .k (.i 0)], none⟩] [10, 11, 108] [])
                              (.cond (.t 108)
                               (.seq
                                (.reg [] [⟨some 2, .move, [.k (.b false)], none⟩] [2] [])
                                .ret)
                               .skip))
                             (.seq
                              (.seq
                               (.reg [] [⟨some 109, .move, [.t 11], none⟩,
                                 ⟨some 110, .move, [.t 10], none⟩,
                                 ⟨some 111, .bin .ne, [.t 109, .t 110], none⟩] [111] [])
                               (.cond (.t 111)
                                (.seq
                                 (.reg [] [⟨some 2, .move, [.k (.b false)], none⟩] [2] [])
                                 .ret)
                                .skip))
                              (.seq
                               (.reg [] [⟨some 2, .move, [.k (.b true)], none⟩] [2] [])
                               .ret))))))))))))))))))))))))))))))
def a13 : AF := ⟨c13, [.tmp 2]⟩
theorem ok70 : okF Try.prog 70 a70 = true := by kernel_rfl
theorem ok126 : okF Try.prog 126 a126 = true := by kernel_rfl
theorem ok71 : okF Try.prog 71 a71 = true := by kernel_rfl
theorem ok26 : okF Try.prog 26 a26 = true := by kernel_rfl
theorem ok29 : okF Try.prog 29 a29 = true := by kernel_rfl
theorem ok130 : okF Try.prog 130 a130 = true := by kernel_rfl
theorem ok75 : okF Try.prog 75 a75 = true := by kernel_rfl
theorem ok28 : okF Try.prog 28 a28 = true := by kernel_rfl
theorem ok60 : okF Try.prog 60 a60 = true := by kernel_rfl
theorem ok171 : okF Try.prog 171 a171 = true := by kernel_rfl
theorem ok155 : okF Try.prog 155 a155 = true := by kernel_rfl
theorem ok127 : okF Try.prog 127 a127 = true := by kernel_rfl
theorem ok128 : okF Try.prog 128 a128 = true := by kernel_rfl
theorem ok156 : okF Try.prog 156 a156 = true := by kernel_rfl
theorem ok157 : okF Try.prog 157 a157 = true := by kernel_rfl
theorem ok129 : okF Try.prog 129 a129 = true := by kernel_rfl
theorem ok72 : okF Try.prog 72 a72 = true := by kernel_rfl
theorem ok114 : okF Try.prog 114 a114 = true := by kernel_rfl
theorem ok55 : okF Try.prog 55 a55 = true := by kernel_rfl
theorem ok172 : okF Try.prog 172 a172 = true := by kernel_rfl
theorem ok199 : okF Try.prog 199 a199 = true := by kernel_rfl
theorem ok135 : okF Try.prog 135 a135 = true := by kernel_rfl
theorem ok79 : okF Try.prog 79 a79 = true := by kernel_rfl
theorem ok200 : okF Try.prog 200 a200 = true := by kernel_rfl
theorem ok173 : okF Try.prog 173 a173 = true := by kernel_rfl
theorem ok158 : okF Try.prog 158 a158 = true := by kernel_rfl
theorem ok174 : okF Try.prog 174 a174 = true := by kernel_rfl
theorem ok175 : okF Try.prog 175 a175 = true := by kernel_rfl
theorem ok159 : okF Try.prog 159 a159 = true := by kernel_rfl
theorem ok132 : okF Try.prog 132 a132 = true := by kernel_rfl
theorem ok131 : okF Try.prog 131 a131 = true := by kernel_rfl
theorem ok76 : okF Try.prog 76 a76 = true := by kernel_rfl
theorem ok147 : okF Try.prog 147 a147 = true := by kernel_rfl
theorem ok149 : okF Try.prog 149 a149 = true := by kernel_rfl
theorem ok115 : okF Try.prog 115 a115 = true := by kernel_rfl
theorem ok56 : okF Try.prog 56 a56 = true := by kernel_rfl
theorem ok32 : okF Try.prog 32 a32 = true := by kernel_rfl
theorem ok137 : okF Try.prog 137 a137 = true := by kernel_rfl
theorem ok82 : okF Try.prog 82 a82 = true := by kernel_rfl
theorem ok31 : okF Try.prog 31 a31 = true := by kernel_rfl
theorem ok51 : okF Try.prog 51 a51 = true := by kernel_rfl
theorem ok116 : okF Try.prog 116 a116 = true := by kernel_rfl
theorem ok57 : okF Try.prog 57 a57 = true := by kernel_rfl
theorem ok52 : okF Try.prog 52 a52 = true := by kernel_rfl
theorem ok13 : okF Try.prog 13 a13 = true := by kernel_rfl
def codes : Nat → Option AF
  | 70 => some a70
  | 126 => some a126
  | 71 => some a71
  | 26 => some a26
  | 29 => some a29
  | 130 => some a130
  | 75 => some a75
  | 28 => some a28
  | 60 => some a60
  | 171 => some a171
  | 155 => some a155
  | 127 => some a127
  | 128 => some a128
  | 156 => some a156
  | 157 => some a157
  | 129 => some a129
  | 72 => some a72
  | 114 => some a114
  | 55 => some a55
  | 172 => some a172
  | 199 => some a199
  | 135 => some a135
  | 79 => some a79
  | 200 => some a200
  | 173 => some a173
  | 158 => some a158
  | 174 => some a174
  | 175 => some a175
  | 159 => some a159
  | 132 => some a132
  | 131 => some a131
  | 76 => some a76
  | 147 => some a147
  | 149 => some a149
  | 115 => some a115
  | 56 => some a56
  | 32 => some a32
  | 137 => some a137
  | 82 => some a82
  | 31 => some a31
  | 51 => some a51
  | 116 => some a116
  | 57 => some a57
  | 52 => some a52
  | 13 => some a13
  | _ => none
def G0 : Prog := ⟨codes, fun _ => none⟩
theorem g70 : codes 70 = some a70 := rfl
theorem g126 : codes 126 = some a126 := rfl
theorem g71 : codes 71 = some a71 := rfl
theorem g26 : codes 26 = some a26 := rfl
theorem g29 : codes 29 = some a29 := rfl
theorem g130 : codes 130 = some a130 := rfl
theorem g75 : codes 75 = some a75 := rfl
theorem g28 : codes 28 = some a28 := rfl
theorem g60 : codes 60 = some a60 := rfl
theorem g171 : codes 171 = some a171 := rfl
theorem g155 : codes 155 = some a155 := rfl
theorem g127 : codes 127 = some a127 := rfl
theorem g128 : codes 128 = some a128 := rfl
theorem g156 : codes 156 = some a156 := rfl
theorem g157 : codes 157 = some a157 := rfl
theorem g129 : codes 129 = some a129 := rfl
theorem g72 : codes 72 = some a72 := rfl
theorem g114 : codes 114 = some a114 := rfl
theorem g55 : codes 55 = some a55 := rfl
theorem g172 : codes 172 = some a172 := rfl
theorem g199 : codes 199 = some a199 := rfl
theorem g135 : codes 135 = some a135 := rfl
theorem g79 : codes 79 = some a79 := rfl
theorem g200 : codes 200 = some a200 := rfl
theorem g173 : codes 173 = some a173 := rfl
theorem g158 : codes 158 = some a158 := rfl
theorem g174 : codes 174 = some a174 := rfl
theorem g175 : codes 175 = some a175 := rfl
theorem g159 : codes 159 = some a159 := rfl
theorem g132 : codes 132 = some a132 := rfl
theorem g131 : codes 131 = some a131 := rfl
theorem g76 : codes 76 = some a76 := rfl
theorem g147 : codes 147 = some a147 := rfl
theorem g149 : codes 149 = some a149 := rfl
theorem g115 : codes 115 = some a115 := rfl
theorem g56 : codes 56 = some a56 := rfl
theorem g32 : codes 32 = some a32 := rfl
theorem g137 : codes 137 = some a137 := rfl
theorem g82 : codes 82 = some a82 := rfl
theorem g31 : codes 31 = some a31 := rfl
theorem g51 : codes 51 = some a51 := rfl
theorem g116 : codes 116 = some a116 := rfl
theorem g57 : codes 57 = some a57 := rfl
theorem g52 : codes 52 = some a52 := rfl
theorem g13 : codes 13 = some a13 := rfl
theorem gp0 (n : Nat) : G0.prim n = none := rfl
theorem progOK0 : ProgOK Try.prog G0 := by
  refine ⟨by kernel_rfl, fun f af _ h => ?_, fun f p h => by cases h⟩
  simp only [G0] at h
  unfold codes at h
  split at h
  · cases h; exact ok70
  · cases h; exact ok126
  · cases h; exact ok71
  · cases h; exact ok26
  · cases h; exact ok29
  · cases h; exact ok130
  · cases h; exact ok75
  · cases h; exact ok28
  · cases h; exact ok60
  · cases h; exact ok171
  · cases h; exact ok155
  · cases h; exact ok127
  · cases h; exact ok128
  · cases h; exact ok156
  · cases h; exact ok157
  · cases h; exact ok129
  · cases h; exact ok72
  · cases h; exact ok114
  · cases h; exact ok55
  · cases h; exact ok172
  · cases h; exact ok199
  · cases h; exact ok135
  · cases h; exact ok79
  · cases h; exact ok200
  · cases h; exact ok173
  · cases h; exact ok158
  · cases h; exact ok174
  · cases h; exact ok175
  · cases h; exact ok159
  · cases h; exact ok132
  · cases h; exact ok131
  · cases h; exact ok76
  · cases h; exact ok147
  · cases h; exact ok149
  · cases h; exact ok115
  · cases h; exact ok56
  · cases h; exact ok32
  · cases h; exact ok137
  · cases h; exact ok82
  · cases h; exact ok31
  · cases h; exact ok51
  · cases h; exact ok116
  · cases h; exact ok57
  · cases h; exact ok52
  · cases h; exact ok13
  · cases h
end Go.Am
end
