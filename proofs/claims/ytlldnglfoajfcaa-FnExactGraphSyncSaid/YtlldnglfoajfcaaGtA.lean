/- The annotated code of the graphs' functions, the first half. -/
import Derived.Test.YtlldnglfoajfcaaAnD
import Derived.Test.YtlldnglfoajfcaaProg
import Derived.KernelRfl
section
set_option maxRecDepth 100000
namespace Go.Am
open Go.Proofs
/-- laws.szMoveS -/
def c117 : AC :=
 (.seq
  (.reg [] [⟨some 4, .move, [.k (.i 0)], none⟩] [0, 1] [])
  (.seq
   (.reg [] [⟨some 5, .move, [.t 1], none⟩,
     ⟨some 6, .move, [.t 0], none⟩,
     ⟨some 7, .len, [.t 6], none⟩,
     ⟨some 8, .bin .sub, [.t 5, .t 7], none⟩,
     ⟨some 1, .move, [.t 8], none⟩] [1] [])
   (.seq
    (.seq
     (.reg [] [⟨some 9, .move, [.t 1], none⟩,
       ⟨some 10, .bin .lt, [.t 9, .k (.i 0)], none⟩] [1, 10] [])
     (.cond (.t 10)
      (.seq
       (.reg [] [⟨some 4, .move, [.k (.i (-1))], none⟩] [4] [])
       .ret)
      .skip))
    (.seq
     (.reg [] [⟨some 11, .move, [.t 1], none⟩,
       ⟨some 4, .move, [.t 11], none⟩] [4] [])
     .ret))))
def a117 : AF := ⟨c117, [.tmp 4]⟩
def b58l0 : AC :=
 (.seq
  (.seq
   (.reg [] [⟨some 12, .move, [.t 5], none⟩,
     ⟨some 13, .move, [.t 0], none⟩,
     ⟨some 14, .len, [.t 13], none⟩,
     ⟨some 15, .bin .lt, [.t 12, .t 14], none⟩] [0, 1, 5, 15] [])
   (.cond (.t 15)
    .skip
    (.exit 0)))
  (.seq
   (.block 1
    (.seq
     (.reg [] [⟨some 18, .move, [.t 0], none⟩,
       ⟨some 19, .move, [.t 5], none⟩,
       ⟨some 20, .iaddr 1, [.t 18, .t 19], none⟩,
       ⟨some 21, .load none false, [.t 20], none⟩,
       ⟨some 22, .move, [.t 1], none⟩,
       ⟨some 23, .call [] false, [.f 117, .t 21, .t 22], none⟩,
       ⟨some 1, .move, [.t 23], none⟩] [0, 1, 5] [])
     (.seq
      (.reg [] [⟨some 24, .move, [.t 1], none⟩,
        ⟨some 25, .bin .lt, [.t 24, .k (.i 0)], none⟩] [0, 1, 5, 25] [])
      (.cond (.t 25)
       (.seq
        (.reg [] [⟨some 4, .move, [.k (.i (-1))], none⟩] [4] [])
        .ret)
       .skip))))
   (.reg [] [⟨some 16, .move, [.t 5], none⟩,
     ⟨some 17, .bin .add, [.t 16, .k (.i 1)], none⟩,
     ⟨some 5, .move, [.t 17], none⟩] [0, 1, 5] [])))
def c58l0 : AC := b58l0
theorem r58l0 (call lp s) : run call lp c58l0 s = run call lp b58l0 s := rfl
/-- laws.szMoveSS -/
def c58 : AC :=
 (.seq
  (.reg [] [⟨some 4, .move, [.k (.i 0)], none⟩] [0, 1] [])
  (.seq
   (.reg [] [⟨some 6, .move, [.t 1], none⟩,
     ⟨some 7, .move, [.t 0], none⟩,
     ⟨some 8, .len, [.t 7], none⟩,
     ⟨some 9, .bin .sub, [.t 6, .t 8], none⟩,
     ⟨some 1, .move, [.t 9], none⟩] [0, 1] [])
   (.seq
    (.seq
     (.reg [] [⟨some 10, .move, [.t 1], none⟩,
       ⟨some 11, .bin .lt, [.t 10, .k (.i 0)], none⟩] [0, 1, 11] [])
     (.cond (.t 11)
      (.seq
       (.reg [] [⟨some 4, .move, [.k (.i (-1))], none⟩] [4] [])
       .ret)
      .skip))
    (.seq
     (.seq
      (.reg [] [⟨some 5, .move, [.k (.i 0)], none⟩] [0, 1, 5] [])
      (.block 0
       (.loop [0, 1, 5] [] c58l0)))
     (.seq
      (.reg [] [⟨some 26, .move, [.t 1], none⟩,
        ⟨some 4, .move, [.t 26], none⟩] [4] [])
      .ret)))))
def a58 : AF := ⟨c58, [.tmp 4]⟩
/-- laws.szGraph -/
def c14 : AC :=
 (.seq
  (.reg [] [⟨some 2, .box, [.t 0], none⟩,
    ⟨some 4, .move, [.k (.i 0)], none⟩] [1, 2] [2])
  (.seq
   (.reg [] [⟨some 5, .faddr 0, [.t 2], none⟩,
     ⟨some 6, .load none false, [.t 5], none⟩,
     ⟨some 7, .move, [.t 1], none⟩,
     ⟨some 8, .call [] false, [.f 58, .t 6, .t 7], none⟩,
     ⟨some 1, .move, [.t 8], none⟩] [1] [])
   (.seq
    (.seq
     (.reg [] [⟨some 9, .move, [.t 1], none⟩,
       ⟨some 10, .bin .lt, [.t 9, .k (.i 0)], none⟩] [1, 10] [])
     (.cond (.t 10)
      (.seq
       (.reg [] [⟨some 4, .move, [.k (.i (-1))], none⟩] [4] [])
       .ret)
      .skip))
    (.seq
     (.reg [] [⟨some 11, .move, [.t 1], none⟩,
       ⟨some 4, .move, [.t 11], none⟩] [4] [])
     .ret))))
def a14 : AF := ⟨c14, [.tmp 4]⟩
/-- laws.toMove -/
def c150 : AC :=
 (.seq
  (.reg [] [⟨some 1, .box, [.t 0], none⟩,
    ⟨some 2, .alloc [.i 0, .i 0], [], none⟩] [1, 2] [1, 2])
  (.seq
   (.reg [] [⟨some 3, .alloc [.i 0, .i 0], [], none⟩] [1, 2, 3] [1, 2, 3])
   (.seq
    (.reg [] [⟨some 4, .faddr 0, [.t 1], none⟩,
      ⟨some 5, .load none false, [.t 4], none⟩,
      ⟨some 6, .faddr 0, [.t 3], none⟩,
      ⟨none, .store 1 true, [.t 6, .t 5], none⟩] [1, 2, 3] [1, 2, 3])
    (.seq
     (.reg [] [⟨some 7, .faddr 1, [.t 1], none⟩,
       ⟨some 8, .load none false, [.t 7], none⟩,
       ⟨some 9, .faddr 1, [.t 3], none⟩,
       ⟨none, .store 1 true, [.t 9, .t 8], none⟩] [2, 3] [2, 3])
     (.seq
      (.reg [] [⟨some 10, .load (some 2) false, [.t 3], none⟩,
        ⟨none, .store 2 true, [.t 2, .t 10], none⟩] [2] [2])
      .ret)))))
def a150 : AF := ⟨c150, [.cell 2 (some 2)]⟩
def b120l0 : AC :=
 (.seq
  (.seq
   (.reg [] [⟨some 8, .move, [.t 4], none⟩,
     ⟨some 9, .move, [.t 0], none⟩,
     ⟨some 10, .len, [.t 9], none⟩,
     ⟨some 11, .bin .lt, [.t 8, .t 10], none⟩] [0, 3, 4, 11] [7])
   (.cond (.t 11)
    .skip
    (.exit 0)))
  (.seq
   (.block 1
    (.reg [] [⟨some 14, .move, [.t 3], none⟩,
      ⟨some 15, .move, [.t 4], none⟩,
      ⟨some 16, .move, [.t 0], none⟩,
      ⟨some 17, .move, [.t 4], none⟩,
      ⟨some 18, .iaddr 2, [.t 16, .t 17], none⟩,
      ⟨some 19, .load (some 2) false, [.t 18], none⟩,
      ⟨some 20, .call [] false, [.f 150, .t 19], none⟩,
      ⟨some 21, .iaddr 2, [.t 14, .t 15], none⟩,
      ⟨none, .store 2 true, [.t 21, .t 20], none⟩] [0, 3, 4] [7]))
   (.reg [] [⟨some 12, .move, [.t 4], none⟩,
     ⟨some 13, .bin .add, [.t 12, .k (.i 1)], none⟩,
     ⟨some 4, .move, [.t 13], none⟩] [0, 3, 4] [7])))
def c120l0 : AC := b120l0
theorem r120l0 (call lp s) : run call lp c120l0 s = run call lp b120l0 s := rfl
/-- laws.toMoveS -/
def c120 : AC :=
 (.seq
  (.reg [] [⟨some 2, .move, [.k (.nils)], none⟩] [0] [])
  (.seq
   (.reg [] [⟨some 5, .move, [.t 0], none⟩,
     ⟨some 6, .len, [.t 5], none⟩,
     ⟨some 7, .mkslice 2 (.agg [.i 0, .i 0]), [.t 6, .t 6], none⟩,
     ⟨some 3, .move, [.t 7], none⟩] [0, 3] [7])
   (.seq
    (.seq
     (.reg [] [⟨some 4, .move, [.k (.i 0)], none⟩] [0, 3, 4] [7])
     (.block 0
      (.loop [0, 3, 4] [7] c120l0)))
    (.seq
     (.reg [] [⟨some 22, .move, [.t 3], none⟩,
       ⟨some 2, .move, [.t 22], none⟩] [2] [7])
     .ret))))
def a120 : AF := ⟨c120, [.tmp 2]⟩
def b63l0 : AC :=
 (.seq
  (.seq
   (.reg [] [⟨some 8, .move, [.t 4], none⟩,
     ⟨some 9, .move, [.t 0], none⟩,
     ⟨some 10, .len, [.t 9], none⟩,
     ⟨some 11, .bin .lt, [.t 8, .t 10], none⟩] [0, 3, 4, 11] [7])
   (.cond (.t 11)
    .skip
    (.exit 0)))
  (.seq
   (.block 1
    (.reg [] [⟨some 14, .move, [.t 3], none⟩,
      ⟨some 15, .move, [.t 4], none⟩,
      ⟨some 16, .move, [.t 0], none⟩,
      ⟨some 17, .move, [.t 4], none⟩,
      ⟨some 18, .iaddr 1, [.t 16, .t 17], none⟩,
      ⟨some 19, .load none false, [.t 18], none⟩,
      ⟨some 20, .call [] false, [.f 120, .t 19], none⟩,
      ⟨some 21, .iaddr 1, [.t 14, .t 15], none⟩,
      ⟨none, .store 1 true, [.t 21, .t 20], none⟩] [0, 3, 4] [7]))
   (.reg [] [⟨some 12, .move, [.t 4], none⟩,
     ⟨some 13, .bin .add, [.t 12, .k (.i 1)], none⟩,
     ⟨some 4, .move, [.t 13], none⟩] [0, 3, 4] [7])))
def c63l0 : AC := b63l0
theorem r63l0 (call lp s) : run call lp c63l0 s = run call lp b63l0 s := rfl
/-- laws.toMoveSS -/
def c63 : AC :=
 (.seq
  (.reg [] [⟨some 2, .move, [.k (.nils)], none⟩] [0] [])
  (.seq
   (.reg [] [⟨some 5, .move, [.t 0], none⟩,
     ⟨some 6, .len, [.t 5], none⟩,
     ⟨some 7, .mkslice 1 (.nils), [.t 6, .t 6], none⟩,
     ⟨some 3, .move, [.t 7], none⟩] [0, 3] [7])
   (.seq
    (.seq
     (.reg [] [⟨some 4, .move, [.k (.i 0)], none⟩] [0, 3, 4] [7])
     (.block 0
      (.loop [0, 3, 4] [7] c63l0)))
    (.seq
     (.reg [] [⟨some 22, .move, [.t 3], none⟩,
       ⟨some 2, .move, [.t 22], none⟩] [2] [7])
     .ret))))
def a63 : AF := ⟨c63, [.tmp 2]⟩
/-- laws.toGraph -/
def c16 : AC :=
 (.seq
  (.reg [] [⟨some 1, .box, [.t 0], none⟩,
    ⟨some 2, .alloc [.nils], [], none⟩] [1, 2] [1, 2, 6])
  (.seq
   (.reg [] [⟨some 3, .alloc [.nils], [], none⟩] [1, 2, 3] [1, 2, 3, 6])
   (.seq
    (.reg [] [⟨some 4, .faddr 0, [.t 1], none⟩,
      ⟨some 5, .load none false, [.t 4], none⟩,
      ⟨some 6, .call [] false, [.f 63, .t 5], none⟩,
      ⟨some 7, .faddr 0, [.t 3], none⟩,
      ⟨none, .store 1 true, [.t 7, .t 6], none⟩] [2, 3] [2, 3, 6])
    (.seq
     (.reg [] [⟨some 8, .load (some 1) false, [.t 3], none⟩,
       ⟨none, .store 1 true, [.t 2, .t 8], none⟩] [2] [2, 6])
     .ret))))
def a16 : AF := ⟨c16, [.cell 2 (some 1)]⟩
/-- spec.l6In -/
def c60 : AC :=
 (.seq
  (.reg [] [⟨some 6, .move, [.k (.b false)], none⟩] [0, 1, 2] [])
  (.seq
   (.reg [] [⟨some 7, .move, [.t 0], none⟩,
     ⟨some 8, .move, [.t 1], none⟩,
     ⟨some 9, .bin .ge, [.t 7, .t 8], none⟩,
     ⟨some 10, .move, [.t 9], none⟩,
     ⟨some 11, .move, [.t 0], some (10, true)⟩,
     ⟨some 12, .move, [.t 2], some (10, true)⟩,
     ⟨some 13, .bin .le, [.t 11, .t 12], some (10, true)⟩,
     ⟨some 14, .pick, [.t 10, .t 13, .k (.b false)], none⟩,
     ⟨some 6, .move, [.t 14], none⟩] [6] [])
   .ret))
def a60 : AF := ⟨c60, [.tmp 6]⟩
/-- spec.ActOk -/
def c83 : AC :=
 (.seq
  (.reg [] [⟨some 2, .move, [.k (.b false)], none⟩] [0] [])
  (.seq
   (.reg [] [⟨some 3, .move, [.t 0], none⟩,
     ⟨some 4, .call [] false, [.f 60, .t 3, .k (.i (-4)), .k (.i 4)], none⟩,
     ⟨some 2, .move, [.t 4], none⟩] [2] [])
   .ret))
def a83 : AF := ⟨c83, [.tmp 2]⟩
/-- spec.l3Less -/
def c118 : AC :=
 (.seq
  (.reg [] [⟨some 2, .box, [.t 0], none⟩,
    ⟨some 3, .box, [.t 1], none⟩,
    ⟨some 4, .move, [.k (.b false)], none⟩] [2, 3] [2, 3])
  (.seq
   (.reg [] [⟨some 5, .faddr 0, [.t 2], none⟩,
     ⟨some 6, .load none false, [.t 5], none⟩,
     ⟨some 7, .faddr 0, [.t 3], none⟩,
     ⟨some 8, .load none false, [.t 7], none⟩,
     ⟨some 9, .bin .lt, [.t 6, .t 8], none⟩,
     ⟨some 10, .move, [.t 9], none⟩,
     ⟨some 11, .faddr 0, [.t 2], some (10, false)⟩,
     ⟨some 12, .load none false, [.t 11], some (10, false)⟩,
     ⟨some 13, .faddr 0, [.t 3], some (10, false)⟩,
     ⟨some 14, .load none false, [.t 13], some (10, false)⟩,
     ⟨some 15, .bin .eq, [.t 12, .t 14], some (10, false)⟩,
     ⟨some 16, .move, [.t 15], some (10, false)⟩,
     ⟨some 17, .faddr 1, [.t 2], some (16, true)⟩,
     ⟨some 18, .load none false, [.t 17], some (16, true)⟩,
     ⟨some 19, .faddr 1, [.t 3], some (16, true)⟩,
     ⟨some 20, .load none false, [.t 19], some (16, true)⟩,
     ⟨some 21, .bin .lt, [.t 18, .t 20], some (16, true)⟩,
     ⟨some 22, .pick, [.t 16, .t 21, .k (.b false)], some (10, false)⟩,
     ⟨some 23, .pick, [.t 10, .k (.b true), .t 22], none⟩,
     ⟨some 4, .move, [.t 23], none⟩] [4] [])
   .ret))
def a118 : AF := ⟨c118, [.tmp 4]⟩
def b59l0 : AC :=
 (.seq
  (.seq
   (.reg [] [⟨some 18, .move, [.t 4], none⟩,
     ⟨some 19, .faddr 0, [.t 1], none⟩,
     ⟨some 20, .load none false, [.t 19], none⟩,
     ⟨some 21, .move, [.t 3], none⟩,
     ⟨some 22, .iaddr 1, [.t 20, .t 21], none⟩,
     ⟨some 23, .load none false, [.t 22], none⟩,
     ⟨some 24, .len, [.t 23], none⟩,
     ⟨some 25, .bin .lt, [.t 18, .t 24], none⟩] [1, 3, 4, 25] [1])
   (.cond (.t 25)
    .skip
    (.exit 2)))
  (.seq
   (.block 3
    (.seq
     (.reg [] [⟨some 28, .faddr 0, [.t 1], none⟩,
       ⟨some 29, .load none false, [.t 28], none⟩,
       ⟨some 30, .move, [.t 3], none⟩,
       ⟨some 31, .iaddr 1, [.t 29, .t 30], none⟩,
       ⟨some 32, .load none false, [.t 31], none⟩,
       ⟨some 33, .move, [.t 4], none⟩,
       ⟨some 34, .iaddr 2, [.t 32, .t 33], none⟩,
       ⟨some 35, .load (some 2) false, [.t 34], none⟩,
       ⟨some 5, .alloc [.i 0, .i 0], [], none⟩,
       ⟨none, .store 2 true, [.t 5, .t 35], none⟩] [1, 3, 4, 5] [1, 5])
     (.seq
      (.reg [0, 1, 2, 3, 4, 5, 6, 7, 8, 9, 10, 11, 12, 13, 14, 15, 16, 17, 18, 19, 20, 21, 22, 23, 24, 25, 26, 27, 28, 29, 30, 31] [⟨some 36, .faddr 0, [.t 5], none⟩,
        ⟨some 37, .load none false, [.t 36], none⟩,
        ⟨some 38, .call [] false, [.f 83, .t 37], none⟩,
        ⟨some 39, .not, [.t 38], none⟩,
        ⟨some 40, .move, [.t 39], none⟩,
        ⟨some 41, .faddr 1, [.t 5], some (40, false)⟩,
        ⟨some 42, .load none false, [.t 41], some (40, false)⟩,
        ⟨some 43, .faddr 0, [.t 1], some (40, false)⟩,
        ⟨some 44, .load none false, [.t 43], some (40, false)⟩,
        ⟨some 45, .len, [.t 44], some (40, false)⟩,
        ⟨some 46, .bin .sub, [.t 45, .k (.i 1)], some (40, false)⟩,
        ⟨some 47, .call [] false, [.f 60, .t 42, .k (.i 0), .t 46], some (40, false)⟩,
        ⟨some 48, .not, [.t 47], some (40, false)⟩,
        ⟨some 49, .pick, [.t 40, .k (.b true), .t 48], none⟩,
        ⟨some 50, .move, [.t 49], none⟩,
        ⟨some 51, .move, [.t 4], some (50, false)⟩,
        ⟨some 52, .bin .gt, [.t 51, .k (.i 0)], some (50, false)⟩,
        ⟨some 53, .move, [.t 52], some (50, false)⟩,
        ⟨some 54, .faddr 0, [.t 1], some (53, true)⟩,
        ⟨some 55, .load none false, [.t 54], some (53, true)⟩,
        ⟨some 56, .move, [.t 3], some (53, true)⟩,
        ⟨some 57, .iaddr 1, [.t 55, .t 56], some (53, true)⟩,
        ⟨some 58, .load none false, [.t 57], some (53, true)⟩,
        ⟨some 59, .move, [.t 4], some (53, true)⟩,
        ⟨some 60, .bin .sub, [.t 59, .k (.i 1)], some (53, true)⟩,
        ⟨some 61, .iaddr 2, [.t 58, .t 60], some (53, true)⟩,
        ⟨some 62, .load (some 2) false, [.t 61], some (53, true)⟩,
        ⟨some 63, .load (some 2) false, [.t 5], some (53, true)⟩,
        ⟨some 64, .call [] false, [.f 118, .t 62, .t 63], some (53, true)⟩,
        ⟨some 65, .not, [.t 64], some (53, true)⟩,
        ⟨some 66, .pick, [.t 53, .t 65, .k (.b false)], some (50, false)⟩,
        ⟨some 67, .pick, [.t 50, .k (.b true), .t 66], none⟩] [1, 3, 4, 67] [1])
      (.cond (.t 67)
       (.seq
        (.reg [] [⟨some 2, .move, [.k (.b false)], none⟩] [2] [])
        .ret)
       .skip))))
   (.reg [] [⟨some 26, .move, [.t 4], none⟩,
     ⟨some 27, .bin .add, [.t 26, .k (.i 1)], none⟩,
     ⟨some 4, .move, [.t 27], none⟩] [1, 3, 4] [1])))
def c59l0 : AC := b59l0
theorem r59l0 (call lp s) : run call lp c59l0 s = run call lp b59l0 s := rfl
def b59l1 : AC :=
 (.seq
  (.seq
   (.reg [] [⟨some 11, .move, [.t 3], none⟩,
     ⟨some 12, .faddr 0, [.t 1], none⟩,
     ⟨some 13, .load none false, [.t 12], none⟩,
     ⟨some 14, .len, [.t 13], none⟩,
     ⟨some 15, .bin .lt, [.t 11, .t 14], none⟩] [1, 3, 15] [1])
   (.cond (.t 15)
    .skip
    (.exit 0)))
  (.seq
   (.block 1
    (.seq
     (.reg [] [⟨some 4, .move, [.k (.i 0)], none⟩] [1, 3, 4] [1])
     (.block 2
      (.loop [1, 3, 4] [1] c59l0))))
   (.reg [] [⟨some 16, .move, [.t 3], none⟩,
     ⟨some 17, .bin .add, [.t 16, .k (.i 1)], none⟩,
     ⟨some 3, .move, [.t 17], none⟩] [1, 3] [1])))
def c59l1 : AC := b59l1
theorem r59l1 (call lp s) : run call lp c59l1 s = run call lp b59l1 s := rfl
/-- spec.GraphOk -/
def c59 : AC :=
 (.seq
  (.reg [] [⟨some 1, .box, [.t 0], none⟩,
    ⟨some 2, .move, [.k (.b false)], none⟩] [1] [1])
  (.seq
   (.seq
    (.reg [] [⟨some 6, .faddr 0, [.t 1], none⟩,
      ⟨some 7, .load none false, [.t 6], none⟩,
      ⟨some 8, .len, [.t 7], none⟩,
      ⟨some 9, .call [] false, [.f 60, .t 8, .k (.i 1), .k (.i 60)], none⟩,
      ⟨some 10, .not, [.t 9], none⟩] [1, 10] [1])
    (.cond (.t 10)
     (.seq
      (.reg [] [⟨some 2, .move, [.k (.b false)], none⟩] [2] [])
      .ret)
     .skip))
   (.seq
    (.seq
     (.reg [] [⟨some 3, .move, [.k (.i 0)], none⟩] [1, 3] [1])
     (.block 0
      (.loop [1, 3] [1] c59l1)))
    (.seq
     (.reg [] [⟨some 2, .move, [.k (.b true)], none⟩] [2] [])
     .ret))))
def a59 : AF := ⟨c59, [.tmp 2]⟩
def b85l0 : AC :=
 (.seq
  (.seq
   (.reg [] [⟨some 12, .move, [.t 6], none⟩,
     ⟨some 13, .faddr 0, [.t 2], none⟩,
     ⟨some 14, .load none false, [.t 13], none⟩,
     ⟨some 15, .len, [.t 14], none⟩,
     ⟨some 16, .bin .lt, [.t 12, .t 15], none⟩] [2, 3, 4, 5, 6, 16] [2, 3, 4, 5, 29, 80])
   (.cond (.t 16)
    .skip
    (.exit 0)))
  (.seq
   (.block 1
    (.reg [0, 1, 7, 2, 3, 4, 5, 6, 14, 17, 20, 21, 22] [⟨some 19, .faddr 0, [.t 5], none⟩,
      ⟨some 20, .load none false, [.t 19], none⟩,
      ⟨some 22, .faddr 0, [.t 2], none⟩,
      ⟨some 23, .load none false, [.t 22], none⟩,
      ⟨some 24, .move, [.t 6], none⟩,
      ⟨some 25, .iaddr 1, [.t 23, .t 24], none⟩,
      ⟨some 26, .load none false, [.t 25], none⟩,
      ⟨some 21, .bslice 2 true, [], none⟩,
      ⟨none, .chk (.faddr 0), [.t 19, .t 5], none⟩,
      ⟨none, .chk (.load none false), [.t 20, .t 19], none⟩,
      ⟨none, .chk (.faddr 0), [.t 22, .t 2], none⟩,
      ⟨none, .chk (.load none false), [.t 23, .t 22], none⟩,
      ⟨none, .chk (.iaddr 1), [.t 25, .t 23, .t 24], none⟩,
      ⟨none, .chk (.load none false), [.t 26, .t 25], none⟩,
      ⟨some 27, .append 2 true, [.t 21, .t 26], none⟩,
      ⟨none, .chk (.faddr 0), [.t 19, .t 5], none⟩,
      ⟨none, .chk (.load none false), [.t 20, .t 19], none⟩,
      ⟨some 28, .bslice 1 false, [.t 27], none⟩,
      ⟨none, .chk (.faddr 0), [.t 19, .t 5], none⟩,
      ⟨none, .chk (.load none false), [.t 20, .t 19], none⟩,
      ⟨some 29, .append 1 true, [.t 20, .t 28], none⟩,
      ⟨some 30, .faddr 0, [.t 5], none⟩,
      ⟨none, .store 1 true, [.t 30, .t 29], none⟩] [2, 3, 4, 5, 6] [2, 3, 4, 5, 29, 80]))
   (.reg [] [⟨some 17, .move, [.t 6], none⟩,
     ⟨some 18, .bin .add, [.t 17, .k (.i 1)], none⟩,
     ⟨some 6, .move, [.t 18], none⟩] [2, 3, 4, 5, 6] [2, 3, 4, 5, 29, 80])))
def c85l0 : AC := b85l0
theorem r85l0 (call lp s) : run call lp c85l0 s = run call lp b85l0 s := rfl
def b85l1 : AC :=
 (.seq
  (.seq
   (.reg [] [⟨some 42, .move, [.t 10], none⟩,
     ⟨some 43, .faddr 0, [.t 3], none⟩,
     ⟨some 44, .load none false, [.t 43], none⟩,
     ⟨some 45, .move, [.t 8], none⟩,
     ⟨some 46, .iaddr 1, [.t 44, .t 45], none⟩,
     ⟨some 47, .load none false, [.t 46], none⟩,
     ⟨some 48, .len, [.t 47], none⟩,
     ⟨some 49, .bin .lt, [.t 42, .t 48], none⟩] [3, 4, 5, 7, 8, 9, 10, 49] [3, 4, 5, 29, 41, 75, 80])
   (.cond (.t 49)
    .skip
    (.exit 4)))
  (.seq
   (.block 5
    (.reg [0, 1, 2, 3, 4, 5, 6, 7, 8, 9, 10, 11, 12, 13, 14, 15, 16, 17, 18, 19, 20, 21, 22, 23, 24] [⟨some 52, .move, [.t 9], none⟩,
      ⟨some 53, .faddr 0, [.t 3], none⟩,
      ⟨some 54, .load none false, [.t 53], none⟩,
      ⟨some 55, .move, [.t 8], none⟩,
      ⟨some 56, .iaddr 1, [.t 54, .t 55], none⟩,
      ⟨some 57, .load none false, [.t 56], none⟩,
      ⟨some 58, .move, [.t 10], none⟩,
      ⟨some 59, .iaddr 2, [.t 57, .t 58], none⟩,
      ⟨some 60, .faddr 0, [.t 59], none⟩,
      ⟨some 61, .load none false, [.t 60], none⟩,
      ⟨some 62, .faddr 0, [.t 3], none⟩,
      ⟨some 63, .load none false, [.t 62], none⟩,
      ⟨some 64, .move, [.t 8], none⟩,
      ⟨some 65, .iaddr 1, [.t 63, .t 64], none⟩,
      ⟨some 66, .load none false, [.t 65], none⟩,
      ⟨some 67, .move, [.t 10], none⟩,
      ⟨some 68, .iaddr 2, [.t 66, .t 67], none⟩,
      ⟨some 69, .faddr 1, [.t 68], none⟩,
      ⟨some 70, .load none false, [.t 69], none⟩,
      ⟨some 71, .move, [.t 7], none⟩,
      ⟨some 72, .bin .add, [.t 70, .t 71], none⟩,
      ⟨some 73, .build [.i 0, .i 0] [(0, 1), (1, 1)], [.t 61, .t 72], none⟩,
      ⟨some 74, .bslice 2 true, [.t 73], none⟩,
      ⟨some 75, .append 2 true, [.t 52, .t 74], none⟩,
      ⟨some 9, .move, [.t 75], none⟩] [3, 4, 5, 7, 8, 9, 10] [3, 4, 5, 29, 41, 75, 80]))
   (.reg [] [⟨some 50, .move, [.t 10], none⟩,
     ⟨some 51, .bin .add, [.t 50, .k (.i 1)], none⟩,
     ⟨some 10, .move, [.t 51], none⟩] [3, 4, 5, 7, 8, 9, 10] [3, 4, 5, 29, 41, 75, 80])))
def c85l1 : AC := b85l1
theorem r85l1 (call lp s) : run call lp c85l1 s = run call lp b85l1 s := rfl
def b85l2 : AC :=
 (.seq
  (.seq
   (.reg [] [⟨some 34, .move, [.t 8], none⟩,
     ⟨some 35, .faddr 0, [.t 3], none⟩,
     ⟨some 36, .load none false, [.t 35], none⟩,
     ⟨some 37, .len, [.t 36], none⟩,
     ⟨some 38, .bin .lt, [.t 34, .t 37], none⟩] [3, 4, 5, 7, 8, 38] [3, 4, 5, 29, 80])
   (.cond (.t 38)
    .skip
    (.exit 2)))
  (.seq
   (.block 3
    (.seq
     (.reg [] [⟨some 41, .bslice 2 true, [], none⟩,
       ⟨some 9, .move, [.t 41], none⟩] [3, 4, 5, 7, 8, 9] [3, 4, 5, 29, 41, 75, 80])
     (.seq
      (.seq
       (.reg [] [⟨some 10, .move, [.k (.i 0)], none⟩] [3, 4, 5, 7, 8, 9, 10] [3, 4, 5, 29, 41, 75, 80])
       (.block 4
        (.loop [3, 4, 5, 7, 8, 9, 10] [3, 4, 5, 29, 41, 75, 80] c85l1)))
      (.reg [] [⟨some 76, .faddr 0, [.t 5], none⟩,
        ⟨some 77, .load none false, [.t 76], none⟩,
        ⟨some 78, .move, [.t 9], none⟩,
        ⟨some 79, .bslice 1 false, [.t 78], none⟩,
        ⟨some 80, .append 1 true, [.t 77, .t 79], none⟩,
        ⟨some 81, .faddr 0, [.t 5], none⟩,
        ⟨none, .store 1 true, [.t 81, .t 80], none⟩] [3, 4, 5, 7, 8] [3, 4, 5, 29, 80]))))
   (.reg [] [⟨some 39, .move, [.t 8], none⟩,
     ⟨some 40, .bin .add, [.t 39, .k (.i 1)], none⟩,
     ⟨some 8, .move, [.t 40], none⟩] [3, 4, 5, 7, 8] [3, 4, 5, 29, 80])))
def c85l2 : AC := b85l2
theorem r85l2 (call lp s) : run call lp c85l2 s = run call lp b85l2 s := rfl
/-- spec.l4Both -/
def c85 : AC :=
 (.seq
  (.reg [] [⟨some 2, .box, [.t 0], none⟩,
    ⟨some 3, .box, [.t 1], none⟩,
    ⟨some 4, .alloc [.nils], [], none⟩] [2, 3, 4] [2, 3, 4, 29, 80])
  (.seq
   (.reg [] [⟨some 11, .build [.nils] [], [], none⟩,
     ⟨some 5, .alloc [.nils], [], none⟩,
     ⟨none, .store 1 true, [.t 5, .t 11], none⟩] [2, 3, 4, 5] [2, 3, 4, 5, 29, 80])
   (.seq
    (.seq
     (.reg [] [⟨some 6, .move, [.k (.i 0)], none⟩] [2, 3, 4, 5, 6] [2, 3, 4, 5, 29, 80])
     (.block 0
      (.loop [2, 3, 4, 5, 6] [2, 3, 4, 5, 29, 80] c85l0)))
    (.seq
     (.reg [] [⟨some 31, .faddr 0, [.t 2], none⟩,
       ⟨some 32, .load none false, [.t 31], none⟩,
       ⟨some 33, .len, [.t 32], none⟩,
       ⟨some 7, .move, [.t 33], none⟩] [3, 4, 5, 7] [3, 4, 5, 29, 80])
     (.seq
      (.seq
       (.reg [] [⟨some 8, .move, [.k (.i 0)], none⟩] [3, 4, 5, 7, 8] [3, 4, 5, 29, 80])
       (.block 2
        (.loop [3, 4, 5, 7, 8] [3, 4, 5, 29, 80] c85l2)))
      (.seq
       (.reg [] [⟨some 82, .load (some 1) false, [.t 5], none⟩,
         ⟨none, .store 1 true, [.t 4, .t 82], none⟩] [4] [4, 29, 80])
       .ret))))))
def a85 : AF := ⟨c85, [.cell 4 (some 1)]⟩
def b161l0 : AC :=
 (.seq
  (.seq
   (.reg [] [⟨some 33, .move, [.t 9], none⟩,
     ⟨some 34, .move, [.t 8], none⟩,
     ⟨some 35, .len, [.t 34], none⟩,
     ⟨some 36, .bin .lt, [.t 33, .t 35], none⟩] [2, 5, 6, 7, 8, 9, 36] [2, 11, 15, 62])
   (.cond (.t 36)
    .skip
    (.exit 2)))
  (.seq
   (.block 3
    (.seq
     (.reg [] [⟨some 39, .move, [.t 6], none⟩,
       ⟨some 40, .move, [.t 8], none⟩,
       ⟨some 41, .move, [.t 9], none⟩,
       ⟨some 42, .iaddr 2, [.t 40, .t 41], none⟩,
       ⟨some 43, .faddr 1, [.t 42], none⟩,
       ⟨some 44, .load none false, [.t 43], none⟩,
       ⟨some 45, .iaddr 1, [.t 39, .t 44], none⟩,
       ⟨some 46, .load none false, [.t 45], none⟩,
       ⟨some 47, .not, [.t 46], none⟩] [2, 5, 6, 7, 8, 9, 47] [2, 11, 15, 62])
     (.cond (.t 47)
      (.seq
       (.reg [] [⟨some 48, .move, [.t 6], none⟩,
         ⟨some 49, .move, [.t 8], none⟩,
         ⟨some 50, .move, [.t 9], none⟩,
         ⟨some 51, .iaddr 2, [.t 49, .t 50], none⟩,
         ⟨some 52, .faddr 1, [.t 51], none⟩,
         ⟨some 53, .load none false, [.t 52], none⟩,
         ⟨some 54, .iaddr 1, [.t 48, .t 53], none⟩,
         ⟨none, .store 1 true, [.t 54, .k (.b true)], none⟩] [2, 5, 6, 7, 8, 9] [2, 11, 15, 62])
       (.reg [] [⟨some 55, .move, [.t 5], none⟩,
         ⟨some 56, .move, [.t 8], none⟩,
         ⟨some 57, .move, [.t 9], none⟩,
         ⟨some 58, .iaddr 2, [.t 56, .t 57], none⟩,
         ⟨some 59, .faddr 1, [.t 58], none⟩,
         ⟨some 60, .load none false, [.t 59], none⟩,
         ⟨some 61, .bslice 1 true, [.t 60], none⟩,
         ⟨some 62, .append 1 true, [.t 55, .t 61], none⟩,
         ⟨some 5, .move, [.t 62], none⟩] [2, 5, 6, 7, 8, 9] [2, 11, 15, 62]))
      .skip)))
   (.reg [] [⟨some 37, .move, [.t 9], none⟩,
     ⟨some 38, .bin .add, [.t 37, .k (.i 1)], none⟩,
     ⟨some 9, .move, [.t 38], none⟩] [2, 5, 6, 7, 8, 9] [2, 11, 15, 62])))
def c161l0 : AC := b161l0
theorem r161l0 (call lp s) : run call lp c161l0 s = run call lp b161l0 s := rfl
def b161l1 : AC :=
 (.seq
  (.seq
   (.reg [] [⟨some 19, .move, [.t 7], none⟩,
     ⟨some 20, .move, [.t 5], none⟩,
     ⟨some 21, .len, [.t 20], none⟩,
     ⟨some 22, .bin .lt, [.t 19, .t 21], none⟩] [2, 5, 6, 7, 22] [2, 11, 15, 62])
   (.cond (.t 22)
    .skip
    (.exit 0)))
  (.seq
   (.block 1
    (.seq
     (.reg [0, 1, 2, 3, 4, 5, 6, 7, 8] [⟨some 25, .faddr 0, [.t 2], none⟩,
       ⟨some 26, .load none false, [.t 25], none⟩,
       ⟨some 27, .move, [.t 5], none⟩,
       ⟨some 28, .move, [.t 7], none⟩,
       ⟨some 29, .iaddr 1, [.t 27, .t 28], none⟩,
       ⟨some 30, .load none false, [.t 29], none⟩,
       ⟨some 31, .iaddr 1, [.t 26, .t 30], none⟩,
       ⟨some 32, .load none false, [.t 31], none⟩,
       ⟨some 8, .move, [.t 32], none⟩] [2, 5, 6, 7, 8] [2, 11, 15, 62])
     (.seq
      (.reg [] [⟨some 9, .move, [.k (.i 0)], none⟩] [2, 5, 6, 7, 8, 9] [2, 11, 15, 62])
      (.block 2
       (.loop [2, 5, 6, 7, 8, 9] [2, 11, 15, 62] c161l0)))))
   (.reg [] [⟨some 23, .move, [.t 7], none⟩,
     ⟨some 24, .bin .add, [.t 23, .k (.i 1)], none⟩,
     ⟨some 7, .move, [.t 24], none⟩] [2, 5, 6, 7] [2, 11, 15, 62])))
def c161l1 : AC := b161l1
theorem r161l1 (call lp s) : run call lp c161l1 s = run call lp b161l1 s := rfl
/-- spec.l3From -/
def c161 : AC :=
 (.seq
  (.reg [] [⟨some 2, .box, [.t 0], none⟩,
    ⟨some 4, .move, [.k (.nils)], none⟩] [1, 2] [2])
  (.seq
   (.reg [] [⟨some 10, .move, [.t 1], none⟩,
     ⟨some 11, .bslice 1 true, [.t 10], none⟩,
     ⟨some 5, .move, [.t 11], none⟩] [1, 2, 5] [2, 11, 62])
   (.seq
    (.reg [] [⟨some 12, .faddr 0, [.t 2], none⟩,
      ⟨some 13, .load none false, [.t 12], none⟩,
      ⟨some 14, .len, [.t 13], none⟩,
      ⟨some 15, .mkslice 1 (.b false), [.t 14, .t 14], none⟩,
      ⟨some 6, .move, [.t 15], none⟩] [1, 2, 5, 6] [2, 11, 15, 62])
    (.seq
     (.reg [] [⟨some 16, .move, [.t 6], none⟩,
       ⟨some 17, .move, [.t 1], none⟩,
       ⟨some 18, .iaddr 1, [.t 16, .t 17], none⟩,
       ⟨none, .store 1 true, [.t 18, .k (.b true)], none⟩] [2, 5, 6] [2, 11, 15, 62])
     (.seq
      (.seq
       (.reg [] [⟨some 7, .move, [.k (.i 0)], none⟩] [2, 5, 6, 7] [2, 11, 15, 62])
       (.block 0
        (.loop [2, 5, 6, 7] [2, 11, 15, 62] c161l1)))
      (.seq
       (.reg [] [⟨some 63, .move, [.t 5], none⟩,
         ⟨some 4, .move, [.t 63], none⟩] [4] [11, 62])
       .ret))))))
def a161 : AF := ⟨c161, [.tmp 4]⟩
def b90l0 : AC :=
 (.seq
  (.seq
   (.reg [0, 1, 2, 3, 4, 5, 6, 7, 8, 9, 10, 11, 12, 13] [⟨some 16, .move, [.t 5], none⟩,
     ⟨some 17, .bin .gt, [.t 16, .k (.i 0)], none⟩,
     ⟨some 18, .move, [.t 17], none⟩,
     ⟨some 19, .move, [.t 0], some (18, true)⟩,
     ⟨some 20, .move, [.t 4], some (18, true)⟩,
     ⟨some 21, .iaddr 2, [.t 19, .t 20], some (18, true)⟩,
     ⟨some 22, .load (some 2) false, [.t 21], some (18, true)⟩,
     ⟨some 23, .move, [.t 3], some (18, true)⟩,
     ⟨some 24, .move, [.t 5], some (18, true)⟩,
     ⟨some 25, .bin .sub, [.t 24, .k (.i 1)], some (18, true)⟩,
     ⟨some 26, .iaddr 2, [.t 23, .t 25], some (18, true)⟩,
     ⟨some 27, .load (some 2) false, [.t 26], some (18, true)⟩,
     ⟨some 28, .call [] false, [.f 118, .t 22, .t 27], some (18, true)⟩,
     ⟨some 29, .pick, [.t 18, .t 28, .k (.b false)], none⟩] [0, 3, 4, 5, 29] [7, 49])
   (.cond (.t 29)
    .skip
    (.exit 2)))
  (.block 3
   (.reg [] [⟨some 30, .move, [.t 5], none⟩,
     ⟨some 31, .bin .sub, [.t 30, .k (.i 1)], none⟩,
     ⟨some 5, .move, [.t 31], none⟩] [0, 3, 4, 5] [7, 49])))
def c90l0 : AC := b90l0
theorem r90l0 (call lp s) : run call lp c90l0 s = run call lp b90l0 s := rfl
def b90l1 : AC :=
 (.seq
  (.seq
   (.reg [] [⟨some 53, .move, [.t 6], none⟩,
     ⟨some 54, .move, [.t 5], none⟩,
     ⟨some 55, .bin .gt, [.t 53, .t 54], none⟩] [0, 3, 4, 5, 6, 55] [7, 49])
   (.cond (.t 55)
    .skip
    (.exit 4)))
  (.seq
   (.block 5
    (.reg [] [⟨some 58, .move, [.t 3], none⟩,
      ⟨some 59, .move, [.t 6], none⟩,
      ⟨some 60, .move, [.t 3], none⟩,
      ⟨some 61, .move, [.t 6], none⟩,
      ⟨some 62, .bin .sub, [.t 61, .k (.i 1)], none⟩,
      ⟨some 63, .iaddr 2, [.t 60, .t 62], none⟩,
      ⟨some 64, .load (some 2) false, [.t 63], none⟩,
      ⟨some 65, .iaddr 2, [.t 58, .t 59], none⟩,
      ⟨none, .store 2 true, [.t 65, .t 64], none⟩] [0, 3, 4, 5, 6] [7, 49]))
   (.reg [] [⟨some 56, .move, [.t 6], none⟩,
     ⟨some 57, .bin .sub, [.t 56, .k (.i 1)], none⟩,
     ⟨some 6, .move, [.t 57], none⟩] [0, 3, 4, 5, 6] [7, 49])))
def c90l1 : AC := b90l1
theorem r90l1 (call lp s) : run call lp c90l1 s = run call lp b90l1 s := rfl
def b90l2 : AC :=
 (.seq
  (.seq
   (.reg [] [⟨some 8, .move, [.t 4], none⟩,
     ⟨some 9, .move, [.t 0], none⟩,
     ⟨some 10, .len, [.t 9], none⟩,
     ⟨some 11, .bin .lt, [.t 8, .t 10], none⟩] [0, 3, 4, 11] [7, 49])
   (.cond (.t 11)
    .skip
    (.exit 0)))
  (.seq
   (.block 1
    (.seq
     (.reg [] [⟨some 14, .move, [.t 3], none⟩,
       ⟨some 15, .len, [.t 14], none⟩,
       ⟨some 5, .move, [.t 15], none⟩] [0, 3, 4, 5] [7, 49])
     (.seq
      (.block 2
       (.loop [0, 3, 4, 5] [7, 49] c90l0))
      (.seq
       (.seq
        (.reg [0, 1, 2, 3, 4, 5, 6, 7, 8, 9, 10, 11, 12, 13] [⟨some 32, .move, [.t 5], none⟩,
          ⟨some 33, .bin .gt, [.t 32, .k (.i 0)], none⟩,
          ⟨some 34, .move, [.t 33], none⟩,
          ⟨some 35, .move, [.t 3], some (34, true)⟩,
          ⟨some 36, .move, [.t 5], some (34, true)⟩,
          ⟨some 37, .bin .sub, [.t 36, .k (.i 1)], some (34, true)⟩,
          ⟨some 38, .iaddr 2, [.t 35, .t 37], some (34, true)⟩,
          ⟨some 39, .load (some 2) false, [.t 38], some (34, true)⟩,
          ⟨some 40, .move, [.t 0], some (34, true)⟩,
          ⟨some 41, .move, [.t 4], some (34, true)⟩,
          ⟨some 42, .iaddr 2, [.t 40, .t 41], some (34, true)⟩,
          ⟨some 43, .load (some 2) false, [.t 42], some (34, true)⟩,
          ⟨some 44, .meq false, [.t 39, .t 43], some (34, true)⟩,
          ⟨some 45, .pick, [.t 34, .t 44, .k (.b false)], none⟩] [0, 3, 4, 5, 45] [7, 49])
        (.cond (.t 45)
         (.exit 1)
         .skip))
       (.seq
        (.reg [] [⟨some 46, .move, [.t 3], none⟩,
          ⟨some 47, .build [.i 0, .i 0] [], [], none⟩,
          ⟨some 48, .bslice 2 true, [.t 47], none⟩,
          ⟨some 49, .append 2 true, [.t 46, .t 48], none⟩,
          ⟨some 3, .move, [.t 49], none⟩] [0, 3, 4, 5] [7, 49])
        (.seq
         (.seq
          (.reg [] [⟨some 50, .move, [.t 3], none⟩,
            ⟨some 51, .len, [.t 50], none⟩,
            ⟨some 52, .bin .sub, [.t 51, .k (.i 1)], none⟩,
            ⟨some 6, .move, [.t 52], none⟩] [0, 3, 4, 5, 6] [7, 49])
          (.block 4
           (.loop [0, 3, 4, 5, 6] [7, 49] c90l1)))
         (.reg [] [⟨some 66, .move, [.t 3], none⟩,
           ⟨some 67, .move, [.t 5], none⟩,
           ⟨some 68, .move, [.t 0], none⟩,
           ⟨some 69, .move, [.t 4], none⟩,
           ⟨some 70, .iaddr 2, [.t 68, .t 69], none⟩,
           ⟨some 71, .load (some 2) false, [.t 70], none⟩,
           ⟨some 72, .iaddr 2, [.t 66, .t 67], none⟩,
           ⟨none, .store 2 true, [.t 72, .t 71], none⟩] [0, 3, 4] [7, 49])))))))
   (.reg [] [⟨some 12, .move, [.t 4], none⟩,
     ⟨some 13, .bin .add, [.t 12, .k (.i 1)], none⟩,
     ⟨some 4, .move, [.t 13], none⟩] [0, 3, 4] [7, 49])))
def c90l2 : AC := b90l2
theorem r90l2 (call lp s) : run call lp c90l2 s = run call lp b90l2 s := rfl
/-- spec.l3Sorted -/
def c90 : AC :=
 (.seq
  (.reg [] [⟨some 2, .move, [.k (.nils)], none⟩] [0] [])
  (.seq
   (.reg [] [⟨some 7, .bslice 2 true, [], none⟩,
     ⟨some 3, .move, [.t 7], none⟩] [0, 3] [7, 49])
   (.seq
    (.seq
     (.reg [] [⟨some 4, .move, [.k (.i 0)], none⟩] [0, 3, 4] [7, 49])
     (.block 0
      (.loop [0, 3, 4] [7, 49] c90l2)))
    (.seq
     (.reg [] [⟨some 73, .move, [.t 3], none⟩,
       ⟨some 2, .move, [.t 73], none⟩] [2] [7, 49])
     .ret))))
def a90 : AF := ⟨c90, [.tmp 2]⟩
def b138l0 : AC :=
 (.seq
  (.seq
   (.reg [] [⟨some 20, .move, [.t 7], none⟩,
     ⟨some 21, .move, [.t 5], none⟩,
     ⟨some 22, .len, [.t 21], none⟩,
     ⟨some 23, .bin .lt, [.t 20, .t 22], none⟩] [2, 4, 5, 6, 7, 23] [2, 4, 15, 19, 81])
   (.cond (.t 23)
    .skip
    (.exit 0)))
  (.seq
   (.block 1
    (.reg [] [⟨some 26, .move, [.t 6], none⟩,
      ⟨some 27, .move, [.t 5], none⟩,
      ⟨some 28, .move, [.t 7], none⟩,
      ⟨some 29, .iaddr 1, [.t 27, .t 28], none⟩,
      ⟨some 30, .load none false, [.t 29], none⟩,
      ⟨some 31, .move, [.t 7], none⟩,
      ⟨some 32, .iaddr 1, [.t 26, .t 30], none⟩,
      ⟨none, .store 1 true, [.t 32, .t 31], none⟩] [2, 4, 5, 6, 7] [2, 4, 15, 19, 81]))
   (.reg [] [⟨some 24, .move, [.t 7], none⟩,
     ⟨some 25, .bin .add, [.t 24, .k (.i 1)], none⟩,
     ⟨some 7, .move, [.t 25], none⟩] [2, 4, 5, 6, 7] [2, 4, 15, 19, 81])))
def c138l0 : AC := b138l0
theorem r138l0 (call lp s) : run call lp c138l0 s = run call lp b138l0 s := rfl
def b138l1 : AC :=
 (.seq
  (.seq
   (.reg [0, 1, 2, 3, 4, 5, 6, 7, 8, 9, 10] [⟨some 41, .move, [.t 11], none⟩,
     ⟨some 42, .faddr 0, [.t 2], none⟩,
     ⟨some 43, .load none false, [.t 42], none⟩,
     ⟨some 44, .move, [.t 5], none⟩,
     ⟨some 45, .move, [.t 9], none⟩,
     ⟨some 46, .iaddr 1, [.t 44, .t 45], none⟩,
     ⟨some 47, .load none false, [.t 46], none⟩,
     ⟨some 48, .iaddr 1, [.t 43, .t 47], none⟩,
     ⟨some 49, .load none false, [.t 48], none⟩,
     ⟨some 50, .len, [.t 49], none⟩,
     ⟨some 51, .bin .lt, [.t 41, .t 50], none⟩] [2, 4, 5, 6, 8, 9, 10, 11, 51] [2, 4, 8, 15, 19, 40, 75, 81])
   (.cond (.t 51)
    .skip
    (.exit 4)))
  (.seq
   (.block 5
    (.seq
     (.reg [0, 1, 2, 3, 4, 5, 6, 7, 8, 9, 10, 11, 20] [⟨some 54, .faddr 0, [.t 2], none⟩,
       ⟨some 55, .load none false, [.t 54], none⟩,
       ⟨some 56, .move, [.t 5], none⟩,
       ⟨some 57, .move, [.t 9], none⟩,
       ⟨some 58, .iaddr 1, [.t 56, .t 57], none⟩,
       ⟨some 59, .load none false, [.t 58], none⟩,
       ⟨some 60, .iaddr 1, [.t 55, .t 59], none⟩,
       ⟨some 61, .load none false, [.t 60], none⟩,
       ⟨some 62, .move, [.t 11], none⟩,
       ⟨some 63, .iaddr 2, [.t 61, .t 62], none⟩,
       ⟨some 64, .load (some 2) false, [.t 63], none⟩,
       ⟨some 12, .alloc [.i 0, .i 0], [], none⟩,
       ⟨none, .chk (.faddr 0), [.t 54, .t 2], none⟩,
       ⟨none, .chk (.load none false), [.t 55, .t 54], none⟩,
       ⟨none, .chk (.iaddr 1), [.t 58, .t 56, .t 57], none⟩,
       ⟨none, .chk (.load none false), [.t 59, .t 58], none⟩,
       ⟨none, .chk (.iaddr 1), [.t 60, .t 55, .t 59], none⟩,
       ⟨none, .chk (.load none false), [.t 61, .t 60], none⟩,
       ⟨none, .chk (.iaddr 2), [.t 63, .t 61, .t 62], none⟩,
       ⟨none, .chk (.load (some 2) false), [.t 64, .t 63], none⟩,
       ⟨none, .store 2 true, [.t 12, .t 64], none⟩] [2, 4, 5, 6, 8, 9, 10, 11, 12] [2, 4, 8, 12, 15, 19, 40, 75, 81])
     (.reg [0, 1, 2, 3, 4, 5, 6, 7, 8, 9, 10, 11] [⟨some 65, .move, [.t 10], none⟩,
       ⟨some 66, .faddr 0, [.t 12], none⟩,
       ⟨some 67, .load none false, [.t 66], none⟩,
       ⟨some 68, .move, [.t 6], none⟩,
       ⟨some 69, .faddr 1, [.t 12], none⟩,
       ⟨some 70, .load none false, [.t 69], none⟩,
       ⟨some 71, .iaddr 1, [.t 68, .t 70], none⟩,
       ⟨some 72, .load none false, [.t 71], none⟩,
       ⟨some 73, .build [.i 0, .i 0] [(0, 1), (1, 1)], [.t 67, .t 72], none⟩,
       ⟨some 74, .bslice 2 true, [.t 73], none⟩,
       ⟨some 75, .append 2 true, [.t 65, .t 74], none⟩,
       ⟨some 10, .move, [.t 75], none⟩] [2, 4, 5, 6, 8, 9, 10, 11] [2, 4, 8, 15, 19, 40, 75, 81])))
   (.reg [] [⟨some 52, .move, [.t 11], none⟩,
     ⟨some 53, .bin .add, [.t 52, .k (.i 1)], none⟩,
     ⟨some 11, .move, [.t 53], none⟩] [2, 4, 5, 6, 8, 9, 10, 11] [2, 4, 8, 15, 19, 40, 75, 81])))
def c138l1 : AC := b138l1
theorem r138l1 (call lp s) : run call lp c138l1 s = run call lp b138l1 s := rfl
def b138l2 : AC :=
 (.seq
  (.seq
   (.reg [] [⟨some 34, .move, [.t 9], none⟩,
     ⟨some 35, .move, [.t 5], none⟩,
     ⟨some 36, .len, [.t 35], none⟩,
     ⟨some 37, .bin .lt, [.t 34, .t 36], none⟩] [2, 4, 5, 6, 8, 9, 37] [2, 4, 8, 15, 19, 81])
   (.cond (.t 37)
    .skip
    (.exit 2)))
  (.seq
   (.block 3
    (.seq
     (.reg [] [⟨some 40, .bslice 2 true, [], none⟩,
       ⟨some 10, .move, [.t 40], none⟩] [2, 4, 5, 6, 8, 9, 10] [2, 4, 8, 15, 19, 40, 75, 81])
     (.seq
      (.seq
       (.reg [] [⟨some 11, .move, [.k (.i 0)], none⟩] [2, 4, 5, 6, 8, 9, 10, 11] [2, 4, 8, 15, 19, 40, 75, 81])
       (.block 4
        (.loop [2, 4, 5, 6, 8, 9, 10, 11] [2, 4, 8, 15, 19, 40, 75, 81] c138l1)))
      (.reg [0, 1, 2, 3, 6, 9, 10, 11] [⟨some 76, .faddr 0, [.t 8], none⟩,
        ⟨some 77, .load none false, [.t 76], none⟩,
        ⟨some 78, .move, [.t 10], none⟩,
        ⟨some 79, .call [] false, [.f 90, .t 78], none⟩,
        ⟨none, .chk (.faddr 0), [.t 76, .t 8], none⟩,
        ⟨none, .chk (.load none false), [.t 77, .t 76], none⟩,
        ⟨some 80, .bslice 1 true, [.t 79], none⟩,
        ⟨none, .chk (.faddr 0), [.t 76, .t 8], none⟩,
        ⟨none, .chk (.load none false), [.t 77, .t 76], none⟩,
        ⟨some 81, .append 1 true, [.t 77, .t 80], none⟩,
        ⟨some 82, .faddr 0, [.t 8], none⟩,
        ⟨none, .store 1 true, [.t 82, .t 81], none⟩] [2, 4, 5, 6, 8, 9] [2, 4, 8, 15, 19, 81]))))
   (.reg [] [⟨some 38, .move, [.t 9], none⟩,
     ⟨some 39, .bin .add, [.t 38, .k (.i 1)], none⟩,
     ⟨some 9, .move, [.t 39], none⟩] [2, 4, 5, 6, 8, 9] [2, 4, 8, 15, 19, 81])))
def c138l2 : AC := b138l2
theorem r138l2 (call lp s) : run call lp c138l2 s = run call lp b138l2 s := rfl
/-- spec.l3Part -/
def c138 : AC :=
 (.seq
  (.reg [] [⟨some 2, .box, [.t 0], none⟩,
    ⟨some 4, .alloc [.nils], [], none⟩] [1, 2, 4] [2, 4, 81])
  (.seq
   (.reg [] [⟨some 13, .load (some 1) false, [.t 2], none⟩,
     ⟨some 14, .move, [.t 1], none⟩,
     ⟨some 15, .call [] false, [.f 161, .t 13, .t 14], none⟩,
     ⟨some 5, .move, [.t 15], none⟩] [2, 4, 5] [2, 4, 15, 81])
   (.seq
    (.reg [] [⟨some 16, .faddr 0, [.t 2], none⟩,
      ⟨some 17, .load none false, [.t 16], none⟩,
      ⟨some 18, .len, [.t 17], none⟩,
      ⟨some 19, .mkslice 1 (.i 0), [.t 18, .t 18], none⟩,
      ⟨some 6, .move, [.t 19], none⟩] [2, 4, 5, 6] [2, 4, 15, 19, 81])
    (.seq
     (.seq
      (.reg [] [⟨some 7, .move, [.k (.i 0)], none⟩] [2, 4, 5, 6, 7] [2, 4, 15, 19, 81])
      (.block 0
       (.loop [2, 4, 5, 6, 7] [2, 4, 15, 19, 81] c138l0)))
     (.seq
      (.reg [] [⟨some 33, .build [.nils] [], [], none⟩,
        ⟨some 8, .alloc [.nils], [], none⟩,
        ⟨none, .store 1 true, [.t 8, .t 33], none⟩] [2, 4, 5, 6, 8] [2, 4, 8, 15, 19, 81])
      (.seq
       (.seq
        (.reg [] [⟨some 9, .move, [.k (.i 0)], none⟩] [2, 4, 5, 6, 8, 9] [2, 4, 8, 15, 19, 81])
        (.block 2
         (.loop [2, 4, 5, 6, 8, 9] [2, 4, 8, 15, 19, 81] c138l2)))
       (.seq
        (.reg [] [⟨some 83, .load (some 1) false, [.t 8], none⟩,
          ⟨none, .store 1 true, [.t 4, .t 83], none⟩] [4] [4, 81])
        .ret)))))))
def a138 : AF := ⟨c138, [.cell 4 (some 1)]⟩
/-- spec.l12Made -/
def c84 : AC :=
 (.seq
  (.reg [] [⟨some 1, .box, [.t 0], none⟩,
    ⟨some 2, .alloc [.nils], [], none⟩,
    ⟨some 3, .move, [.k (.b false)], none⟩] [1, 2] [1, 2, 6])
  (.seq
   (.reg [] [⟨some 5, .load (some 1) false, [.t 1], none⟩,
     ⟨some 6, .call [] false, [.f 138, .t 5, .k (.i 0)], none⟩,
     ⟨some 4, .alloc [.nils], [], none⟩,
     ⟨none, .store 1 true, [.t 4, .t 6], none⟩] [2, 4] [2, 4, 6])
   (.seq
    (.seq
     (.reg [] [⟨some 7, .faddr 0, [.t 4], none⟩,
       ⟨some 8, .load none false, [.t 7], none⟩,
       ⟨some 9, .len, [.t 8], none⟩,
       ⟨some 10, .bin .gt, [.t 9, .k (.i 60)], none⟩] [2, 4, 10] [2, 4, 6])
     (.cond (.t 10)
      (.seq
       (.reg [] [⟨some 11, .build [.nils] [], [], none⟩,
         ⟨none, .store 1 true, [.t 2, .t 11], none⟩,
         ⟨some 3, .move, [.k (.b false)], none⟩] [2, 3] [2, 6])
       .ret)
      .skip))
    (.seq
     (.reg [] [⟨some 12, .load (some 1) false, [.t 4], none⟩,
       ⟨none, .store 1 true, [.t 2, .t 12], none⟩,
       ⟨some 3, .move, [.k (.b true)], none⟩] [2, 3] [2, 6])
     .ret))))
def a84 : AF := ⟨c84, [.cell 2 (some 1), .tmp 3]⟩
/-- spec.GraphAct -/
def c33 : AC :=
 (.seq
  (.reg [] [⟨some 3, .box, [.t 1], none⟩,
    ⟨some 4, .alloc [.nils], [], none⟩,
    ⟨some 5, .move, [.k (.b false)], none⟩] [0, 3, 4] [3, 4, 18, 21, 22])
  (.seq
   (.seq
    (.reg [] [⟨some 6, .move, [.t 0], none⟩,
      ⟨some 7, .call [] false, [.f 83, .t 6], none⟩,
      ⟨some 8, .not, [.t 7], none⟩,
      ⟨some 9, .move, [.t 8], none⟩,
      ⟨some 10, .load (some 1) false, [.t 3], some (9, false)⟩,
      ⟨some 11, .call [] false, [.f 59, .t 10], some (9, false)⟩,
      ⟨some 12, .not, [.t 11], some (9, false)⟩,
      ⟨some 13, .pick, [.t 9, .k (.b true), .t 12], none⟩] [0, 3, 4, 13] [3, 4, 18, 21, 22])
    (.cond (.t 13)
     (.seq
      (.reg [] [⟨some 14, .build [.nils] [], [], none⟩,
        ⟨none, .store 1 true, [.t 4, .t 14], none⟩,
        ⟨some 5, .move, [.k (.b false)], none⟩] [4, 5] [4, 18, 21, 22])
      .ret)
     .skip))
   (.seq
    (.reg [] [⟨some 15, .move, [.t 0], none⟩,
      ⟨some 16, .build [.i 0, .i 0] [(0, 1), (1, 1)], [.t 15, .k (.i 1)], none⟩,
      ⟨some 17, .bslice 2 true, [.t 16], none⟩,
      ⟨some 18, .bslice 1 true, [.t 17], none⟩,
      ⟨some 19, .build [.nils] [(0, 1)], [.t 18], none⟩,
      ⟨some 20, .load (some 1) false, [.t 3], none⟩,
      ⟨some 21, .call [] true, [.f 85, .t 19, .t 20], none⟩,
      ⟨some 22, .call [] false, [.f 84, .t 21], none⟩,
      ⟨some 23, .ext 0, [.t 22], none⟩,
      ⟨some 24, .ext 1, [.t 22], none⟩,
      ⟨none, .store 1 true, [.t 4, .t 23], none⟩,
      ⟨some 5, .move, [.t 24], none⟩] [4, 5] [4, 18, 21, 22])
    .ret)))
def a33 : AF := ⟨c33, [.cell 4 (some 1), .tmp 5]⟩
/-- impl.ActOk -/
def c86 : AC :=
 (.seq
  (.reg [] [⟨some 2, .move, [.k (.b false)], none⟩] [0] [])
  (.seq
   (.reg [] [⟨some 3, .move, [.t 0], none⟩,
     ⟨some 4, .bin .ge, [.t 3, .k (.i (-4))], none⟩,
     ⟨some 5, .move, [.t 4], none⟩,
     ⟨some 6, .move, [.t 0], some (5, true)⟩,
     ⟨some 7, .bin .le, [.t 6, .k (.i 4)], some (5, true)⟩,
     ⟨some 8, .pick, [.t 5, .t 7, .k (.b false)], none⟩,
     ⟨some 2, .move, [.t 8], none⟩] [2] [])
   .ret))
def a86 : AF := ⟨c86, [.tmp 2]⟩
/-- cmp.isNaN[int] -/
def c169 : AC :=
 (.seq
  (.reg [] [⟨some 2, .move, [.k (.b false)], none⟩] [0] [])
  (.seq
   (.reg [] [⟨some 3, .move, [.t 0], none⟩,
     ⟨some 4, .move, [.t 0], none⟩,
     ⟨some 5, .bin .ne, [.t 3, .t 4], none⟩,
     ⟨some 2, .move, [.t 5], none⟩] [2] [])
   .ret))
def a169 : AF := ⟨c169, [.tmp 2]⟩
/-- cmp.Compare[int] -/
def c151 : AC :=
 (.seq
  (.reg [] [⟨some 4, .move, [.k (.i 0)], none⟩] [0, 1] [])
  (.seq
   (.reg [] [⟨some 7, .move, [.t 0], none⟩,
     ⟨some 8, .call [] false, [.f 169, .t 7], none⟩,
     ⟨some 5, .move, [.t 8], none⟩] [0, 1, 5] [])
   (.seq
    (.reg [] [⟨some 9, .move, [.t 1], none⟩,
      ⟨some 10, .call [] false, [.f 169, .t 9], none⟩,
      ⟨some 6, .move, [.t 10], none⟩] [0, 1, 5, 6] [])
    (.seq
     (.seq
      (.reg [] [⟨some 11, .move, [.t 5], none⟩] [0, 1, 6, 11] [])
      (.cond (.t 11)
       (.seq
        (.seq
         (.reg [] [⟨some 12, .move, [.t 6], none⟩] [12] [])
         (.cond (.t 12)
          (.seq
           (.reg [] [⟨some 4, .move, [.k (.i 0)], none⟩] [4] [])
           .ret)
          .skip))
        (.seq
         (.reg [] [⟨some 4, .move, [.k (.i (-1))], none⟩] [4] [])
         .ret))
       .skip))
     (.seq
      (.seq
       (.reg [] [⟨some 13, .move, [.t 6], none⟩] [0, 1, 13] [])
       (.cond (.t 13)
        (.seq
         (.reg [] [⟨some 4, .move, [.k (.i 1)], none⟩] [4] [])
         .ret)
        .skip))
      (.seq
       (.seq
        (.reg [] [⟨some 14, .move, [.t 0], none⟩,
          ⟨some 15, .move, [.t 1], none⟩,
          ⟨some 16, .bin .lt, [.t 14, .t 15], none⟩] [0, 1, 16] [])
        (.cond (.t 16)
         (.seq
          (.reg [] [⟨some 4, .move, [.k (.i (-1))], none⟩] [4] [])
          .ret)
         .skip))
       (.seq
        (.seq
         (.reg [] [⟨some 17, .move, [.t 0], none⟩,
           ⟨some 18, .move, [.t 1], none⟩,
           ⟨some 19, .bin .gt, [.t 17, .t 18], none⟩] [19] [])
         (.cond (.t 19)
          (.seq
           (.reg [] [⟨some 4, .move, [.k (.i 1)], none⟩] [4] [])
           .ret)
          .skip))
        (.seq
         (.reg [] [⟨some 4, .move, [.k (.i 0)], none⟩] [4] [])
         .ret))))))))
def a151 : AF := ⟨c151, [.tmp 4]⟩
/-- impl.byMove -/
def c121 : AC :=
 (.seq
  (.reg [] [⟨some 2, .box, [.t 0], none⟩,
    ⟨some 3, .box, [.t 1], none⟩,
    ⟨some 4, .move, [.k (.i 0)], none⟩] [2, 3] [2, 3])
  (.seq
   (.seq
    (.reg [] [⟨some 6, .faddr 0, [.t 2], none⟩,
      ⟨some 7, .load none false, [.t 6], none⟩,
      ⟨some 8, .faddr 0, [.t 3], none⟩,
      ⟨some 9, .load none false, [.t 8], none⟩,
      ⟨some 10, .call [] false, [.f 151, .t 7, .t 9], none⟩,
      ⟨some 5, .move, [.t 10], none⟩] [2, 3, 5] [2, 3])
    (.seq
     (.reg [] [⟨some 11, .move, [.t 5], none⟩,
       ⟨some 12, .bin .ne, [.t 11, .k (.i 0)], none⟩] [2, 3, 5, 12] [2, 3])
     (.cond (.t 12)
      (.seq
       (.reg [] [⟨some 13, .move, [.t 5], none⟩,
         ⟨some 4, .move, [.t 13], none⟩] [4] [])
       .ret)
      .skip)))
   (.seq
    (.reg [] [⟨some 14, .faddr 1, [.t 2], none⟩,
      ⟨some 15, .load none false, [.t 14], none⟩,
      ⟨some 16, .faddr 1, [.t 3], none⟩,
      ⟨some 17, .load none false, [.t 16], none⟩,
      ⟨some 18, .call [] false, [.f 151, .t 15, .t 17], none⟩,
      ⟨some 4, .move, [.t 18], none⟩] [4] [])
    .ret)))
def a121 : AF := ⟨c121, [.tmp 4]⟩
def b64l0 : AC :=
 (.seq
  (.reg [] [⟨some 27, .bin .lt, [.t 26, .t 25], none⟩] [1, 4, 18, 19, 20, 24, 25, 26, 27] [1])
  (.seq
   (.cond (.t 27)
    .skip
    (.exit 2))
   (.seq
    (.block 3
     (.seq
      (.reg [] [⟨some 28, .move, [.t 26], none⟩,
        ⟨some 29, .iaddr 2, [.t 24, .t 26], none⟩,
        ⟨some 30, .load (some 2) false, [.t 29], none⟩,
        ⟨some 6, .alloc [.i 0, .i 0], [], none⟩,
        ⟨some 5, .move, [.t 28], none⟩,
        ⟨none, .store 2 true, [.t 6, .t 30], none⟩] [1, 4, 5, 6, 18, 19, 20, 24, 25, 26] [1, 6])
      (.seq
       (.reg [0, 1, 2, 3, 4, 5, 6, 7, 8, 9, 10, 11, 12, 13, 14, 15, 16, 17, 18, 19, 20, 21, 22, 23, 24, 25, 26, 27, 28, 29, 30] [⟨some 31, .faddr 0, [.t 6], none⟩,
         ⟨some 32, .load none false, [.t 31], none⟩,
         ⟨some 33, .call [] false, [.f 86, .t 32], none⟩,
         ⟨some 34, .not, [.t 33], none⟩,
         ⟨some 35, .move, [.t 34], none⟩,
         ⟨some 36, .faddr 1, [.t 6], some (35, false)⟩,
         ⟨some 37, .load none false, [.t 36], some (35, false)⟩,
         ⟨some 38, .bin .lt, [.t 37, .k (.i 0)], some (35, false)⟩,
         ⟨some 39, .pick, [.t 35, .k (.b true), .t 38], none⟩,
         ⟨some 40, .move, [.t 39], none⟩,
         ⟨some 41, .faddr 1, [.t 6], some (40, false)⟩,
         ⟨some 42, .load none false, [.t 41], some (40, false)⟩,
         ⟨some 43, .faddr 0, [.t 1], some (40, false)⟩,
         ⟨some 44, .load none false, [.t 43], some (40, false)⟩,
         ⟨some 45, .len, [.t 44], some (40, false)⟩,
         ⟨some 46, .bin .ge, [.t 42, .t 45], some (40, false)⟩,
         ⟨some 47, .pick, [.t 40, .k (.b true), .t 46], none⟩,
         ⟨some 48, .move, [.t 47], none⟩,
         ⟨some 49, .move, [.t 5], some (48, false)⟩,
         ⟨some 50, .bin .gt, [.t 49, .k (.i 0)], some (48, false)⟩,
         ⟨some 51, .move, [.t 50], some (48, false)⟩,
         ⟨some 52, .move, [.t 4], some (51, true)⟩,
         ⟨some 53, .move, [.t 5], some (51, true)⟩,
         ⟨some 54, .bin .sub, [.t 53, .k (.i 1)], some (51, true)⟩,
         ⟨some 55, .iaddr 2, [.t 52, .t 54], some (51, true)⟩,
         ⟨some 56, .load (some 2) false, [.t 55], some (51, true)⟩,
         ⟨some 57, .load (some 2) false, [.t 6], some (51, true)⟩,
         ⟨some 58, .call [] false, [.f 121, .t 56, .t 57], some (51, true)⟩,
         ⟨some 59, .bin .ge, [.t 58, .k (.i 0)], some (51, true)⟩,
         ⟨some 60, .pick, [.t 51, .t 59, .k (.b false)], some (48, false)⟩,
         ⟨some 61, .pick, [.t 48, .k (.b true), .t 60], none⟩] [1, 4, 18, 19, 20, 24, 25, 26, 61] [1])
       (.cond (.t 61)
        (.seq
         (.reg [] [⟨some 2, .move, [.k (.b false)], none⟩] [2] [])
         .ret)
        .skip))))
    (.reg [] [⟨some 62, .bin .add, [.t 26, .k (.i 1)], none⟩,
      ⟨some 26, .move, [.t 62], none⟩] [1, 4, 18, 19, 20, 24, 25, 26] [1]))))
def c64l0 : AC := b64l0
theorem r64l0 (call lp s) : run call lp c64l0 s = run call lp b64l0 s := rfl
def b64l1 : AC :=
 (.seq
  (.reg [] [⟨some 21, .bin .lt, [.t 20, .t 19], none⟩] [1, 18, 19, 20, 21] [1])
  (.seq
   (.cond (.t 21)
    .skip
    (.exit 0))
   (.seq
    (.block 1
     (.seq
      (.reg [] [⟨some 22, .iaddr 1, [.t 18, .t 20], none⟩,
        ⟨some 23, .load none false, [.t 22], none⟩,
        ⟨some 4, .move, [.t 23], none⟩] [1, 4, 18, 19, 20] [1])
      (.seq
       (.reg [] [⟨some 24, .move, [.t 4], none⟩,
         ⟨some 25, .len, [.t 24], none⟩,
         ⟨some 26, .move, [.k (.i 0)], none⟩] [1, 4, 18, 19, 20, 24, 25, 26] [1])
       (.block 2
        (.loop [1, 4, 18, 19, 20, 24, 25, 26] [1] c64l0)))))
    (.reg [] [⟨some 63, .bin .add, [.t 20, .k (.i 1)], none⟩,
      ⟨some 20, .move, [.t 63], none⟩] [1, 18, 19, 20] [1]))))
def c64l1 : AC := b64l1
theorem r64l1 (call lp s) : run call lp c64l1 s = run call lp b64l1 s := rfl
/-- impl.GraphOk -/
def c64 : AC :=
 (.seq
  (.reg [] [⟨some 1, .box, [.t 0], none⟩,
    ⟨some 2, .move, [.k (.b false)], none⟩] [1] [1])
  (.seq
   (.seq
    (.reg [] [⟨some 7, .faddr 0, [.t 1], none⟩,
      ⟨some 8, .load none false, [.t 7], none⟩,
      ⟨some 9, .len, [.t 8], none⟩,
      ⟨some 10, .bin .lt, [.t 9, .k (.i 1)], none⟩,
      ⟨some 11, .move, [.t 10], none⟩,
      ⟨some 12, .faddr 0, [.t 1], some (11, false)⟩,
      ⟨some 13, .load none false, [.t 12], some (11, false)⟩,
      ⟨some 14, .len, [.t 13], some (11, false)⟩,
      ⟨some 15, .bin .gt, [.t 14, .k (.i 60)], some (11, false)⟩,
      ⟨some 16, .pick, [.t 11, .k (.b true), .t 15], none⟩] [1, 16] [1])
    (.cond (.t 16)
     (.seq
      (.reg [] [⟨some 2, .move, [.k (.b false)], none⟩] [2] [])
      .ret)
     .skip))
   (.seq
    (.seq
     (.reg [] [⟨some 17, .faddr 0, [.t 1], none⟩,
       ⟨some 18, .load none false, [.t 17], none⟩,
       ⟨some 19, .len, [.t 18], none⟩,
       ⟨some 20, .move, [.k (.i 0)], none⟩] [1, 18, 19, 20] [1])
     (.block 0
      (.loop [1, 18, 19, 20] [1] c64l1)))
    (.seq
     (.reg [] [⟨some 2, .move, [.k (.b true)], none⟩] [2] [])
     .ret))))
def a64 : AF := ⟨c64, [.tmp 2]⟩
def b87l0 : AC :=
 (.seq
  (.reg [] [⟨some 12, .bin .lt, [.t 11, .t 10], none⟩] [1, 5, 9, 10, 11, 12] [8, 24])
  (.seq
   (.cond (.t 12)
    .skip
    (.exit 0))
   (.seq
    (.block 1
     (.seq
      (.reg [] [⟨some 13, .iaddr 2, [.t 9, .t 11], none⟩,
        ⟨some 14, .load (some 2) false, [.t 13], none⟩,
        ⟨some 7, .alloc [.i 0, .i 0], [], none⟩,
        ⟨none, .store 2 true, [.t 7, .t 14], none⟩] [1, 5, 7, 9, 10, 11] [7, 8, 24])
      (.reg [] [⟨some 15, .move, [.t 5], none⟩,
        ⟨some 16, .faddr 0, [.t 7], none⟩,
        ⟨some 17, .load none false, [.t 16], none⟩,
        ⟨some 18, .faddr 1, [.t 7], none⟩,
        ⟨some 19, .load none false, [.t 18], none⟩,
        ⟨some 20, .move, [.t 1], none⟩,
        ⟨some 21, .bin .add, [.t 19, .t 20], none⟩,
        ⟨some 22, .build [.i 0, .i 0] [(0, 1), (1, 1)], [.t 17, .t 21], none⟩,
        ⟨some 23, .bslice 2 true, [.t 22], none⟩,
        ⟨some 24, .append 2 true, [.t 15, .t 23], none⟩,
        ⟨some 5, .move, [.t 24], none⟩] [1, 5, 9, 10, 11] [8, 24])))
    (.reg [] [⟨some 25, .bin .add, [.t 11, .k (.i 1)], none⟩,
      ⟨some 11, .move, [.t 25], none⟩] [1, 5, 9, 10, 11] [8, 24]))))
def c87l0 : AC := b87l0
theorem r87l0 (call lp s) : run call lp c87l0 s = run call lp b87l0 s := rfl
/-- impl.shifted -/
def c87 : AC :=
 (.seq
  (.reg [] [⟨some 4, .move, [.k (.nils)], none⟩] [0, 1] [])
  (.seq
   (.reg [] [⟨some 8, .bslice 2 true, [], none⟩,
     ⟨some 5, .move, [.t 8], none⟩] [0, 1, 5] [8, 24])
   (.seq
    (.seq
     (.reg [] [⟨some 9, .move, [.t 0], none⟩,
       ⟨some 10, .len, [.t 9], none⟩,
       ⟨some 11, .move, [.k (.i 0)], none⟩] [1, 5, 9, 10, 11] [8, 24])
     (.block 0
      (.loop [1, 5, 9, 10, 11] [8, 24] c87l0)))
    (.seq
     (.reg [] [⟨some 26, .move, [.t 5], none⟩,
       ⟨some 4, .move, [.t 26], none⟩] [4] [8, 24])
     .ret))))
def a87 : AF := ⟨c87, [.tmp 4]⟩
def b139l0 : AC :=
 (.seq
  (.reg [] [⟨some 31, .bin .lt, [.t 30, .t 29], none⟩] [2, 5, 6, 7, 28, 29, 30, 31] [2, 11, 12, 46])
  (.seq
   (.cond (.t 31)
    .skip
    (.exit 2))
   (.seq
    (.block 3
     (.seq
      (.reg [] [⟨some 32, .iaddr 2, [.t 28, .t 30], none⟩,
        ⟨some 33, .load (some 2) false, [.t 32], none⟩,
        ⟨some 9, .alloc [.i 0, .i 0], [], none⟩,
        ⟨none, .store 2 true, [.t 9, .t 33], none⟩] [2, 5, 6, 7, 9, 28, 29, 30] [2, 9, 11, 12, 46])
      (.seq
       (.reg [] [⟨some 34, .move, [.t 6], none⟩,
         ⟨some 35, .faddr 1, [.t 9], none⟩,
         ⟨some 36, .load none false, [.t 35], none⟩,
         ⟨some 37, .lookup false (.b false) false, [.t 34, .t 36], none⟩,
         ⟨some 38, .not, [.t 37], none⟩] [2, 5, 6, 7, 9, 28, 29, 30, 38] [2, 9, 11, 12, 46])
       (.cond (.t 38)
        (.seq
         (.reg [] [⟨some 39, .move, [.t 6], none⟩,
           ⟨some 40, .faddr 1, [.t 9], none⟩,
           ⟨some 41, .load none false, [.t 40], none⟩,
           ⟨none, .mapset false, [.t 39, .t 41, .k (.b true)], none⟩] [2, 5, 6, 7, 9, 28, 29, 30] [2, 9, 11, 12, 46])
         (.reg [] [⟨some 42, .move, [.t 5], none⟩,
           ⟨some 43, .faddr 1, [.t 9], none⟩,
           ⟨some 44, .load none false, [.t 43], none⟩,
           ⟨some 45, .bslice 1 true, [.t 44], none⟩,
           ⟨some 46, .append 1 true, [.t 42, .t 45], none⟩,
           ⟨some 5, .move, [.t 46], none⟩] [2, 5, 6, 7, 28, 29, 30] [2, 11, 12, 46]))
        .skip))))
    (.reg [] [⟨some 47, .bin .add, [.t 30, .k (.i 1)], none⟩,
      ⟨some 30, .move, [.t 47], none⟩] [2, 5, 6, 7, 28, 29, 30] [2, 11, 12, 46]))))
def c139l0 : AC := b139l0
theorem r139l0 (call lp s) : run call lp c139l0 s = run call lp b139l0 s := rfl
def b139l1 : AC :=
 (.seq
  (.seq
   (.reg [] [⟨some 15, .move, [.t 7], none⟩,
     ⟨some 16, .move, [.t 5], none⟩,
     ⟨some 17, .len, [.t 16], none⟩,
     ⟨some 18, .bin .lt, [.t 15, .t 17], none⟩] [2, 5, 6, 7, 18] [2, 11, 12, 46])
   (.cond (.t 18)
    .skip
    (.exit 0)))
  (.seq
   (.block 1
    (.seq
     (.reg [0, 1, 2, 3, 4, 5, 6, 7, 8, 9] [⟨some 21, .faddr 0, [.t 2], none⟩,
       ⟨some 22, .load none false, [.t 21], none⟩,
       ⟨some 23, .move, [.t 5], none⟩,
       ⟨some 24, .move, [.t 7], none⟩,
       ⟨some 25, .iaddr 1, [.t 23, .t 24], none⟩,
       ⟨some 26, .load none false, [.t 25], none⟩,
       ⟨some 27, .iaddr 1, [.t 22, .t 26], none⟩,
       ⟨some 28, .load none false, [.t 27], none⟩,
       ⟨some 29, .len, [.t 28], none⟩,
       ⟨some 30, .move, [.k (.i 0)], none⟩] [2, 5, 6, 7, 28, 29, 30] [2, 11, 12, 46])
     (.block 2
      (.loop [2, 5, 6, 7, 28, 29, 30] [2, 11, 12, 46] c139l0))))
   (.reg [] [⟨some 19, .move, [.t 7], none⟩,
     ⟨some 20, .bin .add, [.t 19, .k (.i 1)], none⟩,
     ⟨some 7, .move, [.t 20], none⟩] [2, 5, 6, 7] [2, 11, 12, 46])))
def c139l1 : AC := b139l1
theorem r139l1 (call lp s) : run call lp c139l1 s = run call lp b139l1 s := rfl
/-- impl.reached -/
def c139 : AC :=
 (.seq
  (.reg [] [⟨some 2, .box, [.t 0], none⟩,
    ⟨some 4, .move, [.k (.nils)], none⟩] [1, 2] [2])
  (.seq
   (.reg [] [⟨some 10, .move, [.t 1], none⟩,
     ⟨some 11, .bslice 1 true, [.t 10], none⟩,
     ⟨some 12, .mkmap false, [], none⟩,
     ⟨some 13, .move, [.t 1], none⟩,
     ⟨none, .mapset false, [.t 12, .t 13, .k (.b true)], none⟩,
     ⟨some 14, .move, [.t 12], none⟩,
     ⟨some 5, .move, [.t 11], none⟩,
     ⟨some 6, .move, [.t 14], none⟩] [2, 5, 6] [2, 11, 12, 46])
   (.seq
    (.seq
     (.reg [] [⟨some 7, .move, [.k (.i 0)], none⟩] [2, 5, 6, 7] [2, 11, 12, 46])
     (.block 0
      (.loop [2, 5, 6, 7] [2, 11, 12, 46] c139l1)))
    (.seq
     (.reg [] [⟨some 48, .move, [.t 5], none⟩,
       ⟨some 4, .move, [.t 48], none⟩] [4] [11, 46])
     .ret))))
def a139 : AF := ⟨c139, [.tmp 4]⟩
def b142l0 : AC :=
 (.seq
  (.seq
   (.reg [] [⟨some 29, .move, [.t 5], none⟩,
     ⟨some 30, .move, [.t 4], none⟩,
     ⟨some 31, .len, [.t 30], none⟩,
     ⟨some 32, .bin .lt, [.t 29, .t 31], none⟩] [0, 3, 4, 5, 32] [28])
   (.cond (.t 32)
    .skip
    (.exit 2)))
  (.seq
   (.block 3
    (.seq
     (.reg [0, 1, 2, 3, 4, 5, 6, 7, 8, 9] [⟨some 35, .move, [.t 4], none⟩,
       ⟨some 36, .move, [.t 5], none⟩,
       ⟨some 37, .iaddr 2, [.t 35, .t 36], none⟩,
       ⟨some 38, .load (some 2) false, [.t 37], none⟩,
       ⟨some 39, .move, [.t 4], none⟩,
       ⟨some 40, .move, [.t 5], none⟩,
       ⟨some 41, .bin .sub, [.t 40, .k (.i 1)], none⟩,
       ⟨some 42, .iaddr 2, [.t 39, .t 41], none⟩,
       ⟨some 43, .load (some 2) false, [.t 42], none⟩,
       ⟨some 44, .meq true, [.t 38, .t 43], none⟩] [0, 3, 4, 5, 44] [28])
     (.cond (.t 44)
      (.seq
       (.reg [] [⟨some 45, .move, [.t 0], none⟩,
         ⟨some 46, .move, [.t 3], none⟩,
         ⟨some 47, .move, [.t 4], none⟩,
         ⟨some 48, .move, [.t 5], none⟩,
         ⟨some 49, .iaddr 2, [.t 47, .t 48], none⟩,
         ⟨some 50, .load (some 2) false, [.t 49], none⟩,
         ⟨some 51, .iaddr 2, [.t 45, .t 46], none⟩,
         ⟨none, .store 2 true, [.t 51, .t 50], none⟩] [0, 3, 4, 5] [28])
       (.reg [] [⟨some 52, .move, [.t 3], none⟩,
         ⟨some 53, .bin .add, [.t 52, .k (.i 1)], none⟩,
         ⟨some 3, .move, [.t 53], none⟩] [0, 3, 4, 5] [28]))
      .skip)))
   (.reg [] [⟨some 33, .move, [.t 5], none⟩,
     ⟨some 34, .bin .add, [.t 33, .k (.i 1)], none⟩,
     ⟨some 5, .move, [.t 34], none⟩] [0, 3, 4, 5] [28])))
def c142l0 : AC := b142l0
theorem r142l0 (call lp s) : run call lp c142l0 s = run call lp b142l0 s := rfl
def b142l1 : AC :=
 (.seq
  (.seq
   (.reg [] [⟨some 10, .move, [.t 3], none⟩,
     ⟨some 11, .move, [.t 0], none⟩,
     ⟨some 12, .len, [.t 11], none⟩,
     ⟨some 13, .bin .lt, [.t 10, .t 12], none⟩] [0, 3, 13] [])
   (.cond (.t 13)
    .skip
    (.exit 0)))
  (.seq
   (.block 1
    (.seq
     (.reg [0, 1, 2, 3, 4, 5, 6, 7, 8, 9] [⟨some 16, .move, [.t 0], none⟩,
       ⟨some 17, .move, [.t 3], none⟩,
       ⟨some 18, .iaddr 2, [.t 16, .t 17], none⟩,
       ⟨some 19, .load (some 2) false, [.t 18], none⟩,
       ⟨some 20, .move, [.t 0], none⟩,
       ⟨some 21, .move, [.t 3], none⟩,
       ⟨some 22, .bin .sub, [.t 21, .k (.i 1)], none⟩,
       ⟨some 23, .iaddr 2, [.t 20, .t 22], none⟩,
       ⟨some 24, .load (some 2) false, [.t 23], none⟩,
       ⟨some 25, .meq false, [.t 19, .t 24], none⟩] [0, 3, 25] [])
     (.cond (.t 25)
      (.seq
       (.reg [] [⟨some 26, .move, [.t 0], none⟩,
         ⟨some 27, .move, [.t 3], none⟩,
         ⟨some 28, .slice 2 true false, [.t 26, .t 27], none⟩,
         ⟨some 4, .move, [.t 28], none⟩] [0, 3, 4] [28])
       (.seq
        (.seq
         (.reg [] [⟨some 5, .move, [.k (.i 1)], none⟩] [0, 3, 4, 5] [28])
         (.block 2
          (.loop [0, 3, 4, 5] [28] c142l0)))
        (.seq
         (.reg [] [⟨some 54, .move, [.t 0], none⟩,
           ⟨some 55, .move, [.t 3], none⟩,
           ⟨some 56, .slice 2 true false, [.t 54, .t 55], none⟩,
           ⟨none, .clear 2 (.agg [.i 0, .i 0]), [.t 56], none⟩] [0, 3] [])
         (.seq
          (.reg [] [⟨some 57, .move, [.t 0], none⟩,
            ⟨some 58, .move, [.t 3], none⟩,
            ⟨some 59, .slice 2 false true, [.t 57, .t 58], none⟩,
            ⟨some 2, .move, [.t 59], none⟩] [2] [59])
          .ret))))
      .skip)))
   (.reg [] [⟨some 14, .move, [.t 3], none⟩,
     ⟨some 15, .bin .add, [.t 14, .k (.i 1)], none⟩,
     ⟨some 3, .move, [.t 15], none⟩] [0, 3] [])))
def c142l1 : AC := b142l1
theorem r142l1 (call lp s) : run call lp c142l1 s = run call lp b142l1 s := rfl
/-- impl.Move] -/
def c142 : AC :=
 (.seq
  (.reg [] [⟨some 2, .move, [.k (.nils)], none⟩] [0] [])
  (.seq
   (.seq
    (.reg [] [⟨some 6, .move, [.t 0], none⟩,
      ⟨some 7, .len, [.t 6], none⟩,
      ⟨some 8, .bin .lt, [.t 7, .k (.i 2)], none⟩] [0, 8] [])
    (.cond (.t 8)
     (.seq
      (.reg [] [⟨some 9, .move, [.t 0], none⟩,
        ⟨some 2, .move, [.t 9], none⟩] [2] [59])
      .ret)
     .skip))
   (.seq
    (.seq
     (.reg [] [⟨some 3, .move, [.k (.i 1)], none⟩] [0, 3] [])
     (.block 0
      (.loop [0, 3] [] c142l1)))
    (.seq
     (.reg [] [⟨some 60, .move, [.t 0], none⟩,
       ⟨some 2, .move, [.t 60], none⟩] [2] [59])
     .ret))))
def a142 : AF := ⟨c142, [.tmp 2]⟩
/-- impl.tidy -/
def c91 : AC :=
 (.seq
  (.reg [] [⟨some 2, .move, [.k (.nils)], none⟩] [0] [])
  (.seq
   (.reg [] [⟨some 3, .move, [.t 0], none⟩,
     ⟨some 4, .call [0] false, [.f 141, .t 3, .f 121], none⟩] [0] [])
   (.seq
    (.reg [] [⟨some 5, .move, [.t 0], none⟩,
      ⟨some 6, .call [0] false, [.f 142, .t 5], none⟩,
      ⟨some 2, .move, [.t 6], none⟩] [2] [6])
    .ret)))
def a91 : AF := ⟨c91, [.tmp 2]⟩
def b88l0 : AC :=
 (.seq
  (.reg [] [⟨some 28, .bin .lt, [.t 27, .t 26], none⟩] [0, 4, 6, 7, 25, 26, 27, 28] [4, 19, 24, 69])
  (.seq
   (.cond (.t 28)
    .skip
    (.exit 0))
   (.seq
    (.block 1
     (.seq
      (.reg [] [⟨some 29, .move, [.t 27], none⟩,
        ⟨some 30, .iaddr 1, [.t 25, .t 27], none⟩,
        ⟨some 31, .load none false, [.t 30], none⟩,
        ⟨some 8, .move, [.t 29], none⟩,
        ⟨some 9, .move, [.t 31], none⟩] [0, 4, 6, 7, 8, 9, 25, 26, 27] [4, 19, 24, 69])
      (.reg [] [⟨some 32, .move, [.t 7], none⟩,
        ⟨some 33, .move, [.t 9], none⟩,
        ⟨some 34, .move, [.t 8], none⟩,
        ⟨none, .mapset false, [.t 32, .t 33, .t 34], none⟩] [0, 4, 6, 7, 25, 26, 27] [4, 19, 24, 69])))
    (.reg [] [⟨some 35, .bin .add, [.t 27, .k (.i 1)], none⟩,
      ⟨some 27, .move, [.t 35], none⟩] [0, 4, 6, 7, 25, 26, 27] [4, 19, 24, 69]))))
def c88l0 : AC := b88l0
theorem r88l0 (call lp s) : run call lp c88l0 s = run call lp b88l0 s := rfl
def b88l1 : AC :=
 (.seq
  (.reg [] [⟨some 50, .bin .lt, [.t 49, .t 48], none⟩] [0, 4, 7, 10, 13, 37, 38, 39, 47, 48, 49, 50] [4, 10, 19, 24, 43, 62, 69])
  (.seq
   (.cond (.t 50)
    .skip
    (.exit 4))
   (.seq
    (.block 5
     (.seq
      (.reg [] [⟨some 51, .iaddr 2, [.t 47, .t 49], none⟩,
        ⟨some 52, .load (some 2) false, [.t 51], none⟩,
        ⟨some 15, .alloc [.i 0, .i 0], [], none⟩,
        ⟨none, .store 2 true, [.t 15, .t 52], none⟩] [0, 4, 7, 10, 13, 15, 37, 38, 39, 47, 48, 49] [4, 10, 15, 19, 24, 43, 62, 69])
      (.reg [] [⟨some 53, .move, [.t 13], none⟩,
        ⟨some 54, .faddr 0, [.t 15], none⟩,
        ⟨some 55, .load none false, [.t 54], none⟩,
        ⟨some 56, .move, [.t 7], none⟩,
        ⟨some 57, .faddr 1, [.t 15], none⟩,
        ⟨some 58, .load none false, [.t 57], none⟩,
        ⟨some 59, .lookup false (.i 0) false, [.t 56, .t 58], none⟩,
        ⟨some 60, .build [.i 0, .i 0] [(0, 1), (1, 1)], [.t 55, .t 59], none⟩,
        ⟨some 61, .bslice 2 true, [.t 60], none⟩,
        ⟨some 62, .append 2 true, [.t 53, .t 61], none⟩,
        ⟨some 13, .move, [.t 62], none⟩] [0, 4, 7, 10, 13, 37, 38, 39, 47, 48, 49] [4, 10, 19, 24, 43, 62, 69])))
    (.reg [] [⟨some 63, .bin .add, [.t 49, .k (.i 1)], none⟩,
      ⟨some 49, .move, [.t 63], none⟩] [0, 4, 7, 10, 13, 37, 38, 39, 47, 48, 49] [4, 10, 19, 24, 43, 62, 69]))))
def c88l1 : AC := b88l1
theorem r88l1 (call lp s) : run call lp c88l1 s = run call lp b88l1 s := rfl
def b88l2 : AC :=
 (.seq
  (.reg [] [⟨some 40, .bin .lt, [.t 39, .t 38], none⟩] [0, 4, 7, 10, 37, 38, 39, 40] [4, 10, 19, 24, 69])
  (.seq
   (.cond (.t 40)
    .skip
    (.exit 2))
   (.seq
    (.block 3
     (.seq
      (.reg [] [⟨some 41, .iaddr 1, [.t 37, .t 39], none⟩,
        ⟨some 42, .load none false, [.t 41], none⟩,
        ⟨some 12, .move, [.t 42], none⟩] [0, 4, 7, 10, 12, 37, 38, 39] [4, 10, 19, 24, 69])
      (.seq
       (.reg [] [⟨some 43, .bslice 2 true, [], none⟩,
         ⟨some 13, .move, [.t 43], none⟩] [0, 4, 7, 10, 12, 13, 37, 38, 39] [4, 10, 19, 24, 43, 62, 69])
       (.seq
        (.seq
         (.reg [] [⟨some 44, .move, [.t 0], none⟩,
           ⟨some 45, .move, [.t 12], none⟩,
           ⟨some 46, .iaddr 1, [.t 44, .t 45], none⟩,
           ⟨some 47, .load none false, [.t 46], none⟩,
           ⟨some 48, .len, [.t 47], none⟩,
           ⟨some 49, .move, [.k (.i 0)], none⟩] [0, 4, 7, 10, 13, 37, 38, 39, 47, 48, 49] [4, 10, 19, 24, 43, 62, 69])
         (.block 4
          (.loop [0, 4, 7, 10, 13, 37, 38, 39, 47, 48, 49] [4, 10, 19, 24, 43, 62, 69] c88l1)))
        (.reg [0, 1, 2, 3, 6, 9, 10, 11] [⟨some 64, .faddr 0, [.t 10], none⟩,
          ⟨some 65, .load none false, [.t 64], none⟩,
          ⟨some 66, .move, [.t 13], none⟩,
          ⟨some 67, .call [0] false, [.f 91, .t 66], none⟩,
          ⟨none, .chk (.faddr 0), [.t 64, .t 10], none⟩,
          ⟨none, .chk (.load none false), [.t 65, .t 64], none⟩,
          ⟨some 68, .bslice 1 true, [.t 67], none⟩,
          ⟨none, .chk (.faddr 0), [.t 64, .t 10], none⟩,
          ⟨none, .chk (.load none false), [.t 65, .t 64], none⟩,
          ⟨some 69, .append 1 true, [.t 65, .t 68], none⟩,
          ⟨some 70, .faddr 0, [.t 10], none⟩,
          ⟨none, .store 1 true, [.t 70, .t 69], none⟩] [0, 4, 7, 10, 37, 38, 39] [4, 10, 19, 24, 69])))))
    (.reg [] [⟨some 71, .bin .add, [.t 39, .k (.i 1)], none⟩,
      ⟨some 39, .move, [.t 71], none⟩] [0, 4, 7, 10, 37, 38, 39] [4, 10, 19, 24, 69]))))
def c88l2 : AC := b88l2
theorem r88l2 (call lp s) : run call lp c88l2 s = run call lp b88l2 s := rfl
/-- impl.partOf -/
def c88 : AC :=
 (.seq
  (.reg [] [⟨some 4, .alloc [.nils], [], none⟩,
    ⟨some 5, .move, [.k (.b false)], none⟩] [0, 1, 4] [4, 69])
  (.seq
   (.reg [] [⟨some 16, .move, [.t 0], none⟩,
     ⟨some 17, .build [.nils] [(0, 1)], [.t 16], none⟩,
     ⟨some 18, .move, [.t 1], none⟩,
     ⟨some 19, .call [] false, [.f 139, .t 17, .t 18], none⟩,
     ⟨some 6, .move, [.t 19], none⟩] [0, 4, 6] [4, 19, 69])
   (.seq
    (.seq
     (.reg [] [⟨some 20, .move, [.t 6], none⟩,
       ⟨some 21, .len, [.t 20], none⟩,
       ⟨some 22, .bin .gt, [.t 21, .k (.i 60)], none⟩] [0, 4, 6, 22] [4, 19, 69])
     (.cond (.t 22)
      (.seq
       (.reg [] [⟨some 23, .build [.nils] [], [], none⟩,
         ⟨none, .store 1 true, [.t 4, .t 23], none⟩,
         ⟨some 5, .move, [.k (.b false)], none⟩] [4, 5] [4, 69])
       .ret)
      .skip))
    (.seq
     (.reg [] [⟨some 24, .mkmap false, [], none⟩,
       ⟨some 7, .move, [.t 24], none⟩] [0, 4, 6, 7] [4, 19, 24, 69])
     (.seq
      (.seq
       (.reg [] [⟨some 25, .move, [.t 6], none⟩,
         ⟨some 26, .len, [.t 25], none⟩,
         ⟨some 27, .move, [.k (.i 0)], none⟩] [0, 4, 6, 7, 25, 26, 27] [4, 19, 24, 69])
       (.block 0
        (.loop [0, 4, 6, 7, 25, 26, 27] [4, 19, 24, 69] c88l0)))
      (.seq
       (.reg [] [⟨some 36, .build [.nils] [], [], none⟩,
         ⟨some 10, .alloc [.nils], [], none⟩,
         ⟨none, .store 1 true, [.t 10, .t 36], none⟩] [0, 4, 6, 7, 10] [4, 10, 19, 24, 69])
       (.seq
        (.seq
         (.reg [] [⟨some 37, .move, [.t 6], none⟩,
           ⟨some 38, .len, [.t 37], none⟩,
           ⟨some 39, .move, [.k (.i 0)], none⟩] [0, 4, 7, 10, 37, 38, 39] [4, 10, 19, 24, 69])
         (.block 2
          (.loop [0, 4, 7, 10, 37, 38, 39] [4, 10, 19, 24, 69] c88l2)))
        (.seq
         (.reg [] [⟨some 72, .load (some 1) false, [.t 10], none⟩,
           ⟨none, .store 1 true, [.t 4, .t 72], none⟩,
           ⟨some 5, .move, [.k (.b true)], none⟩] [4, 5] [4, 69])
         .ret))))))))
def a88 : AF := ⟨c88, [.cell 4 (some 1), .tmp 5]⟩
def b34l0 : AC :=
 (.seq
  (.reg [] [⟨some 26, .bin .lt, [.t 25, .t 24], none⟩] [4, 6, 23, 24, 25, 26] [4, 21, 33, 36])
  (.seq
   (.cond (.t 26)
    .skip
    (.exit 0))
   (.seq
    (.block 1
     (.seq
      (.reg [] [⟨some 27, .iaddr 1, [.t 23, .t 25], none⟩,
        ⟨some 28, .load none false, [.t 27], none⟩,
        ⟨some 8, .move, [.t 28], none⟩] [4, 6, 8, 23, 24, 25] [4, 21, 33, 36])
      (.reg [] [⟨some 29, .move, [.t 6], none⟩,
        ⟨some 30, .move, [.t 8], none⟩,
        ⟨some 31, .call [] false, [.f 87, .t 30, .k (.i 1)], none⟩,
        ⟨some 32, .bslice 1 true, [.t 31], none⟩,
        ⟨some 33, .append 1 true, [.t 29, .t 32], none⟩,
        ⟨some 6, .move, [.t 33], none⟩] [4, 6, 23, 24, 25] [4, 21, 33, 36])))
    (.reg [] [⟨some 34, .bin .add, [.t 25, .k (.i 1)], none⟩,
      ⟨some 25, .move, [.t 34], none⟩] [4, 6, 23, 24, 25] [4, 21, 33, 36]))))
def c34l0 : AC := b34l0
theorem r34l0 (call lp s) : run call lp c34l0 s = run call lp b34l0 s := rfl
/-- impl.GraphAct -/
def c34 : AC :=
 (.seq
  (.reg [] [⟨some 3, .box, [.t 1], none⟩,
    ⟨some 4, .alloc [.nils], [], none⟩,
    ⟨some 5, .move, [.k (.b false)], none⟩] [0, 3, 4] [3, 4, 21, 33, 36])
  (.seq
   (.seq
    (.reg [] [⟨some 9, .move, [.t 0], none⟩,
      ⟨some 10, .call [] false, [.f 86, .t 9], none⟩,
      ⟨some 11, .not, [.t 10], none⟩,
      ⟨some 12, .move, [.t 11], none⟩,
      ⟨some 13, .load (some 1) false, [.t 3], some (12, false)⟩,
      ⟨some 14, .call [] false, [.f 64, .t 13], some (12, false)⟩,
      ⟨some 15, .not, [.t 14], some (12, false)⟩,
      ⟨some 16, .pick, [.t 12, .k (.b true), .t 15], none⟩] [0, 3, 4, 16] [3, 4, 21, 33, 36])
    (.cond (.t 16)
     (.seq
      (.reg [] [⟨some 17, .build [.nils] [], [], none⟩,
        ⟨none, .store 1 true, [.t 4, .t 17], none⟩,
        ⟨some 5, .move, [.k (.b false)], none⟩] [4, 5] [4, 21, 33, 36])
      .ret)
     .skip))
   (.seq
    (.reg [] [⟨some 18, .move, [.t 0], none⟩,
      ⟨some 19, .build [.i 0, .i 0] [(0, 1), (1, 1)], [.t 18, .k (.i 1)], none⟩,
      ⟨some 20, .bslice 2 true, [.t 19], none⟩,
      ⟨some 21, .bslice 1 true, [.t 20], none⟩,
      ⟨some 6, .move, [.t 21], none⟩] [3, 4, 6] [3, 4, 21, 33, 36])
    (.seq
     (.seq
      (.reg [] [⟨some 22, .faddr 0, [.t 3], none⟩,
        ⟨some 23, .load none false, [.t 22], none⟩,
        ⟨some 24, .len, [.t 23], none⟩,
        ⟨some 25, .move, [.k (.i 0)], none⟩] [4, 6, 23, 24, 25] [4, 21, 33, 36])
      (.block 0
       (.loop [4, 6, 23, 24, 25] [4, 21, 33, 36] c34l0)))
     (.seq
      (.reg [] [⟨some 35, .move, [.t 6], none⟩,
        ⟨some 36, .call [] false, [.f 88, .t 35, .k (.i 0)], none⟩,
        ⟨some 37, .ext 0, [.t 36], none⟩,
        ⟨some 38, .ext 1, [.t 36], none⟩,
        ⟨none, .store 1 true, [.t 4, .t 37], none⟩,
        ⟨some 5, .move, [.t 38], none⟩] [4, 5] [4, 21, 33, 36])
      .ret)))))
def a34 : AF := ⟨c34, [.cell 4 (some 1), .tmp 5]⟩
/-- laws.eqMove -/
def c154 : AC :=
 (.seq
  (.reg [] [⟨some 2, .box, [.t 0], none⟩,
    ⟨some 3, .box, [.t 1], none⟩,
    ⟨some 4, .move, [.k (.b false)], none⟩] [2, 3] [2, 3])
  (.seq
   (.seq
    (.reg [] [⟨some 5, .faddr 0, [.t 2], none⟩,
      ⟨some 6, .load none false, [.t 5], none⟩,
      ⟨some 7, .faddr 0, [.t 3], none⟩,
      ⟨some 8, .load none false, [.t 7], none⟩,
      ⟨some 9, .bin .ne, [.t 6, .t 8], none⟩] [2, 3, 9] [2, 3])
    (.cond (.t 9)
     (.seq
      (.reg [] [⟨some 4, .move, [.k (.b false)], none⟩] [4] [])
      .ret)
     .skip))
   (.seq
    (.seq
     (.reg [] [⟨some 10, .faddr 1, [.t 2], none⟩,
       ⟨some 11, .load none false, [.t 10], none⟩,
       ⟨some 12, .faddr 1, [.t 3], none⟩,
       ⟨some 13, .load none false, [.t 12], none⟩,
       ⟨some 14, .bin .ne, [.t 11, .t 13], none⟩] [14] [])
     (.cond (.t 14)
      (.seq
       (.reg [] [⟨some 4, .move, [.k (.b false)], none⟩] [4] [])
       .ret)
      .skip))
    (.seq
     (.reg [] [⟨some 4, .move, [.k (.b true)], none⟩] [4] [])
     .ret))))
def a154 : AF := ⟨c154, [.tmp 4]⟩
def b124l0 : AC :=
 (.seq
  (.seq
   (.reg [] [⟨some 11, .move, [.t 5], none⟩,
     ⟨some 12, .move, [.t 0], none⟩,
     ⟨some 13, .len, [.t 12], none⟩,
     ⟨some 14, .bin .lt, [.t 11, .t 13], none⟩] [0, 1, 5, 14] [])
   (.cond (.t 14)
    .skip
    (.exit 0)))
  (.seq
   (.block 1
    (.seq
     (.reg [0, 1, 2, 3, 4, 5, 6, 7, 8, 9] [⟨some 17, .move, [.t 0], none⟩,
       ⟨some 18, .move, [.t 5], none⟩,
       ⟨some 19, .iaddr 2, [.t 17, .t 18], none⟩,
       ⟨some 20, .load (some 2) false, [.t 19], none⟩,
       ⟨some 21, .move, [.t 1], none⟩,
       ⟨some 22, .move, [.t 5], none⟩,
       ⟨some 23, .iaddr 2, [.t 21, .t 22], none⟩,
       ⟨some 24, .load (some 2) false, [.t 23], none⟩,
       ⟨some 25, .call [] false, [.f 154, .t 20, .t 24], none⟩,
       ⟨some 26, .not, [.t 25], none⟩] [0, 1, 5, 26] [])
     (.cond (.t 26)
      (.seq
       (.reg [] [⟨some 4, .move, [.k (.b false)], none⟩] [4] [])
       .ret)
      .skip)))
   (.reg [] [⟨some 15, .move, [.t 5], none⟩,
     ⟨some 16, .bin .add, [.t 15, .k (.i 1)], none⟩,
     ⟨some 5, .move, [.t 16], none⟩] [0, 1, 5] [])))
def c124l0 : AC := b124l0
theorem r124l0 (call lp s) : run call lp c124l0 s = run call lp b124l0 s := rfl
/-- laws.eqMoveS -/
def c124 : AC :=
 (.seq
  (.reg [] [⟨some 4, .move, [.k (.b false)], none⟩] [0, 1] [])
  (.seq
   (.seq
    (.reg [] [⟨some 6, .move, [.t 0], none⟩,
      ⟨some 7, .len, [.t 6], none⟩,
      ⟨some 8, .move, [.t 1], none⟩,
      ⟨some 9, .len, [.t 8], none⟩,
      ⟨some 10, .bin .ne, [.t 7, .t 9], none⟩] [0, 1, 10] [])
    (.cond (.t 10)
     (.seq
      (.reg [] [⟨some 4, .move, [.k (.b false)], none⟩] [4] [])
      .ret)
     .skip))
   (.seq
    (.seq
     (.reg [] [⟨some 5, .move, [.k (.i 0)], none⟩] [0, 1, 5] [])
     (.block 0
      (.loop [0, 1, 5] [] c124l0)))
    (.seq
     (.reg [] [⟨some 4, .move, [.k (.b true)], none⟩] [4] [])
     .ret))))
def a124 : AF := ⟨c124, [.tmp 4]⟩
def b68l0 : AC :=
 (.seq
  (.seq
   (.reg [] [⟨some 11, .move, [.t 5], none⟩,
     ⟨some 12, .move, [.t 0], none⟩,
     ⟨some 13, .len, [.t 12], none⟩,
     ⟨some 14, .bin .lt, [.t 11, .t 13], none⟩] [0, 1, 5, 14] [])
   (.cond (.t 14)
    .skip
    (.exit 0)))
  (.seq
   (.block 1
    (.seq
     (.reg [0, 1, 2, 3, 4, 5, 6, 7, 8, 9] [⟨some 17, .move, [.t 0], none⟩,
       ⟨some 18, .move, [.t 5], none⟩,
       ⟨some 19, .iaddr 1, [.t 17, .t 18], none⟩,
       ⟨some 20, .load none false, [.t 19], none⟩,
       ⟨some 21, .move, [.t 1], none⟩,
       ⟨some 22, .move, [.t 5], none⟩,
       ⟨some 23, .iaddr 1, [.t 21, .t 22], none⟩,
       ⟨some 24, .load none false, [.t 23], none⟩,
       ⟨some 25, .call [] false, [.f 124, .t 20, .t 24], none⟩,
       ⟨some 26, .not, [.t 25], none⟩] [0, 1, 5, 26] [])
     (.cond (.t 26)
      (.seq
       (.reg [] [⟨some 4, .move, [.k (.b false)], none⟩] [4] [])
       .ret)
      .skip)))
   (.reg [] [⟨some 15, .move, [.t 5], none⟩,
     ⟨some 16, .bin .add, [.t 15, .k (.i 1)], none⟩,
     ⟨some 5, .move, [.t 16], none⟩] [0, 1, 5] [])))
def c68l0 : AC := b68l0
theorem r68l0 (call lp s) : run call lp c68l0 s = run call lp b68l0 s := rfl
/-- laws.eqMoveSS -/
def c68 : AC :=
 (.seq
  (.reg [] [⟨some 4, .move, [.k (.b false)], none⟩] [0, 1] [])
  (.seq
   (.seq
    (.reg [] [⟨some 6, .move, [.t 0], none⟩,
      ⟨some 7, .len, [.t 6], none⟩,
      ⟨some 8, .move, [.t 1], none⟩,
      ⟨some 9, .len, [.t 8], none⟩,
      ⟨some 10, .bin .ne, [.t 7, .t 9], none⟩] [0, 1, 10] [])
    (.cond (.t 10)
     (.seq
      (.reg [] [⟨some 4, .move, [.k (.b false)], none⟩] [4] [])
      .ret)
     .skip))
   (.seq
    (.seq
     (.reg [] [⟨some 5, .move, [.k (.i 0)], none⟩] [0, 1, 5] [])
     (.block 0
      (.loop [0, 1, 5] [] c68l0)))
    (.seq
     (.reg [] [⟨some 4, .move, [.k (.b true)], none⟩] [4] [])
     .ret))))
def a68 : AF := ⟨c68, [.tmp 4]⟩
/-- laws.eqGraph -/
def c20 : AC :=
 (.seq
  (.reg [] [⟨some 2, .box, [.t 0], none⟩,
    ⟨some 3, .box, [.t 1], none⟩,
    ⟨some 4, .move, [.k (.b false)], none⟩] [2, 3] [2, 3])
  (.seq
   (.seq
    (.reg [] [⟨some 5, .faddr 0, [.t 2], none⟩,
      ⟨some 6, .load none false, [.t 5], none⟩,
      ⟨some 7, .faddr 0, [.t 3], none⟩,
      ⟨some 8, .load none false, [.t 7], none⟩,
      ⟨some 9, .call [] false, [.f 68, .t 6, .t 8], none⟩,
      ⟨some 10, .not, [.t 9], none⟩] [10] [])
    (.cond (.t 10)
     (.seq
      (.reg [] [⟨some 4, .move, [.k (.b false)], none⟩] [4] [])
      .ret)
     .skip))
   (.seq
    (.reg [] [⟨some 4, .move, [.k (.b true)], none⟩] [4] [])
    .ret)))
def a20 : AF := ⟨c20, [.tmp 4]⟩
def b125l0 : AC :=
 (.seq
  (.seq
   (.reg [] [⟨some 6, .move, [.t 5], none⟩,
     ⟨some 7, .move, [.t 0], none⟩,
     ⟨some 8, .len, [.t 7], none⟩,
     ⟨some 9, .bin .lt, [.t 6, .t 8], none⟩] [0, 1, 5, 9] [])
   (.cond (.t 9)
    .skip
    (.exit 0)))
  (.seq
   (.block 1
    (.seq
     (.reg [] [⟨some 12, .move, [.t 0], none⟩,
       ⟨some 13, .move, [.t 5], none⟩,
       ⟨some 14, .move, [.t 1], none⟩,
       ⟨some 15, .iaddr 2, [.t 12, .t 13], none⟩,
       ⟨some 16, .faddr 0, [.t 15], none⟩,
       ⟨none, .store 1 true, [.t 16, .t 14], none⟩] [0, 1, 5] [])
     (.seq
      (.reg [] [⟨some 17, .move, [.t 1], none⟩,
        ⟨some 18, .bin .add, [.t 17, .k (.i 1)], none⟩,
        ⟨some 1, .move, [.t 18], none⟩] [0, 1, 5] [])
      (.seq
       (.reg [] [⟨some 19, .move, [.t 0], none⟩,
         ⟨some 20, .move, [.t 5], none⟩,
         ⟨some 21, .move, [.t 1], none⟩,
         ⟨some 22, .iaddr 2, [.t 19, .t 20], none⟩,
         ⟨some 23, .faddr 1, [.t 22], none⟩,
         ⟨none, .store 1 true, [.t 23, .t 21], none⟩] [0, 1, 5] [])
       (.reg [] [⟨some 24, .move, [.t 1], none⟩,
         ⟨some 25, .bin .add, [.t 24, .k (.i 1)], none⟩,
         ⟨some 1, .move, [.t 25], none⟩] [0, 1, 5] [])))))
   (.reg [] [⟨some 10, .move, [.t 5], none⟩,
     ⟨some 11, .bin .add, [.t 10, .k (.i 1)], none⟩,
     ⟨some 5, .move, [.t 11], none⟩] [0, 1, 5] [])))
def c125l0 : AC := b125l0
theorem r125l0 (call lp s) : run call lp c125l0 s = run call lp b125l0 s := rfl
/-- laws.markMoveS -/
def c125 : AC :=
 (.seq
  (.reg [] [⟨some 4, .move, [.k (.i 0)], none⟩] [0, 1] [])
  (.seq
   (.seq
    (.reg [] [⟨some 5, .move, [.k (.i 0)], none⟩] [0, 1, 5] [])
    (.block 0
     (.loop [0, 1, 5] [] c125l0)))
   (.seq
    (.reg [] [⟨some 26, .move, [.t 1], none⟩,
      ⟨some 4, .move, [.t 26], none⟩] [4] [])
    .ret)))
def a125 : AF := ⟨c125, [.tmp 4]⟩
def b69l0 : AC :=
 (.seq
  (.seq
   (.reg [] [⟨some 6, .move, [.t 5], none⟩,
     ⟨some 7, .move, [.t 0], none⟩,
     ⟨some 8, .len, [.t 7], none⟩,
     ⟨some 9, .bin .lt, [.t 6, .t 8], none⟩] [0, 1, 5, 9] [])
   (.cond (.t 9)
    .skip
    (.exit 0)))
  (.seq
   (.block 1
    (.nest [⟨some 12, .move, [.t 0], none⟩,
      ⟨some 13, .move, [.t 5], none⟩,
      ⟨some 14, .iaddr 1, [.t 12, .t 13], none⟩]
     ⟨some 15, .take, [.t 14], none⟩ [⟨some 16, .move, [.t 1], none⟩]
     ⟨some 17, .call [0] false, [.f 125, .t 15, .t 16], none⟩ [⟨some 1, .move, [.t 17], none⟩] [0, 1, 5] []))
   (.reg [] [⟨some 10, .move, [.t 5], none⟩,
     ⟨some 11, .bin .add, [.t 10, .k (.i 1)], none⟩,
     ⟨some 5, .move, [.t 11], none⟩] [0, 1, 5] [])))
def c69l0 : AC := b69l0
theorem r69l0 (call lp s) : run call lp c69l0 s = run call lp b69l0 s := rfl
/-- laws.markMoveSS -/
def c69 : AC :=
 (.seq
  (.reg [] [⟨some 4, .move, [.k (.i 0)], none⟩] [0, 1] [])
  (.seq
   (.seq
    (.reg [] [⟨some 5, .move, [.k (.i 0)], none⟩] [0, 1, 5] [])
    (.block 0
     (.loop [0, 1, 5] [] c69l0)))
   (.seq
    (.reg [] [⟨some 18, .move, [.t 1], none⟩,
      ⟨some 4, .move, [.t 18], none⟩] [4] [])
    .ret)))
def a69 : AF := ⟨c69, [.tmp 4]⟩
/-- laws.markGraph -/
def c21 : AC :=
 (.seq
  (.reg [] [⟨some 2, .box, [.t 0], none⟩,
    ⟨some 4, .move, [.k (.i 0)], none⟩] [1, 2] [2])
  (.seq
   (.reg [] [⟨some 5, .faddr 0, [.t 2], none⟩,
     ⟨some 6, .load none false, [.t 5], none⟩,
     ⟨some 7, .move, [.t 1], none⟩,
     ⟨some 8, .call [0] false, [.f 69, .t 6, .t 7], none⟩,
     ⟨some 1, .move, [.t 8], none⟩] [1] [])
   (.seq
    (.reg [] [⟨some 9, .move, [.t 1], none⟩,
      ⟨some 4, .move, [.t 9], none⟩] [4] [])
    .ret)))
def a21 : AF := ⟨c21, [.tmp 4]⟩
def b140l0 : AC :=
 (.seq
  (.seq
   (.reg [] [⟨some 6, .move, [.t 5], none⟩,
     ⟨some 7, .move, [.t 0], none⟩,
     ⟨some 8, .len, [.t 7], none⟩,
     ⟨some 9, .bin .lt, [.t 6, .t 8], none⟩] [0, 1, 5, 9] [])
   (.cond (.t 9)
    .skip
    (.exit 0)))
  (.seq
   (.block 1
    (.seq
     (.seq
      (.reg [] [⟨some 12, .move, [.t 0], none⟩,
        ⟨some 13, .move, [.t 5], none⟩,
        ⟨some 14, .iaddr 2, [.t 12, .t 13], none⟩,
        ⟨some 15, .faddr 0, [.t 14], none⟩,
        ⟨some 16, .load none false, [.t 15], none⟩,
        ⟨some 17, .move, [.t 1], none⟩,
        ⟨some 18, .bin .ne, [.t 16, .t 17], none⟩] [0, 1, 5, 18] [])
      (.cond (.t 18)
       (.seq
        (.reg [] [⟨some 4, .move, [.k (.i (-1))], none⟩] [4] [])
        .ret)
       .skip))
     (.seq
      (.reg [] [⟨some 19, .move, [.t 1], none⟩,
        ⟨some 20, .bin .add, [.t 19, .k (.i 1)], none⟩,
        ⟨some 1, .move, [.t 20], none⟩] [0, 1, 5] [])
      (.seq
       (.seq
        (.reg [] [⟨some 21, .move, [.t 0], none⟩,
          ⟨some 22, .move, [.t 5], none⟩,
          ⟨some 23, .iaddr 2, [.t 21, .t 22], none⟩,
          ⟨some 24, .faddr 1, [.t 23], none⟩,
          ⟨some 25, .load none false, [.t 24], none⟩,
          ⟨some 26, .move, [.t 1], none⟩,
          ⟨some 27, .bin .ne, [.t 25, .t 26], none⟩] [0, 1, 5, 27] [])
        (.cond (.t 27)
         (.seq
          (.reg [] [⟨some 4, .move, [.k (.i (-1))], none⟩] [4] [])
          .ret)
         .skip))
       (.reg [] [⟨some 28, .move, [.t 1], none⟩,
         ⟨some 29, .bin .add, [.t 28, .k (.i 1)], none⟩,
         ⟨some 1, .move, [.t 29], none⟩] [0, 1, 5] [])))))
   (.reg [] [⟨some 10, .move, [.t 5], none⟩,
     ⟨some 11, .bin .add, [.t 10, .k (.i 1)], none⟩,
     ⟨some 5, .move, [.t 11], none⟩] [0, 1, 5] [])))
def c140l0 : AC := b140l0
theorem r140l0 (call lp s) : run call lp c140l0 s = run call lp b140l0 s := rfl
/-- laws.heldMoveS -/
def c140 : AC :=
 (.seq
  (.reg [] [⟨some 4, .move, [.k (.i 0)], none⟩] [0, 1] [])
  (.seq
   (.seq
    (.reg [] [⟨some 5, .move, [.k (.i 0)], none⟩] [0, 1, 5] [])
    (.block 0
     (.loop [0, 1, 5] [] c140l0)))
   (.seq
    (.reg [] [⟨some 30, .move, [.t 1], none⟩,
      ⟨some 4, .move, [.t 30], none⟩] [4] [])
    .ret)))
def a140 : AF := ⟨c140, [.tmp 4]⟩
def b89l0 : AC :=
 (.seq
  (.seq
   (.reg [] [⟨some 6, .move, [.t 5], none⟩,
     ⟨some 7, .move, [.t 0], none⟩,
     ⟨some 8, .len, [.t 7], none⟩,
     ⟨some 9, .bin .lt, [.t 6, .t 8], none⟩] [0, 1, 5, 9] [])
   (.cond (.t 9)
    .skip
    (.exit 0)))
  (.seq
   (.block 1
    (.seq
     (.reg [] [⟨some 12, .move, [.t 0], none⟩,
       ⟨some 13, .move, [.t 5], none⟩,
       ⟨some 14, .iaddr 1, [.t 12, .t 13], none⟩,
       ⟨some 15, .load none false, [.t 14], none⟩,
       ⟨some 16, .move, [.t 1], none⟩,
       ⟨some 17, .call [] false, [.f 140, .t 15, .t 16], none⟩,
       ⟨some 1, .move, [.t 17], none⟩] [0, 1, 5] [])
     (.seq
      (.reg [] [⟨some 18, .move, [.t 1], none⟩,
        ⟨some 19, .bin .lt, [.t 18, .k (.i 0)], none⟩] [0, 1, 5, 19] [])
      (.cond (.t 19)
       (.seq
        (.reg [] [⟨some 4, .move, [.k (.i (-1))], none⟩] [4] [])
        .ret)
       .skip))))
   (.reg [] [⟨some 10, .move, [.t 5], none⟩,
     ⟨some 11, .bin .add, [.t 10, .k (.i 1)], none⟩,
     ⟨some 5, .move, [.t 11], none⟩] [0, 1, 5] [])))
def c89l0 : AC := b89l0
theorem r89l0 (call lp s) : run call lp c89l0 s = run call lp b89l0 s := rfl
/-- laws.heldMoveSS -/
def c89 : AC :=
 (.seq
  (.reg [] [⟨some 4, .move, [.k (.i 0)], none⟩] [0, 1] [])
  (.seq
   (.seq
    (.reg [] [⟨some 5, .move, [.k (.i 0)], none⟩] [0, 1, 5] [])
    (.block 0
     (.loop [0, 1, 5] [] c89l0)))
   (.seq
    (.reg [] [⟨some 20, .move, [.t 1], none⟩,
      ⟨some 4, .move, [.t 20], none⟩] [4] [])
    .ret)))
def a89 : AF := ⟨c89, [.tmp 4]⟩
/-- laws.heldGraph -/
def c35 : AC :=
 (.seq
  (.reg [] [⟨some 2, .box, [.t 0], none⟩,
    ⟨some 4, .move, [.k (.i 0)], none⟩] [1, 2] [2])
  (.seq
   (.reg [] [⟨some 5, .faddr 0, [.t 2], none⟩,
     ⟨some 6, .load none false, [.t 5], none⟩,
     ⟨some 7, .move, [.t 1], none⟩,
     ⟨some 8, .call [] false, [.f 89, .t 6, .t 7], none⟩,
     ⟨some 1, .move, [.t 8], none⟩] [1] [])
   (.seq
    (.seq
     (.reg [] [⟨some 9, .move, [.t 1], none⟩,
       ⟨some 10, .bin .lt, [.t 9, .k (.i 0)], none⟩] [1, 10] [])
     (.cond (.t 10)
      (.seq
       (.reg [] [⟨some 4, .move, [.k (.i (-1))], none⟩] [4] [])
       .ret)
      .skip))
    (.seq
     (.reg [] [⟨some 11, .move, [.t 1], none⟩,
       ⟨some 4, .move, [.t 11], none⟩] [4] [])
     .ret))))
def a35 : AF := ⟨c35, [.tmp 4]⟩
/-- laws.FnExactGraphAct -/
def c5 : AC :=
 (.seq
  (.reg [] [⟨some 3, .box, [.t 1], none⟩,
    ⟨some 4, .move, [.k (.b false)], none⟩] [0, 3] [3])
  (.seq
   (.reg [] [⟨some 5, .move, [.k (.i 1048576)], none⟩] [0, 3, 5] [3])
   (.seq
    (.reg [] [⟨some 16, .load (some 1) false, [.t 3], none⟩,
      ⟨some 17, .move, [.t 5], none⟩,
      ⟨some 18, .call [] false, [.f 14, .t 16, .t 17], none⟩,
      ⟨some 5, .move, [.t 18], none⟩] [0, 3, 5] [3])
    (.seq
     (.seq
      (.reg [] [⟨some 19, .move, [.t 5], none⟩,
        ⟨some 20, .bin .lt, [.t 19, .k (.i 0)], none⟩] [0, 3, 20] [3])
      (.cond (.t 20)
       (.seq
        (.reg [] [⟨some 4, .move, [.k (.b true)], none⟩] [4] [])
        .ret)
       .skip))
     (.seq
      (.reg [] [⟨some 22, .move, [.t 0], none⟩,
        ⟨some 23, .load (some 1) false, [.t 3], none⟩,
        ⟨some 24, .call [] false, [.f 16, .t 23], none⟩,
        ⟨some 25, .call [] false, [.f 33, .t 22, .t 24], none⟩,
        ⟨some 21, .move, [.t 25], none⟩,
        ⟨some 26, .ext 0, [.t 21], none⟩,
        ⟨some 27, .ext 1, [.t 21], none⟩,
        ⟨some 6, .alloc [.nils], [], none⟩,
        ⟨none, .store 1 true, [.t 6, .t 26], none⟩,
        ⟨some 7, .move, [.t 27], none⟩] [0, 3, 6, 7] [3, 6, 24, 25])
      (.seq
       (.reg [] [⟨some 28, .load (some 1) false, [.t 3], none⟩,
         ⟨some 29, .call [] false, [.f 16, .t 28], none⟩,
         ⟨some 8, .alloc [.nils], [], none⟩,
         ⟨none, .store 1 true, [.t 8, .t 29], none⟩] [0, 3, 6, 7, 8] [3, 6, 8, 24, 25, 29])
       (.seq
        (.reg [] [⟨some 31, .move, [.t 0], none⟩,
          ⟨some 32, .load (some 1) false, [.t 8], none⟩,
          ⟨some 33, .call [] false, [.f 34, .t 31, .t 32], none⟩,
          ⟨some 30, .move, [.t 33], none⟩,
          ⟨some 34, .ext 0, [.t 30], none⟩,
          ⟨some 35, .ext 1, [.t 30], none⟩,
          ⟨some 9, .alloc [.nils], [], none⟩,
          ⟨none, .store 1 true, [.t 9, .t 34], none⟩,
          ⟨some 10, .move, [.t 35], none⟩] [0, 3, 6, 7, 8, 9, 10] [3, 6, 8, 9, 24, 25, 29, 33])
        (.seq
         (.seq
          (.reg [] [⟨some 36, .load (some 1) false, [.t 9], none⟩,
            ⟨some 37, .load (some 1) false, [.t 6], none⟩,
            ⟨some 38, .call [] false, [.f 20, .t 36, .t 37], none⟩,
            ⟨some 39, .not, [.t 38], none⟩,
            ⟨some 40, .move, [.t 39], none⟩,
            ⟨some 41, .move, [.t 10], some (40, false)⟩,
            ⟨some 42, .move, [.t 7], some (40, false)⟩,
            ⟨some 43, .bne, [.t 41, .t 42], some (40, false)⟩,
            ⟨some 44, .pick, [.t 40, .k (.b true), .t 43], none⟩] [0, 3, 6, 7, 8, 9, 10, 44] [3, 6, 8, 9, 24, 25, 29, 33])
          (.cond (.t 44)
           (.seq
            (.reg [] [⟨some 4, .move, [.k (.b false)], none⟩] [4] [])
            .ret)
           .skip))
         (.seq
          (.seq
           (.reg [0, 1, 2, 4, 5] [⟨some 45, .load (some 1) false, [.t 8], none⟩,
             ⟨some 46, .load (some 1) false, [.t 3], none⟩,
             ⟨some 47, .call [] false, [.f 16, .t 46], none⟩,
             ⟨none, .chk (.load (some 1) false), [.t 45, .t 8], none⟩,
             ⟨some 48, .call [] false, [.f 20, .t 45, .t 47], none⟩,
             ⟨some 49, .not, [.t 48], none⟩] [0, 3, 6, 7, 8, 9, 10, 49] [3, 6, 8, 9, 24, 25, 29, 33])
           (.cond (.t 49)
            (.seq
             (.reg [] [⟨some 4, .move, [.k (.b false)], none⟩] [4] [])
             .ret)
            .skip))
          (.seq
           (.reg [] [⟨some 11, .move, [.k (.i 1)], none⟩] [0, 3, 6, 7, 8, 9, 10, 11] [3, 6, 8, 9, 24, 25, 29, 33])
           (.seq
            (.reg [] [⟨some 50, .load (some 1) false, [.t 8], none⟩,
              ⟨some 51, .move, [.t 11], none⟩,
              ⟨some 52, .call [0] false, [.f 21, .t 50, .t 51], none⟩,
              ⟨some 11, .move, [.t 52], none⟩] [0, 3, 6, 7, 9, 10, 11] [3, 6, 9, 24, 25, 29, 33])
            (.seq
             (.seq
              (.reg [] [⟨some 53, .move, [.t 11], none⟩,
                ⟨some 54, .bin .lt, [.t 53, .k (.i 0)], none⟩,
                ⟨some 55, .move, [.t 54], none⟩,
                ⟨some 56, .load (some 1) false, [.t 9], some (55, false)⟩,
                ⟨some 57, .load (some 1) false, [.t 6], some (55, false)⟩,
                ⟨some 58, .call [] false, [.f 20, .t 56, .t 57], some (55, false)⟩,
                ⟨some 59, .not, [.t 58], some (55, false)⟩,
                ⟨some 60, .pick, [.t 55, .k (.b true), .t 59], none⟩,
                ⟨some 61, .move, [.t 60], none⟩,
                ⟨some 62, .move, [.t 10], some (61, false)⟩,
                ⟨some 63, .move, [.t 7], some (61, false)⟩,
                ⟨some 64, .bne, [.t 62, .t 63], some (61, false)⟩,
                ⟨some 65, .pick, [.t 61, .k (.b true), .t 64], none⟩] [0, 3, 6, 7, 9, 65] [3, 6, 9, 24, 25, 29, 33])
              (.cond (.t 65)
               (.seq
                (.reg [] [⟨some 4, .move, [.k (.b false)], none⟩] [4] [])
                .ret)
               .skip))
             (.seq
              (.reg [] [⟨some 12, .move, [.k (.i 1)], none⟩] [0, 3, 6, 7, 9, 12] [3, 6, 9, 24, 25, 29, 33])
              (.seq
               (.reg [] [⟨some 66, .load (some 1) false, [.t 9], none⟩,
                 ⟨some 67, .move, [.t 12], none⟩,
                 ⟨some 68, .call [0] false, [.f 21, .t 66, .t 67], none⟩,
                 ⟨some 12, .move, [.t 68], none⟩] [0, 3, 6, 7, 9, 12] [3, 6, 9, 24, 25, 29, 33])
               (.seq
                (.reg [] [⟨some 13, .move, [.k (.i 1)], none⟩] [0, 3, 6, 7, 9, 12, 13] [3, 6, 9, 24, 25, 29, 33])
                (.seq
                 (.reg [] [⟨some 69, .load (some 1) false, [.t 9], none⟩,
                   ⟨some 70, .move, [.t 13], none⟩,
                   ⟨some 71, .call [] false, [.f 35, .t 69, .t 70], none⟩,
                   ⟨some 13, .move, [.t 71], none⟩] [0, 3, 6, 7, 9, 12, 13] [3, 6, 9, 24, 25, 29, 33])
                 (.seq
                  (.seq
                   (.reg [] [⟨some 72, .move, [.t 13], none⟩,
                     ⟨some 73, .bin .lt, [.t 72, .k (.i 0)], none⟩] [0, 3, 6, 7, 9, 12, 13, 73] [3, 6, 9, 24, 25, 29, 33])
                   (.cond (.t 73)
                    (.seq
                     (.reg [] [⟨some 4, .move, [.k (.b false)], none⟩] [4] [])
                     .ret)
                    .skip))
                  (.seq
                   (.seq
                    (.reg [] [⟨some 74, .move, [.t 13], none⟩,
                      ⟨some 75, .move, [.t 12], none⟩,
                      ⟨some 76, .bin .ne, [.t 74, .t 75], none⟩] [0, 3, 6, 7, 9, 12, 76] [3, 6, 9, 24, 25, 29, 33])
                    (.cond (.t 76)
                     (.seq
                      (.reg [] [⟨some 4, .move, [.k (.b false)], none⟩] [4] [])
                      .ret)
                     .skip))
                   (.seq
                    (.reg [] [⟨some 78, .move, [.t 0], none⟩,
                      ⟨some 79, .load (some 1) false, [.t 3], none⟩,
                      ⟨some 80, .call [] false, [.f 16, .t 79], none⟩,
                      ⟨some 81, .call [] false, [.f 34, .t 78, .t 80], none⟩,
                      ⟨some 77, .move, [.t 81], none⟩,
                      ⟨some 82, .ext 0, [.t 77], none⟩,
                      ⟨some 83, .ext 1, [.t 77], none⟩,
                      ⟨some 14, .alloc [.nils], [], none⟩,
                      ⟨none, .store 1 true, [.t 14, .t 82], none⟩,
                      ⟨some 15, .move, [.t 83], none⟩] [6, 7, 9, 12, 14, 15] [6, 9, 14, 24, 25, 29, 33, 80, 81])
                    (.seq
                     (.seq
                      (.reg [] [⟨some 84, .load (some 1) false, [.t 14], none⟩,
                        ⟨some 85, .load (some 1) false, [.t 6], none⟩,
                        ⟨some 86, .call [] false, [.f 20, .t 84, .t 85], none⟩,
                        ⟨some 87, .not, [.t 86], none⟩,
                        ⟨some 88, .move, [.t 87], none⟩,
                        ⟨some 89, .move, [.t 15], some (88, false)⟩,
                        ⟨some 90, .move, [.t 7], some (88, false)⟩,
                        ⟨some 91, .bne, [.t 89, .t 90], some (88, false)⟩,
                        ⟨some 92, .pick, [.t 88, .k (.b true), .t 91], none⟩] [9, 12, 92] [9, 29, 33])
                      (.cond (.t 92)
                       (.seq
                        (.reg [] [⟨some 4, .move, [.k (.b false)], none⟩] [4] [])
                        .ret)
                       .skip))
                     (.seq
                      (.reg [] [⟨some 13, .move, [.k (.i 1)], none⟩] [9, 12, 13] [9, 29, 33])
                      (.seq
                       (.reg [] [⟨some 93, .load (some 1) false, [.t 9], none⟩,
                         ⟨some 94, .move, [.t 13], none⟩,
                         ⟨some 95, .call [] false, [.f 35, .t 93, .t 94], none⟩,
                         ⟨some 13, .move, [.t 95], none⟩] [12, 13] [])
                       (.seq
                        (.seq
                         (.reg [] [⟨some 96, .move, [.t 13], none⟩,
                           ⟨some 97, .bin .lt, [.t 96, .k (.i 0)], none⟩] [12, 13, 97] [])
                         (.cond (.t 97)
                          (.seq
                           (.reg [] [⟨some 4, .move, [.k (.b false)], none⟩] [4] [])
                           .ret)
                          .skip))
                        (.seq
                         (.seq
                          (.reg [] [⟨some 98, .move, [.t 13], none⟩,
                            ⟨some 99, .move, [.t 12], none⟩,
                            ⟨some 100, .bin .ne, [.t 98, .t 99], none⟩] [100] [])
                          (.cond (.t 100)
                           (.seq
                            (.reg [] [⟨some 4, .move, [.k (.b false)], none⟩] [4] [])
                            .ret)
                           .skip))
                         (.seq
                          (.reg [] [⟨some 4, .move, [.k (.b true)], none⟩] [4] [])
                          .ret)))))))))))))))))))))))))
def a5 : AF := ⟨c5, [.tmp 4]⟩
/-- spec.l1Name -/
def c92 : AC :=
 (.seq
  (.reg [] [⟨some 2, .move, [.k (.i 0)], none⟩] [0] [])
  (.seq
   (.reg [] [⟨some 3, .move, [.t 0], none⟩,
     ⟨some 4, .move, [.t 0], none⟩,
     ⟨some 5, .neg, [.t 4], none⟩,
     ⟨some 6, .max2, [.t 3, .t 5], none⟩,
     ⟨some 7, .bin .sub, [.t 6, .k (.i 1)], none⟩,
     ⟨some 2, .move, [.t 7], none⟩] [2] [])
   .ret))
def a92 : AF := ⟨c92, [.tmp 2]⟩
def b38l0 : AC :=
 (.seq
  (.seq
   (.reg [] [⟨some 29, .move, [.t 9], none⟩,
     ⟨some 30, .faddr 0, [.t 2], none⟩,
     ⟨some 31, .load none false, [.t 30], none⟩,
     ⟨some 32, .move, [.t 7], none⟩,
     ⟨some 33, .iaddr 1, [.t 31, .t 32], none⟩,
     ⟨some 34, .load none false, [.t 33], none⟩,
     ⟨some 35, .len, [.t 34], none⟩,
     ⟨some 36, .bin .lt, [.t 29, .t 35], none⟩] [1, 2, 4, 6, 7, 8, 9, 36] [2, 4, 6, 28, 60, 65, 68])
   (.cond (.t 36)
    .skip
    (.exit 2)))
  (.seq
   (.block 3
    (.seq
     (.reg [] [⟨some 39, .faddr 0, [.t 2], none⟩,
       ⟨some 40, .load none false, [.t 39], none⟩,
       ⟨some 41, .move, [.t 7], none⟩,
       ⟨some 42, .iaddr 1, [.t 40, .t 41], none⟩,
       ⟨some 43, .load none false, [.t 42], none⟩,
       ⟨some 44, .move, [.t 9], none⟩,
       ⟨some 45, .iaddr 2, [.t 43, .t 44], none⟩,
       ⟨some 46, .load (some 2) false, [.t 45], none⟩,
       ⟨some 10, .alloc [.i 0, .i 0], [], none⟩,
       ⟨none, .store 2 true, [.t 10, .t 46], none⟩] [1, 2, 4, 6, 7, 8, 9, 10] [2, 4, 6, 10, 28, 60, 65, 68])
     (.seq
      (.reg [] [⟨some 47, .faddr 0, [.t 10], none⟩,
        ⟨some 48, .load none false, [.t 47], none⟩,
        ⟨some 49, .bin .eq, [.t 48, .k (.i 0)], none⟩,
        ⟨some 50, .move, [.t 49], none⟩,
        ⟨some 51, .faddr 0, [.t 10], some (50, false)⟩,
        ⟨some 52, .load none false, [.t 51], some (50, false)⟩,
        ⟨some 53, .call [] false, [.f 92, .t 52], some (50, false)⟩,
        ⟨some 54, .move, [.t 1], some (50, false)⟩,
        ⟨some 55, .bin .ne, [.t 53, .t 54], some (50, false)⟩,
        ⟨some 56, .pick, [.t 50, .k (.b true), .t 55], none⟩] [1, 2, 4, 6, 7, 8, 9, 10, 56] [2, 4, 6, 10, 28, 60, 65, 68])
      (.cond (.t 56)
       (.reg [] [⟨some 57, .move, [.t 8], none⟩,
         ⟨some 58, .load (some 2) false, [.t 10], none⟩,
         ⟨some 59, .bslice 2 true, [.t 58], none⟩,
         ⟨some 60, .append 2 true, [.t 57, .t 59], none⟩,
         ⟨some 8, .move, [.t 60], none⟩] [1, 2, 4, 6, 7, 8, 9] [2, 4, 6, 28, 60, 65, 68])
       .skip))))
   (.reg [] [⟨some 37, .move, [.t 9], none⟩,
     ⟨some 38, .bin .add, [.t 37, .k (.i 1)], none⟩,
     ⟨some 9, .move, [.t 38], none⟩] [1, 2, 4, 6, 7, 8, 9] [2, 4, 6, 28, 60, 65, 68])))
def c38l0 : AC := b38l0
theorem r38l0 (call lp s) : run call lp c38l0 s = run call lp b38l0 s := rfl
def b38l1 : AC :=
 (.seq
  (.seq
   (.reg [] [⟨some 21, .move, [.t 7], none⟩,
     ⟨some 22, .faddr 0, [.t 2], none⟩,
     ⟨some 23, .load none false, [.t 22], none⟩,
     ⟨some 24, .len, [.t 23], none⟩,
     ⟨some 25, .bin .lt, [.t 21, .t 24], none⟩] [1, 2, 4, 6, 7, 25] [2, 4, 6, 65, 68])
   (.cond (.t 25)
    .skip
    (.exit 0)))
  (.seq
   (.block 1
    (.seq
     (.reg [] [⟨some 28, .bslice 2 true, [], none⟩,
       ⟨some 8, .move, [.t 28], none⟩] [1, 2, 4, 6, 7, 8] [2, 4, 6, 28, 60, 65, 68])
     (.seq
      (.seq
       (.reg [] [⟨some 9, .move, [.k (.i 0)], none⟩] [1, 2, 4, 6, 7, 8, 9] [2, 4, 6, 28, 60, 65, 68])
       (.block 2
        (.loop [1, 2, 4, 6, 7, 8, 9] [2, 4, 6, 28, 60, 65, 68] c38l0)))
      (.reg [] [⟨some 61, .faddr 0, [.t 6], none⟩,
        ⟨some 62, .load none false, [.t 61], none⟩,
        ⟨some 63, .move, [.t 8], none⟩,
        ⟨some 64, .bslice 1 true, [.t 63], none⟩,
        ⟨some 65, .append 1 true, [.t 62, .t 64], none⟩,
        ⟨some 66, .faddr 0, [.t 6], none⟩,
        ⟨none, .store 1 true, [.t 66, .t 65], none⟩] [1, 2, 4, 6, 7] [2, 4, 6, 65, 68]))))
   (.reg [] [⟨some 26, .move, [.t 7], none⟩,
     ⟨some 27, .bin .add, [.t 26, .k (.i 1)], none⟩,
     ⟨some 7, .move, [.t 27], none⟩] [1, 2, 4, 6, 7] [2, 4, 6, 65, 68])))
def c38l1 : AC := b38l1
theorem r38l1 (call lp s) : run call lp c38l1 s = run call lp b38l1 s := rfl
/-- spec.GraphHide -/
def c38 : AC :=
 (.seq
  (.reg [] [⟨some 2, .box, [.t 0], none⟩,
    ⟨some 4, .alloc [.nils], [], none⟩,
    ⟨some 5, .move, [.k (.b false)], none⟩] [1, 2, 4] [2, 4, 65, 68])
  (.seq
   (.seq
    (.reg [] [⟨some 11, .load (some 1) false, [.t 2], none⟩,
      ⟨some 12, .call [] false, [.f 59, .t 11], none⟩,
      ⟨some 13, .not, [.t 12], none⟩,
      ⟨some 14, .move, [.t 13], none⟩,
      ⟨some 15, .move, [.t 1], some (14, false)⟩,
      ⟨some 16, .call [] false, [.f 60, .t 15, .k (.i 0), .k (.i 3)], some (14, false)⟩,
      ⟨some 17, .not, [.t 16], some (14, false)⟩,
      ⟨some 18, .pick, [.t 14, .k (.b true), .t 17], none⟩] [1, 2, 4, 18] [2, 4, 65, 68])
    (.cond (.t 18)
     (.seq
      (.reg [] [⟨some 19, .build [.nils] [], [], none⟩,
        ⟨none, .store 1 true, [.t 4, .t 19], none⟩,
        ⟨some 5, .move, [.k (.b false)], none⟩] [4, 5] [4, 65, 68])
      .ret)
     .skip))
   (.seq
    (.reg [] [⟨some 20, .build [.nils] [], [], none⟩,
      ⟨some 6, .alloc [.nils], [], none⟩,
      ⟨none, .store 1 true, [.t 6, .t 20], none⟩] [1, 2, 4, 6] [2, 4, 6, 65, 68])
    (.seq
     (.seq
      (.reg [] [⟨some 7, .move, [.k (.i 0)], none⟩] [1, 2, 4, 6, 7] [2, 4, 6, 65, 68])
      (.block 0
       (.loop [1, 2, 4, 6, 7] [2, 4, 6, 65, 68] c38l1)))
     (.seq
      (.reg [] [⟨some 67, .load (some 1) false, [.t 6], none⟩,
        ⟨some 68, .call [] false, [.f 84, .t 67], none⟩,
        ⟨some 69, .ext 0, [.t 68], none⟩,
        ⟨some 70, .ext 1, [.t 68], none⟩,
        ⟨none, .store 1 true, [.t 4, .t 69], none⟩,
        ⟨some 5, .move, [.t 70], none⟩] [4, 5] [4, 65, 68])
      .ret)))))
def a38 : AF := ⟨c38, [.cell 4 (some 1), .tmp 5]⟩
/-- impl.nameOk -/
def c93 : AC :=
 (.seq
  (.reg [] [⟨some 2, .move, [.k (.b false)], none⟩] [0] [])
  (.seq
   (.reg [] [⟨some 3, .move, [.t 0], none⟩,
     ⟨some 4, .bin .ge, [.t 3, .k (.i 0)], none⟩,
     ⟨some 5, .move, [.t 4], none⟩,
     ⟨some 6, .move, [.t 0], some (5, true)⟩,
     ⟨some 7, .bin .lt, [.t 6, .k (.i 4)], some (5, true)⟩,
     ⟨some 8, .pick, [.t 5, .t 7, .k (.b false)], none⟩,
     ⟨some 2, .move, [.t 8], none⟩] [2] [])
   .ret))
def a93 : AF := ⟨c93, [.tmp 2]⟩
/-- impl.Move] -/
def c95 : AC :=
 (.seq
  (.reg [] [⟨some 2, .move, [.k (.nils)], none⟩] [0] [])
  (.seq
   (.seq
    (.reg [] [⟨some 3, .move, [.t 0], none⟩,
      ⟨some 4, .isnil, [.t 3, .k (.nils)], none⟩] [0, 4] [])
    (.cond (.t 4)
     (.seq
      (.reg [] [⟨some 2, .move, [.k (.nils)], none⟩] [2] [5, 7])
      .ret)
     .skip))
   (.seq
    (.reg [] [⟨some 5, .bslice 2 true, [], none⟩,
      ⟨some 6, .move, [.t 0], none⟩,
      ⟨some 7, .append 2 true, [.t 5, .t 6], none⟩,
      ⟨some 2, .move, [.t 7], none⟩] [2] [5, 7])
    .ret)))
def a95 : AF := ⟨c95, [.tmp 2]⟩
/-- impl.nameOf -/
def c97 : AC :=
 (.seq
  (.reg [] [⟨some 2, .move, [.k (.i 0)], none⟩] [0] [])
  (.seq
   (.reg [] [⟨some 3, .move, [.t 0], none⟩,
     ⟨some 4, .move, [.t 0], none⟩,
     ⟨some 5, .neg, [.t 4], none⟩,
     ⟨some 6, .max2, [.t 3, .t 5], none⟩,
     ⟨some 7, .bin .sub, [.t 6, .k (.i 1)], none⟩,
     ⟨some 2, .move, [.t 7], none⟩] [2] [])
   .ret))
def a97 : AF := ⟨c97, [.tmp 2]⟩
/-- impl.GraphHide$1 -/
def c96 : AC :=
 (.seq
  (.reg [] [⟨some 2, .box, [.t 0], none⟩,
    ⟨some 3, .move, [.k (.b false)], none⟩] [1, 2] [2])
  (.seq
   (.reg [0, 1, 2, 3, 4, 5, 7, 6, 9, 10, 11] [⟨some 4, .faddr 0, [.t 2], none⟩,
     ⟨some 5, .load none false, [.t 4], none⟩,
     ⟨some 6, .bin .ne, [.t 5, .k (.i 0)], none⟩,
     ⟨some 7, .move, [.t 6], none⟩,
     ⟨some 8, .faddr 0, [.t 2], some (7, true)⟩,
     ⟨some 9, .load none false, [.t 8], some (7, true)⟩,
     ⟨some 11, .load none false, [.t 1], some (7, true)⟩,
     ⟨some 10, .call [] false, [.f 97, .t 9], some (7, true)⟩,
     ⟨none, .chk (.load none false), [.t 11, .t 1], some (7, true)⟩,
     ⟨some 12, .bin .eq, [.t 10, .t 11], some (7, true)⟩,
     ⟨some 13, .pick, [.t 7, .t 12, .k (.b false)], none⟩,
     ⟨some 3, .move, [.t 13], none⟩] [3] [])
   .ret))
def a96 : AF := ⟨c96, [.tmp 3]⟩
def b143l0 : AC :=
 (.seq
  (.reg [] [⟨some 9, .bin .lt, [.t 8, .t 7], none⟩] [0, 1, 7, 8, 9] [])
  (.seq
   (.cond (.t 9)
    .skip
    (.exit 0))
   (.seq
    (.block 1
     (.seq
      (.reg [] [⟨some 10, .move, [.t 8], none⟩,
        ⟨some 5, .move, [.t 10], none⟩] [0, 1, 5, 7, 8] [])
      (.seq
       (.reg [] [⟨some 11, .move, [.t 1], none⟩,
         ⟨some 12, .move, [.t 0], none⟩,
         ⟨some 13, .move, [.t 5], none⟩,
         ⟨some 14, .iaddr 2, [.t 12, .t 13], none⟩,
         ⟨some 15, .load (some 2) false, [.t 14], none⟩,
         ⟨some 16, .call [] false, [.t 11, .t 15], none⟩] [0, 1, 5, 7, 8, 16] [])
       (.cond (.t 16)
        (.seq
         (.reg [] [⟨some 17, .move, [.t 5], none⟩,
           ⟨some 4, .move, [.t 17], none⟩] [4] [])
         .ret)
        .skip))))
    (.reg [] [⟨some 18, .bin .add, [.t 8, .k (.i 1)], none⟩,
      ⟨some 8, .move, [.t 18], none⟩] [0, 1, 7, 8] []))))
def c143l0 : AC := b143l0
theorem r143l0 (call lp s) : run call lp c143l0 s = run call lp b143l0 s := rfl
/-- impl.Move] -/
def c143 : AC :=
 (.seq
  (.reg [] [⟨some 4, .move, [.k (.i 0)], none⟩] [0, 1] [])
  (.seq
   (.seq
    (.reg [] [⟨some 6, .move, [.t 0], none⟩,
      ⟨some 7, .len, [.t 6], none⟩,
      ⟨some 8, .move, [.k (.i 0)], none⟩] [0, 1, 7, 8] [])
    (.block 0
     (.loop [0, 1, 7, 8] [] c143l0)))
   (.seq
    (.reg [] [⟨some 4, .move, [.k (.i (-1))], none⟩] [4] [])
    .ret)))
def a143 : AF := ⟨c143, [.tmp 4]⟩
def b94l0 : AC :=
 (.seq
  (.seq
   (.reg [] [⟨some 16, .move, [.t 6], none⟩,
     ⟨some 17, .move, [.t 0], none⟩,
     ⟨some 18, .len, [.t 17], none⟩,
     ⟨some 19, .bin .lt, [.t 16, .t 18], none⟩] [0, 1, 5, 6, 19] [])
   (.cond (.t 19)
    .skip
    (.exit 0)))
  (.seq
   (.block 1
    (.seq
     (.reg [] [⟨some 22, .move, [.t 0], none⟩,
       ⟨some 23, .move, [.t 6], none⟩,
       ⟨some 24, .iaddr 2, [.t 22, .t 23], none⟩,
       ⟨some 25, .load (some 2) false, [.t 24], none⟩,
       ⟨some 7, .alloc [.i 0, .i 0], [], none⟩,
       ⟨none, .store 2 true, [.t 7, .t 25], none⟩] [0, 1, 5, 6, 7] [7])
     (.seq
      (.reg [] [⟨some 26, .move, [.t 1], none⟩,
        ⟨some 27, .load (some 2) false, [.t 7], none⟩,
        ⟨some 28, .call [] false, [.t 26, .t 27], none⟩,
        ⟨some 29, .not, [.t 28], none⟩] [0, 1, 5, 6, 7, 29] [7])
      (.cond (.t 29)
       (.seq
        (.reg [] [⟨some 30, .move, [.t 0], none⟩,
          ⟨some 31, .move, [.t 5], none⟩,
          ⟨some 32, .load (some 2) false, [.t 7], none⟩,
          ⟨some 33, .iaddr 2, [.t 30, .t 31], none⟩,
          ⟨none, .store 2 true, [.t 33, .t 32], none⟩] [0, 1, 5, 6] [])
        (.reg [] [⟨some 34, .move, [.t 5], none⟩,
          ⟨some 35, .bin .add, [.t 34, .k (.i 1)], none⟩,
          ⟨some 5, .move, [.t 35], none⟩] [0, 1, 5, 6] []))
       .skip))))
   (.reg [] [⟨some 20, .move, [.t 6], none⟩,
     ⟨some 21, .bin .add, [.t 20, .k (.i 1)], none⟩,
     ⟨some 6, .move, [.t 21], none⟩] [0, 1, 5, 6] [])))
def c94l0 : AC := b94l0
theorem r94l0 (call lp s) : run call lp c94l0 s = run call lp b94l0 s := rfl
/-- impl.Move] -/
def c94 : AC :=
 (.seq
  (.reg [] [⟨some 4, .move, [.k (.nils)], none⟩] [0, 1] [])
  (.seq
   (.reg [] [⟨some 8, .move, [.t 0], none⟩,
     ⟨some 9, .move, [.t 1], none⟩,
     ⟨some 10, .call [0] false, [.f 143, .t 8, .t 9], none⟩,
     ⟨some 5, .move, [.t 10], none⟩] [0, 1, 5] [])
   (.seq
    (.seq
     (.reg [] [⟨some 11, .move, [.t 5], none⟩,
       ⟨some 12, .bin .eq, [.t 11, .k (.i (-1))], none⟩] [0, 1, 5, 12] [])
     (.cond (.t 12)
      (.seq
       (.reg [] [⟨some 13, .move, [.t 0], none⟩,
         ⟨some 4, .move, [.t 13], none⟩] [4] [41])
       .ret)
      .skip))
    (.seq
     (.seq
      (.reg [] [⟨some 14, .move, [.t 5], none⟩,
        ⟨some 15, .bin .add, [.t 14, .k (.i 1)], none⟩,
        ⟨some 6, .move, [.t 15], none⟩] [0, 1, 5, 6] [])
      (.block 0
       (.loop [0, 1, 5, 6] [] c94l0)))
     (.seq
      (.reg [] [⟨some 36, .move, [.t 0], none⟩,
        ⟨some 37, .move, [.t 5], none⟩,
        ⟨some 38, .slice 2 true false, [.t 36, .t 37], none⟩,
        ⟨none, .clear 2 (.agg [.i 0, .i 0]), [.t 38], none⟩] [0, 5] [])
      (.seq
       (.reg [] [⟨some 39, .move, [.t 0], none⟩,
         ⟨some 40, .move, [.t 5], none⟩,
         ⟨some 41, .slice 2 false true, [.t 39, .t 40], none⟩,
         ⟨some 4, .move, [.t 41], none⟩] [4] [41])
       .ret))))))
def a94 : AF := ⟨c94, [.tmp 4]⟩
def b39l0 : AC :=
 (.seq
  (.reg [] [⟨some 23, .bin .lt, [.t 22, .t 21], none⟩] [3, 4, 6, 20, 21, 22, 23] [3, 4, 18, 32, 35])
  (.seq
   (.cond (.t 23)
    .skip
    (.exit 0))
   (.seq
    (.block 1
     (.seq
      (.reg [] [⟨some 24, .iaddr 1, [.t 20, .t 22], none⟩,
        ⟨some 25, .load none false, [.t 24], none⟩,
        ⟨some 8, .move, [.t 25], none⟩] [3, 4, 6, 8, 20, 21, 22] [3, 4, 18, 32, 35])
      (.reg [] [⟨some 26, .move, [.t 6], none⟩,
        ⟨some 27, .move, [.t 8], none⟩,
        ⟨some 28, .call [] false, [.f 95, .t 27], none⟩,
        ⟨some 29, .mkfunc 96, [.t 3], none⟩,
        ⟨some 30, .call [0] false, [.f 94, .t 28, .t 29], none⟩,
        ⟨some 31, .bslice 1 true, [.t 30], none⟩,
        ⟨some 32, .append 1 true, [.t 26, .t 31], none⟩,
        ⟨some 6, .move, [.t 32], none⟩] [3, 4, 6, 20, 21, 22] [3, 4, 18, 32, 35])))
    (.reg [] [⟨some 33, .bin .add, [.t 22, .k (.i 1)], none⟩,
      ⟨some 22, .move, [.t 33], none⟩] [3, 4, 6, 20, 21, 22] [3, 4, 18, 32, 35]))))
def c39l0 : AC := b39l0
theorem r39l0 (call lp s) : run call lp c39l0 s = run call lp b39l0 s := rfl
/-- impl.GraphHide -/
def c39 : AC :=
 (.seq
  (.reg [] [⟨some 2, .box, [.t 0], none⟩,
    ⟨some 3, .box, [.t 1], none⟩,
    ⟨some 4, .alloc [.nils], [], none⟩,
    ⟨some 5, .move, [.k (.b false)], none⟩] [2, 3, 4] [2, 3, 4, 18, 32, 35])
  (.seq
   (.seq
    (.reg [] [⟨some 9, .load (some 1) false, [.t 2], none⟩,
      ⟨some 10, .call [] false, [.f 64, .t 9], none⟩,
      ⟨some 11, .not, [.t 10], none⟩,
      ⟨some 12, .move, [.t 11], none⟩,
      ⟨some 13, .load none false, [.t 3], some (12, false)⟩,
      ⟨some 14, .call [] false, [.f 93, .t 13], some (12, false)⟩,
      ⟨some 15, .not, [.t 14], some (12, false)⟩,
      ⟨some 16, .pick, [.t 12, .k (.b true), .t 15], none⟩] [2, 3, 4, 16] [2, 3, 4, 18, 32, 35])
    (.cond (.t 16)
     (.seq
      (.reg [] [⟨some 17, .build [.nils] [], [], none⟩,
        ⟨none, .store 1 true, [.t 4, .t 17], none⟩,
        ⟨some 5, .move, [.k (.b false)], none⟩] [4, 5] [4, 18, 32, 35])
      .ret)
     .skip))
   (.seq
    (.reg [] [⟨some 18, .bslice 1 true, [], none⟩,
      ⟨some 6, .move, [.t 18], none⟩] [2, 3, 4, 6] [2, 3, 4, 18, 32, 35])
    (.seq
     (.seq
      (.reg [] [⟨some 19, .faddr 0, [.t 2], none⟩,
        ⟨some 20, .load none false, [.t 19], none⟩,
        ⟨some 21, .len, [.t 20], none⟩,
        ⟨some 22, .move, [.k (.i 0)], none⟩] [3, 4, 6, 20, 21, 22] [3, 4, 18, 32, 35])
      (.block 0
       (.loop [3, 4, 6, 20, 21, 22] [3, 4, 18, 32, 35] c39l0)))
     (.seq
      (.reg [] [⟨some 34, .move, [.t 6], none⟩,
        ⟨some 35, .call [] false, [.f 88, .t 34, .k (.i 0)], none⟩,
        ⟨some 36, .ext 0, [.t 35], none⟩,
        ⟨some 37, .ext 1, [.t 35], none⟩,
        ⟨none, .store 1 true, [.t 4, .t 36], none⟩,
        ⟨some 5, .move, [.t 37], none⟩] [4, 5] [4, 18, 32, 35])
      .ret)))))
def a39 : AF := ⟨c39, [.cell 4 (some 1), .tmp 5]⟩
/-- laws.FnExactGraphHide -/
def c7 : AC :=
 (.seq
  (.reg [] [⟨some 2, .box, [.t 0], none⟩,
    ⟨some 4, .move, [.k (.b false)], none⟩] [1, 2] [2])
  (.seq
   (.reg [] [⟨some 5, .move, [.k (.i 1048576)], none⟩] [1, 2, 5] [2])
   (.seq
    (.reg [] [⟨some 16, .load (some 1) false, [.t 2], none⟩,
      ⟨some 17, .move, [.t 5], none⟩,
      ⟨some 18, .call [] false, [.f 14, .t 16, .t 17], none⟩,
      ⟨some 5, .move, [.t 18], none⟩] [1, 2, 5] [2])
    (.seq
     (.seq
      (.reg [] [⟨some 19, .move, [.t 5], none⟩,
        ⟨some 20, .bin .lt, [.t 19, .k (.i 0)], none⟩] [1, 2, 20] [2])
      (.cond (.t 20)
       (.seq
        (.reg [] [⟨some 4, .move, [.k (.b true)], none⟩] [4] [])
        .ret)
       .skip))
     (.seq
      (.reg [] [⟨some 22, .load (some 1) false, [.t 2], none⟩,
        ⟨some 23, .call [] false, [.f 16, .t 22], none⟩,
        ⟨some 24, .move, [.t 1], none⟩,
        ⟨some 25, .call [] false, [.f 38, .t 23, .t 24], none⟩,
        ⟨some 21, .move, [.t 25], none⟩,
        ⟨some 26, .ext 0, [.t 21], none⟩,
        ⟨some 27, .ext 1, [.t 21], none⟩,
        ⟨some 6, .alloc [.nils], [], none⟩,
        ⟨none, .store 1 true, [.t 6, .t 26], none⟩,
        ⟨some 7, .move, [.t 27], none⟩] [1, 2, 6, 7] [2, 6, 23, 25])
      (.seq
       (.reg [] [⟨some 28, .load (some 1) false, [.t 2], none⟩,
         ⟨some 29, .call [] false, [.f 16, .t 28], none⟩,
         ⟨some 8, .alloc [.nils], [], none⟩,
         ⟨none, .store 1 true, [.t 8, .t 29], none⟩] [1, 2, 6, 7, 8] [2, 6, 8, 23, 25, 29])
       (.seq
        (.reg [] [⟨some 31, .load (some 1) false, [.t 8], none⟩,
          ⟨some 32, .move, [.t 1], none⟩,
          ⟨some 33, .call [] false, [.f 39, .t 31, .t 32], none⟩,
          ⟨some 30, .move, [.t 33], none⟩,
          ⟨some 34, .ext 0, [.t 30], none⟩,
          ⟨some 35, .ext 1, [.t 30], none⟩,
          ⟨some 9, .alloc [.nils], [], none⟩,
          ⟨none, .store 1 true, [.t 9, .t 34], none⟩,
          ⟨some 10, .move, [.t 35], none⟩] [1, 2, 6, 7, 8, 9, 10] [2, 6, 8, 9, 23, 25, 29, 33])
        (.seq
         (.seq
          (.reg [] [⟨some 36, .load (some 1) false, [.t 9], none⟩,
            ⟨some 37, .load (some 1) false, [.t 6], none⟩,
            ⟨some 38, .call [] false, [.f 20, .t 36, .t 37], none⟩,
            ⟨some 39, .not, [.t 38], none⟩,
            ⟨some 40, .move, [.t 39], none⟩,
            ⟨some 41, .move, [.t 10], some (40, false)⟩,
            ⟨some 42, .move, [.t 7], some (40, false)⟩,
            ⟨some 43, .bne, [.t 41, .t 42], some (40, false)⟩,
            ⟨some 44, .pick, [.t 40, .k (.b true), .t 43], none⟩] [1, 2, 6, 7, 8, 9, 10, 44] [2, 6, 8, 9, 23, 25, 29, 33])
          (.cond (.t 44)
           (.seq
            (.reg [] [⟨some 4, .move, [.k (.b false)], none⟩] [4] [])
            .ret)
           .skip))
         (.seq
          (.seq
           (.reg [0, 1, 2, 4, 5] [⟨some 45, .load (some 1) false, [.t 8], none⟩,
             ⟨some 46, .load (some 1) false, [.t 2], none⟩,
             ⟨some 47, .call [] false, [.f 16, .t 46], none⟩,
             ⟨none, .chk (.load (some 1) false), [.t 45, .t 8], none⟩,
             ⟨some 48, .call [] false, [.f 20, .t 45, .t 47], none⟩,
             ⟨some 49, .not, [.t 48], none⟩] [1, 2, 6, 7, 8, 9, 10, 49] [2, 6, 8, 9, 23, 25, 29, 33])
           (.cond (.t 49)
            (.seq
             (.reg [] [⟨some 4, .move, [.k (.b false)], none⟩] [4] [])
             .ret)
            .skip))
          (.seq
           (.reg [] [⟨some 11, .move, [.k (.i 1)], none⟩] [1, 2, 6, 7, 8, 9, 10, 11] [2, 6, 8, 9, 23, 25, 29, 33])
           (.seq
            (.reg [] [⟨some 50, .load (some 1) false, [.t 8], none⟩,
              ⟨some 51, .move, [.t 11], none⟩,
              ⟨some 52, .call [0] false, [.f 21, .t 50, .t 51], none⟩,
              ⟨some 11, .move, [.t 52], none⟩] [1, 2, 6, 7, 9, 10, 11] [2, 6, 9, 23, 25, 29, 33])
            (.seq
             (.seq
              (.reg [] [⟨some 53, .move, [.t 11], none⟩,
                ⟨some 54, .bin .lt, [.t 53, .k (.i 0)], none⟩,
                ⟨some 55, .move, [.t 54], none⟩,
                ⟨some 56, .load (some 1) false, [.t 9], some (55, false)⟩,
                ⟨some 57, .load (some 1) false, [.t 6], some (55, false)⟩,
                ⟨some 58, .call [] false, [.f 20, .t 56, .t 57], some (55, false)⟩,
                ⟨some 59, .not, [.t 58], some (55, false)⟩,
                ⟨some 60, .pick, [.t 55, .k (.b true), .t 59], none⟩,
                ⟨some 61, .move, [.t 60], none⟩,
                ⟨some 62, .move, [.t 10], some (61, false)⟩,
                ⟨some 63, .move, [.t 7], some (61, false)⟩,
                ⟨some 64, .bne, [.t 62, .t 63], some (61, false)⟩,
                ⟨some 65, .pick, [.t 61, .k (.b true), .t 64], none⟩] [1, 2, 6, 7, 9, 65] [2, 6, 9, 23, 25, 29, 33])
              (.cond (.t 65)
               (.seq
                (.reg [] [⟨some 4, .move, [.k (.b false)], none⟩] [4] [])
                .ret)
               .skip))
             (.seq
              (.reg [] [⟨some 12, .move, [.k (.i 1)], none⟩] [1, 2, 6, 7, 9, 12] [2, 6, 9, 23, 25, 29, 33])
              (.seq
               (.reg [] [⟨some 66, .load (some 1) false, [.t 9], none⟩,
                 ⟨some 67, .move, [.t 12], none⟩,
                 ⟨some 68, .call [0] false, [.f 21, .t 66, .t 67], none⟩,
                 ⟨some 12, .move, [.t 68], none⟩] [1, 2, 6, 7, 9, 12] [2, 6, 9, 23, 25, 29, 33])
               (.seq
                (.reg [] [⟨some 13, .move, [.k (.i 1)], none⟩] [1, 2, 6, 7, 9, 12, 13] [2, 6, 9, 23, 25, 29, 33])
                (.seq
                 (.reg [] [⟨some 69, .load (some 1) false, [.t 9], none⟩,
                   ⟨some 70, .move, [.t 13], none⟩,
                   ⟨some 71, .call [] false, [.f 35, .t 69, .t 70], none⟩,
                   ⟨some 13, .move, [.t 71], none⟩] [1, 2, 6, 7, 9, 12, 13] [2, 6, 9, 23, 25, 29, 33])
                 (.seq
                  (.seq
                   (.reg [] [⟨some 72, .move, [.t 13], none⟩,
                     ⟨some 73, .bin .lt, [.t 72, .k (.i 0)], none⟩] [1, 2, 6, 7, 9, 12, 13, 73] [2, 6, 9, 23, 25, 29, 33])
                   (.cond (.t 73)
                    (.seq
                     (.reg [] [⟨some 4, .move, [.k (.b false)], none⟩] [4] [])
                     .ret)
                    .skip))
                  (.seq
                   (.seq
                    (.reg [] [⟨some 74, .move, [.t 13], none⟩,
                      ⟨some 75, .move, [.t 12], none⟩,
                      ⟨some 76, .bin .ne, [.t 74, .t 75], none⟩] [1, 2, 6, 7, 9, 12, 76] [2, 6, 9, 23, 25, 29, 33])
                    (.cond (.t 76)
                     (.seq
                      (.reg [] [⟨some 4, .move, [.k (.b false)], none⟩] [4] [])
                      .ret)
                     .skip))
                   (.seq
                    (.reg [] [⟨some 78, .load (some 1) false, [.t 2], none⟩,
                      ⟨some 79, .call [] false, [.f 16, .t 78], none⟩,
                      ⟨some 80, .move, [.t 1], none⟩,
                      ⟨some 81, .call [] false, [.f 39, .t 79, .t 80], none⟩,
                      ⟨some 77, .move, [.t 81], none⟩,
                      ⟨some 82, .ext 0, [.t 77], none⟩,
                      ⟨some 83, .ext 1, [.t 77], none⟩,
                      ⟨some 14, .alloc [.nils], [], none⟩,
                      ⟨none, .store 1 true, [.t 14, .t 82], none⟩,
                      ⟨some 15, .move, [.t 83], none⟩] [6, 7, 9, 12, 14, 15] [6, 9, 14, 23, 25, 29, 33, 79, 81])
                    (.seq
                     (.seq
                      (.reg [] [⟨some 84, .load (some 1) false, [.t 14], none⟩,
                        ⟨some 85, .load (some 1) false, [.t 6], none⟩,
                        ⟨some 86, .call [] false, [.f 20, .t 84, .t 85], none⟩,
                        ⟨some 87, .not, [.t 86], none⟩,
                        ⟨some 88, .move, [.t 87], none⟩,
                        ⟨some 89, .move, [.t 15], some (88, false)⟩,
                        ⟨some 90, .move, [.t 7], some (88, false)⟩,
                        ⟨some 91, .bne, [.t 89, .t 90], some (88, false)⟩,
                        ⟨some 92, .pick, [.t 88, .k (.b true), .t 91], none⟩] [9, 12, 92] [9, 29, 33])
                      (.cond (.t 92)
                       (.seq
                        (.reg [] [⟨some 4, .move, [.k (.b false)], none⟩] [4] [])
                        .ret)
                       .skip))
                     (.seq
                      (.reg [] [⟨some 13, .move, [.k (.i 1)], none⟩] [9, 12, 13] [9, 29, 33])
                      (.seq
                       (.reg [] [⟨some 93, .load (some 1) false, [.t 9], none⟩,
                         ⟨some 94, .move, [.t 13], none⟩,
                         ⟨some 95, .call [] false, [.f 35, .t 93, .t 94], none⟩,
                         ⟨some 13, .move, [.t 95], none⟩] [12, 13] [])
                       (.seq
                        (.seq
                         (.reg [] [⟨some 96, .move, [.t 13], none⟩,
                           ⟨some 97, .bin .lt, [.t 96, .k (.i 0)], none⟩] [12, 13, 97] [])
                         (.cond (.t 97)
                          (.seq
                           (.reg [] [⟨some 4, .move, [.k (.b false)], none⟩] [4] [])
                           .ret)
                          .skip))
                        (.seq
                         (.seq
                          (.reg [] [⟨some 98, .move, [.t 13], none⟩,
                            ⟨some 99, .move, [.t 12], none⟩,
                            ⟨some 100, .bin .ne, [.t 98, .t 99], none⟩] [100] [])
                          (.cond (.t 100)
                           (.seq
                            (.reg [] [⟨some 4, .move, [.k (.b false)], none⟩] [4] [])
                            .ret)
                           .skip))
                         (.seq
                          (.reg [] [⟨some 4, .move, [.k (.b true)], none⟩] [4] [])
                          .ret)))))))))))))))))))))))))
def a7 : AF := ⟨c7, [.tmp 4]⟩
def b45l0 : AC :=
 (.seq
  (.seq
   (.reg [] [⟨some 8, .move, [.t 4], none⟩,
     ⟨some 9, .move, [.t 0], none⟩,
     ⟨some 10, .len, [.t 9], none⟩,
     ⟨some 11, .bin .lt, [.t 8, .t 10], none⟩] [0, 3, 4, 11] [7])
   (.cond (.t 11)
    .skip
    (.exit 0)))
  (.seq
   (.block 1
    (.reg [] [⟨some 14, .move, [.t 3], none⟩,
      ⟨some 15, .move, [.t 4], none⟩,
      ⟨some 16, .move, [.t 0], none⟩,
      ⟨some 17, .move, [.t 4], none⟩,
      ⟨some 18, .iaddr 1, [.t 16, .t 17], none⟩,
      ⟨some 19, .load none false, [.t 18], none⟩,
      ⟨some 20, .iaddr 1, [.t 14, .t 15], none⟩,
      ⟨none, .store 1 true, [.t 20, .t 19], none⟩] [0, 3, 4] [7]))
   (.reg [] [⟨some 12, .move, [.t 4], none⟩,
     ⟨some 13, .bin .add, [.t 12, .k (.i 1)], none⟩,
     ⟨some 4, .move, [.t 13], none⟩] [0, 3, 4] [7])))
def c45l0 : AC := b45l0
theorem r45l0 (call lp s) : run call lp c45l0 s = run call lp b45l0 s := rfl
/-- laws.toBoolS -/
def c45 : AC :=
 (.seq
  (.reg [] [⟨some 2, .move, [.k (.nils)], none⟩] [0] [])
  (.seq
   (.reg [] [⟨some 5, .move, [.t 0], none⟩,
     ⟨some 6, .len, [.t 5], none⟩,
     ⟨some 7, .mkslice 1 (.b false), [.t 6, .t 6], none⟩,
     ⟨some 3, .move, [.t 7], none⟩] [0, 3] [7])
   (.seq
    (.seq
     (.reg [] [⟨some 4, .move, [.k (.i 0)], none⟩] [0, 3, 4] [7])
     (.block 0
      (.loop [0, 3, 4] [7] c45l0)))
    (.seq
     (.reg [] [⟨some 21, .move, [.t 3], none⟩,
       ⟨some 2, .move, [.t 21], none⟩] [2] [7])
     .ret))))
def a45 : AF := ⟨c45, [.tmp 2]⟩
/-- spec.l12Named -/
def c108 : AC :=
 (.seq
  (.reg [] [⟨some 4, .move, [.k (.b false)], none⟩] [0, 1] [])
  (.seq
   (.reg [] [⟨some 5, .move, [.t 0], none⟩,
     ⟨some 6, .bin .ne, [.t 5, .k (.i 0)], none⟩,
     ⟨some 7, .move, [.t 6], none⟩,
     ⟨some 8, .move, [.t 1], some (7, true)⟩,
     ⟨some 9, .move, [.t 0], some (7, true)⟩,
     ⟨some 10, .call [] false, [.f 92, .t 9], some (7, true)⟩,
     ⟨some 11, .iaddr 1, [.t 8, .t 10], some (7, true)⟩,
     ⟨some 12, .load none false, [.t 11], some (7, true)⟩,
     ⟨some 13, .pick, [.t 7, .t 12, .k (.b false)], none⟩,
     ⟨some 4, .move, [.t 13], none⟩] [4] [])
   .ret))
def a108 : AF := ⟨c108, [.tmp 4]⟩
def b44l0 : AC :=
 (.seq
  (.seq
   (.reg [] [⟨some 29, .move, [.t 9], none⟩,
     ⟨some 30, .faddr 0, [.t 2], none⟩,
     ⟨some 31, .load none false, [.t 30], none⟩,
     ⟨some 32, .move, [.t 7], none⟩,
     ⟨some 33, .iaddr 1, [.t 31, .t 32], none⟩,
     ⟨some 34, .load none false, [.t 33], none⟩,
     ⟨some 35, .len, [.t 34], none⟩,
     ⟨some 36, .bin .lt, [.t 29, .t 35], none⟩] [1, 2, 4, 6, 7, 8, 9, 36] [2, 4, 6, 28, 55, 61, 64])
   (.cond (.t 36)
    .skip
    (.exit 2)))
  (.seq
   (.block 3
    (.seq
     (.reg [] [⟨some 39, .faddr 0, [.t 2], none⟩,
       ⟨some 40, .load none false, [.t 39], none⟩,
       ⟨some 41, .move, [.t 7], none⟩,
       ⟨some 42, .iaddr 1, [.t 40, .t 41], none⟩,
       ⟨some 43, .load none false, [.t 42], none⟩,
       ⟨some 44, .move, [.t 9], none⟩,
       ⟨some 45, .iaddr 2, [.t 43, .t 44], none⟩,
       ⟨some 46, .load (some 2) false, [.t 45], none⟩,
       ⟨some 10, .alloc [.i 0, .i 0], [], none⟩,
       ⟨none, .store 2 true, [.t 10, .t 46], none⟩] [1, 2, 4, 6, 7, 8, 9, 10] [2, 4, 6, 10, 28, 55, 61, 64])
     (.seq
      (.seq
       (.reg [] [⟨some 47, .faddr 0, [.t 10], none⟩,
         ⟨some 48, .load none false, [.t 47], none⟩,
         ⟨some 49, .move, [.t 1], none⟩,
         ⟨some 50, .call [] false, [.f 108, .t 48, .t 49], none⟩] [1, 2, 4, 6, 7, 8, 9, 10, 50] [2, 4, 6, 10, 28, 55, 61, 64])
       (.cond (.t 50)
        (.reg [] [⟨some 51, .faddr 0, [.t 10], none⟩,
          ⟨none, .store 1 true, [.t 51, .k (.i 0)], none⟩] [1, 2, 4, 6, 7, 8, 9, 10] [2, 4, 6, 10, 28, 55, 61, 64])
        .skip))
      (.reg [] [⟨some 52, .move, [.t 8], none⟩,
        ⟨some 53, .load (some 2) false, [.t 10], none⟩,
        ⟨some 54, .bslice 2 true, [.t 53], none⟩,
        ⟨some 55, .append 2 true, [.t 52, .t 54], none⟩,
        ⟨some 8, .move, [.t 55], none⟩] [1, 2, 4, 6, 7, 8, 9] [2, 4, 6, 28, 55, 61, 64]))))
   (.reg [] [⟨some 37, .move, [.t 9], none⟩,
     ⟨some 38, .bin .add, [.t 37, .k (.i 1)], none⟩,
     ⟨some 9, .move, [.t 38], none⟩] [1, 2, 4, 6, 7, 8, 9] [2, 4, 6, 28, 55, 61, 64])))
def c44l0 : AC := b44l0
theorem r44l0 (call lp s) : run call lp c44l0 s = run call lp b44l0 s := rfl
def b44l1 : AC :=
 (.seq
  (.seq
   (.reg [] [⟨some 21, .move, [.t 7], none⟩,
     ⟨some 22, .faddr 0, [.t 2], none⟩,
     ⟨some 23, .load none false, [.t 22], none⟩,
     ⟨some 24, .len, [.t 23], none⟩,
     ⟨some 25, .bin .lt, [.t 21, .t 24], none⟩] [1, 2, 4, 6, 7, 25] [2, 4, 6, 61, 64])
   (.cond (.t 25)
    .skip
    (.exit 0)))
  (.seq
   (.block 1
    (.seq
     (.reg [] [⟨some 28, .bslice 2 true, [], none⟩,
       ⟨some 8, .move, [.t 28], none⟩] [1, 2, 4, 6, 7, 8] [2, 4, 6, 28, 55, 61, 64])
     (.seq
      (.seq
       (.reg [] [⟨some 9, .move, [.k (.i 0)], none⟩] [1, 2, 4, 6, 7, 8, 9] [2, 4, 6, 28, 55, 61, 64])
       (.block 2
        (.loop [1, 2, 4, 6, 7, 8, 9] [2, 4, 6, 28, 55, 61, 64] c44l0)))
      (.reg [0, 1, 2, 3, 6, 9, 10, 11] [⟨some 56, .faddr 0, [.t 6], none⟩,
        ⟨some 57, .load none false, [.t 56], none⟩,
        ⟨some 58, .move, [.t 8], none⟩,
        ⟨some 59, .call [] false, [.f 90, .t 58], none⟩,
        ⟨none, .chk (.faddr 0), [.t 56, .t 6], none⟩,
        ⟨none, .chk (.load none false), [.t 57, .t 56], none⟩,
        ⟨some 60, .bslice 1 true, [.t 59], none⟩,
        ⟨none, .chk (.faddr 0), [.t 56, .t 6], none⟩,
        ⟨none, .chk (.load none false), [.t 57, .t 56], none⟩,
        ⟨some 61, .append 1 true, [.t 57, .t 60], none⟩,
        ⟨some 62, .faddr 0, [.t 6], none⟩,
        ⟨none, .store 1 true, [.t 62, .t 61], none⟩] [1, 2, 4, 6, 7] [2, 4, 6, 61, 64]))))
   (.reg [] [⟨some 26, .move, [.t 7], none⟩,
     ⟨some 27, .bin .add, [.t 26, .k (.i 1)], none⟩,
     ⟨some 7, .move, [.t 27], none⟩] [1, 2, 4, 6, 7] [2, 4, 6, 61, 64])))
def c44l1 : AC := b44l1
theorem r44l1 (call lp s) : run call lp c44l1 s = run call lp b44l1 s := rfl
/-- spec.GraphVeil -/
def c44 : AC :=
 (.seq
  (.reg [] [⟨some 2, .box, [.t 0], none⟩,
    ⟨some 4, .alloc [.nils], [], none⟩,
    ⟨some 5, .move, [.k (.b false)], none⟩] [1, 2, 4] [2, 4, 61, 64])
  (.seq
   (.seq
    (.reg [] [⟨some 11, .load (some 1) false, [.t 2], none⟩,
      ⟨some 12, .call [] false, [.f 59, .t 11], none⟩,
      ⟨some 13, .not, [.t 12], none⟩,
      ⟨some 14, .move, [.t 13], none⟩,
      ⟨some 15, .move, [.t 1], some (14, false)⟩,
      ⟨some 16, .len, [.t 15], some (14, false)⟩,
      ⟨some 17, .bin .ne, [.t 16, .k (.i 4)], some (14, false)⟩,
      ⟨some 18, .pick, [.t 14, .k (.b true), .t 17], none⟩] [1, 2, 4, 18] [2, 4, 61, 64])
    (.cond (.t 18)
     (.seq
      (.reg [] [⟨some 19, .build [.nils] [], [], none⟩,
        ⟨none, .store 1 true, [.t 4, .t 19], none⟩,
        ⟨some 5, .move, [.k (.b false)], none⟩] [4, 5] [4, 61, 64])
      .ret)
     .skip))
   (.seq
    (.reg [] [⟨some 20, .build [.nils] [], [], none⟩,
      ⟨some 6, .alloc [.nils], [], none⟩,
      ⟨none, .store 1 true, [.t 6, .t 20], none⟩] [1, 2, 4, 6] [2, 4, 6, 61, 64])
    (.seq
     (.seq
      (.reg [] [⟨some 7, .move, [.k (.i 0)], none⟩] [1, 2, 4, 6, 7] [2, 4, 6, 61, 64])
      (.block 0
       (.loop [1, 2, 4, 6, 7] [2, 4, 6, 61, 64] c44l1)))
     (.seq
      (.reg [] [⟨some 63, .load (some 1) false, [.t 6], none⟩,
        ⟨some 64, .call [] false, [.f 84, .t 63], none⟩,
        ⟨some 65, .ext 0, [.t 64], none⟩,
        ⟨some 66, .ext 1, [.t 64], none⟩,
        ⟨none, .store 1 true, [.t 4, .t 65], none⟩,
        ⟨some 5, .move, [.t 66], none⟩] [4, 5] [4, 61, 64])
      .ret)))))
def a44 : AF := ⟨c44, [.cell 4 (some 1), .tmp 5]⟩
end Go.Am
end
