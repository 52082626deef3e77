/- The annotated code of the graphs' functions, the second half. -/
import Derived.Test.YtlldnglfoajfcaaGtA
section
set_option maxRecDepth 100000
namespace Go.Am
open Go.Proofs
/-- impl.namesOk -/
def c109 : AC :=
 (.seq
  (.reg [] [⟨some 2, .move, [.k (.b false)], none⟩] [0] [])
  (.seq
   (.reg [] [⟨some 3, .move, [.t 0], none⟩,
     ⟨some 4, .len, [.t 3], none⟩,
     ⟨some 5, .bin .eq, [.t 4, .k (.i 4)], none⟩,
     ⟨some 2, .move, [.t 5], none⟩] [2] [])
   .ret))
def a109 : AF := ⟨c109, [.tmp 2]⟩
/-- impl.atNames -/
def c110 : AC :=
 (.seq
  (.reg [] [⟨some 4, .move, [.k (.b false)], none⟩] [0, 1] [])
  (.seq
   (.reg [] [⟨some 5, .move, [.t 0], none⟩,
     ⟨some 6, .bin .ne, [.t 5, .k (.i 0)], none⟩,
     ⟨some 7, .move, [.t 6], none⟩,
     ⟨some 8, .move, [.t 1], some (7, true)⟩,
     ⟨some 9, .move, [.t 0], some (7, true)⟩,
     ⟨some 10, .call [] false, [.f 97, .t 9], some (7, true)⟩,
     ⟨some 11, .iaddr 1, [.t 8, .t 10], some (7, true)⟩,
     ⟨some 12, .load none false, [.t 11], some (7, true)⟩,
     ⟨some 13, .pick, [.t 7, .t 12, .k (.b false)], none⟩,
     ⟨some 4, .move, [.t 13], none⟩] [4] [])
   .ret))
def a110 : AF := ⟨c110, [.tmp 4]⟩
def b46l0 : AC :=
 (.seq
  (.reg [] [⟨some 34, .bin .lt, [.t 33, .t 32], none⟩] [1, 4, 6, 9, 23, 24, 25, 31, 32, 33, 34] [4, 21, 30, 51, 54])
  (.seq
   (.cond (.t 34)
    .skip
    (.exit 2))
   (.seq
    (.block 3
     (.seq
      (.reg [] [⟨some 35, .move, [.t 33], none⟩,
        ⟨some 36, .iaddr 2, [.t 31, .t 33], none⟩,
        ⟨some 37, .load (some 2) false, [.t 36], none⟩,
        ⟨some 11, .alloc [.i 0, .i 0], [], none⟩,
        ⟨some 10, .move, [.t 35], none⟩,
        ⟨none, .store 2 true, [.t 11, .t 37], none⟩] [1, 4, 6, 9, 10, 11, 23, 24, 25, 31, 32, 33] [4, 11, 21, 30, 51, 54])
      (.seq
       (.reg [] [⟨some 38, .faddr 0, [.t 11], none⟩,
         ⟨some 39, .load none false, [.t 38], none⟩,
         ⟨some 40, .move, [.t 1], none⟩,
         ⟨some 41, .call [] false, [.f 110, .t 39, .t 40], none⟩] [1, 4, 6, 9, 10, 23, 24, 25, 31, 32, 33, 41] [4, 21, 30, 51, 54])
       (.cond (.t 41)
        (.reg [] [⟨some 42, .move, [.t 9], none⟩,
          ⟨some 43, .move, [.t 10], none⟩,
          ⟨some 44, .iaddr 2, [.t 42, .t 43], none⟩,
          ⟨some 45, .faddr 0, [.t 44], none⟩,
          ⟨none, .store 1 true, [.t 45, .k (.i 0)], none⟩] [1, 4, 6, 9, 23, 24, 25, 31, 32, 33] [4, 21, 30, 51, 54])
        .skip))))
    (.reg [] [⟨some 46, .bin .add, [.t 33, .k (.i 1)], none⟩,
      ⟨some 33, .move, [.t 46], none⟩] [1, 4, 6, 9, 23, 24, 25, 31, 32, 33] [4, 21, 30, 51, 54]))))
def c46l0 : AC := b46l0
theorem r46l0 (call lp s) : run call lp c46l0 s = run call lp b46l0 s := rfl
def b46l1 : AC :=
 (.seq
  (.reg [] [⟨some 26, .bin .lt, [.t 25, .t 24], none⟩] [1, 4, 6, 23, 24, 25, 26] [4, 21, 51, 54])
  (.seq
   (.cond (.t 26)
    .skip
    (.exit 0))
   (.seq
    (.block 1
     (.seq
      (.reg [] [⟨some 27, .iaddr 1, [.t 23, .t 25], none⟩,
        ⟨some 28, .load none false, [.t 27], none⟩,
        ⟨some 8, .move, [.t 28], none⟩] [1, 4, 6, 8, 23, 24, 25] [4, 21, 51, 54])
      (.seq
       (.reg [] [⟨some 29, .move, [.t 8], none⟩,
         ⟨some 30, .call [] false, [.f 95, .t 29], none⟩,
         ⟨some 9, .move, [.t 30], none⟩] [1, 4, 6, 9, 23, 24, 25] [4, 21, 30, 51, 54])
       (.seq
        (.seq
         (.reg [] [⟨some 31, .move, [.t 9], none⟩,
           ⟨some 32, .len, [.t 31], none⟩,
           ⟨some 33, .move, [.k (.i 0)], none⟩] [1, 4, 6, 9, 23, 24, 25, 31, 32, 33] [4, 21, 30, 51, 54])
         (.block 2
          (.loop [1, 4, 6, 9, 23, 24, 25, 31, 32, 33] [4, 21, 30, 51, 54] c46l0)))
        (.reg [] [⟨some 47, .move, [.t 6], none⟩,
          ⟨some 48, .move, [.t 9], none⟩,
          ⟨some 49, .call [0] false, [.f 91, .t 48], none⟩,
          ⟨some 50, .bslice 1 true, [.t 49], none⟩,
          ⟨some 51, .append 1 true, [.t 47, .t 50], none⟩,
          ⟨some 6, .move, [.t 51], none⟩] [1, 4, 6, 23, 24, 25] [4, 21, 51, 54])))))
    (.reg [] [⟨some 52, .bin .add, [.t 25, .k (.i 1)], none⟩,
      ⟨some 25, .move, [.t 52], none⟩] [1, 4, 6, 23, 24, 25] [4, 21, 51, 54]))))
def c46l1 : AC := b46l1
theorem r46l1 (call lp s) : run call lp c46l1 s = run call lp b46l1 s := rfl
/-- impl.GraphVeil -/
def c46 : AC :=
 (.seq
  (.reg [] [⟨some 2, .box, [.t 0], none⟩,
    ⟨some 4, .alloc [.nils], [], none⟩,
    ⟨some 5, .move, [.k (.b false)], none⟩] [1, 2, 4] [2, 4, 21, 51, 54])
  (.seq
   (.seq
    (.reg [] [⟨some 12, .load (some 1) false, [.t 2], none⟩,
      ⟨some 13, .call [] false, [.f 64, .t 12], none⟩,
      ⟨some 14, .not, [.t 13], none⟩,
      ⟨some 15, .move, [.t 14], none⟩,
      ⟨some 16, .move, [.t 1], some (15, false)⟩,
      ⟨some 17, .call [] false, [.f 109, .t 16], some (15, false)⟩,
      ⟨some 18, .not, [.t 17], some (15, false)⟩,
      ⟨some 19, .pick, [.t 15, .k (.b true), .t 18], none⟩] [1, 2, 4, 19] [2, 4, 21, 51, 54])
    (.cond (.t 19)
     (.seq
      (.reg [] [⟨some 20, .build [.nils] [], [], none⟩,
        ⟨none, .store 1 true, [.t 4, .t 20], none⟩,
        ⟨some 5, .move, [.k (.b false)], none⟩] [4, 5] [4, 21, 51, 54])
      .ret)
     .skip))
   (.seq
    (.reg [] [⟨some 21, .bslice 1 true, [], none⟩,
      ⟨some 6, .move, [.t 21], none⟩] [1, 2, 4, 6] [2, 4, 21, 51, 54])
    (.seq
     (.seq
      (.reg [] [⟨some 22, .faddr 0, [.t 2], none⟩,
        ⟨some 23, .load none false, [.t 22], none⟩,
        ⟨some 24, .len, [.t 23], none⟩,
        ⟨some 25, .move, [.k (.i 0)], none⟩] [1, 4, 6, 23, 24, 25] [4, 21, 51, 54])
      (.block 0
       (.loop [1, 4, 6, 23, 24, 25] [4, 21, 51, 54] c46l1)))
     (.seq
      (.reg [] [⟨some 53, .move, [.t 6], none⟩,
        ⟨some 54, .call [] false, [.f 88, .t 53, .k (.i 0)], none⟩,
        ⟨some 55, .ext 0, [.t 54], none⟩,
        ⟨some 56, .ext 1, [.t 54], none⟩,
        ⟨none, .store 1 true, [.t 4, .t 55], none⟩,
        ⟨some 5, .move, [.t 56], none⟩] [4, 5] [4, 21, 51, 54])
      .ret)))))
def a46 : AF := ⟨c46, [.cell 4 (some 1), .tmp 5]⟩
def b47l0 : AC :=
 (.seq
  (.seq
   (.reg [] [⟨some 11, .move, [.t 5], none⟩,
     ⟨some 12, .move, [.t 0], none⟩,
     ⟨some 13, .len, [.t 12], none⟩,
     ⟨some 14, .bin .lt, [.t 11, .t 13], none⟩] [0, 1, 5, 14] [])
   (.cond (.t 14)
    .skip
    (.exit 0)))
  (.seq
   (.block 1
    (.seq
     (.reg [0, 1, 2, 3, 4, 5, 6, 7, 8] [⟨some 17, .move, [.t 0], none⟩,
       ⟨some 18, .move, [.t 5], none⟩,
       ⟨some 19, .iaddr 1, [.t 17, .t 18], none⟩,
       ⟨some 20, .load none false, [.t 19], none⟩,
       ⟨some 21, .move, [.t 1], none⟩,
       ⟨some 22, .move, [.t 5], none⟩,
       ⟨some 23, .iaddr 1, [.t 21, .t 22], none⟩,
       ⟨some 24, .load none false, [.t 23], none⟩,
       ⟨some 25, .bne, [.t 20, .t 24], none⟩] [0, 1, 5, 25] [])
     (.cond (.t 25)
      (.seq
       (.reg [] [⟨some 4, .move, [.k (.b false)], none⟩] [4] [])
       .ret)
      .skip)))
   (.reg [] [⟨some 15, .move, [.t 5], none⟩,
     ⟨some 16, .bin .add, [.t 15, .k (.i 1)], none⟩,
     ⟨some 5, .move, [.t 16], none⟩] [0, 1, 5] [])))
def c47l0 : AC := b47l0
theorem r47l0 (call lp s) : run call lp c47l0 s = run call lp b47l0 s := rfl
/-- laws.eqBoolS -/
def c47 : AC :=
 (.seq
  (.reg [] [⟨some 4, .move, [.k (.b false)], none⟩] [0, 1] [])
  (.seq
   (.seq
    (.reg [] [⟨some 6, .move, [.t 0], none⟩,
      ⟨some 7, .len, [.t 6], none⟩,
      ⟨some 8, .move, [.t 1], none⟩,
      ⟨some 9, .len, [.t 8], none⟩,
      ⟨some 10, .bin .ne, [.t 7, .t 9], none⟩] [0, 1, 10] [])
    (.cond (.t 10)
     (.seq
      (.reg [] [⟨some 4, .move, [.k (.b false)], none⟩] [4] [])
      .ret)
     .skip))
   (.seq
    (.seq
     (.reg [] [⟨some 5, .move, [.k (.i 0)], none⟩] [0, 1, 5] [])
     (.block 0
      (.loop [0, 1, 5] [] c47l0)))
    (.seq
     (.reg [] [⟨some 4, .move, [.k (.b true)], none⟩] [4] [])
     .ret))))
def a47 : AF := ⟨c47, [.tmp 4]⟩
def b48l0 : AC :=
 (.seq
  (.seq
   (.reg [] [⟨some 6, .move, [.t 5], none⟩,
     ⟨some 7, .move, [.t 0], none⟩,
     ⟨some 8, .len, [.t 7], none⟩,
     ⟨some 9, .bin .lt, [.t 6, .t 8], none⟩] [0, 1, 5, 9] [])
   (.cond (.t 9)
    .skip
    (.exit 0)))
  (.seq
   (.block 1
    (.seq
     (.reg [] [⟨some 12, .move, [.t 0], none⟩,
       ⟨some 13, .move, [.t 5], none⟩,
       ⟨some 14, .move, [.t 1], none⟩,
       ⟨some 15, .bin .rem, [.t 14, .k (.i 3)], none⟩,
       ⟨some 16, .bin .eq, [.t 15, .k (.i 0)], none⟩,
       ⟨some 17, .iaddr 1, [.t 12, .t 13], none⟩,
       ⟨none, .store 1 true, [.t 17, .t 16], none⟩] [0, 1, 5] [])
     (.reg [] [⟨some 18, .move, [.t 1], none⟩,
       ⟨some 19, .bin .add, [.t 18, .k (.i 1)], none⟩,
       ⟨some 1, .move, [.t 19], none⟩] [0, 1, 5] [])))
   (.reg [] [⟨some 10, .move, [.t 5], none⟩,
     ⟨some 11, .bin .add, [.t 10, .k (.i 1)], none⟩,
     ⟨some 5, .move, [.t 11], none⟩] [0, 1, 5] [])))
def c48l0 : AC := b48l0
theorem r48l0 (call lp s) : run call lp c48l0 s = run call lp b48l0 s := rfl
/-- laws.markBoolS -/
def c48 : AC :=
 (.seq
  (.reg [] [⟨some 4, .move, [.k (.i 0)], none⟩] [0, 1] [])
  (.seq
   (.seq
    (.reg [] [⟨some 5, .move, [.k (.i 0)], none⟩] [0, 1, 5] [])
    (.block 0
     (.loop [0, 1, 5] [] c48l0)))
   (.seq
    (.reg [] [⟨some 20, .move, [.t 1], none⟩,
      ⟨some 4, .move, [.t 20], none⟩] [4] [])
    .ret)))
def a48 : AF := ⟨c48, [.tmp 4]⟩
/-- laws.FnExactGraphVeil -/
def c10 : AC :=
 (.seq
  (.reg [] [⟨some 2, .box, [.t 0], none⟩,
    ⟨some 4, .move, [.k (.b false)], none⟩] [1, 2] [2])
  (.seq
   (.seq
    (.reg [] [⟨some 17, .move, [.t 1], none⟩,
      ⟨some 18, .len, [.t 17], none⟩,
      ⟨some 19, .bin .gt, [.t 18, .k (.i 1048576)], none⟩] [1, 2, 19] [2])
    (.cond (.t 19)
     (.seq
      (.reg [] [⟨some 4, .move, [.k (.b true)], none⟩] [4] [])
      .ret)
     .skip))
   (.seq
    (.reg [] [⟨some 5, .move, [.k (.i 1048576)], none⟩] [1, 2, 5] [2])
    (.seq
     (.reg [] [⟨some 20, .load (some 1) false, [.t 2], none⟩,
       ⟨some 21, .move, [.t 5], none⟩,
       ⟨some 22, .call [] false, [.f 14, .t 20, .t 21], none⟩,
       ⟨some 5, .move, [.t 22], none⟩] [1, 2, 5] [2])
     (.seq
      (.seq
       (.reg [] [⟨some 23, .move, [.t 5], none⟩,
         ⟨some 24, .bin .lt, [.t 23, .k (.i 0)], none⟩] [1, 2, 24] [2])
       (.cond (.t 24)
        (.seq
         (.reg [] [⟨some 4, .move, [.k (.b true)], none⟩] [4] [])
         .ret)
        .skip))
      (.seq
       (.reg [] [⟨some 26, .load (some 1) false, [.t 2], none⟩,
         ⟨some 27, .call [] false, [.f 16, .t 26], none⟩,
         ⟨some 28, .move, [.t 1], none⟩,
         ⟨some 29, .call [] false, [.f 45, .t 28], none⟩,
         ⟨some 30, .call [] false, [.f 44, .t 27, .t 29], none⟩,
         ⟨some 25, .move, [.t 30], none⟩,
         ⟨some 31, .ext 0, [.t 25], none⟩,
         ⟨some 32, .ext 1, [.t 25], none⟩,
         ⟨some 6, .alloc [.nils], [], none⟩,
         ⟨none, .store 1 true, [.t 6, .t 31], none⟩,
         ⟨some 7, .move, [.t 32], none⟩] [1, 2, 6, 7] [2, 6, 27, 29, 30])
       (.seq
        (.reg [] [⟨some 33, .load (some 1) false, [.t 2], none⟩,
          ⟨some 34, .call [] false, [.f 16, .t 33], none⟩,
          ⟨some 8, .alloc [.nils], [], none⟩,
          ⟨none, .store 1 true, [.t 8, .t 34], none⟩] [1, 2, 6, 7, 8] [2, 6, 8, 27, 29, 30, 34])
        (.seq
         (.reg [] [⟨some 35, .move, [.t 1], none⟩,
           ⟨some 36, .call [] false, [.f 45, .t 35], none⟩,
           ⟨some 9, .move, [.t 36], none⟩] [1, 2, 6, 7, 8, 9] [2, 6, 8, 27, 29, 30, 34, 36])
         (.seq
          (.reg [] [⟨some 38, .load (some 1) false, [.t 8], none⟩,
            ⟨some 39, .move, [.t 9], none⟩,
            ⟨some 40, .call [] false, [.f 46, .t 38, .t 39], none⟩,
            ⟨some 37, .move, [.t 40], none⟩,
            ⟨some 41, .ext 0, [.t 37], none⟩,
            ⟨some 42, .ext 1, [.t 37], none⟩,
            ⟨some 10, .alloc [.nils], [], none⟩,
            ⟨none, .store 1 true, [.t 10, .t 41], none⟩,
            ⟨some 11, .move, [.t 42], none⟩] [1, 2, 6, 7, 8, 9, 10, 11] [2, 6, 8, 10, 27, 29, 30, 34, 36, 40])
          (.seq
           (.seq
            (.reg [] [⟨some 43, .load (some 1) false, [.t 10], none⟩,
              ⟨some 44, .load (some 1) false, [.t 6], none⟩,
              ⟨some 45, .call [] false, [.f 20, .t 43, .t 44], none⟩,
              ⟨some 46, .not, [.t 45], none⟩,
              ⟨some 47, .move, [.t 46], none⟩,
              ⟨some 48, .move, [.t 11], some (47, false)⟩,
              ⟨some 49, .move, [.t 7], some (47, false)⟩,
              ⟨some 50, .bne, [.t 48, .t 49], some (47, false)⟩,
              ⟨some 51, .pick, [.t 47, .k (.b true), .t 50], none⟩] [1, 2, 6, 7, 8, 9, 10, 11, 51] [2, 6, 8, 10, 27, 29, 30, 34, 36, 40])
            (.cond (.t 51)
             (.seq
              (.reg [] [⟨some 4, .move, [.k (.b false)], none⟩] [4] [])
              .ret)
             .skip))
           (.seq
            (.seq
             (.reg [0, 1, 2, 4, 5] [⟨some 52, .load (some 1) false, [.t 8], none⟩,
               ⟨some 53, .load (some 1) false, [.t 2], none⟩,
               ⟨some 54, .call [] false, [.f 16, .t 53], none⟩,
               ⟨none, .chk (.load (some 1) false), [.t 52, .t 8], none⟩,
               ⟨some 55, .call [] false, [.f 20, .t 52, .t 54], none⟩,
               ⟨some 56, .not, [.t 55], none⟩] [1, 2, 6, 7, 8, 9, 10, 11, 56] [2, 6, 8, 10, 27, 29, 30, 34, 36, 40])
             (.cond (.t 56)
              (.seq
               (.reg [] [⟨some 4, .move, [.k (.b false)], none⟩] [4] [])
               .ret)
              .skip))
            (.seq
             (.seq
              (.reg [] [⟨some 57, .move, [.t 9], none⟩,
                ⟨some 58, .move, [.t 1], none⟩,
                ⟨some 59, .call [] false, [.f 45, .t 58], none⟩,
                ⟨some 60, .call [] false, [.f 47, .t 57, .t 59], none⟩,
                ⟨some 61, .not, [.t 60], none⟩] [1, 2, 6, 7, 8, 9, 10, 11, 61] [2, 6, 8, 10, 27, 29, 30, 34, 36, 40])
              (.cond (.t 61)
               (.seq
                (.reg [] [⟨some 4, .move, [.k (.b false)], none⟩] [4] [])
                .ret)
               .skip))
             (.seq
              (.reg [] [⟨some 12, .move, [.k (.i 1)], none⟩] [1, 2, 6, 7, 8, 9, 10, 11, 12] [2, 6, 8, 10, 27, 29, 30, 34, 36, 40])
              (.seq
               (.reg [] [⟨some 62, .load (some 1) false, [.t 8], none⟩,
                 ⟨some 63, .move, [.t 12], none⟩,
                 ⟨some 64, .call [0] false, [.f 21, .t 62, .t 63], none⟩,
                 ⟨some 12, .move, [.t 64], none⟩] [1, 2, 6, 7, 9, 10, 11, 12] [2, 6, 10, 27, 29, 30, 34, 36, 40])
               (.seq
                (.reg [] [⟨some 65, .move, [.t 9], none⟩,
                  ⟨some 66, .move, [.t 12], none⟩,
                  ⟨some 67, .call [0] false, [.f 48, .t 65, .t 66], none⟩,
                  ⟨some 12, .move, [.t 67], none⟩] [1, 2, 6, 7, 10, 11, 12] [2, 6, 10, 27, 29, 30, 34, 36, 40])
                (.seq
                 (.seq
                  (.reg [] [⟨some 68, .move, [.t 12], none⟩,
                    ⟨some 69, .bin .lt, [.t 68, .k (.i 0)], none⟩,
                    ⟨some 70, .move, [.t 69], none⟩,
                    ⟨some 71, .load (some 1) false, [.t 10], some (70, false)⟩,
                    ⟨some 72, .load (some 1) false, [.t 6], some (70, false)⟩,
                    ⟨some 73, .call [] false, [.f 20, .t 71, .t 72], some (70, false)⟩,
                    ⟨some 74, .not, [.t 73], some (70, false)⟩,
                    ⟨some 75, .pick, [.t 70, .k (.b true), .t 74], none⟩,
                    ⟨some 76, .move, [.t 75], none⟩,
                    ⟨some 77, .move, [.t 11], some (76, false)⟩,
                    ⟨some 78, .move, [.t 7], some (76, false)⟩,
                    ⟨some 79, .bne, [.t 77, .t 78], some (76, false)⟩,
                    ⟨some 80, .pick, [.t 76, .k (.b true), .t 79], none⟩] [1, 2, 6, 7, 10, 80] [2, 6, 10, 27, 29, 30, 34, 36, 40])
                  (.cond (.t 80)
                   (.seq
                    (.reg [] [⟨some 4, .move, [.k (.b false)], none⟩] [4] [])
                    .ret)
                   .skip))
                 (.seq
                  (.reg [] [⟨some 13, .move, [.k (.i 1)], none⟩] [1, 2, 6, 7, 10, 13] [2, 6, 10, 27, 29, 30, 34, 36, 40])
                  (.seq
                   (.reg [] [⟨some 81, .load (some 1) false, [.t 10], none⟩,
                     ⟨some 82, .move, [.t 13], none⟩,
                     ⟨some 83, .call [0] false, [.f 21, .t 81, .t 82], none⟩,
                     ⟨some 13, .move, [.t 83], none⟩] [1, 2, 6, 7, 10, 13] [2, 6, 10, 27, 29, 30, 34, 36, 40])
                   (.seq
                    (.reg [] [⟨some 14, .move, [.k (.i 1)], none⟩] [1, 2, 6, 7, 10, 13, 14] [2, 6, 10, 27, 29, 30, 34, 36, 40])
                    (.seq
                     (.reg [] [⟨some 84, .load (some 1) false, [.t 10], none⟩,
                       ⟨some 85, .move, [.t 14], none⟩,
                       ⟨some 86, .call [] false, [.f 35, .t 84, .t 85], none⟩,
                       ⟨some 14, .move, [.t 86], none⟩] [1, 2, 6, 7, 10, 13, 14] [2, 6, 10, 27, 29, 30, 34, 36, 40])
                     (.seq
                      (.seq
                       (.reg [] [⟨some 87, .move, [.t 14], none⟩,
                         ⟨some 88, .bin .lt, [.t 87, .k (.i 0)], none⟩] [1, 2, 6, 7, 10, 13, 14, 88] [2, 6, 10, 27, 29, 30, 34, 36, 40])
                       (.cond (.t 88)
                        (.seq
                         (.reg [] [⟨some 4, .move, [.k (.b false)], none⟩] [4] [])
                         .ret)
                        .skip))
                      (.seq
                       (.seq
                        (.reg [] [⟨some 89, .move, [.t 14], none⟩,
                          ⟨some 90, .move, [.t 13], none⟩,
                          ⟨some 91, .bin .ne, [.t 89, .t 90], none⟩] [1, 2, 6, 7, 10, 13, 91] [2, 6, 10, 27, 29, 30, 34, 36, 40])
                        (.cond (.t 91)
                         (.seq
                          (.reg [] [⟨some 4, .move, [.k (.b false)], none⟩] [4] [])
                          .ret)
                         .skip))
                       (.seq
                        (.reg [] [⟨some 93, .load (some 1) false, [.t 2], none⟩,
                          ⟨some 94, .call [] false, [.f 16, .t 93], none⟩,
                          ⟨some 95, .move, [.t 1], none⟩,
                          ⟨some 96, .call [] false, [.f 45, .t 95], none⟩,
                          ⟨some 97, .call [] false, [.f 46, .t 94, .t 96], none⟩,
                          ⟨some 92, .move, [.t 97], none⟩,
                          ⟨some 98, .ext 0, [.t 92], none⟩,
                          ⟨some 99, .ext 1, [.t 92], none⟩,
                          ⟨some 15, .alloc [.nils], [], none⟩,
                          ⟨none, .store 1 true, [.t 15, .t 98], none⟩,
                          ⟨some 16, .move, [.t 99], none⟩] [6, 7, 10, 13, 15, 16] [6, 10, 15, 27, 29, 30, 34, 36, 40, 94, 96, 97])
                        (.seq
                         (.seq
                          (.reg [] [⟨some 100, .load (some 1) false, [.t 15], none⟩,
                            ⟨some 101, .load (some 1) false, [.t 6], none⟩,
                            ⟨some 102, .call [] false, [.f 20, .t 100, .t 101], none⟩,
                            ⟨some 103, .not, [.t 102], none⟩,
                            ⟨some 104, .move, [.t 103], none⟩,
                            ⟨some 105, .move, [.t 16], some (104, false)⟩,
                            ⟨some 106, .move, [.t 7], some (104, false)⟩,
                            ⟨some 107, .bne, [.t 105, .t 106], some (104, false)⟩,
                            ⟨some 108, .pick, [.t 104, .k (.b true), .t 107], none⟩] [10, 13, 108] [10, 34, 36, 40])
                          (.cond (.t 108)
                           (.seq
                            (.reg [] [⟨some 4, .move, [.k (.b false)], none⟩] [4] [])
                            .ret)
                           .skip))
                         (.seq
                          (.reg [] [⟨some 14, .move, [.k (.i 1)], none⟩] [10, 13, 14] [10, 34, 36, 40])
                          (.seq
                           (.reg [] [⟨some 109, .load (some 1) false, [.t 10], none⟩,
                             ⟨some 110, .move, [.t 14], none⟩,
                             ⟨some 111, .call [] false, [.f 35, .t 109, .t 110], none⟩,
                             ⟨some 14, .move, [.t 111], none⟩] [13, 14] [])
                           (.seq
                            (.seq
                             (.reg [] [⟨some 112, .move, [.t 14], none⟩,
                               ⟨some 113, .bin .lt, [.t 112, .k (.i 0)], none⟩] [13, 14, 113] [])
                             (.cond (.t 113)
                              (.seq
                               (.reg [] [⟨some 4, .move, [.k (.b false)], none⟩] [4] [])
                               .ret)
                              .skip))
                            (.seq
                             (.seq
                              (.reg [] [⟨some 114, .move, [.t 14], none⟩,
                                ⟨some 115, .move, [.t 13], none⟩,
                                ⟨some 116, .bin .ne, [.t 114, .t 115], none⟩] [116] [])
                              (.cond (.t 116)
                               (.seq
                                (.reg [] [⟨some 4, .move, [.k (.b false)], none⟩] [4] [])
                                .ret)
                               .skip))
                             (.seq
                              (.reg [] [⟨some 4, .move, [.k (.b true)], none⟩] [4] [])
                              .ret)))))))))))))))))))))))))))))
def a10 : AF := ⟨c10, [.tmp 4]⟩
def b29l0 : AC :=
 (.seq
  (.seq
   (.reg [] [⟨some 8, .move, [.t 4], none⟩,
     ⟨some 9, .move, [.t 0], none⟩,
     ⟨some 10, .len, [.t 9], none⟩,
     ⟨some 11, .bin .lt, [.t 8, .t 10], none⟩] [0, 3, 4, 11] [7])
   (.cond (.t 11)
    .skip
    (.exit 0)))
  (.seq
   (.block 1
    (.reg [] [⟨some 14, .move, [.t 3], none⟩,
      ⟨some 15, .move, [.t 4], none⟩,
      ⟨some 16, .move, [.t 0], none⟩,
      ⟨some 17, .move, [.t 4], none⟩,
      ⟨some 18, .iaddr 1, [.t 16, .t 17], none⟩,
      ⟨some 19, .load none false, [.t 18], none⟩,
      ⟨some 20, .iaddr 1, [.t 14, .t 15], none⟩,
      ⟨none, .store 1 true, [.t 20, .t 19], none⟩] [0, 3, 4] [7]))
   (.reg [] [⟨some 12, .move, [.t 4], none⟩,
     ⟨some 13, .bin .add, [.t 12, .k (.i 1)], none⟩,
     ⟨some 4, .move, [.t 13], none⟩] [0, 3, 4] [7])))
def c29l0 : AC := b29l0
theorem r29l0 (call lp s) : run call lp c29l0 s = run call lp b29l0 s := rfl
/-- laws.toIntS -/
def c29 : AC :=
 (.seq
  (.reg [] [⟨some 2, .move, [.k (.nils)], none⟩] [0] [])
  (.seq
   (.reg [] [⟨some 5, .move, [.t 0], none⟩,
     ⟨some 6, .len, [.t 5], none⟩,
     ⟨some 7, .mkslice 1 (.i 0), [.t 6, .t 6], none⟩,
     ⟨some 3, .move, [.t 7], none⟩] [0, 3] [7])
   (.seq
    (.seq
     (.reg [] [⟨some 4, .move, [.k (.i 0)], none⟩] [0, 3, 4] [7])
     (.block 0
      (.loop [0, 3, 4] [7] c29l0)))
    (.seq
     (.reg [] [⟨some 21, .move, [.t 3], none⟩,
       ⟨some 2, .move, [.t 21], none⟩] [2] [7])
     .ret))))
def a29 : AF := ⟨c29, [.tmp 2]⟩
def b144l0 : AC :=
 (.seq
  (.seq
   (.reg [] [⟨some 13, .move, [.t 11], none⟩,
     ⟨some 14, .faddr 0, [.t 5], none⟩,
     ⟨some 15, .load none false, [.t 14], none⟩,
     ⟨some 16, .move, [.t 1], none⟩,
     ⟨some 17, .iaddr 1, [.t 15, .t 16], none⟩,
     ⟨some 18, .load none false, [.t 17], none⟩,
     ⟨some 19, .len, [.t 18], none⟩,
     ⟨some 20, .bin .lt, [.t 13, .t 19], none⟩] [1, 2, 3, 4, 5, 11, 20] [5])
   (.cond (.t 20)
    .skip
    (.exit 0)))
  (.seq
   (.block 1
    (.seq
     (.reg [] [⟨some 23, .faddr 0, [.t 5], none⟩,
       ⟨some 24, .load none false, [.t 23], none⟩,
       ⟨some 25, .move, [.t 1], none⟩,
       ⟨some 26, .iaddr 1, [.t 24, .t 25], none⟩,
       ⟨some 27, .load none false, [.t 26], none⟩,
       ⟨some 28, .move, [.t 11], none⟩,
       ⟨some 29, .iaddr 2, [.t 27, .t 28], none⟩,
       ⟨some 30, .load (some 2) false, [.t 29], none⟩,
       ⟨some 12, .alloc [.i 0, .i 0], [], none⟩,
       ⟨none, .store 2 true, [.t 12, .t 30], none⟩] [1, 2, 3, 4, 5, 11, 12] [5, 12])
     (.seq
      (.reg [] [⟨some 31, .faddr 0, [.t 12], none⟩,
        ⟨some 32, .load none false, [.t 31], none⟩,
        ⟨some 33, .move, [.t 2], none⟩,
        ⟨some 34, .bin .eq, [.t 32, .t 33], none⟩,
        ⟨some 35, .move, [.t 34], none⟩,
        ⟨some 36, .move, [.t 3], some (35, true)⟩,
        ⟨some 37, .faddr 1, [.t 12], some (35, true)⟩,
        ⟨some 38, .load none false, [.t 37], some (35, true)⟩,
        ⟨some 39, .iaddr 1, [.t 36, .t 38], some (35, true)⟩,
        ⟨some 40, .load none false, [.t 39], some (35, true)⟩,
        ⟨some 41, .move, [.t 4], some (35, true)⟩,
        ⟨some 42, .bin .eq, [.t 40, .t 41], some (35, true)⟩,
        ⟨some 43, .pick, [.t 35, .t 42, .k (.b false)], none⟩] [1, 2, 3, 4, 5, 11, 43] [5])
      (.cond (.t 43)
       (.seq
        (.reg [] [⟨some 10, .move, [.k (.b true)], none⟩] [10] [])
        .ret)
       .skip))))
   (.reg [] [⟨some 21, .move, [.t 11], none⟩,
     ⟨some 22, .bin .add, [.t 21, .k (.i 1)], none⟩,
     ⟨some 11, .move, [.t 22], none⟩] [1, 2, 3, 4, 5, 11] [5])))
def c144l0 : AC := b144l0
theorem r144l0 (call lp s) : run call lp c144l0 s = run call lp b144l0 s := rfl
/-- spec.l4Has -/
def c144 : AC :=
 (.seq
  (.reg [] [⟨some 5, .box, [.t 0], none⟩,
    ⟨some 10, .move, [.k (.b false)], none⟩] [1, 2, 3, 4, 5] [5])
  (.seq
   (.seq
    (.reg [] [⟨some 11, .move, [.k (.i 0)], none⟩] [1, 2, 3, 4, 5, 11] [5])
    (.block 0
     (.loop [1, 2, 3, 4, 5, 11] [5] c144l0)))
   (.seq
    (.reg [] [⟨some 10, .move, [.k (.b false)], none⟩] [10] [])
    .ret)))
def a144 : AF := ⟨c144, [.tmp 10]⟩
def b186l0 : AC :=
 (.seq
  (.seq
   (.reg [] [⟨some 11, .move, [.t 9], none⟩,
     ⟨some 12, .faddr 0, [.t 4], none⟩,
     ⟨some 13, .load none false, [.t 12], none⟩,
     ⟨some 14, .move, [.t 1], none⟩,
     ⟨some 15, .iaddr 1, [.t 13, .t 14], none⟩,
     ⟨some 16, .load none false, [.t 15], none⟩,
     ⟨some 17, .len, [.t 16], none⟩,
     ⟨some 18, .bin .lt, [.t 11, .t 17], none⟩] [1, 2, 3, 4, 9, 18] [4])
   (.cond (.t 18)
    .skip
    (.exit 0)))
  (.seq
   (.block 1
    (.seq
     (.reg [] [⟨some 21, .faddr 0, [.t 4], none⟩,
       ⟨some 22, .load none false, [.t 21], none⟩,
       ⟨some 23, .move, [.t 1], none⟩,
       ⟨some 24, .iaddr 1, [.t 22, .t 23], none⟩,
       ⟨some 25, .load none false, [.t 24], none⟩,
       ⟨some 26, .move, [.t 9], none⟩,
       ⟨some 27, .iaddr 2, [.t 25, .t 26], none⟩,
       ⟨some 28, .load (some 2) false, [.t 27], none⟩,
       ⟨some 10, .alloc [.i 0, .i 0], [], none⟩,
       ⟨none, .store 2 true, [.t 10, .t 28], none⟩] [1, 2, 3, 4, 9, 10] [4, 10])
     (.seq
      (.reg [0, 1, 2, 3, 4, 5, 6, 7, 8, 9, 10, 11] [⟨some 29, .load (some 1) false, [.t 4], none⟩,
        ⟨some 30, .move, [.t 2], none⟩,
        ⟨some 31, .faddr 0, [.t 10], none⟩,
        ⟨some 32, .load none false, [.t 31], none⟩,
        ⟨some 33, .move, [.t 3], none⟩,
        ⟨some 34, .move, [.t 3], none⟩,
        ⟨some 35, .faddr 1, [.t 10], none⟩,
        ⟨some 36, .load none false, [.t 35], none⟩,
        ⟨some 37, .iaddr 1, [.t 34, .t 36], none⟩,
        ⟨some 38, .load none false, [.t 37], none⟩,
        ⟨some 39, .call [] false, [.f 144, .t 29, .t 30, .t 32, .t 33, .t 38], none⟩,
        ⟨some 40, .not, [.t 39], none⟩] [1, 2, 3, 4, 9, 40] [4])
      (.cond (.t 40)
       (.seq
        (.reg [] [⟨some 8, .move, [.k (.b false)], none⟩] [8] [])
        .ret)
       .skip))))
   (.reg [] [⟨some 19, .move, [.t 9], none⟩,
     ⟨some 20, .bin .add, [.t 19, .k (.i 1)], none⟩,
     ⟨some 9, .move, [.t 20], none⟩] [1, 2, 3, 4, 9] [4])))
def c186l0 : AC := b186l0
theorem r186l0 (call lp s) : run call lp c186l0 s = run call lp b186l0 s := rfl
/-- spec.l4Covers -/
def c186 : AC :=
 (.seq
  (.reg [] [⟨some 4, .box, [.t 0], none⟩,
    ⟨some 8, .move, [.k (.b false)], none⟩] [1, 2, 3, 4] [4])
  (.seq
   (.seq
    (.reg [] [⟨some 9, .move, [.k (.i 0)], none⟩] [1, 2, 3, 4, 9] [4])
    (.block 0
     (.loop [1, 2, 3, 4, 9] [4] c186l0)))
   (.seq
    (.reg [] [⟨some 8, .move, [.k (.b true)], none⟩] [8] [])
    .ret)))
def a186 : AF := ⟨c186, [.tmp 8]⟩
def b164l0 : AC :=
 (.seq
  (.seq
   (.reg [] [⟨some 19, .move, [.t 8], none⟩,
     ⟨some 20, .bin .ge, [.t 19, .k (.i 0)], none⟩] [1, 2, 5, 6, 7, 8, 20] [2, 9, 50])
   (.cond (.t 20)
    .skip
    (.exit 2)))
  (.seq
   (.block 3
    (.seq
     (.reg [0, 1, 2, 3, 4, 5, 6, 7, 8, 9, 10, 11, 12, 13, 14, 15, 16, 17, 18, 19, 20, 21, 22] [⟨some 23, .move, [.t 1], none⟩,
       ⟨some 24, .move, [.t 8], none⟩,
       ⟨some 25, .iaddr 1, [.t 23, .t 24], none⟩,
       ⟨some 26, .load none false, [.t 25], none⟩,
       ⟨some 27, .move, [.t 1], none⟩,
       ⟨some 28, .move, [.t 6], none⟩,
       ⟨some 29, .iaddr 1, [.t 27, .t 28], none⟩,
       ⟨some 30, .load none false, [.t 29], none⟩,
       ⟨some 31, .bin .eq, [.t 26, .t 30], none⟩,
       ⟨some 32, .move, [.t 31], none⟩,
       ⟨some 33, .load (some 1) false, [.t 2], some (32, true)⟩,
       ⟨some 34, .move, [.t 6], some (32, true)⟩,
       ⟨some 35, .move, [.t 8], some (32, true)⟩,
       ⟨some 36, .move, [.t 1], some (32, true)⟩,
       ⟨some 37, .call [] false, [.f 186, .t 33, .t 34, .t 35, .t 36], some (32, true)⟩,
       ⟨some 38, .pick, [.t 32, .t 37, .k (.b false)], none⟩,
       ⟨some 39, .move, [.t 38], none⟩,
       ⟨some 40, .load (some 1) false, [.t 2], some (39, true)⟩,
       ⟨some 41, .move, [.t 8], some (39, true)⟩,
       ⟨some 42, .move, [.t 6], some (39, true)⟩,
       ⟨some 43, .move, [.t 1], some (39, true)⟩,
       ⟨some 44, .call [] false, [.f 186, .t 40, .t 41, .t 42, .t 43], some (39, true)⟩,
       ⟨some 45, .pick, [.t 39, .t 44, .k (.b false)], none⟩] [1, 2, 5, 6, 7, 8, 45] [2, 9, 50])
     (.cond (.t 45)
      (.reg [] [⟨some 46, .move, [.t 8], none⟩,
        ⟨some 7, .move, [.t 46], none⟩] [1, 2, 5, 6, 7, 8] [2, 9, 50])
      .skip)))
   (.reg [] [⟨some 21, .move, [.t 8], none⟩,
     ⟨some 22, .bin .sub, [.t 21, .k (.i 1)], none⟩,
     ⟨some 8, .move, [.t 22], none⟩] [1, 2, 5, 6, 7, 8] [2, 9, 50])))
def c164l0 : AC := b164l0
theorem r164l0 (call lp s) : run call lp c164l0 s = run call lp b164l0 s := rfl
def b164l1 : AC :=
 (.seq
  (.seq
   (.reg [] [⟨some 10, .move, [.t 6], none⟩,
     ⟨some 11, .move, [.t 1], none⟩,
     ⟨some 12, .len, [.t 11], none⟩,
     ⟨some 13, .bin .lt, [.t 10, .t 12], none⟩] [1, 2, 5, 6, 13] [2, 9, 50])
   (.cond (.t 13)
    .skip
    (.exit 0)))
  (.seq
   (.block 1
    (.seq
     (.reg [] [⟨some 16, .move, [.t 6], none⟩,
       ⟨some 7, .move, [.t 16], none⟩] [1, 2, 5, 6, 7] [2, 9, 50])
     (.seq
      (.seq
       (.reg [] [⟨some 17, .move, [.t 6], none⟩,
         ⟨some 18, .bin .sub, [.t 17, .k (.i 1)], none⟩,
         ⟨some 8, .move, [.t 18], none⟩] [1, 2, 5, 6, 7, 8] [2, 9, 50])
       (.block 2
        (.loop [1, 2, 5, 6, 7, 8] [2, 9, 50] c164l0)))
      (.reg [] [⟨some 47, .move, [.t 5], none⟩,
        ⟨some 48, .move, [.t 7], none⟩,
        ⟨some 49, .bslice 1 true, [.t 48], none⟩,
        ⟨some 50, .append 1 true, [.t 47, .t 49], none⟩,
        ⟨some 5, .move, [.t 50], none⟩] [1, 2, 5, 6] [2, 9, 50]))))
   (.reg [] [⟨some 14, .move, [.t 6], none⟩,
     ⟨some 15, .bin .add, [.t 14, .k (.i 1)], none⟩,
     ⟨some 6, .move, [.t 15], none⟩] [1, 2, 5, 6] [2, 9, 50])))
def c164l1 : AC := b164l1
theorem r164l1 (call lp s) : run call lp c164l1 s = run call lp b164l1 s := rfl
/-- spec.l4Next -/
def c164 : AC :=
 (.seq
  (.reg [] [⟨some 2, .box, [.t 0], none⟩,
    ⟨some 4, .move, [.k (.nils)], none⟩] [1, 2] [2])
  (.seq
   (.reg [] [⟨some 9, .bslice 1 true, [], none⟩,
     ⟨some 5, .move, [.t 9], none⟩] [1, 2, 5] [2, 9, 50])
   (.seq
    (.seq
     (.reg [] [⟨some 6, .move, [.k (.i 0)], none⟩] [1, 2, 5, 6] [2, 9, 50])
     (.block 0
      (.loop [1, 2, 5, 6] [2, 9, 50] c164l1)))
    (.seq
     (.reg [] [⟨some 51, .move, [.t 5], none⟩,
       ⟨some 4, .move, [.t 51], none⟩] [4] [9, 50])
     .ret))))
def a164 : AF := ⟨c164, [.tmp 4]⟩
def b165l0 : AC :=
 (.seq
  (.seq
   (.reg [] [⟨some 11, .move, [.t 5], none⟩,
     ⟨some 12, .move, [.t 0], none⟩,
     ⟨some 13, .len, [.t 12], none⟩,
     ⟨some 14, .bin .lt, [.t 11, .t 13], none⟩] [0, 1, 5, 14] [])
   (.cond (.t 14)
    .skip
    (.exit 0)))
  (.seq
   (.block 1
    (.seq
     (.reg [0, 1, 2, 3, 4, 5, 6, 7, 8] [⟨some 17, .move, [.t 0], none⟩,
       ⟨some 18, .move, [.t 5], none⟩,
       ⟨some 19, .iaddr 1, [.t 17, .t 18], none⟩,
       ⟨some 20, .load none false, [.t 19], none⟩,
       ⟨some 21, .move, [.t 1], none⟩,
       ⟨some 22, .move, [.t 5], none⟩,
       ⟨some 23, .iaddr 1, [.t 21, .t 22], none⟩,
       ⟨some 24, .load none false, [.t 23], none⟩,
       ⟨some 25, .bin .ne, [.t 20, .t 24], none⟩] [0, 1, 5, 25] [])
     (.cond (.t 25)
      (.seq
       (.reg [] [⟨some 4, .move, [.k (.b false)], none⟩] [4] [])
       .ret)
      .skip)))
   (.reg [] [⟨some 15, .move, [.t 5], none⟩,
     ⟨some 16, .bin .add, [.t 15, .k (.i 1)], none⟩,
     ⟨some 5, .move, [.t 16], none⟩] [0, 1, 5] [])))
def c165l0 : AC := b165l0
theorem r165l0 (call lp s) : run call lp c165l0 s = run call lp b165l0 s := rfl
/-- spec.l4Same -/
def c165 : AC :=
 (.seq
  (.reg [] [⟨some 4, .move, [.k (.b false)], none⟩] [0, 1] [])
  (.seq
   (.seq
    (.reg [] [⟨some 6, .move, [.t 0], none⟩,
      ⟨some 7, .len, [.t 6], none⟩,
      ⟨some 8, .move, [.t 1], none⟩,
      ⟨some 9, .len, [.t 8], none⟩,
      ⟨some 10, .bin .ne, [.t 7, .t 9], none⟩] [0, 1, 10] [])
    (.cond (.t 10)
     (.seq
      (.reg [] [⟨some 4, .move, [.k (.b false)], none⟩] [4] [])
      .ret)
     .skip))
   (.seq
    (.seq
     (.reg [] [⟨some 5, .move, [.k (.i 0)], none⟩] [0, 1, 5] [])
     (.block 0
      (.loop [0, 1, 5] [] c165l0)))
    (.seq
     (.reg [] [⟨some 4, .move, [.k (.b true)], none⟩] [4] [])
     .ret))))
def a165 : AF := ⟨c165, [.tmp 4]⟩
def b145l0 : AC :=
 (.block 1
  (.seq
   (.reg [0, 1, 2, 3, 4, 5, 6, 7, 8] [⟨some 10, .load (some 1) false, [.t 1], none⟩,
     ⟨some 11, .move, [.t 3], none⟩,
     ⟨some 12, .move, [.t 3], none⟩,
     ⟨some 13, .len, [.t 12], none⟩,
     ⟨some 14, .bin .sub, [.t 13, .k (.i 1)], none⟩,
     ⟨some 15, .iaddr 1, [.t 11, .t 14], none⟩,
     ⟨some 16, .load none false, [.t 15], none⟩,
     ⟨some 17, .call [] false, [.f 164, .t 10, .t 16], none⟩,
     ⟨some 4, .move, [.t 17], none⟩] [1, 3, 4] [1, 9, 17, 30])
   (.seq
    (.seq
     (.reg [] [⟨some 18, .move, [.t 4], none⟩,
       ⟨some 19, .move, [.t 3], none⟩,
       ⟨some 20, .move, [.t 3], none⟩,
       ⟨some 21, .len, [.t 20], none⟩,
       ⟨some 22, .bin .sub, [.t 21, .k (.i 1)], none⟩,
       ⟨some 23, .iaddr 1, [.t 19, .t 22], none⟩,
       ⟨some 24, .load none false, [.t 23], none⟩,
       ⟨some 25, .call [] false, [.f 165, .t 18, .t 24], none⟩] [1, 3, 4, 25] [1, 9, 17, 30])
     (.cond (.t 25)
      (.seq
       (.reg [] [⟨some 26, .move, [.t 3], none⟩,
         ⟨some 2, .move, [.t 26], none⟩] [2] [9, 30])
       .ret)
      .skip))
    (.reg [] [⟨some 27, .move, [.t 3], none⟩,
      ⟨some 28, .move, [.t 4], none⟩,
      ⟨some 29, .bslice 1 false, [.t 28], none⟩,
      ⟨some 30, .append 1 true, [.t 27, .t 29], none⟩,
      ⟨some 3, .move, [.t 30], none⟩] [1, 3] [1, 9, 30]))))
def c145l0 : AC := b145l0
theorem r145l0 (call lp s) : run call lp c145l0 s = run call lp b145l0 s := rfl
/-- spec.l4Rounds -/
def c145 : AC :=
 (.seq
  (.reg [] [⟨some 1, .box, [.t 0], none⟩,
    ⟨some 2, .move, [.k (.nils)], none⟩] [1] [1])
  (.seq
   (.reg [] [⟨some 5, .faddr 0, [.t 1], none⟩,
     ⟨some 6, .load none false, [.t 5], none⟩,
     ⟨some 7, .len, [.t 6], none⟩,
     ⟨some 8, .mkslice 1 (.i 0), [.t 7, .t 7], none⟩,
     ⟨some 9, .bslice 1 false, [.t 8], none⟩,
     ⟨some 3, .move, [.t 9], none⟩] [1, 3] [1, 9, 30])
   (.block 0
    (.loop [1, 3] [1, 9, 30] c145l0))))
def a145 : AF := ⟨c145, [.tmp 2]⟩
/-- spec.l4Classes -/
def c99 : AC :=
 (.seq
  (.reg [] [⟨some 1, .box, [.t 0], none⟩,
    ⟨some 2, .move, [.k (.nils)], none⟩] [1] [1])
  (.seq
   (.reg [] [⟨some 4, .load (some 1) false, [.t 1], none⟩,
     ⟨some 5, .call [] false, [.f 145, .t 4], none⟩,
     ⟨some 3, .move, [.t 5], none⟩] [3] [5])
   (.seq
    (.reg [] [⟨some 6, .move, [.t 3], none⟩,
      ⟨some 7, .move, [.t 3], none⟩,
      ⟨some 8, .len, [.t 7], none⟩,
      ⟨some 9, .bin .sub, [.t 8, .k (.i 1)], none⟩,
      ⟨some 10, .iaddr 1, [.t 6, .t 9], none⟩,
      ⟨some 11, .load none false, [.t 10], none⟩,
      ⟨some 2, .move, [.t 11], none⟩] [2] [])
    .ret)))
def a99 : AF := ⟨c99, [.tmp 2]⟩
def b98l0 : AC :=
 (.seq
  (.seq
   (.reg [] [⟨some 28, .move, [.t 11], none⟩,
     ⟨some 29, .faddr 0, [.t 4], none⟩,
     ⟨some 30, .load none false, [.t 29], none⟩,
     ⟨some 31, .move, [.t 9], none⟩,
     ⟨some 32, .iaddr 1, [.t 30, .t 31], none⟩,
     ⟨some 33, .load none false, [.t 32], none⟩,
     ⟨some 34, .len, [.t 33], none⟩,
     ⟨some 35, .bin .lt, [.t 28, .t 34], none⟩] [2, 3, 4, 5, 9, 10, 11, 35] [4, 5])
   (.cond (.t 35)
    .skip
    (.exit 2)))
  (.seq
   (.block 3
    (.seq
     (.reg [] [⟨some 38, .faddr 0, [.t 4], none⟩,
       ⟨some 39, .load none false, [.t 38], none⟩,
       ⟨some 40, .move, [.t 9], none⟩,
       ⟨some 41, .iaddr 1, [.t 39, .t 40], none⟩,
       ⟨some 42, .load none false, [.t 41], none⟩,
       ⟨some 43, .move, [.t 11], none⟩,
       ⟨some 44, .iaddr 2, [.t 42, .t 43], none⟩,
       ⟨some 45, .load (some 2) false, [.t 44], none⟩,
       ⟨some 12, .alloc [.i 0, .i 0], [], none⟩,
       ⟨none, .store 2 true, [.t 12, .t 45], none⟩] [2, 3, 4, 5, 9, 10, 11, 12] [4, 5, 12])
     (.seq
      (.reg [0, 1, 2, 3, 4, 5, 6, 7, 8, 9, 10, 11, 12, 13, 14] [⟨some 46, .load (some 1) false, [.t 5], none⟩,
        ⟨some 47, .move, [.t 10], none⟩,
        ⟨some 48, .faddr 0, [.t 12], none⟩,
        ⟨some 49, .load none false, [.t 48], none⟩,
        ⟨some 50, .move, [.t 3], none⟩,
        ⟨some 51, .move, [.t 3], none⟩,
        ⟨some 52, .move, [.t 2], none⟩,
        ⟨some 53, .faddr 1, [.t 12], none⟩,
        ⟨some 54, .load none false, [.t 53], none⟩,
        ⟨some 55, .iaddr 1, [.t 52, .t 54], none⟩,
        ⟨some 56, .load none false, [.t 55], none⟩,
        ⟨some 57, .iaddr 1, [.t 51, .t 56], none⟩,
        ⟨some 58, .load none false, [.t 57], none⟩,
        ⟨some 59, .call [] false, [.f 144, .t 46, .t 47, .t 49, .t 50, .t 58], none⟩,
        ⟨some 60, .not, [.t 59], none⟩] [2, 3, 4, 5, 9, 10, 11, 60] [4, 5])
      (.cond (.t 60)
       (.seq
        (.reg [] [⟨some 8, .move, [.k (.b false)], none⟩] [8] [])
        .ret)
       .skip))))
   (.reg [] [⟨some 36, .move, [.t 11], none⟩,
     ⟨some 37, .bin .add, [.t 36, .k (.i 1)], none⟩,
     ⟨some 11, .move, [.t 37], none⟩] [2, 3, 4, 5, 9, 10, 11] [4, 5])))
def c98l0 : AC := b98l0
theorem r98l0 (call lp s) : run call lp c98l0 s = run call lp b98l0 s := rfl
def b98l1 : AC :=
 (.seq
  (.seq
   (.reg [] [⟨some 79, .move, [.t 16], none⟩,
     ⟨some 80, .faddr 0, [.t 4], none⟩,
     ⟨some 81, .load none false, [.t 80], none⟩,
     ⟨some 82, .move, [.t 9], none⟩,
     ⟨some 83, .iaddr 1, [.t 81, .t 82], none⟩,
     ⟨some 84, .load none false, [.t 83], none⟩,
     ⟨some 85, .len, [.t 84], none⟩,
     ⟨some 86, .bin .lt, [.t 79, .t 85], none⟩] [2, 3, 4, 5, 9, 10, 13, 14, 15, 16, 86] [4, 5, 14])
   (.cond (.t 86)
    .skip
    (.exit 6)))
  (.seq
   (.block 7
    (.seq
     (.reg [] [⟨some 89, .faddr 0, [.t 4], none⟩,
       ⟨some 90, .load none false, [.t 89], none⟩,
       ⟨some 91, .move, [.t 9], none⟩,
       ⟨some 92, .iaddr 1, [.t 90, .t 91], none⟩,
       ⟨some 93, .load none false, [.t 92], none⟩,
       ⟨some 94, .move, [.t 16], none⟩,
       ⟨some 95, .iaddr 2, [.t 93, .t 94], none⟩,
       ⟨some 96, .load (some 2) false, [.t 95], none⟩,
       ⟨some 17, .alloc [.i 0, .i 0], [], none⟩,
       ⟨none, .store 2 true, [.t 17, .t 96], none⟩] [2, 3, 4, 5, 9, 10, 13, 14, 15, 16, 17] [4, 5, 14, 17])
     (.reg [0, 1, 2, 3, 4, 5, 6, 7, 8, 9, 10, 11, 12, 13, 14, 15, 16, 17, 18, 19, 20, 21, 22, 23, 24] [⟨some 97, .move, [.t 15], none⟩,
       ⟨some 98, .move, [.t 97], none⟩,
       ⟨some 99, .faddr 0, [.t 17], some (98, false)⟩,
       ⟨some 100, .load none false, [.t 99], some (98, false)⟩,
       ⟨some 101, .faddr 0, [.t 14], some (98, false)⟩,
       ⟨some 102, .load none false, [.t 101], some (98, false)⟩,
       ⟨some 103, .bin .eq, [.t 100, .t 102], some (98, false)⟩,
       ⟨some 104, .move, [.t 103], some (98, false)⟩,
       ⟨some 105, .move, [.t 3], some (104, true)⟩,
       ⟨some 106, .move, [.t 2], some (104, true)⟩,
       ⟨some 107, .faddr 1, [.t 17], some (104, true)⟩,
       ⟨some 108, .load none false, [.t 107], some (104, true)⟩,
       ⟨some 109, .iaddr 1, [.t 106, .t 108], some (104, true)⟩,
       ⟨some 110, .load none false, [.t 109], some (104, true)⟩,
       ⟨some 111, .iaddr 1, [.t 105, .t 110], some (104, true)⟩,
       ⟨some 112, .load none false, [.t 111], some (104, true)⟩,
       ⟨some 113, .move, [.t 3], some (104, true)⟩,
       ⟨some 114, .faddr 1, [.t 14], some (104, true)⟩,
       ⟨some 115, .load none false, [.t 114], some (104, true)⟩,
       ⟨some 116, .iaddr 1, [.t 113, .t 115], some (104, true)⟩,
       ⟨some 117, .load none false, [.t 116], some (104, true)⟩,
       ⟨some 118, .bin .eq, [.t 112, .t 117], some (104, true)⟩,
       ⟨some 119, .pick, [.t 104, .t 118, .k (.b false)], some (98, false)⟩,
       ⟨some 120, .pick, [.t 98, .k (.b true), .t 119], none⟩,
       ⟨some 15, .move, [.t 120], none⟩] [2, 3, 4, 5, 9, 10, 13, 14, 15, 16] [4, 5, 14])))
   (.reg [] [⟨some 87, .move, [.t 16], none⟩,
     ⟨some 88, .bin .add, [.t 87, .k (.i 1)], none⟩,
     ⟨some 16, .move, [.t 88], none⟩] [2, 3, 4, 5, 9, 10, 13, 14, 15, 16] [4, 5, 14])))
def c98l1 : AC := b98l1
theorem r98l1 (call lp s) : run call lp c98l1 s = run call lp b98l1 s := rfl
def b98l2 : AC :=
 (.seq
  (.seq
   (.reg [] [⟨some 61, .move, [.t 13], none⟩,
     ⟨some 62, .faddr 0, [.t 5], none⟩,
     ⟨some 63, .load none false, [.t 62], none⟩,
     ⟨some 64, .move, [.t 10], none⟩,
     ⟨some 65, .iaddr 1, [.t 63, .t 64], none⟩,
     ⟨some 66, .load none false, [.t 65], none⟩,
     ⟨some 67, .len, [.t 66], none⟩,
     ⟨some 68, .bin .lt, [.t 61, .t 67], none⟩] [2, 3, 4, 5, 9, 10, 13, 68] [4, 5])
   (.cond (.t 68)
    .skip
    (.exit 4)))
  (.seq
   (.block 5
    (.seq
     (.reg [] [⟨some 71, .faddr 0, [.t 5], none⟩,
       ⟨some 72, .load none false, [.t 71], none⟩,
       ⟨some 73, .move, [.t 10], none⟩,
       ⟨some 74, .iaddr 1, [.t 72, .t 73], none⟩,
       ⟨some 75, .load none false, [.t 74], none⟩,
       ⟨some 76, .move, [.t 13], none⟩,
       ⟨some 77, .iaddr 2, [.t 75, .t 76], none⟩,
       ⟨some 78, .load (some 2) false, [.t 77], none⟩,
       ⟨some 14, .alloc [.i 0, .i 0], [], none⟩,
       ⟨none, .store 2 true, [.t 14, .t 78], none⟩] [2, 3, 4, 5, 9, 10, 13, 14] [4, 5, 14])
     (.seq
      (.reg [] [⟨some 15, .move, [.k (.b false)], none⟩] [2, 3, 4, 5, 9, 10, 13, 14, 15] [4, 5, 14])
      (.seq
       (.seq
        (.reg [] [⟨some 16, .move, [.k (.i 0)], none⟩] [2, 3, 4, 5, 9, 10, 13, 14, 15, 16] [4, 5, 14])
        (.block 6
         (.loop [2, 3, 4, 5, 9, 10, 13, 14, 15, 16] [4, 5, 14] c98l1)))
       (.seq
        (.reg [] [⟨some 121, .move, [.t 15], none⟩,
          ⟨some 122, .not, [.t 121], none⟩] [2, 3, 4, 5, 9, 10, 13, 122] [4, 5])
        (.cond (.t 122)
         (.seq
          (.reg [] [⟨some 8, .move, [.k (.b false)], none⟩] [8] [])
          .ret)
         .skip))))))
   (.reg [] [⟨some 69, .move, [.t 13], none⟩,
     ⟨some 70, .bin .add, [.t 69, .k (.i 1)], none⟩,
     ⟨some 13, .move, [.t 70], none⟩] [2, 3, 4, 5, 9, 10, 13] [4, 5])))
def c98l2 : AC := b98l2
theorem r98l2 (call lp s) : run call lp c98l2 s = run call lp b98l2 s := rfl
def b98l3 : AC :=
 (.seq
  (.seq
   (.reg [] [⟨some 18, .move, [.t 9], none⟩,
     ⟨some 19, .move, [.t 2], none⟩,
     ⟨some 20, .len, [.t 19], none⟩,
     ⟨some 21, .bin .lt, [.t 18, .t 20], none⟩] [2, 3, 4, 5, 9, 21] [4, 5])
   (.cond (.t 21)
    .skip
    (.exit 0)))
  (.seq
   (.block 1
    (.seq
     (.reg [] [⟨some 24, .move, [.t 2], none⟩,
       ⟨some 25, .move, [.t 9], none⟩,
       ⟨some 26, .iaddr 1, [.t 24, .t 25], none⟩,
       ⟨some 27, .load none false, [.t 26], none⟩,
       ⟨some 10, .move, [.t 27], none⟩] [2, 3, 4, 5, 9, 10] [4, 5])
     (.seq
      (.seq
       (.reg [] [⟨some 11, .move, [.k (.i 0)], none⟩] [2, 3, 4, 5, 9, 10, 11] [4, 5])
       (.block 2
        (.loop [2, 3, 4, 5, 9, 10, 11] [4, 5] c98l0)))
      (.seq
       (.reg [] [⟨some 13, .move, [.k (.i 0)], none⟩] [2, 3, 4, 5, 9, 10, 13] [4, 5])
       (.block 4
        (.loop [2, 3, 4, 5, 9, 10, 13] [4, 5] c98l2))))))
   (.reg [] [⟨some 22, .move, [.t 9], none⟩,
     ⟨some 23, .bin .add, [.t 22, .k (.i 1)], none⟩,
     ⟨some 9, .move, [.t 23], none⟩] [2, 3, 4, 5, 9] [4, 5])))
def c98l3 : AC := b98l3
theorem r98l3 (call lp s) : run call lp c98l3 s = run call lp b98l3 s := rfl
/-- spec.l11Solve -/
def c98 : AC :=
 (.seq
  (.reg [] [⟨some 4, .box, [.t 0], none⟩,
    ⟨some 5, .box, [.t 1], none⟩,
    ⟨some 8, .move, [.k (.b false)], none⟩] [2, 3, 4, 5] [4, 5])
  (.seq
   (.seq
    (.reg [] [⟨some 9, .move, [.k (.i 0)], none⟩] [2, 3, 4, 5, 9] [4, 5])
    (.block 0
     (.loop [2, 3, 4, 5, 9] [4, 5] c98l3)))
   (.seq
    (.reg [] [⟨some 8, .move, [.k (.b true)], none⟩] [8] [])
    .ret)))
def a98 : AF := ⟨c98, [.tmp 8]⟩
def b40l0 : AC :=
 (.seq
  (.seq
   (.reg [] [⟨some 24, .move, [.t 7], none⟩,
     ⟨some 25, .move, [.t 2], none⟩,
     ⟨some 26, .len, [.t 25], none⟩,
     ⟨some 27, .bin .lt, [.t 24, .t 26], none⟩] [2, 3, 4, 7, 27] [3, 4])
   (.cond (.t 27)
    .skip
    (.exit 0)))
  (.seq
   (.block 1
    (.seq
     (.reg [0, 1, 2, 3, 4, 5, 6, 7, 8, 9] [⟨some 30, .move, [.t 2], none⟩,
       ⟨some 31, .move, [.t 7], none⟩,
       ⟨some 32, .iaddr 1, [.t 30, .t 31], none⟩,
       ⟨some 33, .load none false, [.t 32], none⟩,
       ⟨some 34, .faddr 0, [.t 4], none⟩,
       ⟨some 35, .load none false, [.t 34], none⟩,
       ⟨some 36, .len, [.t 35], none⟩,
       ⟨some 37, .bin .sub, [.t 36, .k (.i 1)], none⟩,
       ⟨some 38, .call [] false, [.f 60, .t 33, .k (.i 0), .t 37], none⟩,
       ⟨some 39, .not, [.t 38], none⟩] [2, 3, 4, 7, 39] [3, 4])
     (.cond (.t 39)
      (.seq
       (.reg [] [⟨some 6, .move, [.k (.b false)], none⟩] [6] [])
       .ret)
      .skip)))
   (.reg [] [⟨some 28, .move, [.t 7], none⟩,
     ⟨some 29, .bin .add, [.t 28, .k (.i 1)], none⟩,
     ⟨some 7, .move, [.t 29], none⟩] [2, 3, 4, 7] [3, 4])))
def c40l0 : AC := b40l0
theorem r40l0 (call lp s) : run call lp c40l0 s = run call lp b40l0 s := rfl
/-- spec.EquationsSolve -/
def c40 : AC :=
 (.seq
  (.reg [] [⟨some 3, .box, [.t 0], none⟩,
    ⟨some 4, .box, [.t 1], none⟩,
    ⟨some 6, .move, [.k (.b false)], none⟩] [2, 3, 4] [3, 4])
  (.seq
   (.seq
    (.reg [] [⟨some 8, .load (some 1) false, [.t 3], none⟩,
      ⟨some 9, .call [] false, [.f 59, .t 8], none⟩,
      ⟨some 10, .not, [.t 9], none⟩,
      ⟨some 11, .move, [.t 10], none⟩,
      ⟨some 12, .load (some 1) false, [.t 4], some (11, false)⟩,
      ⟨some 13, .call [] false, [.f 59, .t 12], some (11, false)⟩,
      ⟨some 14, .not, [.t 13], some (11, false)⟩,
      ⟨some 15, .pick, [.t 11, .k (.b true), .t 14], none⟩,
      ⟨some 16, .move, [.t 15], none⟩,
      ⟨some 17, .move, [.t 2], some (16, false)⟩,
      ⟨some 18, .len, [.t 17], some (16, false)⟩,
      ⟨some 19, .faddr 0, [.t 3], some (16, false)⟩,
      ⟨some 20, .load none false, [.t 19], some (16, false)⟩,
      ⟨some 21, .len, [.t 20], some (16, false)⟩,
      ⟨some 22, .bin .ne, [.t 18, .t 21], some (16, false)⟩,
      ⟨some 23, .pick, [.t 16, .k (.b true), .t 22], none⟩] [2, 3, 4, 23] [3, 4])
    (.cond (.t 23)
     (.seq
      (.reg [] [⟨some 6, .move, [.k (.b false)], none⟩] [6] [])
      .ret)
     .skip))
   (.seq
    (.seq
     (.reg [] [⟨some 7, .move, [.k (.i 0)], none⟩] [2, 3, 4, 7] [3, 4])
     (.block 0
      (.loop [2, 3, 4, 7] [3, 4] c40l0)))
    (.seq
     (.reg [0, 1, 2, 3, 4, 7, 8] [⟨some 40, .load (some 1) false, [.t 3], none⟩,
       ⟨some 41, .load (some 1) false, [.t 4], none⟩,
       ⟨some 42, .move, [.t 2], none⟩,
       ⟨some 43, .load (some 1) false, [.t 4], none⟩,
       ⟨some 44, .call [] false, [.f 99, .t 43], none⟩,
       ⟨none, .chk (.load (some 1) false), [.t 40, .t 3], none⟩,
       ⟨none, .chk (.load (some 1) false), [.t 41, .t 4], none⟩,
       ⟨some 45, .call [] false, [.f 98, .t 40, .t 41, .t 42, .t 44], none⟩,
       ⟨some 6, .move, [.t 45], none⟩] [6] [])
     .ret))))
def a40 : AF := ⟨c40, [.tmp 6]⟩
def b167l0 : AC :=
 (.seq
  (.reg [] [⟨some 17, .bin .lt, [.t 16, .t 15], none⟩] [0, 6, 14, 15, 16, 17] [9, 30])
  (.seq
   (.cond (.t 17)
    .skip
    (.exit 0))
   (.seq
    (.block 1
     (.seq
      (.reg [] [⟨some 18, .iaddr 2, [.t 14, .t 16], none⟩,
        ⟨some 19, .load (some 2) false, [.t 18], none⟩,
        ⟨some 8, .alloc [.i 0, .i 0], [], none⟩,
        ⟨none, .store 2 true, [.t 8, .t 19], none⟩] [0, 6, 8, 14, 15, 16] [8, 9, 30])
      (.reg [0, 1, 2, 3, 4, 5, 6, 7, 8, 9, 10, 11] [⟨some 20, .move, [.t 6], none⟩,
        ⟨some 21, .faddr 0, [.t 8], none⟩,
        ⟨some 22, .load none false, [.t 21], none⟩,
        ⟨some 23, .move, [.t 0], none⟩,
        ⟨some 24, .faddr 1, [.t 8], none⟩,
        ⟨some 25, .load none false, [.t 24], none⟩,
        ⟨some 26, .iaddr 1, [.t 23, .t 25], none⟩,
        ⟨some 27, .load none false, [.t 26], none⟩,
        ⟨some 28, .build [.i 0, .i 0] [(0, 1), (1, 1)], [.t 22, .t 27], none⟩,
        ⟨some 29, .bslice 2 true, [.t 28], none⟩,
        ⟨some 30, .append 2 true, [.t 20, .t 29], none⟩,
        ⟨some 6, .move, [.t 30], none⟩] [0, 6, 14, 15, 16] [9, 30])))
    (.reg [] [⟨some 31, .bin .add, [.t 16, .k (.i 1)], none⟩,
      ⟨some 16, .move, [.t 31], none⟩] [0, 6, 14, 15, 16] [9, 30]))))
def c167l0 : AC := b167l0
theorem r167l0 (call lp s) : run call lp c167l0 s = run call lp b167l0 s := rfl
/-- impl.alikeRounds$1 -/
def c167 : AC :=
 (.seq
  (.reg [] [⟨some 5, .move, [.k (.nils)], none⟩] [0, 1, 2] [])
  (.seq
   (.reg [] [⟨some 9, .bslice 2 true, [], none⟩,
     ⟨some 6, .move, [.t 9], none⟩] [0, 1, 2, 6] [9, 30])
   (.seq
    (.seq
     (.reg [] [⟨some 10, .faddr 0, [.t 2], none⟩,
       ⟨some 11, .load none false, [.t 10], none⟩,
       ⟨some 12, .move, [.t 1], none⟩,
       ⟨some 13, .iaddr 1, [.t 11, .t 12], none⟩,
       ⟨some 14, .load none false, [.t 13], none⟩,
       ⟨some 15, .len, [.t 14], none⟩,
       ⟨some 16, .move, [.k (.i 0)], none⟩] [0, 6, 14, 15, 16] [9, 30])
     (.block 0
      (.loop [0, 6, 14, 15, 16] [9, 30] c167l0)))
    (.seq
     (.reg [] [⟨some 32, .move, [.t 6], none⟩,
       ⟨some 33, .call [0] false, [.f 91, .t 32], none⟩,
       ⟨some 5, .move, [.t 33], none⟩] [5] [9, 30, 33])
     .ret))))
def a167 : AF := ⟨c167, [.tmp 5]⟩
/-- impl.rounds$1 -/
def c188 : AC :=
 (.seq
  (.reg [] [⟨some 4, .move, [.k (.nils)], none⟩] [0, 1, 2] [])
  (.seq
   (.reg [] [⟨some 5, .load none false, [.t 1], none⟩,
     ⟨some 6, .load none false, [.t 2], none⟩,
     ⟨some 7, .move, [.t 0], none⟩,
     ⟨some 8, .call [] false, [.t 5, .t 6, .t 7], none⟩,
     ⟨some 4, .move, [.t 8], none⟩] [4] [8])
   .ret))
def a188 : AF := ⟨c188, [.tmp 4]⟩
def b206l0 : AC :=
 (.seq
  (.reg [] [⟨some 14, .bin .lt, [.t 13, .t 12], none⟩] [0, 1, 12, 13, 14] [])
  (.seq
   (.cond (.t 14)
    .skip
    (.exit 0))
   (.seq
    (.block 1
     (.seq
      (.reg [] [⟨some 15, .move, [.t 13], none⟩,
        ⟨some 5, .move, [.t 15], none⟩] [0, 1, 5, 12, 13] [])
      (.seq
       (.reg [0, 1, 2, 3, 4, 5, 6, 7, 8] [⟨some 16, .move, [.t 0], none⟩,
         ⟨some 17, .move, [.t 5], none⟩,
         ⟨some 18, .iaddr 2, [.t 16, .t 17], none⟩,
         ⟨some 19, .load (some 2) false, [.t 18], none⟩,
         ⟨some 20, .move, [.t 1], none⟩,
         ⟨some 21, .move, [.t 5], none⟩,
         ⟨some 22, .iaddr 2, [.t 20, .t 21], none⟩,
         ⟨some 23, .load (some 2) false, [.t 22], none⟩,
         ⟨some 24, .meq true, [.t 19, .t 23], none⟩] [0, 1, 12, 13, 24] [])
       (.cond (.t 24)
        (.seq
         (.reg [] [⟨some 4, .move, [.k (.b false)], none⟩] [4] [])
         .ret)
        .skip))))
    (.reg [] [⟨some 25, .bin .add, [.t 13, .k (.i 1)], none⟩,
      ⟨some 13, .move, [.t 25], none⟩] [0, 1, 12, 13] []))))
def c206l0 : AC := b206l0
theorem r206l0 (call lp s) : run call lp c206l0 s = run call lp b206l0 s := rfl
/-- impl.Move] -/
def c206 : AC :=
 (.seq
  (.reg [] [⟨some 4, .move, [.k (.b false)], none⟩] [0, 1] [])
  (.seq
   (.seq
    (.reg [] [⟨some 6, .move, [.t 0], none⟩,
      ⟨some 7, .len, [.t 6], none⟩,
      ⟨some 8, .move, [.t 1], none⟩,
      ⟨some 9, .len, [.t 8], none⟩,
      ⟨some 10, .bin .ne, [.t 7, .t 9], none⟩] [0, 1, 10] [])
    (.cond (.t 10)
     (.seq
      (.reg [] [⟨some 4, .move, [.k (.b false)], none⟩] [4] [])
      .ret)
     .skip))
   (.seq
    (.seq
     (.reg [] [⟨some 11, .move, [.t 0], none⟩,
       ⟨some 12, .len, [.t 11], none⟩,
       ⟨some 13, .move, [.k (.i 0)], none⟩] [0, 1, 12, 13] [])
     (.block 0
      (.loop [0, 1, 12, 13] [] c206l0)))
    (.seq
     (.reg [] [⟨some 4, .move, [.k (.b true)], none⟩] [4] [])
     .ret))))
def a206 : AF := ⟨c206, [.tmp 4]⟩
def b187l0 : AC :=
 (.seq
  (.seq
   (.reg [] [⟨some 30, .move, [.t 8], none⟩,
     ⟨some 31, .move, [.t 7], none⟩,
     ⟨some 32, .bin .lt, [.t 30, .t 31], none⟩] [0, 1, 5, 6, 7, 8, 16, 17, 32] [11, 14])
   (.cond (.t 32)
    .skip
    (.exit 2)))
  (.seq
   (.block 3
    (.seq
     (.reg [0, 1, 2, 3, 4, 5, 6, 7, 8, 9, 10, 11, 12, 13, 14, 15, 16, 17, 18, 19] [⟨some 35, .move, [.t 0], none⟩,
       ⟨some 36, .move, [.t 8], none⟩,
       ⟨some 37, .iaddr 1, [.t 35, .t 36], none⟩,
       ⟨some 38, .load none false, [.t 37], none⟩,
       ⟨some 39, .move, [.t 0], none⟩,
       ⟨some 40, .move, [.t 7], none⟩,
       ⟨some 41, .iaddr 1, [.t 39, .t 40], none⟩,
       ⟨some 42, .load none false, [.t 41], none⟩,
       ⟨some 43, .bin .eq, [.t 38, .t 42], none⟩,
       ⟨some 44, .move, [.t 43], none⟩,
       ⟨some 45, .move, [.t 6], some (44, true)⟩,
       ⟨some 46, .move, [.t 8], some (44, true)⟩,
       ⟨some 47, .iaddr 1, [.t 45, .t 46], some (44, true)⟩,
       ⟨some 48, .load none false, [.t 47], some (44, true)⟩,
       ⟨some 49, .move, [.t 6], some (44, true)⟩,
       ⟨some 50, .move, [.t 7], some (44, true)⟩,
       ⟨some 51, .iaddr 1, [.t 49, .t 50], some (44, true)⟩,
       ⟨some 52, .load none false, [.t 51], some (44, true)⟩,
       ⟨some 53, .call [] false, [.f 206, .t 48, .t 52], some (44, true)⟩,
       ⟨some 54, .pick, [.t 44, .t 53, .k (.b false)], none⟩] [0, 1, 5, 6, 7, 8, 16, 17, 54] [11, 14])
     (.cond (.t 54)
      (.seq
       (.reg [] [⟨some 55, .move, [.t 5], none⟩,
         ⟨some 56, .move, [.t 7], none⟩,
         ⟨some 57, .move, [.t 8], none⟩,
         ⟨some 58, .iaddr 1, [.t 55, .t 56], none⟩,
         ⟨none, .store 1 false, [.t 58, .t 57], none⟩] [0, 1, 5, 6, 16, 17] [11, 14])
       (.exit 2))
      .skip)))
   (.reg [] [⟨some 33, .move, [.t 8], none⟩,
     ⟨some 34, .bin .add, [.t 33, .k (.i 1)], none⟩,
     ⟨some 8, .move, [.t 34], none⟩] [0, 1, 5, 6, 7, 8, 16, 17] [11, 14])))
def c187l0 : AC := b187l0
theorem r187l0 (call lp s) : run call lp c187l0 s = run call lp b187l0 s := rfl
def b187l1 : AC :=
 (.seq
  (.reg [] [⟨some 18, .bin .lt, [.t 17, .t 16], none⟩] [0, 1, 5, 6, 16, 17, 18] [11, 14])
  (.seq
   (.cond (.t 18)
    .skip
    (.exit 0))
   (.seq
    (.block 1
     (.seq
      (.reg [] [⟨some 19, .move, [.t 17], none⟩,
        ⟨some 7, .move, [.t 19], none⟩] [0, 1, 5, 6, 7, 16, 17] [11, 14])
      (.seq
       (.reg [] [⟨some 20, .move, [.t 6], none⟩,
         ⟨some 21, .move, [.t 7], none⟩,
         ⟨some 22, .move, [.t 1], none⟩,
         ⟨some 23, .move, [.t 7], none⟩,
         ⟨some 24, .call [] false, [.t 22, .t 23], none⟩,
         ⟨some 25, .iaddr 1, [.t 20, .t 21], none⟩,
         ⟨none, .store 1 false, [.t 25, .t 24], none⟩] [0, 1, 5, 6, 7, 16, 17] [11, 14])
       (.seq
        (.reg [] [⟨some 26, .move, [.t 5], none⟩,
          ⟨some 27, .move, [.t 7], none⟩,
          ⟨some 28, .move, [.t 7], none⟩,
          ⟨some 29, .iaddr 1, [.t 26, .t 27], none⟩,
          ⟨none, .store 1 false, [.t 29, .t 28], none⟩] [0, 1, 5, 6, 7, 16, 17] [11, 14])
        (.seq
         (.reg [] [⟨some 8, .move, [.k (.i 0)], none⟩] [0, 1, 5, 6, 7, 8, 16, 17] [11, 14])
         (.block 2
          (.loop [0, 1, 5, 6, 7, 8, 16, 17] [11, 14] c187l0)))))))
    (.reg [] [⟨some 59, .bin .add, [.t 17, .k (.i 1)], none⟩,
      ⟨some 17, .move, [.t 59], none⟩] [0, 1, 5, 6, 16, 17] [11, 14]))))
def c187l1 : AC := b187l1
theorem r187l1 (call lp s) : run call lp c187l1 s = run call lp b187l1 s := rfl
/-- impl.refine -/
def c187 : AC :=
 (.seq
  (.reg [] [⟨some 4, .move, [.k (.nils)], none⟩] [0, 1] [])
  (.seq
   (.reg [] [⟨some 9, .move, [.t 0], none⟩,
     ⟨some 10, .len, [.t 9], none⟩,
     ⟨some 11, .mkslice 1 (.i 0), [.t 10, .t 10], none⟩,
     ⟨some 5, .move, [.t 11], none⟩] [0, 1, 5] [11])
   (.seq
    (.reg [] [⟨some 12, .move, [.t 0], none⟩,
      ⟨some 13, .len, [.t 12], none⟩,
      ⟨some 14, .mkslice 1 (.nils), [.t 13, .t 13], none⟩,
      ⟨some 6, .move, [.t 14], none⟩] [0, 1, 5, 6] [11, 14])
    (.seq
     (.seq
      (.reg [] [⟨some 15, .move, [.t 0], none⟩,
        ⟨some 16, .len, [.t 15], none⟩,
        ⟨some 17, .move, [.k (.i 0)], none⟩] [0, 1, 5, 6, 16, 17] [11, 14])
      (.block 0
       (.loop [0, 1, 5, 6, 16, 17] [11, 14] c187l1)))
     (.seq
      (.reg [] [⟨some 60, .move, [.t 5], none⟩,
        ⟨some 4, .move, [.t 60], none⟩] [4] [11])
      .ret)))))
def a187 : AF := ⟨c187, [.tmp 4]⟩
def b189l0 : AC :=
 (.seq
  (.reg [] [⟨some 14, .bin .lt, [.t 13, .t 12], none⟩] [0, 1, 12, 13, 14] [])
  (.seq
   (.cond (.t 14)
    .skip
    (.exit 0))
   (.seq
    (.block 1
     (.seq
      (.reg [] [⟨some 15, .move, [.t 13], none⟩,
        ⟨some 5, .move, [.t 15], none⟩] [0, 1, 5, 12, 13] [])
      (.seq
       (.reg [0, 1, 2, 3, 4, 5, 6, 7, 8] [⟨some 16, .move, [.t 0], none⟩,
         ⟨some 17, .move, [.t 5], none⟩,
         ⟨some 18, .iaddr 1, [.t 16, .t 17], none⟩,
         ⟨some 19, .load none false, [.t 18], none⟩,
         ⟨some 20, .move, [.t 1], none⟩,
         ⟨some 21, .move, [.t 5], none⟩,
         ⟨some 22, .iaddr 1, [.t 20, .t 21], none⟩,
         ⟨some 23, .load none false, [.t 22], none⟩,
         ⟨some 24, .bin .ne, [.t 19, .t 23], none⟩] [0, 1, 12, 13, 24] [])
       (.cond (.t 24)
        (.seq
         (.reg [] [⟨some 4, .move, [.k (.b false)], none⟩] [4] [])
         .ret)
        .skip))))
    (.reg [] [⟨some 25, .bin .add, [.t 13, .k (.i 1)], none⟩,
      ⟨some 13, .move, [.t 25], none⟩] [0, 1, 12, 13] []))))
def c189l0 : AC := b189l0
theorem r189l0 (call lp s) : run call lp c189l0 s = run call lp b189l0 s := rfl
/-- slices.Equal[[]int,int] -/
def c189 : AC :=
 (.seq
  (.reg [] [⟨some 4, .move, [.k (.b false)], none⟩] [0, 1] [])
  (.seq
   (.seq
    (.reg [] [⟨some 6, .move, [.t 0], none⟩,
      ⟨some 7, .len, [.t 6], none⟩,
      ⟨some 8, .move, [.t 1], none⟩,
      ⟨some 9, .len, [.t 8], none⟩,
      ⟨some 10, .bin .ne, [.t 7, .t 9], none⟩] [0, 1, 10] [])
    (.cond (.t 10)
     (.seq
      (.reg [] [⟨some 4, .move, [.k (.b false)], none⟩] [4] [])
      .ret)
     .skip))
   (.seq
    (.seq
     (.reg [] [⟨some 11, .move, [.t 0], none⟩,
       ⟨some 12, .len, [.t 11], none⟩,
       ⟨some 13, .move, [.k (.i 0)], none⟩] [0, 1, 12, 13] [])
     (.block 0
      (.loop [0, 1, 12, 13] [] c189l0)))
    (.seq
     (.reg [] [⟨some 4, .move, [.k (.b true)], none⟩] [4] [])
     .ret))))
def a189 : AF := ⟨c189, [.tmp 4]⟩
def b166l0 : AC :=
 (.block 1
  (.seq
   (.reg [] [⟨some 11, .move, [.t 5], none⟩,
     ⟨some 12, .move, [.t 5], none⟩,
     ⟨some 13, .len, [.t 12], none⟩,
     ⟨some 14, .bin .sub, [.t 13, .k (.i 1)], none⟩,
     ⟨some 15, .iaddr 1, [.t 11, .t 14], none⟩,
     ⟨some 16, .load none false, [.t 15], none⟩,
     ⟨some 6, .alloc [.nils], [], none⟩,
     ⟨none, .store 1 true, [.t 6, .t 16], none⟩] [3, 5, 6] [3, 6, 10, 27])
   (.seq
    (.reg [] [⟨some 17, .load none false, [.t 6], none⟩,
      ⟨some 18, .mkfunc 188, [.t 3, .t 6], none⟩,
      ⟨some 19, .call [] false, [.f 187, .t 17, .t 18], none⟩,
      ⟨some 7, .move, [.t 19], none⟩] [3, 5, 6, 7] [3, 6, 10, 19, 27])
    (.seq
     (.seq
      (.reg [] [⟨some 20, .move, [.t 7], none⟩,
        ⟨some 21, .load none false, [.t 6], none⟩,
        ⟨some 22, .call [] false, [.f 189, .t 20, .t 21], none⟩] [3, 5, 7, 22] [3, 6, 10, 19, 27])
      (.cond (.t 22)
       (.seq
        (.reg [] [⟨some 23, .move, [.t 5], none⟩,
          ⟨some 4, .move, [.t 23], none⟩] [4] [10, 27])
        .ret)
       .skip))
     (.reg [] [⟨some 24, .move, [.t 5], none⟩,
       ⟨some 25, .move, [.t 7], none⟩,
       ⟨some 26, .bslice 1 false, [.t 25], none⟩,
       ⟨some 27, .append 1 true, [.t 24, .t 26], none⟩,
       ⟨some 5, .move, [.t 27], none⟩] [3, 5] [3, 10, 27])))))
def c166l0 : AC := b166l0
theorem r166l0 (call lp s) : run call lp c166l0 s = run call lp b166l0 s := rfl
/-- impl.rounds -/
def c166 : AC :=
 (.seq
  (.reg [] [⟨some 3, .box, [.t 1], none⟩,
    ⟨some 4, .move, [.k (.nils)], none⟩] [0, 3] [3])
  (.seq
   (.reg [] [⟨some 8, .move, [.t 0], none⟩,
     ⟨some 9, .mkslice 1 (.i 0), [.t 8, .t 8], none⟩,
     ⟨some 10, .bslice 1 false, [.t 9], none⟩,
     ⟨some 5, .move, [.t 10], none⟩] [3, 5] [3, 10, 27])
   (.block 0
    (.loop [3, 5] [3, 10, 27] c166l0))))
def a166 : AF := ⟨c166, [.tmp 4]⟩
/-- impl.alikeRounds -/
def c146 : AC :=
 (.seq
  (.reg [] [⟨some 1, .box, [.t 0], none⟩,
    ⟨some 2, .move, [.k (.nils)], none⟩] [1] [1])
  (.seq
   (.reg [] [⟨some 3, .faddr 0, [.t 1], none⟩,
     ⟨some 4, .load none false, [.t 3], none⟩,
     ⟨some 5, .len, [.t 4], none⟩,
     ⟨some 6, .mkfunc 167, [.t 1], none⟩,
     ⟨some 7, .call [] false, [.f 166, .t 5, .t 6], none⟩,
     ⟨some 2, .move, [.t 7], none⟩] [2] [1, 7])
   .ret))
def a146 : AF := ⟨c146, [.tmp 2]⟩
/-- slices.Clone[[]int,int] -/
def c78 : AC :=
 (.seq
  (.reg [] [⟨some 2, .move, [.k (.nils)], none⟩] [0] [])
  (.seq
   (.seq
    (.reg [] [⟨some 3, .move, [.t 0], none⟩,
      ⟨some 4, .isnil, [.t 3, .k (.nils)], none⟩] [0, 4] [])
    (.cond (.t 4)
     (.seq
      (.reg [] [⟨some 2, .move, [.k (.nils)], none⟩] [2] [5, 7])
      .ret)
     .skip))
   (.seq
    (.reg [] [⟨some 5, .bslice 1 true, [], none⟩,
      ⟨some 6, .move, [.t 0], none⟩,
      ⟨some 7, .append 1 true, [.t 5, .t 6], none⟩,
      ⟨some 2, .move, [.t 7], none⟩] [2] [5, 7])
    .ret)))
def a78 : AF := ⟨c78, [.tmp 2]⟩
/-- impl.alikeClasses -/
def c100 : AC :=
 (.seq
  (.reg [] [⟨some 1, .box, [.t 0], none⟩,
    ⟨some 2, .move, [.k (.nils)], none⟩] [1] [1])
  (.seq
   (.reg [] [⟨some 4, .load (some 1) false, [.t 1], none⟩,
     ⟨some 5, .call [] false, [.f 146, .t 4], none⟩,
     ⟨some 3, .move, [.t 5], none⟩] [3] [5])
   (.seq
    (.reg [] [⟨some 6, .move, [.t 3], none⟩,
      ⟨some 7, .move, [.t 3], none⟩,
      ⟨some 8, .len, [.t 7], none⟩,
      ⟨some 9, .bin .sub, [.t 8, .k (.i 1)], none⟩,
      ⟨some 10, .iaddr 1, [.t 6, .t 9], none⟩,
      ⟨some 11, .load none false, [.t 10], none⟩,
      ⟨some 12, .call [] false, [.f 78, .t 11], none⟩,
      ⟨some 2, .move, [.t 12], none⟩] [2] [12])
    .ret)))
def a100 : AF := ⟨c100, [.tmp 2]⟩
/-- impl.EquationsSolve$1 -/
def c101 : AC :=
 (.seq
  (.reg [] [⟨some 4, .box, [.t 0], none⟩,
    ⟨some 5, .box, [.t 1], none⟩,
    ⟨some 6, .move, [.k (.b false)], none⟩] [2, 3, 4, 5] [4, 5])
  (.seq
   (.reg [0, 1, 2, 3, 4, 5, 6, 7, 8, 9, 10, 11, 12, 13, 14, 15, 16, 17, 18, 19, 20, 21] [⟨some 7, .faddr 0, [.t 4], none⟩,
     ⟨some 8, .load none false, [.t 7], none⟩,
     ⟨some 9, .faddr 0, [.t 5], none⟩,
     ⟨some 10, .load none false, [.t 9], none⟩,
     ⟨some 11, .bin .eq, [.t 8, .t 10], none⟩,
     ⟨some 12, .move, [.t 11], none⟩,
     ⟨some 13, .load none false, [.t 2], some (12, true)⟩,
     ⟨some 14, .load none false, [.t 3], some (12, true)⟩,
     ⟨some 15, .faddr 1, [.t 4], some (12, true)⟩,
     ⟨some 16, .load none false, [.t 15], some (12, true)⟩,
     ⟨some 17, .iaddr 1, [.t 14, .t 16], some (12, true)⟩,
     ⟨some 18, .load none false, [.t 17], some (12, true)⟩,
     ⟨some 19, .iaddr 1, [.t 13, .t 18], some (12, true)⟩,
     ⟨some 20, .load none false, [.t 19], some (12, true)⟩,
     ⟨some 21, .load none false, [.t 2], some (12, true)⟩,
     ⟨some 22, .faddr 1, [.t 5], some (12, true)⟩,
     ⟨some 23, .load none false, [.t 22], some (12, true)⟩,
     ⟨some 24, .iaddr 1, [.t 21, .t 23], some (12, true)⟩,
     ⟨some 25, .load none false, [.t 24], some (12, true)⟩,
     ⟨some 26, .bin .eq, [.t 20, .t 25], some (12, true)⟩,
     ⟨some 27, .pick, [.t 12, .t 26, .k (.b false)], none⟩,
     ⟨some 6, .move, [.t 27], none⟩] [6] [])
   .ret))
def a101 : AF := ⟨c101, [.tmp 6]⟩
/-- impl.EquationsSolve$2 -/
def c103 : AC :=
 (.seq
  (.reg [] [⟨some 3, .box, [.t 0], none⟩,
    ⟨some 4, .move, [.k (.b false)], none⟩] [1, 2, 3] [3])
  (.seq
   (.reg [] [⟨some 5, .load none false, [.t 1], none⟩,
     ⟨some 6, .load (some 2) false, [.t 2], none⟩,
     ⟨some 7, .load (some 2) false, [.t 3], none⟩,
     ⟨some 8, .call [] false, [.t 5, .t 6, .t 7], none⟩,
     ⟨some 4, .move, [.t 8], none⟩] [4] [])
   .ret))
def a103 : AF := ⟨c103, [.tmp 4]⟩
/-- impl.Move] -/
def c102 : AC :=
 (.seq
  (.reg [] [⟨some 4, .move, [.k (.b false)], none⟩] [0, 1] [])
  (.seq
   (.reg [] [⟨some 5, .move, [.t 0], none⟩,
     ⟨some 6, .move, [.t 1], none⟩,
     ⟨some 7, .call [] false, [.f 143, .t 5, .t 6], none⟩,
     ⟨some 8, .bin .ge, [.t 7, .k (.i 0)], none⟩,
     ⟨some 4, .move, [.t 8], none⟩] [4] [])
   .ret))
def a102 : AF := ⟨c102, [.tmp 4]⟩
/-- impl.EquationsSolve$3 -/
def c104 : AC :=
 (.seq
  (.reg [] [⟨some 3, .box, [.t 0], none⟩,
    ⟨some 4, .move, [.k (.b false)], none⟩] [1, 2, 3] [3])
  (.seq
   (.reg [] [⟨some 5, .load none false, [.t 1], none⟩,
     ⟨some 6, .load (some 2) false, [.t 3], none⟩,
     ⟨some 7, .load (some 2) false, [.t 2], none⟩,
     ⟨some 8, .call [] false, [.t 5, .t 6, .t 7], none⟩,
     ⟨some 4, .move, [.t 8], none⟩] [4] [])
   .ret))
def a104 : AF := ⟨c104, [.tmp 4]⟩
def b41l0 : AC :=
 (.seq
  (.reg [] [⟨some 36, .bin .lt, [.t 35, .t 34], none⟩] [3, 4, 5, 33, 34, 35, 36] [3, 4, 5])
  (.seq
   (.cond (.t 36)
    .skip
    (.exit 0))
   (.seq
    (.block 1
     (.seq
      (.reg [] [⟨some 37, .iaddr 1, [.t 33, .t 35], none⟩,
        ⟨some 38, .load none false, [.t 37], none⟩,
        ⟨some 8, .move, [.t 38], none⟩] [3, 4, 5, 8, 33, 34, 35] [3, 4, 5])
      (.seq
       (.reg [] [⟨some 39, .move, [.t 8], none⟩,
         ⟨some 40, .bin .lt, [.t 39, .k (.i 0)], none⟩,
         ⟨some 41, .move, [.t 40], none⟩,
         ⟨some 42, .move, [.t 8], some (41, false)⟩,
         ⟨some 43, .faddr 0, [.t 4], some (41, false)⟩,
         ⟨some 44, .load none false, [.t 43], some (41, false)⟩,
         ⟨some 45, .len, [.t 44], some (41, false)⟩,
         ⟨some 46, .bin .ge, [.t 42, .t 45], some (41, false)⟩,
         ⟨some 47, .pick, [.t 41, .k (.b true), .t 46], none⟩] [3, 4, 5, 33, 34, 35, 47] [3, 4, 5])
       (.cond (.t 47)
        (.seq
         (.reg [] [⟨some 6, .move, [.k (.b false)], none⟩] [6] [])
         .ret)
        .skip))))
    (.reg [] [⟨some 48, .bin .add, [.t 35, .k (.i 1)], none⟩,
      ⟨some 35, .move, [.t 48], none⟩] [3, 4, 5, 33, 34, 35] [3, 4, 5]))))
def c41l0 : AC := b41l0
theorem r41l0 (call lp s) : run call lp c41l0 s = run call lp b41l0 s := rfl
def b41l1 : AC :=
 (.seq
  (.reg [] [⟨some 63, .bin .lt, [.t 62, .t 61], none⟩] [4, 5, 9, 10, 11, 12, 52, 53, 54, 60, 61, 62, 63] [4, 5, 9, 12, 50])
  (.seq
   (.cond (.t 63)
    .skip
    (.exit 4))
   (.seq
    (.block 5
     (.seq
      (.reg [] [⟨some 64, .iaddr 2, [.t 60, .t 62], none⟩,
        ⟨some 65, .load (some 2) false, [.t 64], none⟩,
        ⟨some 14, .alloc [.i 0, .i 0], [], none⟩,
        ⟨none, .store 2 true, [.t 14, .t 65], none⟩] [4, 5, 9, 10, 11, 12, 14, 52, 53, 54, 60, 61, 62] [4, 5, 9, 12, 14, 50])
      (.seq
       (.reg [0, 1, 2, 3, 4, 5, 6, 7, 8, 9, 10] [⟨some 66, .faddr 0, [.t 4], none⟩,
         ⟨some 67, .load none false, [.t 66], none⟩,
         ⟨some 68, .load none false, [.t 5], none⟩,
         ⟨some 69, .move, [.t 10], none⟩,
         ⟨some 70, .iaddr 1, [.t 68, .t 69], none⟩,
         ⟨some 71, .load none false, [.t 70], none⟩,
         ⟨some 72, .iaddr 1, [.t 67, .t 71], none⟩,
         ⟨some 73, .load none false, [.t 72], none⟩,
         ⟨some 74, .mkfunc 103, [.t 12, .t 14], none⟩,
         ⟨some 75, .call [] false, [.f 102, .t 73, .t 74], none⟩,
         ⟨some 76, .not, [.t 75], none⟩] [4, 5, 9, 10, 11, 12, 52, 53, 54, 60, 61, 62, 76] [4, 5, 9, 12, 50])
       (.cond (.t 76)
        (.seq
         (.reg [] [⟨some 6, .move, [.k (.b false)], none⟩] [6] [])
         .ret)
        .skip))))
    (.reg [] [⟨some 77, .bin .add, [.t 62, .k (.i 1)], none⟩,
      ⟨some 62, .move, [.t 77], none⟩] [4, 5, 9, 10, 11, 12, 52, 53, 54, 60, 61, 62] [4, 5, 9, 12, 50]))))
def c41l1 : AC := b41l1
theorem r41l1 (call lp s) : run call lp c41l1 s = run call lp b41l1 s := rfl
def b41l2 : AC :=
 (.seq
  (.reg [] [⟨some 88, .bin .lt, [.t 87, .t 86], none⟩] [4, 5, 9, 11, 12, 52, 53, 54, 85, 86, 87, 88] [4, 5, 9, 12, 50])
  (.seq
   (.cond (.t 88)
    .skip
    (.exit 6))
   (.seq
    (.block 7
     (.seq
      (.reg [] [⟨some 89, .iaddr 2, [.t 85, .t 87], none⟩,
        ⟨some 90, .load (some 2) false, [.t 89], none⟩,
        ⟨some 16, .alloc [.i 0, .i 0], [], none⟩,
        ⟨none, .store 2 true, [.t 16, .t 90], none⟩] [4, 5, 9, 11, 12, 16, 52, 53, 54, 85, 86, 87] [4, 5, 9, 12, 16, 50])
      (.seq
       (.reg [] [⟨some 91, .move, [.t 11], none⟩,
         ⟨some 92, .mkfunc 104, [.t 12, .t 16], none⟩,
         ⟨some 93, .call [] false, [.f 102, .t 91, .t 92], none⟩,
         ⟨some 94, .not, [.t 93], none⟩] [4, 5, 9, 11, 12, 52, 53, 54, 85, 86, 87, 94] [4, 5, 9, 12, 50])
       (.cond (.t 94)
        (.seq
         (.reg [] [⟨some 6, .move, [.k (.b false)], none⟩] [6] [])
         .ret)
        .skip))))
    (.reg [] [⟨some 95, .bin .add, [.t 87, .k (.i 1)], none⟩,
      ⟨some 87, .move, [.t 95], none⟩] [4, 5, 9, 11, 12, 52, 53, 54, 85, 86, 87] [4, 5, 9, 12, 50]))))
def c41l2 : AC := b41l2
theorem r41l2 (call lp s) : run call lp c41l2 s = run call lp b41l2 s := rfl
def b41l3 : AC :=
 (.seq
  (.reg [] [⟨some 55, .bin .lt, [.t 54, .t 53], none⟩] [4, 5, 9, 52, 53, 54, 55] [4, 5, 9, 50])
  (.seq
   (.cond (.t 55)
    .skip
    (.exit 2))
   (.seq
    (.block 3
     (.seq
      (.reg [] [⟨some 56, .move, [.t 54], none⟩,
        ⟨some 57, .iaddr 1, [.t 52, .t 54], none⟩,
        ⟨some 58, .load none false, [.t 57], none⟩,
        ⟨some 10, .move, [.t 56], none⟩,
        ⟨some 11, .move, [.t 58], none⟩] [4, 5, 9, 10, 11, 52, 53, 54] [4, 5, 9, 50])
      (.seq
       (.reg [] [⟨some 59, .mkfunc 101, [.t 9, .t 5], none⟩,
         ⟨some 12, .alloc [.sc .nilFunc], [], none⟩,
         ⟨none, .store 1 true, [.t 12, .t 59], none⟩] [4, 5, 9, 10, 11, 12, 52, 53, 54] [4, 5, 9, 12, 50])
       (.seq
        (.seq
         (.reg [] [⟨some 60, .move, [.t 11], none⟩,
           ⟨some 61, .len, [.t 60], none⟩,
           ⟨some 62, .move, [.k (.i 0)], none⟩] [4, 5, 9, 10, 11, 12, 52, 53, 54, 60, 61, 62] [4, 5, 9, 12, 50])
         (.block 4
          (.loop [4, 5, 9, 10, 11, 12, 52, 53, 54, 60, 61, 62] [4, 5, 9, 12, 50] c41l1)))
        (.seq
         (.reg [0, 1, 2, 3, 4, 5, 6, 7, 8, 9] [⟨some 78, .faddr 0, [.t 4], none⟩,
           ⟨some 79, .load none false, [.t 78], none⟩,
           ⟨some 80, .load none false, [.t 5], none⟩,
           ⟨some 81, .move, [.t 10], none⟩,
           ⟨some 82, .iaddr 1, [.t 80, .t 81], none⟩,
           ⟨some 83, .load none false, [.t 82], none⟩,
           ⟨some 84, .iaddr 1, [.t 79, .t 83], none⟩,
           ⟨some 85, .load none false, [.t 84], none⟩,
           ⟨some 86, .len, [.t 85], none⟩,
           ⟨some 87, .move, [.k (.i 0)], none⟩] [4, 5, 9, 11, 12, 52, 53, 54, 85, 86, 87] [4, 5, 9, 12, 50])
         (.block 6
          (.loop [4, 5, 9, 11, 12, 52, 53, 54, 85, 86, 87] [4, 5, 9, 12, 50] c41l2)))))))
    (.reg [] [⟨some 96, .bin .add, [.t 54, .k (.i 1)], none⟩,
      ⟨some 54, .move, [.t 96], none⟩] [4, 5, 9, 52, 53, 54] [4, 5, 9, 50]))))
def c41l3 : AC := b41l3
theorem r41l3 (call lp s) : run call lp c41l3 s = run call lp b41l3 s := rfl
/-- impl.EquationsSolve -/
def c41 : AC :=
 (.seq
  (.reg [] [⟨some 3, .box, [.t 0], none⟩,
    ⟨some 4, .box, [.t 1], none⟩,
    ⟨some 5, .box, [.t 2], none⟩,
    ⟨some 6, .move, [.k (.b false)], none⟩] [3, 4, 5] [3, 4, 5])
  (.seq
   (.seq
    (.reg [] [⟨some 17, .load (some 1) false, [.t 3], none⟩,
      ⟨some 18, .call [] false, [.f 64, .t 17], none⟩,
      ⟨some 19, .not, [.t 18], none⟩,
      ⟨some 20, .move, [.t 19], none⟩,
      ⟨some 21, .load (some 1) false, [.t 4], some (20, false)⟩,
      ⟨some 22, .call [] false, [.f 64, .t 21], some (20, false)⟩,
      ⟨some 23, .not, [.t 22], some (20, false)⟩,
      ⟨some 24, .pick, [.t 20, .k (.b true), .t 23], none⟩,
      ⟨some 25, .move, [.t 24], none⟩,
      ⟨some 26, .load none false, [.t 5], some (25, false)⟩,
      ⟨some 27, .len, [.t 26], some (25, false)⟩,
      ⟨some 28, .faddr 0, [.t 3], some (25, false)⟩,
      ⟨some 29, .load none false, [.t 28], some (25, false)⟩,
      ⟨some 30, .len, [.t 29], some (25, false)⟩,
      ⟨some 31, .bin .ne, [.t 27, .t 30], some (25, false)⟩,
      ⟨some 32, .pick, [.t 25, .k (.b true), .t 31], none⟩] [3, 4, 5, 32] [3, 4, 5])
    (.cond (.t 32)
     (.seq
      (.reg [] [⟨some 6, .move, [.k (.b false)], none⟩] [6] [])
      .ret)
     .skip))
   (.seq
    (.seq
     (.reg [] [⟨some 33, .load none false, [.t 5], none⟩,
       ⟨some 34, .len, [.t 33], none⟩,
       ⟨some 35, .move, [.k (.i 0)], none⟩] [3, 4, 5, 33, 34, 35] [3, 4, 5])
     (.block 0
      (.loop [3, 4, 5, 33, 34, 35] [3, 4, 5] c41l0)))
    (.seq
     (.reg [] [⟨some 49, .load (some 1) false, [.t 4], none⟩,
       ⟨some 50, .call [] false, [.f 100, .t 49], none⟩,
       ⟨some 9, .alloc [.nils], [], none⟩,
       ⟨none, .store 1 true, [.t 9, .t 50], none⟩] [3, 4, 5, 9] [3, 4, 5, 9, 50])
     (.seq
      (.seq
       (.reg [] [⟨some 51, .faddr 0, [.t 3], none⟩,
         ⟨some 52, .load none false, [.t 51], none⟩,
         ⟨some 53, .len, [.t 52], none⟩,
         ⟨some 54, .move, [.k (.i 0)], none⟩] [4, 5, 9, 52, 53, 54] [4, 5, 9, 50])
       (.block 2
        (.loop [4, 5, 9, 52, 53, 54] [4, 5, 9, 50] c41l3)))
      (.seq
       (.reg [] [⟨some 6, .move, [.k (.b true)], none⟩] [6] [])
       .ret))))))
def a41 : AF := ⟨c41, [.tmp 6]⟩
def b32l0 : AC :=
 (.seq
  (.seq
   (.reg [] [⟨some 11, .move, [.t 5], none⟩,
     ⟨some 12, .move, [.t 0], none⟩,
     ⟨some 13, .len, [.t 12], none⟩,
     ⟨some 14, .bin .lt, [.t 11, .t 13], none⟩] [0, 1, 5, 14] [])
   (.cond (.t 14)
    .skip
    (.exit 0)))
  (.seq
   (.block 1
    (.seq
     (.reg [0, 1, 2, 3, 4, 5, 6, 7, 8] [⟨some 17, .move, [.t 0], none⟩,
       ⟨some 18, .move, [.t 5], none⟩,
       ⟨some 19, .iaddr 1, [.t 17, .t 18], none⟩,
       ⟨some 20, .load none false, [.t 19], none⟩,
       ⟨some 21, .move, [.t 1], none⟩,
       ⟨some 22, .move, [.t 5], none⟩,
       ⟨some 23, .iaddr 1, [.t 21, .t 22], none⟩,
       ⟨some 24, .load none false, [.t 23], none⟩,
       ⟨some 25, .bin .ne, [.t 20, .t 24], none⟩] [0, 1, 5, 25] [])
     (.cond (.t 25)
      (.seq
       (.reg [] [⟨some 4, .move, [.k (.b false)], none⟩] [4] [])
       .ret)
      .skip)))
   (.reg [] [⟨some 15, .move, [.t 5], none⟩,
     ⟨some 16, .bin .add, [.t 15, .k (.i 1)], none⟩,
     ⟨some 5, .move, [.t 16], none⟩] [0, 1, 5] [])))
def c32l0 : AC := b32l0
theorem r32l0 (call lp s) : run call lp c32l0 s = run call lp b32l0 s := rfl
/-- laws.eqIntS -/
def c32 : AC :=
 (.seq
  (.reg [] [⟨some 4, .move, [.k (.b false)], none⟩] [0, 1] [])
  (.seq
   (.seq
    (.reg [] [⟨some 6, .move, [.t 0], none⟩,
      ⟨some 7, .len, [.t 6], none⟩,
      ⟨some 8, .move, [.t 1], none⟩,
      ⟨some 9, .len, [.t 8], none⟩,
      ⟨some 10, .bin .ne, [.t 7, .t 9], none⟩] [0, 1, 10] [])
    (.cond (.t 10)
     (.seq
      (.reg [] [⟨some 4, .move, [.k (.b false)], none⟩] [4] [])
      .ret)
     .skip))
   (.seq
    (.seq
     (.reg [] [⟨some 5, .move, [.k (.i 0)], none⟩] [0, 1, 5] [])
     (.block 0
      (.loop [0, 1, 5] [] c32l0)))
    (.seq
     (.reg [] [⟨some 4, .move, [.k (.b true)], none⟩] [4] [])
     .ret))))
def a32 : AF := ⟨c32, [.tmp 4]⟩
/-- laws.FnExactEquationsSolve -/
def c8 : AC :=
 (.seq
  (.reg [] [⟨some 3, .box, [.t 0], none⟩,
    ⟨some 4, .box, [.t 1], none⟩,
    ⟨some 6, .move, [.k (.b false)], none⟩] [2, 3, 4] [3, 4])
  (.seq
   (.seq
    (.reg [] [⟨some 13, .move, [.t 2], none⟩,
      ⟨some 14, .len, [.t 13], none⟩,
      ⟨some 15, .bin .gt, [.t 14, .k (.i 1048576)], none⟩] [2, 3, 4, 15] [3, 4])
    (.cond (.t 15)
     (.seq
      (.reg [] [⟨some 6, .move, [.k (.b true)], none⟩] [6] [])
      .ret)
     .skip))
   (.seq
    (.reg [] [⟨some 7, .move, [.k (.i 1048576)], none⟩] [2, 3, 4, 7] [3, 4])
    (.seq
     (.reg [] [⟨some 16, .load (some 1) false, [.t 3], none⟩,
       ⟨some 17, .move, [.t 7], none⟩,
       ⟨some 18, .call [] false, [.f 14, .t 16, .t 17], none⟩,
       ⟨some 7, .move, [.t 18], none⟩] [2, 3, 4, 7] [3, 4])
     (.seq
      (.seq
       (.reg [] [⟨some 19, .move, [.t 7], none⟩,
         ⟨some 20, .bin .lt, [.t 19, .k (.i 0)], none⟩] [2, 3, 4, 7, 20] [3, 4])
       (.cond (.t 20)
        (.seq
         (.reg [] [⟨some 6, .move, [.k (.b true)], none⟩] [6] [])
         .ret)
        .skip))
      (.seq
       (.reg [] [⟨some 21, .load (some 1) false, [.t 4], none⟩,
         ⟨some 22, .move, [.t 7], none⟩,
         ⟨some 23, .call [] false, [.f 14, .t 21, .t 22], none⟩,
         ⟨some 7, .move, [.t 23], none⟩] [2, 3, 4, 7] [3, 4])
       (.seq
        (.seq
         (.reg [] [⟨some 24, .move, [.t 7], none⟩,
           ⟨some 25, .bin .lt, [.t 24, .k (.i 0)], none⟩] [2, 3, 4, 25] [3, 4])
         (.cond (.t 25)
          (.seq
           (.reg [] [⟨some 6, .move, [.k (.b true)], none⟩] [6] [])
           .ret)
          .skip))
        (.seq
         (.reg [0, 3, 1, 5, 2, 6, 7, 8] [⟨some 26, .load (some 1) false, [.t 3], none⟩,
           ⟨some 28, .load (some 1) false, [.t 4], none⟩,
           ⟨some 30, .move, [.t 2], none⟩,
           ⟨some 27, .call [] false, [.f 16, .t 26], none⟩,
           ⟨none, .chk (.load (some 1) false), [.t 28, .t 4], none⟩,
           ⟨some 29, .call [] false, [.f 16, .t 28], none⟩,
           ⟨some 31, .call [] false, [.f 29, .t 30], none⟩,
           ⟨some 32, .call [] false, [.f 40, .t 27, .t 29, .t 31], none⟩,
           ⟨some 8, .move, [.t 32], none⟩] [2, 3, 4, 8] [3, 4])
         (.seq
          (.reg [] [⟨some 33, .load (some 1) false, [.t 3], none⟩,
            ⟨some 34, .call [] false, [.f 16, .t 33], none⟩,
            ⟨some 9, .alloc [.nils], [], none⟩,
            ⟨none, .store 1 true, [.t 9, .t 34], none⟩] [2, 3, 4, 8, 9] [3, 4, 9, 34])
          (.seq
           (.reg [] [⟨some 35, .load (some 1) false, [.t 4], none⟩,
             ⟨some 36, .call [] false, [.f 16, .t 35], none⟩,
             ⟨some 10, .alloc [.nils], [], none⟩,
             ⟨none, .store 1 true, [.t 10, .t 36], none⟩] [2, 3, 4, 8, 9, 10] [3, 4, 9, 10, 34, 36])
           (.seq
            (.reg [] [⟨some 37, .move, [.t 2], none⟩,
              ⟨some 38, .call [] false, [.f 29, .t 37], none⟩,
              ⟨some 11, .move, [.t 38], none⟩] [2, 3, 4, 8, 9, 10, 11] [3, 4, 9, 10, 34, 36, 38])
            (.seq
             (.reg [] [⟨some 39, .load (some 1) false, [.t 9], none⟩,
               ⟨some 40, .load (some 1) false, [.t 10], none⟩,
               ⟨some 41, .move, [.t 11], none⟩,
               ⟨some 42, .call [] false, [.f 41, .t 39, .t 40, .t 41], none⟩,
               ⟨some 12, .move, [.t 42], none⟩] [2, 3, 4, 8, 9, 10, 11, 12] [3, 4, 9, 10, 34, 36, 38])
             (.seq
              (.seq
               (.reg [] [⟨some 43, .move, [.t 12], none⟩,
                 ⟨some 44, .move, [.t 8], none⟩,
                 ⟨some 45, .bne, [.t 43, .t 44], none⟩] [2, 3, 4, 9, 10, 11, 45] [3, 4, 9, 10, 34, 36, 38])
               (.cond (.t 45)
                (.seq
                 (.reg [] [⟨some 6, .move, [.k (.b false)], none⟩] [6] [])
                 .ret)
                .skip))
              (.seq
               (.seq
                (.reg [0, 1, 2, 4, 5] [⟨some 46, .load (some 1) false, [.t 9], none⟩,
                  ⟨some 47, .load (some 1) false, [.t 3], none⟩,
                  ⟨some 48, .call [] false, [.f 16, .t 47], none⟩,
                  ⟨none, .chk (.load (some 1) false), [.t 46, .t 9], none⟩,
                  ⟨some 49, .call [] false, [.f 20, .t 46, .t 48], none⟩,
                  ⟨some 50, .not, [.t 49], none⟩] [2, 4, 10, 11, 50] [4, 10, 36, 38])
                (.cond (.t 50)
                 (.seq
                  (.reg [] [⟨some 6, .move, [.k (.b false)], none⟩] [6] [])
                  .ret)
                 .skip))
               (.seq
                (.seq
                 (.reg [0, 1, 2, 4, 5] [⟨some 51, .load (some 1) false, [.t 10], none⟩,
                   ⟨some 52, .load (some 1) false, [.t 4], none⟩,
                   ⟨some 53, .call [] false, [.f 16, .t 52], none⟩,
                   ⟨none, .chk (.load (some 1) false), [.t 51, .t 10], none⟩,
                   ⟨some 54, .call [] false, [.f 20, .t 51, .t 53], none⟩,
                   ⟨some 55, .not, [.t 54], none⟩] [2, 11, 55] [38])
                 (.cond (.t 55)
                  (.seq
                   (.reg [] [⟨some 6, .move, [.k (.b false)], none⟩] [6] [])
                   .ret)
                  .skip))
                (.seq
                 (.seq
                  (.reg [] [⟨some 56, .move, [.t 11], none⟩,
                    ⟨some 57, .move, [.t 2], none⟩,
                    ⟨some 58, .call [] false, [.f 29, .t 57], none⟩,
                    ⟨some 59, .call [] false, [.f 32, .t 56, .t 58], none⟩,
                    ⟨some 60, .not, [.t 59], none⟩] [60] [])
                  (.cond (.t 60)
                   (.seq
                    (.reg [] [⟨some 6, .move, [.k (.b false)], none⟩] [6] [])
                    .ret)
                   .skip))
                 (.seq
                  (.reg [] [⟨some 6, .move, [.k (.b true)], none⟩] [6] [])
                  .ret)))))))))))))))))
def a8 : AF := ⟨c8, [.tmp 6]⟩
/-- spec.GraphBoth -/
def c111 : AC :=
 (.seq
  (.reg [] [⟨some 2, .box, [.t 0], none⟩,
    ⟨some 3, .box, [.t 1], none⟩,
    ⟨some 4, .alloc [.nils], [], none⟩,
    ⟨some 5, .move, [.k (.b false)], none⟩] [2, 3, 4] [2, 3, 4, 27])
  (.seq
   (.seq
    (.reg [] [⟨some 6, .load (some 1) false, [.t 2], none⟩,
      ⟨some 7, .call [] false, [.f 59, .t 6], none⟩,
      ⟨some 8, .not, [.t 7], none⟩,
      ⟨some 9, .move, [.t 8], none⟩,
      ⟨some 10, .load (some 1) false, [.t 3], some (9, false)⟩,
      ⟨some 11, .call [] false, [.f 59, .t 10], some (9, false)⟩,
      ⟨some 12, .not, [.t 11], some (9, false)⟩,
      ⟨some 13, .pick, [.t 9, .k (.b true), .t 12], none⟩,
      ⟨some 14, .move, [.t 13], none⟩,
      ⟨some 15, .faddr 0, [.t 2], some (14, false)⟩,
      ⟨some 16, .load none false, [.t 15], some (14, false)⟩,
      ⟨some 17, .len, [.t 16], some (14, false)⟩,
      ⟨some 18, .faddr 0, [.t 3], some (14, false)⟩,
      ⟨some 19, .load none false, [.t 18], some (14, false)⟩,
      ⟨some 20, .len, [.t 19], some (14, false)⟩,
      ⟨some 21, .bin .add, [.t 17, .t 20], some (14, false)⟩,
      ⟨some 22, .bin .gt, [.t 21, .k (.i 60)], some (14, false)⟩,
      ⟨some 23, .pick, [.t 14, .k (.b true), .t 22], none⟩] [2, 3, 4, 23] [2, 3, 4, 27])
    (.cond (.t 23)
     (.seq
      (.reg [] [⟨some 24, .build [.nils] [], [], none⟩,
        ⟨none, .store 1 true, [.t 4, .t 24], none⟩,
        ⟨some 5, .move, [.k (.b false)], none⟩] [4, 5] [4, 27])
      .ret)
     .skip))
   (.seq
    (.reg [] [⟨some 25, .load (some 1) false, [.t 2], none⟩,
      ⟨some 26, .load (some 1) false, [.t 3], none⟩,
      ⟨some 27, .call [] false, [.f 85, .t 25, .t 26], none⟩,
      ⟨none, .store 1 true, [.t 4, .t 27], none⟩,
      ⟨some 5, .move, [.k (.b true)], none⟩] [4, 5] [4, 27])
    .ret)))
def a111 : AF := ⟨c111, [.cell 4 (some 1), .tmp 5]⟩
def b49l0 : AC :=
 (.seq
  (.seq
   (.reg [] [⟨some 37, .move, [.t 13], none⟩,
     ⟨some 38, .bin .ge, [.t 37, .k (.i 0)], none⟩] [3, 8, 9, 10, 11, 12, 13, 38] [3, 17, 23, 27, 58])
   (.cond (.t 38)
    .skip
    (.exit 2)))
  (.seq
   (.block 3
    (.seq
     (.reg [0, 1, 2, 3, 4, 5, 6, 7, 8, 9, 10] [⟨some 41, .move, [.t 8], none⟩,
       ⟨some 42, .move, [.t 9], none⟩,
       ⟨some 43, .move, [.t 13], none⟩,
       ⟨some 44, .bin .add, [.t 42, .t 43], none⟩,
       ⟨some 45, .iaddr 1, [.t 41, .t 44], none⟩,
       ⟨some 46, .load none false, [.t 45], none⟩,
       ⟨some 47, .move, [.t 8], none⟩,
       ⟨some 48, .move, [.t 11], none⟩,
       ⟨some 49, .iaddr 1, [.t 47, .t 48], none⟩,
       ⟨some 50, .load none false, [.t 49], none⟩,
       ⟨some 51, .bin .eq, [.t 46, .t 50], none⟩] [3, 8, 9, 10, 11, 12, 13, 51] [3, 17, 23, 27, 58])
     (.cond (.t 51)
      (.reg [] [⟨some 52, .move, [.t 13], none⟩,
        ⟨some 12, .move, [.t 52], none⟩] [3, 8, 9, 10, 11, 12, 13] [3, 17, 23, 27, 58])
      .skip)))
   (.reg [] [⟨some 39, .move, [.t 13], none⟩,
     ⟨some 40, .bin .sub, [.t 39, .k (.i 1)], none⟩,
     ⟨some 13, .move, [.t 40], none⟩] [3, 8, 9, 10, 11, 12, 13] [3, 17, 23, 27, 58])))
def c49l0 : AC := b49l0
theorem r49l0 (call lp s) : run call lp c49l0 s = run call lp b49l0 s := rfl
def b49l1 : AC :=
 (.seq
  (.seq
   (.reg [] [⟨some 28, .move, [.t 11], none⟩,
     ⟨some 29, .move, [.t 9], none⟩,
     ⟨some 30, .bin .lt, [.t 28, .t 29], none⟩] [3, 8, 9, 10, 11, 30] [3, 17, 23, 27, 58])
   (.cond (.t 30)
    .skip
    (.exit 0)))
  (.seq
   (.block 1
    (.seq
     (.reg [] [⟨some 12, .move, [.k (.i (-1))], none⟩] [3, 8, 9, 10, 11, 12] [3, 17, 23, 27, 58])
     (.seq
      (.seq
       (.reg [] [⟨some 33, .faddr 0, [.t 3], none⟩,
         ⟨some 34, .load none false, [.t 33], none⟩,
         ⟨some 35, .len, [.t 34], none⟩,
         ⟨some 36, .bin .sub, [.t 35, .k (.i 1)], none⟩,
         ⟨some 13, .move, [.t 36], none⟩] [3, 8, 9, 10, 11, 12, 13] [3, 17, 23, 27, 58])
       (.block 2
        (.loop [3, 8, 9, 10, 11, 12, 13] [3, 17, 23, 27, 58] c49l0)))
      (.seq
       (.seq
        (.reg [] [⟨some 53, .move, [.t 12], none⟩,
          ⟨some 54, .bin .lt, [.t 53, .k (.i 0)], none⟩] [3, 8, 9, 10, 11, 12, 54] [3, 17, 23, 27, 58])
        (.cond (.t 54)
         (.seq
          (.reg [] [⟨some 4, .move, [.k (.nils)], none⟩,
            ⟨some 5, .move, [.k (.b false)], none⟩] [4, 5] [27, 58])
          .ret)
         .skip))
       (.reg [] [⟨some 55, .move, [.t 10], none⟩,
         ⟨some 56, .move, [.t 12], none⟩,
         ⟨some 57, .bslice 1 true, [.t 56], none⟩,
         ⟨some 58, .append 1 true, [.t 55, .t 57], none⟩,
         ⟨some 10, .move, [.t 58], none⟩] [3, 8, 9, 10, 11] [3, 17, 23, 27, 58])))))
   (.reg [] [⟨some 31, .move, [.t 11], none⟩,
     ⟨some 32, .bin .add, [.t 31, .k (.i 1)], none⟩,
     ⟨some 11, .move, [.t 32], none⟩] [3, 8, 9, 10, 11] [3, 17, 23, 27, 58])))
def c49l1 : AC := b49l1
theorem r49l1 (call lp s) : run call lp c49l1 s = run call lp b49l1 s := rfl
/-- spec.EquationsFind -/
def c49 : AC :=
 (.seq
  (.reg [] [⟨some 2, .box, [.t 0], none⟩,
    ⟨some 3, .box, [.t 1], none⟩,
    ⟨some 4, .move, [.k (.nils)], none⟩,
    ⟨some 5, .move, [.k (.b false)], none⟩] [2, 3] [2, 3])
  (.seq
   (.reg [] [⟨some 15, .load (some 1) false, [.t 2], none⟩,
     ⟨some 16, .load (some 1) false, [.t 3], none⟩,
     ⟨some 17, .call [] false, [.f 111, .t 15, .t 16], none⟩,
     ⟨some 14, .move, [.t 17], none⟩,
     ⟨some 18, .ext 0, [.t 14], none⟩,
     ⟨some 19, .ext 1, [.t 14], none⟩,
     ⟨some 6, .alloc [.nils], [], none⟩,
     ⟨none, .store 1 true, [.t 6, .t 18], none⟩,
     ⟨some 7, .move, [.t 19], none⟩] [2, 3, 6, 7] [2, 3, 6, 17])
   (.seq
    (.seq
     (.reg [] [⟨some 20, .move, [.t 7], none⟩,
       ⟨some 21, .not, [.t 20], none⟩] [2, 3, 6, 21] [2, 3, 6, 17])
     (.cond (.t 21)
      (.seq
       (.reg [] [⟨some 4, .move, [.k (.nils)], none⟩,
         ⟨some 5, .move, [.k (.b false)], none⟩] [4, 5] [27, 58])
       .ret)
      .skip))
    (.seq
     (.reg [] [⟨some 22, .load (some 1) false, [.t 6], none⟩,
       ⟨some 23, .call [] true, [.f 99, .t 22], none⟩,
       ⟨some 8, .move, [.t 23], none⟩] [2, 3, 8] [2, 3, 17, 23])
     (.seq
      (.reg [] [⟨some 24, .faddr 0, [.t 2], none⟩,
        ⟨some 25, .load none false, [.t 24], none⟩,
        ⟨some 26, .len, [.t 25], none⟩,
        ⟨some 9, .move, [.t 26], none⟩] [3, 8, 9] [3, 17, 23])
      (.seq
       (.reg [] [⟨some 27, .bslice 1 true, [], none⟩,
         ⟨some 10, .move, [.t 27], none⟩] [3, 8, 9, 10] [3, 17, 23, 27, 58])
       (.seq
        (.seq
         (.reg [] [⟨some 11, .move, [.k (.i 0)], none⟩] [3, 8, 9, 10, 11] [3, 17, 23, 27, 58])
         (.block 0
          (.loop [3, 8, 9, 10, 11] [3, 17, 23, 27, 58] c49l1)))
        (.seq
         (.reg [] [⟨some 59, .move, [.t 10], none⟩,
           ⟨some 4, .move, [.t 59], none⟩,
           ⟨some 5, .move, [.k (.b true)], none⟩] [4, 5] [27, 58])
         .ret))))))))
def a49 : AF := ⟨c49, [.tmp 4, .tmp 5]⟩
def b112l0 : AC :=
 (.seq
  (.reg [] [⟨some 35, .bin .lt, [.t 34, .t 33], none⟩] [2, 3, 4, 6, 32, 33, 34, 35] [2, 3, 4, 6, 43, 61])
  (.seq
   (.cond (.t 35)
    .skip
    (.exit 0))
   (.seq
    (.block 1
     (.seq
      (.reg [] [⟨some 36, .iaddr 1, [.t 32, .t 34], none⟩,
        ⟨some 37, .load none false, [.t 36], none⟩,
        ⟨some 8, .move, [.t 37], none⟩] [2, 3, 4, 6, 8, 32, 33, 34] [2, 3, 4, 6, 43, 61])
      (.reg [0, 1, 2, 3, 6, 9, 10, 11] [⟨some 38, .faddr 0, [.t 6], none⟩,
        ⟨some 39, .load none false, [.t 38], none⟩,
        ⟨some 40, .move, [.t 8], none⟩,
        ⟨some 41, .call [] false, [.f 87, .t 40, .k (.i 0)], none⟩,
        ⟨none, .chk (.faddr 0), [.t 38, .t 6], none⟩,
        ⟨none, .chk (.load none false), [.t 39, .t 38], none⟩,
        ⟨some 42, .bslice 1 true, [.t 41], none⟩,
        ⟨none, .chk (.faddr 0), [.t 38, .t 6], none⟩,
        ⟨none, .chk (.load none false), [.t 39, .t 38], none⟩,
        ⟨some 43, .append 1 true, [.t 39, .t 42], none⟩,
        ⟨some 44, .faddr 0, [.t 6], none⟩,
        ⟨none, .store 1 true, [.t 44, .t 43], none⟩] [2, 3, 4, 6, 32, 33, 34] [2, 3, 4, 6, 43, 61])))
    (.reg [] [⟨some 45, .bin .add, [.t 34, .k (.i 1)], none⟩,
      ⟨some 34, .move, [.t 45], none⟩] [2, 3, 4, 6, 32, 33, 34] [2, 3, 4, 6, 43, 61]))))
def c112l0 : AC := b112l0
theorem r112l0 (call lp s) : run call lp c112l0 s = run call lp b112l0 s := rfl
def b112l1 : AC :=
 (.seq
  (.reg [] [⟨some 50, .bin .lt, [.t 49, .t 48], none⟩] [2, 4, 6, 47, 48, 49, 50] [2, 4, 6, 43, 61])
  (.seq
   (.cond (.t 50)
    .skip
    (.exit 2))
   (.seq
    (.block 3
     (.seq
      (.reg [] [⟨some 51, .iaddr 1, [.t 47, .t 49], none⟩,
        ⟨some 52, .load none false, [.t 51], none⟩,
        ⟨some 10, .move, [.t 52], none⟩] [2, 4, 6, 10, 47, 48, 49] [2, 4, 6, 43, 61])
      (.reg [0, 1, 2, 3, 4, 5, 6, 9, 12, 13, 14] [⟨some 53, .faddr 0, [.t 6], none⟩,
        ⟨some 54, .load none false, [.t 53], none⟩,
        ⟨some 55, .move, [.t 10], none⟩,
        ⟨some 56, .faddr 0, [.t 2], none⟩,
        ⟨some 57, .load none false, [.t 56], none⟩,
        ⟨some 58, .len, [.t 57], none⟩,
        ⟨some 59, .call [] false, [.f 87, .t 55, .t 58], none⟩,
        ⟨none, .chk (.faddr 0), [.t 53, .t 6], none⟩,
        ⟨none, .chk (.load none false), [.t 54, .t 53], none⟩,
        ⟨some 60, .bslice 1 true, [.t 59], none⟩,
        ⟨none, .chk (.faddr 0), [.t 53, .t 6], none⟩,
        ⟨none, .chk (.load none false), [.t 54, .t 53], none⟩,
        ⟨some 61, .append 1 true, [.t 54, .t 60], none⟩,
        ⟨some 62, .faddr 0, [.t 6], none⟩,
        ⟨none, .store 1 true, [.t 62, .t 61], none⟩] [2, 4, 6, 47, 48, 49] [2, 4, 6, 43, 61])))
    (.reg [] [⟨some 63, .bin .add, [.t 49, .k (.i 1)], none⟩,
      ⟨some 49, .move, [.t 63], none⟩] [2, 4, 6, 47, 48, 49] [2, 4, 6, 43, 61]))))
def c112l1 : AC := b112l1
theorem r112l1 (call lp s) : run call lp c112l1 s = run call lp b112l1 s := rfl
/-- impl.GraphBoth -/
def c112 : AC :=
 (.seq
  (.reg [] [⟨some 2, .box, [.t 0], none⟩,
    ⟨some 3, .box, [.t 1], none⟩,
    ⟨some 4, .alloc [.nils], [], none⟩,
    ⟨some 5, .move, [.k (.b false)], none⟩] [2, 3, 4] [2, 3, 4, 43, 61])
  (.seq
   (.seq
    (.reg [] [⟨some 11, .load (some 1) false, [.t 2], none⟩,
      ⟨some 12, .call [] false, [.f 64, .t 11], none⟩,
      ⟨some 13, .not, [.t 12], none⟩,
      ⟨some 14, .move, [.t 13], none⟩,
      ⟨some 15, .load (some 1) false, [.t 3], some (14, false)⟩,
      ⟨some 16, .call [] false, [.f 64, .t 15], some (14, false)⟩,
      ⟨some 17, .not, [.t 16], some (14, false)⟩,
      ⟨some 18, .pick, [.t 14, .k (.b true), .t 17], none⟩,
      ⟨some 19, .move, [.t 18], none⟩,
      ⟨some 20, .faddr 0, [.t 2], some (19, false)⟩,
      ⟨some 21, .load none false, [.t 20], some (19, false)⟩,
      ⟨some 22, .len, [.t 21], some (19, false)⟩,
      ⟨some 23, .faddr 0, [.t 3], some (19, false)⟩,
      ⟨some 24, .load none false, [.t 23], some (19, false)⟩,
      ⟨some 25, .len, [.t 24], some (19, false)⟩,
      ⟨some 26, .bin .add, [.t 22, .t 25], some (19, false)⟩,
      ⟨some 27, .bin .gt, [.t 26, .k (.i 60)], some (19, false)⟩,
      ⟨some 28, .pick, [.t 19, .k (.b true), .t 27], none⟩] [2, 3, 4, 28] [2, 3, 4, 43, 61])
    (.cond (.t 28)
     (.seq
      (.reg [] [⟨some 29, .build [.nils] [], [], none⟩,
        ⟨none, .store 1 true, [.t 4, .t 29], none⟩,
        ⟨some 5, .move, [.k (.b false)], none⟩] [4, 5] [4, 43, 61])
      .ret)
     .skip))
   (.seq
    (.reg [] [⟨some 30, .build [.nils] [], [], none⟩,
      ⟨some 6, .alloc [.nils], [], none⟩,
      ⟨none, .store 1 true, [.t 6, .t 30], none⟩] [2, 3, 4, 6] [2, 3, 4, 6, 43, 61])
    (.seq
     (.seq
      (.reg [] [⟨some 31, .faddr 0, [.t 2], none⟩,
        ⟨some 32, .load none false, [.t 31], none⟩,
        ⟨some 33, .len, [.t 32], none⟩,
        ⟨some 34, .move, [.k (.i 0)], none⟩] [2, 3, 4, 6, 32, 33, 34] [2, 3, 4, 6, 43, 61])
      (.block 0
       (.loop [2, 3, 4, 6, 32, 33, 34] [2, 3, 4, 6, 43, 61] c112l0)))
     (.seq
      (.seq
       (.reg [] [⟨some 46, .faddr 0, [.t 3], none⟩,
         ⟨some 47, .load none false, [.t 46], none⟩,
         ⟨some 48, .len, [.t 47], none⟩,
         ⟨some 49, .move, [.k (.i 0)], none⟩] [2, 4, 6, 47, 48, 49] [2, 4, 6, 43, 61])
       (.block 2
        (.loop [2, 4, 6, 47, 48, 49] [2, 4, 6, 43, 61] c112l1)))
      (.seq
       (.reg [] [⟨some 64, .load (some 1) false, [.t 6], none⟩,
         ⟨none, .store 1 true, [.t 4, .t 64], none⟩,
         ⟨some 5, .move, [.k (.b true)], none⟩] [4, 5] [4, 43, 61])
       .ret))))))
def a112 : AF := ⟨c112, [.cell 4 (some 1), .tmp 5]⟩
def b50l0 : AC :=
 (.seq
  (.reg [] [⟨some 27, .bin .lt, [.t 26, .t 25], none⟩] [3, 8, 9, 25, 26, 27] [3, 15, 21, 22, 45])
  (.seq
   (.cond (.t 27)
    .skip
    (.exit 0))
   (.seq
    (.block 1
     (.seq
      (.reg [] [⟨some 28, .move, [.t 26], none⟩,
        ⟨some 10, .move, [.t 28], none⟩] [3, 8, 9, 10, 25, 26] [3, 15, 21, 22, 45])
      (.seq
       (.reg [] [⟨some 29, .move, [.t 8], none⟩,
         ⟨some 30, .faddr 0, [.t 3], none⟩,
         ⟨some 31, .load none false, [.t 30], none⟩,
         ⟨some 32, .len, [.t 31], none⟩,
         ⟨some 33, .move, [.t 10], none⟩,
         ⟨some 34, .bin .add, [.t 32, .t 33], none⟩,
         ⟨some 35, .iaddr 1, [.t 29, .t 34], none⟩,
         ⟨some 36, .load none false, [.t 35], none⟩,
         ⟨some 11, .move, [.t 36], none⟩] [3, 8, 9, 11, 25, 26] [3, 15, 21, 22, 45])
       (.seq
        (.seq
         (.reg [] [⟨some 37, .move, [.t 11], none⟩,
           ⟨some 38, .faddr 0, [.t 3], none⟩,
           ⟨some 39, .load none false, [.t 38], none⟩,
           ⟨some 40, .len, [.t 39], none⟩,
           ⟨some 41, .bin .ge, [.t 37, .t 40], none⟩] [3, 8, 9, 11, 25, 26, 41] [3, 15, 21, 22, 45])
         (.cond (.t 41)
          (.seq
           (.reg [] [⟨some 4, .move, [.k (.nils)], none⟩,
             ⟨some 5, .move, [.k (.b false)], none⟩] [4, 5] [22, 45])
           .ret)
          .skip))
        (.reg [] [⟨some 42, .move, [.t 9], none⟩,
          ⟨some 43, .move, [.t 11], none⟩,
          ⟨some 44, .bslice 1 true, [.t 43], none⟩,
          ⟨some 45, .append 1 true, [.t 42, .t 44], none⟩,
          ⟨some 9, .move, [.t 45], none⟩] [3, 8, 9, 25, 26] [3, 15, 21, 22, 45])))))
    (.reg [] [⟨some 46, .bin .add, [.t 26, .k (.i 1)], none⟩,
      ⟨some 26, .move, [.t 46], none⟩] [3, 8, 9, 25, 26] [3, 15, 21, 22, 45]))))
def c50l0 : AC := b50l0
theorem r50l0 (call lp s) : run call lp c50l0 s = run call lp b50l0 s := rfl
/-- impl.EquationsFind -/
def c50 : AC :=
 (.seq
  (.reg [] [⟨some 2, .box, [.t 0], none⟩,
    ⟨some 3, .box, [.t 1], none⟩,
    ⟨some 4, .move, [.k (.nils)], none⟩,
    ⟨some 5, .move, [.k (.b false)], none⟩] [2, 3] [2, 3])
  (.seq
   (.reg [] [⟨some 13, .load (some 1) false, [.t 3], none⟩,
     ⟨some 14, .load (some 1) false, [.t 2], none⟩,
     ⟨some 15, .call [] false, [.f 112, .t 13, .t 14], none⟩,
     ⟨some 12, .move, [.t 15], none⟩,
     ⟨some 16, .ext 0, [.t 12], none⟩,
     ⟨some 17, .ext 1, [.t 12], none⟩,
     ⟨some 6, .alloc [.nils], [], none⟩,
     ⟨none, .store 1 true, [.t 6, .t 16], none⟩,
     ⟨some 7, .move, [.t 17], none⟩] [2, 3, 6, 7] [2, 3, 6, 15])
   (.seq
    (.seq
     (.reg [] [⟨some 18, .move, [.t 7], none⟩,
       ⟨some 19, .not, [.t 18], none⟩] [2, 3, 6, 19] [2, 3, 6, 15])
     (.cond (.t 19)
      (.seq
       (.reg [] [⟨some 4, .move, [.k (.nils)], none⟩,
         ⟨some 5, .move, [.k (.b false)], none⟩] [4, 5] [22, 45])
       .ret)
      .skip))
    (.seq
     (.reg [] [⟨some 20, .load (some 1) false, [.t 6], none⟩,
       ⟨some 21, .call [] false, [.f 100, .t 20], none⟩,
       ⟨some 8, .move, [.t 21], none⟩] [2, 3, 8] [2, 3, 15, 21])
     (.seq
      (.reg [] [⟨some 22, .bslice 1 true, [], none⟩,
        ⟨some 9, .move, [.t 22], none⟩] [2, 3, 8, 9] [2, 3, 15, 21, 22, 45])
      (.seq
       (.seq
        (.reg [] [⟨some 23, .faddr 0, [.t 2], none⟩,
          ⟨some 24, .load none false, [.t 23], none⟩,
          ⟨some 25, .len, [.t 24], none⟩,
          ⟨some 26, .move, [.k (.i 0)], none⟩] [3, 8, 9, 25, 26] [3, 15, 21, 22, 45])
        (.block 0
         (.loop [3, 8, 9, 25, 26] [3, 15, 21, 22, 45] c50l0)))
       (.seq
        (.reg [] [⟨some 47, .move, [.t 9], none⟩,
          ⟨some 4, .move, [.t 47], none⟩,
          ⟨some 5, .move, [.k (.b true)], none⟩] [4, 5] [22, 45])
        .ret)))))))
def a50 : AF := ⟨c50, [.tmp 4, .tmp 5]⟩
def b51l0 : AC :=
 (.seq
  (.seq
   (.reg [] [⟨some 6, .move, [.t 5], none⟩,
     ⟨some 7, .move, [.t 0], none⟩,
     ⟨some 8, .len, [.t 7], none⟩,
     ⟨some 9, .bin .lt, [.t 6, .t 8], none⟩] [0, 1, 5, 9] [])
   (.cond (.t 9)
    .skip
    (.exit 0)))
  (.seq
   (.block 1
    (.seq
     (.reg [] [⟨some 12, .move, [.t 0], none⟩,
       ⟨some 13, .move, [.t 5], none⟩,
       ⟨some 14, .move, [.t 1], none⟩,
       ⟨some 15, .iaddr 1, [.t 12, .t 13], none⟩,
       ⟨none, .store 1 true, [.t 15, .t 14], none⟩] [0, 1, 5] [])
     (.reg [] [⟨some 16, .move, [.t 1], none⟩,
       ⟨some 17, .bin .add, [.t 16, .k (.i 1)], none⟩,
       ⟨some 1, .move, [.t 17], none⟩] [0, 1, 5] [])))
   (.reg [] [⟨some 10, .move, [.t 5], none⟩,
     ⟨some 11, .bin .add, [.t 10, .k (.i 1)], none⟩,
     ⟨some 5, .move, [.t 11], none⟩] [0, 1, 5] [])))
def c51l0 : AC := b51l0
theorem r51l0 (call lp s) : run call lp c51l0 s = run call lp b51l0 s := rfl
/-- laws.markIntS -/
def c51 : AC :=
 (.seq
  (.reg [] [⟨some 4, .move, [.k (.i 0)], none⟩] [0, 1] [])
  (.seq
   (.seq
    (.reg [] [⟨some 5, .move, [.k (.i 0)], none⟩] [0, 1, 5] [])
    (.block 0
     (.loop [0, 1, 5] [] c51l0)))
   (.seq
    (.reg [] [⟨some 18, .move, [.t 1], none⟩,
      ⟨some 4, .move, [.t 18], none⟩] [4] [])
    .ret)))
def a51 : AF := ⟨c51, [.tmp 4]⟩
def b52l0 : AC :=
 (.seq
  (.seq
   (.reg [] [⟨some 6, .move, [.t 5], none⟩,
     ⟨some 7, .move, [.t 0], none⟩,
     ⟨some 8, .len, [.t 7], none⟩,
     ⟨some 9, .bin .lt, [.t 6, .t 8], none⟩] [0, 1, 5, 9] [])
   (.cond (.t 9)
    .skip
    (.exit 0)))
  (.seq
   (.block 1
    (.seq
     (.seq
      (.reg [] [⟨some 12, .move, [.t 0], none⟩,
        ⟨some 13, .move, [.t 5], none⟩,
        ⟨some 14, .iaddr 1, [.t 12, .t 13], none⟩,
        ⟨some 15, .load none false, [.t 14], none⟩,
        ⟨some 16, .move, [.t 1], none⟩,
        ⟨some 17, .bin .ne, [.t 15, .t 16], none⟩] [0, 1, 5, 17] [])
      (.cond (.t 17)
       (.seq
        (.reg [] [⟨some 4, .move, [.k (.i (-1))], none⟩] [4] [])
        .ret)
       .skip))
     (.reg [] [⟨some 18, .move, [.t 1], none⟩,
       ⟨some 19, .bin .add, [.t 18, .k (.i 1)], none⟩,
       ⟨some 1, .move, [.t 19], none⟩] [0, 1, 5] [])))
   (.reg [] [⟨some 10, .move, [.t 5], none⟩,
     ⟨some 11, .bin .add, [.t 10, .k (.i 1)], none⟩,
     ⟨some 5, .move, [.t 11], none⟩] [0, 1, 5] [])))
def c52l0 : AC := b52l0
theorem r52l0 (call lp s) : run call lp c52l0 s = run call lp b52l0 s := rfl
/-- laws.heldIntS -/
def c52 : AC :=
 (.seq
  (.reg [] [⟨some 4, .move, [.k (.i 0)], none⟩] [0, 1] [])
  (.seq
   (.seq
    (.reg [] [⟨some 5, .move, [.k (.i 0)], none⟩] [0, 1, 5] [])
    (.block 0
     (.loop [0, 1, 5] [] c52l0)))
   (.seq
    (.reg [] [⟨some 20, .move, [.t 1], none⟩,
      ⟨some 4, .move, [.t 20], none⟩] [4] [])
    .ret)))
def a52 : AF := ⟨c52, [.tmp 4]⟩
/-- laws.FnExactEquationsFind -/
def c11 : AC :=
 (.seq
  (.reg [] [⟨some 2, .box, [.t 0], none⟩,
    ⟨some 3, .box, [.t 1], none⟩,
    ⟨some 4, .move, [.k (.b false)], none⟩] [2, 3] [2, 3])
  (.seq
   (.reg [] [⟨some 5, .move, [.k (.i 1048576)], none⟩] [2, 3, 5] [2, 3])
   (.seq
    (.reg [] [⟨some 17, .load (some 1) false, [.t 2], none⟩,
      ⟨some 18, .move, [.t 5], none⟩,
      ⟨some 19, .call [] false, [.f 14, .t 17, .t 18], none⟩,
      ⟨some 5, .move, [.t 19], none⟩] [2, 3, 5] [2, 3])
    (.seq
     (.seq
      (.reg [] [⟨some 20, .move, [.t 5], none⟩,
        ⟨some 21, .bin .lt, [.t 20, .k (.i 0)], none⟩] [2, 3, 5, 21] [2, 3])
      (.cond (.t 21)
       (.seq
        (.reg [] [⟨some 4, .move, [.k (.b true)], none⟩] [4] [])
        .ret)
       .skip))
     (.seq
      (.reg [] [⟨some 22, .load (some 1) false, [.t 3], none⟩,
        ⟨some 23, .move, [.t 5], none⟩,
        ⟨some 24, .call [] false, [.f 14, .t 22, .t 23], none⟩,
        ⟨some 5, .move, [.t 24], none⟩] [2, 3, 5] [2, 3])
      (.seq
       (.seq
        (.reg [] [⟨some 25, .move, [.t 5], none⟩,
          ⟨some 26, .bin .lt, [.t 25, .k (.i 0)], none⟩] [2, 3, 26] [2, 3])
        (.cond (.t 26)
         (.seq
          (.reg [] [⟨some 4, .move, [.k (.b true)], none⟩] [4] [])
          .ret)
         .skip))
       (.seq
        (.reg [0, 2, 1, 4, 5, 6, 7, 8, 9, 10] [⟨some 28, .load (some 1) false, [.t 2], none⟩,
          ⟨some 30, .load (some 1) false, [.t 3], none⟩,
          ⟨some 29, .call [] false, [.f 16, .t 28], none⟩,
          ⟨none, .chk (.load (some 1) false), [.t 30, .t 3], none⟩,
          ⟨some 31, .call [] false, [.f 16, .t 30], none⟩,
          ⟨some 32, .call [] false, [.f 49, .t 29, .t 31], none⟩,
          ⟨some 27, .move, [.t 32], none⟩,
          ⟨some 33, .ext 0, [.t 27], none⟩,
          ⟨some 34, .ext 1, [.t 27], none⟩,
          ⟨some 6, .move, [.t 33], none⟩,
          ⟨some 7, .move, [.t 34], none⟩] [2, 3, 6, 7] [2, 3, 29, 31, 32])
        (.seq
         (.reg [] [⟨some 35, .load (some 1) false, [.t 2], none⟩,
           ⟨some 36, .call [] false, [.f 16, .t 35], none⟩,
           ⟨some 8, .alloc [.nils], [], none⟩,
           ⟨none, .store 1 true, [.t 8, .t 36], none⟩] [2, 3, 6, 7, 8] [2, 3, 8, 29, 31, 32, 36])
         (.seq
          (.reg [] [⟨some 37, .load (some 1) false, [.t 3], none⟩,
            ⟨some 38, .call [] false, [.f 16, .t 37], none⟩,
            ⟨some 9, .alloc [.nils], [], none⟩,
            ⟨none, .store 1 true, [.t 9, .t 38], none⟩] [2, 3, 6, 7, 8, 9] [2, 3, 8, 9, 29, 31, 32, 36, 38])
          (.seq
           (.reg [] [⟨some 40, .load (some 1) false, [.t 8], none⟩,
             ⟨some 41, .load (some 1) false, [.t 9], none⟩,
             ⟨some 42, .call [] false, [.f 50, .t 40, .t 41], none⟩,
             ⟨some 39, .move, [.t 42], none⟩,
             ⟨some 43, .ext 0, [.t 39], none⟩,
             ⟨some 44, .ext 1, [.t 39], none⟩,
             ⟨some 10, .move, [.t 43], none⟩,
             ⟨some 11, .move, [.t 44], none⟩] [2, 3, 6, 7, 8, 9, 10, 11] [2, 3, 8, 9, 29, 31, 32, 36, 38, 42])
           (.seq
            (.seq
             (.reg [] [⟨some 45, .move, [.t 10], none⟩,
               ⟨some 46, .move, [.t 6], none⟩,
               ⟨some 47, .call [] false, [.f 32, .t 45, .t 46], none⟩,
               ⟨some 48, .not, [.t 47], none⟩,
               ⟨some 49, .move, [.t 48], none⟩,
               ⟨some 50, .move, [.t 11], some (49, false)⟩,
               ⟨some 51, .move, [.t 7], some (49, false)⟩,
               ⟨some 52, .bne, [.t 50, .t 51], some (49, false)⟩,
               ⟨some 53, .pick, [.t 49, .k (.b true), .t 52], none⟩] [2, 3, 6, 7, 8, 9, 10, 11, 53] [2, 3, 8, 9, 29, 31, 32, 36, 38, 42])
             (.cond (.t 53)
              (.seq
               (.reg [] [⟨some 4, .move, [.k (.b false)], none⟩] [4] [])
               .ret)
              .skip))
            (.seq
             (.seq
              (.reg [0, 1, 2, 4, 5] [⟨some 54, .load (some 1) false, [.t 8], none⟩,
                ⟨some 55, .load (some 1) false, [.t 2], none⟩,
                ⟨some 56, .call [] false, [.f 16, .t 55], none⟩,
                ⟨none, .chk (.load (some 1) false), [.t 54, .t 8], none⟩,
                ⟨some 57, .call [] false, [.f 20, .t 54, .t 56], none⟩,
                ⟨some 58, .not, [.t 57], none⟩] [2, 3, 6, 7, 8, 9, 10, 11, 58] [2, 3, 8, 9, 29, 31, 32, 36, 38, 42])
              (.cond (.t 58)
               (.seq
                (.reg [] [⟨some 4, .move, [.k (.b false)], none⟩] [4] [])
                .ret)
               .skip))
             (.seq
              (.seq
               (.reg [0, 1, 2, 4, 5] [⟨some 59, .load (some 1) false, [.t 9], none⟩,
                 ⟨some 60, .load (some 1) false, [.t 3], none⟩,
                 ⟨some 61, .call [] false, [.f 16, .t 60], none⟩,
                 ⟨none, .chk (.load (some 1) false), [.t 59, .t 9], none⟩,
                 ⟨some 62, .call [] false, [.f 20, .t 59, .t 61], none⟩,
                 ⟨some 63, .not, [.t 62], none⟩] [2, 3, 6, 7, 8, 9, 10, 11, 63] [2, 3, 8, 9, 29, 31, 32, 36, 38, 42])
               (.cond (.t 63)
                (.seq
                 (.reg [] [⟨some 4, .move, [.k (.b false)], none⟩] [4] [])
                 .ret)
                .skip))
              (.seq
               (.reg [] [⟨some 12, .move, [.k (.i 1)], none⟩] [2, 3, 6, 7, 8, 9, 10, 11, 12] [2, 3, 8, 9, 29, 31, 32, 36, 38, 42])
               (.seq
                (.reg [] [⟨some 64, .load (some 1) false, [.t 8], none⟩,
                  ⟨some 65, .move, [.t 12], none⟩,
                  ⟨some 66, .call [0] false, [.f 21, .t 64, .t 65], none⟩,
                  ⟨some 12, .move, [.t 66], none⟩] [2, 3, 6, 7, 9, 10, 11, 12] [2, 3, 9, 29, 31, 32, 36, 38, 42])
                (.seq
                 (.reg [] [⟨some 67, .load (some 1) false, [.t 9], none⟩,
                   ⟨some 68, .move, [.t 12], none⟩,
                   ⟨some 69, .call [0] false, [.f 21, .t 67, .t 68], none⟩,
                   ⟨some 12, .move, [.t 69], none⟩] [2, 3, 6, 7, 10, 11, 12] [2, 3, 29, 31, 32, 36, 38, 42])
                 (.seq
                  (.seq
                   (.reg [] [⟨some 70, .move, [.t 12], none⟩,
                     ⟨some 71, .bin .lt, [.t 70, .k (.i 0)], none⟩,
                     ⟨some 72, .move, [.t 71], none⟩,
                     ⟨some 73, .move, [.t 10], some (72, false)⟩,
                     ⟨some 74, .move, [.t 6], some (72, false)⟩,
                     ⟨some 75, .call [] false, [.f 32, .t 73, .t 74], some (72, false)⟩,
                     ⟨some 76, .not, [.t 75], some (72, false)⟩,
                     ⟨some 77, .pick, [.t 72, .k (.b true), .t 76], none⟩,
                     ⟨some 78, .move, [.t 77], none⟩,
                     ⟨some 79, .move, [.t 11], some (78, false)⟩,
                     ⟨some 80, .move, [.t 7], some (78, false)⟩,
                     ⟨some 81, .bne, [.t 79, .t 80], some (78, false)⟩,
                     ⟨some 82, .pick, [.t 78, .k (.b true), .t 81], none⟩] [2, 3, 6, 7, 10, 82] [2, 3, 29, 31, 32, 36, 38, 42])
                   (.cond (.t 82)
                    (.seq
                     (.reg [] [⟨some 4, .move, [.k (.b false)], none⟩] [4] [])
                     .ret)
                    .skip))
                  (.seq
                   (.reg [] [⟨some 13, .move, [.k (.i 1)], none⟩] [2, 3, 6, 7, 10, 13] [2, 3, 29, 31, 32, 36, 38, 42])
                   (.seq
                    (.reg [] [⟨some 83, .move, [.t 10], none⟩,
                      ⟨some 84, .move, [.t 13], none⟩,
                      ⟨some 85, .call [0] false, [.f 51, .t 83, .t 84], none⟩,
                      ⟨some 13, .move, [.t 85], none⟩] [2, 3, 6, 7, 10, 13] [2, 3, 29, 31, 32, 36, 38, 42])
                    (.seq
                     (.reg [] [⟨some 14, .move, [.k (.i 1)], none⟩] [2, 3, 6, 7, 10, 13, 14] [2, 3, 29, 31, 32, 36, 38, 42])
                     (.seq
                      (.reg [] [⟨some 86, .move, [.t 10], none⟩,
                        ⟨some 87, .move, [.t 14], none⟩,
                        ⟨some 88, .call [] false, [.f 52, .t 86, .t 87], none⟩,
                        ⟨some 14, .move, [.t 88], none⟩] [2, 3, 6, 7, 10, 13, 14] [2, 3, 29, 31, 32, 36, 38, 42])
                      (.seq
                       (.seq
                        (.reg [] [⟨some 89, .move, [.t 14], none⟩,
                          ⟨some 90, .bin .lt, [.t 89, .k (.i 0)], none⟩] [2, 3, 6, 7, 10, 13, 14, 90] [2, 3, 29, 31, 32, 36, 38, 42])
                        (.cond (.t 90)
                         (.seq
                          (.reg [] [⟨some 4, .move, [.k (.b false)], none⟩] [4] [])
                          .ret)
                         .skip))
                       (.seq
                        (.seq
                         (.reg [] [⟨some 91, .move, [.t 14], none⟩,
                           ⟨some 92, .move, [.t 13], none⟩,
                           ⟨some 93, .bin .ne, [.t 91, .t 92], none⟩] [2, 3, 6, 7, 10, 13, 93] [2, 3, 29, 31, 32, 36, 38, 42])
                         (.cond (.t 93)
                          (.seq
                           (.reg [] [⟨some 4, .move, [.k (.b false)], none⟩] [4] [])
                           .ret)
                          .skip))
                        (.seq
                         (.reg [0, 2, 1, 4, 5, 6, 7, 8, 9, 10] [⟨some 95, .load (some 1) false, [.t 2], none⟩,
                           ⟨some 97, .load (some 1) false, [.t 3], none⟩,
                           ⟨some 96, .call [] false, [.f 16, .t 95], none⟩,
                           ⟨none, .chk (.load (some 1) false), [.t 97, .t 3], none⟩,
                           ⟨some 98, .call [] false, [.f 16, .t 97], none⟩,
                           ⟨some 99, .call [] false, [.f 50, .t 96, .t 98], none⟩,
                           ⟨some 94, .move, [.t 99], none⟩,
                           ⟨some 100, .ext 0, [.t 94], none⟩,
                           ⟨some 101, .ext 1, [.t 94], none⟩,
                           ⟨some 15, .move, [.t 100], none⟩,
                           ⟨some 16, .move, [.t 101], none⟩] [6, 7, 10, 13, 15, 16] [29, 31, 32, 36, 38, 42, 96, 98, 99])
                         (.seq
                          (.seq
                           (.reg [] [⟨some 102, .move, [.t 15], none⟩,
                             ⟨some 103, .move, [.t 6], none⟩,
                             ⟨some 104, .call [] false, [.f 32, .t 102, .t 103], none⟩,
                             ⟨some 105, .not, [.t 104], none⟩,
                             ⟨some 106, .move, [.t 105], none⟩,
                             ⟨some 107, .move, [.t 16], some (106, false)⟩,
                             ⟨some 108, .move, [.t 7], some (106, false)⟩,
                             ⟨some 109, .bne, [.t 107, .t 108], some (106, false)⟩,
                             ⟨some 110, .pick, [.t 106, .k (.b true), .t 109], none⟩] [10, 13, 110] [36, 38, 42])
                           (.cond (.t 110)
                            (.seq
                             (.reg [] [⟨some 4, .move, [.k (.b false)], none⟩] [4] [])
                             .ret)
                            .skip))
                          (.seq
                           (.reg [] [⟨some 14, .move, [.k (.i 1)], none⟩] [10, 13, 14] [36, 38, 42])
                           (.seq
                            (.reg [] [⟨some 111, .move, [.t 10], none⟩,
                              ⟨some 112, .move, [.t 14], none⟩,
                              ⟨some 113, .call [] false, [.f 52, .t 111, .t 112], none⟩,
                              ⟨some 14, .move, [.t 113], none⟩] [13, 14] [])
                            (.seq
                             (.seq
                              (.reg [] [⟨some 114, .move, [.t 14], none⟩,
                                ⟨some 115, .bin .lt, [.t 114, .k (.i 0)], none⟩] [13, 14, 115] [])
                              (.cond (.t 115)
                               (.seq
                                (.reg [] [⟨some 4, .move, [.k (.b false)], none⟩] [4] [])
                                .ret)
                               .skip))
                             (.seq
                              (.seq
                               (.reg [] [⟨some 116, .move, [.t 14], none⟩,
                                 ⟨some 117, .move, [.t 13], none⟩,
                                 ⟨some 118, .bin .ne, [.t 116, .t 117], none⟩] [118] [])
                               (.cond (.t 118)
                                (.seq
                                 (.reg [] [⟨some 4, .move, [.k (.b false)], none⟩] [4] [])
                                 .ret)
                                .skip))
                              (.seq
                               (.reg [] [⟨some 4, .move, [.k (.b true)], none⟩] [4] [])
                               .ret))))))))))))))))))))))))))))))
def a11 : AF := ⟨c11, [.tmp 4]⟩
theorem ok117 : okF Try.prog 117 a117 = true := by kernel_rfl
theorem ok58 : okF Try.prog 58 a58 = true := by kernel_rfl
theorem ok14 : okF Try.prog 14 a14 = true := by kernel_rfl
theorem ok150 : okF Try.prog 150 a150 = true := by kernel_rfl
theorem ok120 : okF Try.prog 120 a120 = true := by kernel_rfl
theorem ok63 : okF Try.prog 63 a63 = true := by kernel_rfl
theorem ok16 : okF Try.prog 16 a16 = true := by kernel_rfl
theorem ok60 : okF Try.prog 60 a60 = true := by kernel_rfl
theorem ok83 : okF Try.prog 83 a83 = true := by kernel_rfl
theorem ok118 : okF Try.prog 118 a118 = true := by kernel_rfl
theorem ok59 : okF Try.prog 59 a59 = true := by kernel_rfl
theorem ok85 : okF Try.prog 85 a85 = true := by kernel_rfl
theorem ok161 : okF Try.prog 161 a161 = true := by kernel_rfl
theorem ok90 : okF Try.prog 90 a90 = true := by kernel_rfl
theorem ok138 : okF Try.prog 138 a138 = true := by kernel_rfl
theorem ok84 : okF Try.prog 84 a84 = true := by kernel_rfl
theorem ok33 : okF Try.prog 33 a33 = true := by kernel_rfl
theorem ok86 : okF Try.prog 86 a86 = true := by kernel_rfl
theorem ok169 : okF Try.prog 169 a169 = true := by kernel_rfl
theorem ok151 : okF Try.prog 151 a151 = true := by kernel_rfl
theorem ok121 : okF Try.prog 121 a121 = true := by kernel_rfl
theorem ok64 : okF Try.prog 64 a64 = true := by kernel_rfl
theorem ok87 : okF Try.prog 87 a87 = true := by kernel_rfl
theorem ok139 : okF Try.prog 139 a139 = true := by kernel_rfl
theorem ok142 : okF Try.prog 142 a142 = true := by kernel_rfl
theorem ok91 : okF Try.prog 91 a91 = true := by kernel_rfl
theorem ok88 : okF Try.prog 88 a88 = true := by kernel_rfl
theorem ok34 : okF Try.prog 34 a34 = true := by kernel_rfl
theorem ok154 : okF Try.prog 154 a154 = true := by kernel_rfl
theorem ok124 : okF Try.prog 124 a124 = true := by kernel_rfl
theorem ok68 : okF Try.prog 68 a68 = true := by kernel_rfl
theorem ok20 : okF Try.prog 20 a20 = true := by kernel_rfl
theorem ok125 : okF Try.prog 125 a125 = true := by kernel_rfl
theorem ok69 : okF Try.prog 69 a69 = true := by kernel_rfl
theorem ok21 : okF Try.prog 21 a21 = true := by kernel_rfl
theorem ok140 : okF Try.prog 140 a140 = true := by kernel_rfl
theorem ok89 : okF Try.prog 89 a89 = true := by kernel_rfl
theorem ok35 : okF Try.prog 35 a35 = true := by kernel_rfl
theorem ok5 : okF Try.prog 5 a5 = true := by kernel_rfl
theorem ok92 : okF Try.prog 92 a92 = true := by kernel_rfl
theorem ok38 : okF Try.prog 38 a38 = true := by kernel_rfl
theorem ok93 : okF Try.prog 93 a93 = true := by kernel_rfl
theorem ok95 : okF Try.prog 95 a95 = true := by kernel_rfl
theorem ok97 : okF Try.prog 97 a97 = true := by kernel_rfl
theorem ok96 : okF Try.prog 96 a96 = true := by kernel_rfl
theorem ok143 : okF Try.prog 143 a143 = true := by kernel_rfl
theorem ok94 : okF Try.prog 94 a94 = true := by kernel_rfl
theorem ok39 : okF Try.prog 39 a39 = true := by kernel_rfl
theorem ok7 : okF Try.prog 7 a7 = true := by kernel_rfl
theorem ok45 : okF Try.prog 45 a45 = true := by kernel_rfl
theorem ok108 : okF Try.prog 108 a108 = true := by kernel_rfl
theorem ok44 : okF Try.prog 44 a44 = true := by kernel_rfl
theorem ok109 : okF Try.prog 109 a109 = true := by kernel_rfl
theorem ok110 : okF Try.prog 110 a110 = true := by kernel_rfl
theorem ok46 : okF Try.prog 46 a46 = true := by kernel_rfl
theorem ok47 : okF Try.prog 47 a47 = true := by kernel_rfl
theorem ok48 : okF Try.prog 48 a48 = true := by kernel_rfl
theorem ok10 : okF Try.prog 10 a10 = true := by kernel_rfl
theorem ok29 : okF Try.prog 29 a29 = true := by kernel_rfl
theorem ok144 : okF Try.prog 144 a144 = true := by kernel_rfl
theorem ok186 : okF Try.prog 186 a186 = true := by kernel_rfl
theorem ok164 : okF Try.prog 164 a164 = true := by kernel_rfl
theorem ok165 : okF Try.prog 165 a165 = true := by kernel_rfl
theorem ok145 : okF Try.prog 145 a145 = true := by kernel_rfl
theorem ok99 : okF Try.prog 99 a99 = true := by kernel_rfl
theorem ok98 : okF Try.prog 98 a98 = true := by kernel_rfl
theorem ok40 : okF Try.prog 40 a40 = true := by kernel_rfl
theorem ok167 : okF Try.prog 167 a167 = true := by kernel_rfl
theorem ok188 : okF Try.prog 188 a188 = true := by kernel_rfl
theorem ok206 : okF Try.prog 206 a206 = true := by kernel_rfl
theorem ok187 : okF Try.prog 187 a187 = true := by kernel_rfl
theorem ok189 : okF Try.prog 189 a189 = true := by kernel_rfl
theorem ok166 : okF Try.prog 166 a166 = true := by kernel_rfl
theorem ok146 : okF Try.prog 146 a146 = true := by kernel_rfl
theorem ok78 : okF Try.prog 78 a78 = true := by kernel_rfl
theorem ok100 : okF Try.prog 100 a100 = true := by kernel_rfl
theorem ok101 : okF Try.prog 101 a101 = true := by kernel_rfl
theorem ok103 : okF Try.prog 103 a103 = true := by kernel_rfl
theorem ok102 : okF Try.prog 102 a102 = true := by kernel_rfl
theorem ok104 : okF Try.prog 104 a104 = true := by kernel_rfl
theorem ok41 : okF Try.prog 41 a41 = true := by kernel_rfl
theorem ok32 : okF Try.prog 32 a32 = true := by kernel_rfl
theorem ok8 : okF Try.prog 8 a8 = true := by kernel_rfl
theorem ok111 : okF Try.prog 111 a111 = true := by kernel_rfl
theorem ok49 : okF Try.prog 49 a49 = true := by kernel_rfl
theorem ok112 : okF Try.prog 112 a112 = true := by kernel_rfl
theorem ok50 : okF Try.prog 50 a50 = true := by kernel_rfl
theorem ok51 : okF Try.prog 51 a51 = true := by kernel_rfl
theorem ok52 : okF Try.prog 52 a52 = true := by kernel_rfl
theorem ok11 : okF Try.prog 11 a11 = true := by kernel_rfl
def codes : Nat → Option AF
  | 117 => some a117
  | 58 => some a58
  | 14 => some a14
  | 150 => some a150
  | 120 => some a120
  | 63 => some a63
  | 16 => some a16
  | 60 => some a60
  | 83 => some a83
  | 118 => some a118
  | 59 => some a59
  | 85 => some a85
  | 161 => some a161
  | 90 => some a90
  | 138 => some a138
  | 84 => some a84
  | 33 => some a33
  | 86 => some a86
  | 169 => some a169
  | 151 => some a151
  | 121 => some a121
  | 64 => some a64
  | 87 => some a87
  | 139 => some a139
  | 142 => some a142
  | 91 => some a91
  | 88 => some a88
  | 34 => some a34
  | 154 => some a154
  | 124 => some a124
  | 68 => some a68
  | 20 => some a20
  | 125 => some a125
  | 69 => some a69
  | 21 => some a21
  | 140 => some a140
  | 89 => some a89
  | 35 => some a35
  | 5 => some a5
  | 92 => some a92
  | 38 => some a38
  | 93 => some a93
  | 95 => some a95
  | 97 => some a97
  | 96 => some a96
  | 143 => some a143
  | 94 => some a94
  | 39 => some a39
  | 7 => some a7
  | 45 => some a45
  | 108 => some a108
  | 44 => some a44
  | 109 => some a109
  | 110 => some a110
  | 46 => some a46
  | 47 => some a47
  | 48 => some a48
  | 10 => some a10
  | 29 => some a29
  | 144 => some a144
  | 186 => some a186
  | 164 => some a164
  | 165 => some a165
  | 145 => some a145
  | 99 => some a99
  | 98 => some a98
  | 40 => some a40
  | 167 => some a167
  | 188 => some a188
  | 206 => some a206
  | 187 => some a187
  | 189 => some a189
  | 166 => some a166
  | 146 => some a146
  | 78 => some a78
  | 100 => some a100
  | 101 => some a101
  | 103 => some a103
  | 102 => some a102
  | 104 => some a104
  | 41 => some a41
  | 32 => some a32
  | 8 => some a8
  | 111 => some a111
  | 49 => some a49
  | 112 => some a112
  | 50 => some a50
  | 51 => some a51
  | 52 => some a52
  | 11 => some a11
  | _ => none
def G0 : Prog := ⟨codes, fun _ => none⟩
theorem g117 : codes 117 = some a117 := rfl
theorem g58 : codes 58 = some a58 := rfl
theorem g14 : codes 14 = some a14 := rfl
theorem g150 : codes 150 = some a150 := rfl
theorem g120 : codes 120 = some a120 := rfl
theorem g63 : codes 63 = some a63 := rfl
theorem g16 : codes 16 = some a16 := rfl
theorem g60 : codes 60 = some a60 := rfl
theorem g83 : codes 83 = some a83 := rfl
theorem g118 : codes 118 = some a118 := rfl
theorem g59 : codes 59 = some a59 := rfl
theorem g85 : codes 85 = some a85 := rfl
theorem g161 : codes 161 = some a161 := rfl
theorem g90 : codes 90 = some a90 := rfl
theorem g138 : codes 138 = some a138 := rfl
theorem g84 : codes 84 = some a84 := rfl
theorem g33 : codes 33 = some a33 := rfl
theorem g86 : codes 86 = some a86 := rfl
theorem g169 : codes 169 = some a169 := rfl
theorem g151 : codes 151 = some a151 := rfl
theorem g121 : codes 121 = some a121 := rfl
theorem g64 : codes 64 = some a64 := rfl
theorem g87 : codes 87 = some a87 := rfl
theorem g139 : codes 139 = some a139 := rfl
theorem g142 : codes 142 = some a142 := rfl
theorem g91 : codes 91 = some a91 := rfl
theorem g88 : codes 88 = some a88 := rfl
theorem g34 : codes 34 = some a34 := rfl
theorem g154 : codes 154 = some a154 := rfl
theorem g124 : codes 124 = some a124 := rfl
theorem g68 : codes 68 = some a68 := rfl
theorem g20 : codes 20 = some a20 := rfl
theorem g125 : codes 125 = some a125 := rfl
theorem g69 : codes 69 = some a69 := rfl
theorem g21 : codes 21 = some a21 := rfl
theorem g140 : codes 140 = some a140 := rfl
theorem g89 : codes 89 = some a89 := rfl
theorem g35 : codes 35 = some a35 := rfl
theorem g5 : codes 5 = some a5 := rfl
theorem g92 : codes 92 = some a92 := rfl
theorem g38 : codes 38 = some a38 := rfl
theorem g93 : codes 93 = some a93 := rfl
theorem g95 : codes 95 = some a95 := rfl
theorem g97 : codes 97 = some a97 := rfl
theorem g96 : codes 96 = some a96 := rfl
theorem g143 : codes 143 = some a143 := rfl
theorem g94 : codes 94 = some a94 := rfl
theorem g39 : codes 39 = some a39 := rfl
theorem g7 : codes 7 = some a7 := rfl
theorem g45 : codes 45 = some a45 := rfl
theorem g108 : codes 108 = some a108 := rfl
theorem g44 : codes 44 = some a44 := rfl
theorem g109 : codes 109 = some a109 := rfl
theorem g110 : codes 110 = some a110 := rfl
theorem g46 : codes 46 = some a46 := rfl
theorem g47 : codes 47 = some a47 := rfl
theorem g48 : codes 48 = some a48 := rfl
theorem g10 : codes 10 = some a10 := rfl
theorem g29 : codes 29 = some a29 := rfl
theorem g144 : codes 144 = some a144 := rfl
theorem g186 : codes 186 = some a186 := rfl
theorem g164 : codes 164 = some a164 := rfl
theorem g165 : codes 165 = some a165 := rfl
theorem g145 : codes 145 = some a145 := rfl
theorem g99 : codes 99 = some a99 := rfl
theorem g98 : codes 98 = some a98 := rfl
theorem g40 : codes 40 = some a40 := rfl
theorem g167 : codes 167 = some a167 := rfl
theorem g188 : codes 188 = some a188 := rfl
theorem g206 : codes 206 = some a206 := rfl
theorem g187 : codes 187 = some a187 := rfl
theorem g189 : codes 189 = some a189 := rfl
theorem g166 : codes 166 = some a166 := rfl
theorem g146 : codes 146 = some a146 := rfl
theorem g78 : codes 78 = some a78 := rfl
theorem g100 : codes 100 = some a100 := rfl
theorem g101 : codes 101 = some a101 := rfl
theorem g103 : codes 103 = some a103 := rfl
theorem g102 : codes 102 = some a102 := rfl
theorem g104 : codes 104 = some a104 := rfl
theorem g41 : codes 41 = some a41 := rfl
theorem g32 : codes 32 = some a32 := rfl
theorem g8 : codes 8 = some a8 := rfl
theorem g111 : codes 111 = some a111 := rfl
theorem g49 : codes 49 = some a49 := rfl
theorem g112 : codes 112 = some a112 := rfl
theorem g50 : codes 50 = some a50 := rfl
theorem g51 : codes 51 = some a51 := rfl
theorem g52 : codes 52 = some a52 := rfl
theorem g11 : codes 11 = some a11 := rfl
theorem gp0 (n : Nat) : G0.prim n = none := rfl
theorem progOK0 : ProgOK Try.prog G0 := by
  refine ⟨by kernel_rfl, fun f af _ h => ?_, fun f p h => by cases h⟩
  simp only [G0] at h
  unfold codes at h
  split at h
  · cases h; exact ok117
  · cases h; exact ok58
  · cases h; exact ok14
  · cases h; exact ok150
  · cases h; exact ok120
  · cases h; exact ok63
  · cases h; exact ok16
  · cases h; exact ok60
  · cases h; exact ok83
  · cases h; exact ok118
  · cases h; exact ok59
  · cases h; exact ok85
  · cases h; exact ok161
  · cases h; exact ok90
  · cases h; exact ok138
  · cases h; exact ok84
  · cases h; exact ok33
  · cases h; exact ok86
  · cases h; exact ok169
  · cases h; exact ok151
  · cases h; exact ok121
  · cases h; exact ok64
  · cases h; exact ok87
  · cases h; exact ok139
  · cases h; exact ok142
  · cases h; exact ok91
  · cases h; exact ok88
  · cases h; exact ok34
  · cases h; exact ok154
  · cases h; exact ok124
  · cases h; exact ok68
  · cases h; exact ok20
  · cases h; exact ok125
  · cases h; exact ok69
  · cases h; exact ok21
  · cases h; exact ok140
  · cases h; exact ok89
  · cases h; exact ok35
  · cases h; exact ok5
  · cases h; exact ok92
  · cases h; exact ok38
  · cases h; exact ok93
  · cases h; exact ok95
  · cases h; exact ok97
  · cases h; exact ok96
  · cases h; exact ok143
  · cases h; exact ok94
  · cases h; exact ok39
  · cases h; exact ok7
  · cases h; exact ok45
  · cases h; exact ok108
  · cases h; exact ok44
  · cases h; exact ok109
  · cases h; exact ok110
  · cases h; exact ok46
  · cases h; exact ok47
  · cases h; exact ok48
  · cases h; exact ok10
  · cases h; exact ok29
  · cases h; exact ok144
  · cases h; exact ok186
  · cases h; exact ok164
  · cases h; exact ok165
  · cases h; exact ok145
  · cases h; exact ok99
  · cases h; exact ok98
  · cases h; exact ok40
  · cases h; exact ok167
  · cases h; exact ok188
  · cases h; exact ok206
  · cases h; exact ok187
  · cases h; exact ok189
  · cases h; exact ok166
  · cases h; exact ok146
  · cases h; exact ok78
  · cases h; exact ok100
  · cases h; exact ok101
  · cases h; exact ok103
  · cases h; exact ok102
  · cases h; exact ok104
  · cases h; exact ok41
  · cases h; exact ok32
  · cases h; exact ok8
  · cases h; exact ok111
  · cases h; exact ok49
  · cases h; exact ok112
  · cases h; exact ok50
  · cases h; exact ok51
  · cases h; exact ok52
  · cases h; exact ok11
  · cases h
end Go.Am
end
