/- The annotated code of the graphs' functions, the second half. -/
import Derived.Test.YtlldnglfoajfcaaGtA
section
set_option maxRecDepth 100000
namespace Go.Am
open Go.Proofs
/-- impl.namesOk -/
def c109 : AC :=
 (.seq
  (.reg [] [⟨some 2, .move, [.k (.b false)], none⟩] [0] [])
  (.seq
   (.reg [] [⟨some 3, .move, [.t 0], none⟩,
     ⟨some 4, .len, [.t 3], none⟩,
     ⟨some 5, .bin .eq, [.t 4, .k (.i 4)], none⟩,
     ⟨some 2, .move, [.t 5], none⟩] [2] [])
   .ret))
def a109 : AF := ⟨c109, [.tmp 2]⟩
/-- impl.atNames -/
def c110 : AC :=
 (.seq
  (.reg [] [⟨some 4, .move, [.k (.b false)], none⟩] [0, 1] [])
  (.seq
   (.reg [] [⟨some 5, .move, [.t 0], none⟩,
     ⟨some 6, .bin .ne, [.t 5, .k (.i 0)], none⟩,
     ⟨some 7, .move, [.t 6], none⟩,
     ⟨some 8, .move, [.t 1], some (7, true)⟩,
     ⟨some 9, .move, [.t 0], some (7, true)⟩,
     ⟨some 10, .call [] false, [.f 97, .t 9], some (7, true)⟩,
     ⟨some 11, .iaddr 1, [.t 8, .t 10], some (7, true)⟩,
     ⟨some 12, .load none false, [.t 11], some (7, true)⟩,
     ⟨some 13, .pick, [.t 7, .t 12, .k (.b false)], none⟩,
     ⟨some 4, .move, [.t 13], none⟩] [4] [])
   .ret))
def a110 : AF := ⟨c110, [.tmp 4]⟩
def b46l0 : AC :=
 (.seq
  (.reg [] [⟨some 34, .bin .lt, [.t 33, .t 32], none⟩] [1, 4, 6, 9, 23, 24, 25, 31, 32, 33, 34] [4, 21, 30, 51, 54])
  (.seq
   (.cond (.t 34)
    .skip
    (.exit 2))
   (.seq
    (.block 3
     (.seq
      (.reg [] [⟨some 35, .move, [.t 33], none⟩,
        ⟨some 36, .iaddr 2, [.t 31, .t 33], none⟩,
        ⟨some 37, .load (some 2) false, [.t 36], none⟩,
        ⟨some 11, .alloc [.i 0, .i 0], [], none⟩,
        ⟨some 10, .move, [.t 35], none⟩,
        ⟨none, .store 2 true, [.t 11, .t 37], none⟩] [1, 4, 6, 9, 10, 11, 23, 24, 25, 31, 32, 33] [4, 11, 21, 30, 51, 54])
      (.seq
       (.reg [] [⟨some 38, .faddr 0, [.t 11], none⟩,
         ⟨some 39, .load none false, [.t 38], none⟩,
         ⟨some 40, .move, [.t 1], none⟩,
         ⟨some 41, .call [] false, [.f 110, .t 39, .t 40], none⟩] [1, 4, 6, 9, 10, 23, 24, 25, 31, 32, 33, 41] [4, 21, 30, 51, 54])
       (.cond (.t 41)
        (.reg [] [⟨some 42, .move, [.t 9], none⟩,
          ⟨some 43, .move, [.t 10], none⟩,
          ⟨some 44, .iaddr 2, [.t 42, .t 43], none⟩,
          ⟨some 45, .faddr 0, [.t 44], none⟩,
          ⟨none, .store 1 true, [.t 45, .k (.i 0)], none⟩] [1, 4, 6, 9, 23, 24, 25, 31, 32, 33] [4, 21, 30, 51, 54])
        .skip))))
    (.reg [] [⟨some 46, .bin .add, [.t 33, .k (.i 1)], none⟩,
      ⟨some 33, .move, [.t 46], none⟩] [1, 4, 6, 9, 23, 24, 25, 31, 32, 33] [4, 21, 30, 51, 54]))))
def c46l0 : AC := b46l0
theorem r46l0 (call lp s) : run call lp c46l0 s = run call lp b46l0 s := rfl
def b46l1 : AC :=
 (.seq
  (.reg [] [⟨some 26, .bin .lt, [.t 25, .t 24], none⟩] [1, 4, 6, 23, 24, 25, 26] [4, 21, 51, 54])
  (.seq
   (.cond (.t 26)
    .skip
    (.exit 0))
   (.seq
    (.block 1
     (.seq
      (.reg [] [⟨some 27, .iaddr 1, [.t 23, .t 25], none⟩,
        ⟨some 28, .load none false, [.t 27], none⟩,
        ⟨some 8, .move, [.t 28], none⟩] [1, 4, 6, 8, 23, 24, 25] [4, 21, 51, 54])
      (.seq
       (.reg [] [⟨some 29, .move, [.t 8], none⟩,
         ⟨some 30, .call [] false, [.f 95, .t 29], none⟩,
         ⟨some 9, .move, [.t 30], none⟩] [1, 4, 6, 9, 23, 24, 25] [4, 21, 30, 51, 54])
       (.seq
        (.seq
         (.reg [] [⟨some 31, .move, [.t 9], none⟩,
           ⟨some 32, .len, [.t 31], none⟩,
           ⟨some 33, .move, [.k (.i 0)], none⟩] [1, 4, 6, 9, 23, 24, 25, 31, 32, 33] [4, 21, 30, 51, 54])
         (.block 2
          (.loop [1, 4, 6, 9, 23, 24, 25, 31, 32, 33] [4, 21, 30, 51, 54] c46l0)))
        (.reg [] [⟨some 47, .move, [.t 6], none⟩,
          ⟨some 48, .move, [.t 9], none⟩,
          ⟨some 49, .call [0] false, [.f 91, .t 48], none⟩,
          ⟨some 50, .bslice 1 true, [.t 49], none⟩,
          ⟨some 51, .append 1 true, [.t 47, .t 50], none⟩,
          ⟨some 6, .move, [.t 51], none⟩] [1, 4, 6, 23, 24, 25] [4, 21, 51, 54])))))
    (.reg [] [⟨some 52, .bin .add, [.t 25, .k (.i 1)], none⟩,
      ⟨some 25, .move, [.t 52], none⟩] [1, 4, 6, 23, 24, 25] [4, 21, 51, 54]))))
def c46l1 : AC := b46l1
theorem r46l1 (call lp s) : run call lp c46l1 s = run call lp b46l1 s := rfl
/-- impl.GraphVeil -/
def c46 : AC :=
 (.seq
  (.reg [] [⟨some 2, .box, [.t 0], none⟩,
    ⟨some 4, .alloc [.nils], [], none⟩,
    ⟨some 5, .move, [.k (.b false)], none⟩] [1, 2, 4] [2, 4, 21, 51, 54])
  (.seq
   (.seq
    (.reg [] [⟨some 12, .load (some 1) false, [.t 2], none⟩,
      ⟨some 13, .call [] false, [.f 64, .t 12], none⟩,
      ⟨some 14, .not, [.t 13], none⟩,
      ⟨some 15, .move, [.t 14], none⟩,
      ⟨some 16, .move, [.t 1], some (15, false)⟩,
      ⟨some 17, .call [] false, [.f 109, .t 16], some (15, false)⟩,
      ⟨some 18, .not, [.t 17], some (15, false)⟩,
      ⟨some 19, .pick, [.t 15, .k (.b true), .t 18], none⟩] [1, 2, 4, 19] [2, 4, 21, 51, 54])
    (.cond (.t 19)
     (.seq
      (.reg [] [⟨some 20, .build [.nils] [], [], none⟩,
        ⟨none, .store 1 true, [.t 4, .t 20], none⟩,
        ⟨some 5, .move, [.k (.b false)], none⟩] [4, 5] [4, 21, 51, 54])
      .ret)
     .skip))
   (.seq
    (.reg [] [⟨some 21, .bslice 1 true, [], none⟩,
      ⟨some 6, .move, [.t 21], none⟩] [1, 2, 4, 6] [2, 4, 21, 51, 54])
    (.seq
     (.seq
      (.reg [] [⟨some 22, .faddr 0, [.t 2], none⟩,
        ⟨some 23, .load none false, [.t 22], none⟩,
        ⟨some 24, .len, [.t 23], none⟩,
        ⟨some 25, .move, [.k (.i 0)], none⟩] [1, 4, 6, 23, 24, 25] [4, 21, 51, 54])
      (.block 0
       (.loop [1, 4, 6, 23, 24, 25] [4, 21, 51, 54] c46l1)))
     (.seq
      (.reg [] [⟨some 53, .move, [.t 6], none⟩,
        ⟨some 54, .call [] false, [.f 88, .t 53, .k (.i 0)], none⟩,
        ⟨some 55, .ext 0, [.t 54], none⟩,
        ⟨some 56, .ext 1, [.t 54], none⟩,
        ⟨none, .store 1 true, [.t 4, .t 55], none⟩,
        ⟨some 5, .move, [.t 56], none⟩] [4, 5] [4, 21, 51, 54])
      .ret)))))
def a46 : AF := ⟨c46, [.cell 4 (some 1), .tmp 5]⟩
def b47l0 : AC :=
 (.seq
  (.seq
   (.reg [] [⟨some 11, .move, [.t 5], none⟩,
     ⟨some 12, .move, [.t 0], none⟩,
     ⟨some 13, .len, [.t 12], none⟩,
     ⟨some 14, .bin .lt, [.t 11, .t 13], none⟩] [0, 1, 5, 14] [])
   (.cond (.t 14)
    .skip
    (.exit 0)))
  (.seq
   (.block 1
    (.seq
     (.reg [0, 1, 2, 3, 4, 5, 6, 7, 8] [⟨some 17, .move, [.t 0], none⟩,
       ⟨some 18, .move, [.t 5], none⟩,
       ⟨some 19, .iaddr 1, [.t 17, .t 18], none⟩,
       ⟨some 20, .load none false, [.t 19], none⟩,
       ⟨some 21, .move, [.t 1], none⟩,
       ⟨some 22, .move, [.t 5], none⟩,
       ⟨some 23, .iaddr 1, [.t 21, .t 22], none⟩,
       ⟨some 24, .load none false, [.t 23], none⟩,
       ⟨some 25, .bne, [.t 20, .t 24], none⟩] [0, 1, 5, 25] [])
     (.cond (.t 25)
      (.seq
       (.reg [] [⟨some 4, .move, [.k (.b false)], none⟩] [4] [])
       .ret)
      .skip)))
   (.reg [] [⟨some 15, .move, [.t 5], none⟩,
     ⟨some 16, .bin .add, [.t 15, .k (.i 1)], none⟩,
     ⟨some 5, .move, [.t 16], none⟩] [0, 1, 5] [])))
def c47l0 : AC := b47l0
theorem r47l0 (call lp s) : run call lp c47l0 s = run call lp b47l0 s := rfl
/-- laws.eqBoolS -/
def c47 : AC :=
 (.seq
  (.reg [] [⟨some 4, .move, [.k (.b false)], none⟩] [0, 1] [])
  (.seq
   (.seq
    (.reg [] [⟨some 6, .move, [.t 0], none⟩,
      ⟨some 7, .len, [.t 6], none⟩,
      ⟨some 8, .move, [.t 1], none⟩,
      ⟨some 9, .len, [.t 8], none⟩,
      ⟨some 10, .bin .ne, [.t 7, .t 9], none⟩] [0, 1, 10] [])
    (.cond (.t 10)
     (.seq
      (.reg [] [⟨some 4, .move, [.k (.b false)], none⟩] [4] [])
      .ret)
     .skip))
   (.seq
    (.seq
     (.reg [] [⟨some 5, .move, [.k (.i 0)], none⟩] [0, 1, 5] [])
     (.block 0
      (.loop [0, 1, 5] [] c47l0)))
    (.seq
     (.reg [] [⟨some 4, .move, [.k (.b true)], none⟩] [4] [])
     .ret))))
def a47 : AF := ⟨c47, [.tmp 4]⟩
def b48l0 : AC :=
 (.seq
  (.seq
   (.reg [] [⟨some 6, .move, [.t 5], none⟩,
     ⟨some 7, .move, [.t 0], none⟩,
     ⟨some 8, .len, [.t 7], none⟩,
     ⟨some 9, .bin .lt, [.t 6, .t 8], none⟩] [0, 1, 5, 9] [])
   (.cond (.t 9)
    .skip
    (.exit 0)))
  (.seq
   (.block 1
    (.seq
     (.reg [] [⟨some 12, .move, [.t 0], none⟩,
       ⟨some 13, .move, [.t 5], none⟩,
       ⟨some 14, .move, [.t 1], none⟩,
       ⟨some 15, .bin .rem, [.t 14, .k (.i 3)], none⟩,
       ⟨some 16, .bin .eq, [.t 15, .k (.i 0)], none⟩,
       ⟨some 17, .iaddr 1, [.t 12, .t 13], none⟩,
       ⟨none, .store 1 true, [.t 17, .t 16], none⟩] [0, 1, 5] [])
     (.reg [] [⟨some 18, .move, [.t 1], none⟩,
       ⟨some 19, .bin .add, [.t 18, .k (.i 1)], none⟩,
       ⟨some 1, .move, [.t 19], none⟩] [0, 1, 5] [])))
   (.reg [] [⟨some 10, .move, [.t 5], none⟩,
     ⟨some 11, .bin .add, [.t 10, .k (.i 1)], none⟩,
     ⟨some 5, .move, [.t 11], none⟩] [0, 1, 5] [])))
def c48l0 : AC := b48l0
theorem r48l0 (call lp s) : run call lp c48l0 s = run call lp b48l0 s := rfl
/-- laws.markBoolS -/
def c48 : AC :=
 (.seq
  (.reg [] [⟨some 4, .move, [.k (.i 0)], none⟩] [0, 1] [])
  (.seq
   (.seq
    (.reg [] [⟨some 5, .move, [.k (.i 0)], none⟩] [0, 1, 5] [])
    (.block 0
     (.loop [0, 1, 5] [] c48l0)))
   (.seq
    (.reg [] [⟨some 20, .move, [.t 1], none⟩,
      ⟨some 4, .move, [.t 20], none⟩] [4] [])
    .ret)))
def a48 : AF := ⟨c48, [.tmp 4]⟩
/-- laws.FnExactGraphVeil -/
def c10 : AC :=
 (.seq
  (.reg [] [⟨some 2, .box, [.t 0], none⟩,
    ⟨some 4, .move, [.k (.b false)], none⟩] [1, 2] [2])
  (.seq
   (.seq
    (.reg [] [⟨some 17, .move, [.t 1], none⟩,
      ⟨some 18, .len, [.t 17], none⟩,
      ⟨some 19, .bin .gt, [.t 18, .k (.i 1048576)], none⟩] [1, 2, 19] [2])
    (.cond (.t 19)
     (.seq
      (.reg [] [⟨some 4, .move, [.k (.b true)], none⟩] [4] [])
      .ret)
     .skip))
   (.seq
    (.reg [] [⟨some 5, .move, [.k (.i 1048576)], none⟩] [1, 2, 5] [2])
    (.seq
     (.reg [] [⟨some 20, .load (some 1) false, [.t 2], none⟩,
       ⟨some 21, .move, [.t 5], none⟩,
       ⟨some 22, .call [] false, [.f 14, .t 20, .t 21], none⟩,
       ⟨some 5, .move, [.t 22], none⟩] [1, 2, 5] [2])
     (.seq
      (.seq
       (.reg [] [⟨some 23, .move, [.t 5], none⟩,
         ⟨some 24, .bin .lt, [.t 23, .k (.i 0)], none⟩] [1, 2, 24] [2])
       (.cond (.t 24)
        (.seq
         (.reg [] [⟨some 4, .move, [.k (.b true)], none⟩] [4] [])
         .ret)
        .skip))
      (.seq
       (.reg [] [⟨some 26, .load (some 1) false, [.t 2], none⟩,
         ⟨some 27, .call [] false, [.f 16, .t 26], none⟩,
         ⟨some 28, .move, [.t 1], none⟩,
         ⟨some 29, .call [] false, [.f 45, .t 28], none⟩,
         ⟨some 30, .call [] false, [.f 44, .t 27, .t 29], none⟩,
         ⟨some 25, .move, [.t 30], none⟩,
         ⟨some 31, .ext 0, [.t 25], none⟩,
         ⟨some 32, .ext 1, [.t 25], none⟩,
         ⟨some 6, .alloc [.nils], [], none⟩,
         ⟨none, .store 1 true, [.t 6, .t 31], none⟩,
         ⟨some 7, .move, [.t 32], none⟩] [1, 2, 6, 7] [2, 6, 27, 29, 30])
       (.seq
        (.reg [] [⟨some 33, .load (some 1) false, [.t 2], none⟩,
          ⟨some 34, .call [] false, [.f 16, .t 33], none⟩,
          ⟨some 8, .alloc [.nils], [], none⟩,
          ⟨none, .store 1 true, [.t 8, .t 34], none⟩] [1, 2, 6, 7, 8] [2, 6, 8, 27, 29, 30, 34])
        (.seq
         (.reg [] [⟨some 35, .move, [.t 1], none⟩,
           ⟨some 36, .call [] false, [.f 45, .t 35], none⟩,
           ⟨some 9, .move, [.t 36], none⟩] [1, 2, 6, 7, 8, 9] [2, 6, 8, 27, 29, 30, 34, 36])
         (.seq
          (.reg [] [⟨some 38, .load (some 1) false, [.t 8], none⟩,
            ⟨some 39, .move, [.t 9], none⟩,
            ⟨some 40, .call [] false, [.f 46, .t 38, .t 39], none⟩,
            ⟨some 37, .move, [.t 40], none⟩,
            ⟨some 41, .ext 0, [.t 37], none⟩,
            ⟨some 42, .ext 1, [.t 37], none⟩,
            ⟨some 10, .alloc [.nils], [], none⟩,
            ⟨none, .store 1 true, [.t 10, .t 41], none⟩,
            ⟨some 11, .move, [.t 42], none⟩] [1, 2, 6, 7, 8, 9, 10, 11] [2, 6, 8, 10, 27, 29, 30, 34, 36, 40])
          (.seq
           (.seq
            (.reg [] [⟨some 43, .load (some 1) false, [.t 10], none⟩,
              ⟨some 44, .load (some 1) false, [.t 6], none⟩,
              ⟨some 45, .call [] false, [.f 20, .t 43, .t 44], none⟩,
              ⟨some 46, .not, [.t 45], none⟩,
              ⟨some 47, .move, [.t 46], none⟩,
              ⟨some 48, .move, [.t 11], some (47, false)⟩,
              ⟨some 49, .move, [.t 7], some (47, false)⟩,
              ⟨some 50, .bne, [.t 48, .t 49], some (47, false)⟩,
              ⟨some 51, .pick, [.t 47, .k (.b true), .t 50], none⟩] [1, 2, 6, 7, 8, 9, 10, 11, 51] [2, 6, 8, 10, 27, 29, 30, 34, 36, 40])
            (.cond (.t 51)
             (.seq
              (.reg [] [⟨some 4, .move, [.k (.b false)], none⟩] [4] [])
              .ret)
             .skip))
           (.seq
            (.seq
             (.reg [0, 1, 2, 4, 5] [⟨some 52, .load (some 1) false, [.t 8], none⟩,
               ⟨some 53, .load (some 1) false, [.t 2], none⟩,
               ⟨some 54, .call [] false, [.f 16, .t 53], none⟩,
               ⟨none, .chk (.load (some 1) false), [.t 52, .t 8], none⟩,
               ⟨some 55, .call [] false, [.f 20, .t 52, .t 54], none⟩,
               ⟨some 56, .not, [.t 55], none⟩] [1, 2, 6, 7, 8, 9, 10, 11, 56] [2, 6, 8, 10, 27, 29, 30, 34, 36, 40])
             (.cond (.t 56)
              (.seq
               (.reg [] [⟨some 4, .move, [.k (.b false)], none⟩] [4] [])
               .ret)
              .skip))
            (.seq
             (.seq
              (.reg [] [⟨some 57, .move, [.t 9], none⟩,
                ⟨some 58, .move, [.t 1], none⟩,
                ⟨some 59, .call [] false, [.f 45, .t 58], none⟩,
                ⟨some 60, .call [] false, [.f 47, .t 57, .t 59], none⟩,
                ⟨some 61, .not, [.t 60], none⟩] [1, 2, 6, 7, 8, 9, 10, 11, 61] [2, 6, 8, 10, 27, 29, 30, 34, 36, 40])
              (.cond (.t 61)
               (.seq
                (.reg [] [⟨some 4, .move, [.k (.b false)], none⟩] [4] [])
                .ret)
               .skip))
             (.seq
              (.reg [] [⟨some 12, .move, [.k (.i 1)], none⟩] [1, 2, 6, 7, 8, 9, 10, 11, 12] [2, 6, 8, 10, 27, 29, 30, 34, 36, 40])
              (.seq
               (.reg [] [⟨some 62, .load (some 1) false, [.t 8], none⟩,
                 ⟨some 63, .move, [.t 12], none⟩,
                 ⟨some 64, .call [0] false, [.f 21, .t 62, .t 63], none⟩,
                 ⟨some 12, .move, [.t 64], none⟩] [1, 2, 6, 7, 9, 10, 11, 12] [2, 6, 10, 27, 29, 30, 34, 36, 40])
               (.seq
                (.reg [] [⟨some 65, .move, [.t 9], none⟩,
                  ⟨some 66, .move, [.t 12], none⟩,
                  ⟨some 67, .call [0] false, [.f 48, .t 65, .t 66], none⟩,
                  ⟨some 12, .move, [.t 67], none⟩] [1, 2, 6, 7, 10, 11, 12] [2, 6, 10, 27, 29, 30, 34, 36, 40])
                (.seq
                 (.seq
                  (.reg [] [⟨some 68, .move, [.t 12], none⟩,
                    ⟨some 69, .bin .lt, [.t 68, .k (.i 0)], none⟩,
                    ⟨some 70, .move, [.t 69], none⟩,
                    ⟨some 71, .load (some 1) false, [.t 10], some (70, false)⟩,
                    ⟨some 72, .load (some 1) false, [.t 6], some (70, false)⟩,
                    ⟨some 73, .call [] false, [.f 20, .t 71, .t 72], some (70, false)⟩,
                    ⟨some 74, .not, [.t 73], some (70, false)⟩,
                    ⟨some 75, .pick, [.t 70, .k (.b true), .t 74], none⟩,
                    ⟨some 76, .move, [.t 75], none⟩,
                    ⟨some 77, .move, [.t 11], some (76, false)⟩,
                    ⟨some 78, .move, [.t 7], some (76, false)⟩,
                    ⟨some 79, .bne, [.t 77, .t 78], some (76, false)⟩,
                    ⟨some 80, .pick, [.t 76, .k (.b true), .t 79], none⟩] [1, 2, 6, 7, 10, 80] [2, 6, 10, 27, 29, 30, 34, 36, 40])
                  (.cond (.t 80)
                   (.seq
                    (.reg [] [⟨some 4, .move, [.k (.b false)], none⟩] [4] [])
                    .ret)
                   .skip))
                 (.seq
                  (.reg [] [⟨some 13, .move, [.k (.i 1)], none⟩] [1, 2, 6, 7, 10, 13] [2, 6, 10, 27, 29, 30, 34, 36, 40])
                  (.seq
                   (.reg [] [⟨some 81, .load (some 1) false, [.t 10], none⟩,
                     ⟨some 82, .move, [.t 13], none⟩,
                     ⟨some 83, .call [0] false, [.f 21, .t 81, .t 82], none⟩,
                     ⟨some 13, .move, [.t 83], none⟩] [1, 2, 6, 7, 10, 13] [2, 6, 10, 27, 29, 30, 34, 36, 40])
                   (.seq
                    (.reg [] [⟨some 14, .move, [.k (.i 1)], none⟩] [1, 2, 6, 7, 10, 13, 14] [2, 6, 10, 27, 29, 30, 34, 36, 40])
                    (.seq
                     (.reg [] [⟨some 84, .load (some 1) false, [.t 10], none⟩,
                       ⟨some 85, .move, [.t 14], none⟩,
                       ⟨some 86, .call [] false, [.f 35, .t 84, .t 85], none⟩,
                       ⟨some 14, .move, [.t 86], none⟩] [1, 2, 6, 7, 10, 13, 14] [2, 6, 10, 27, 29, 30, 34, 36, 40])
                     (.seq
                      (.seq
                       (.reg [] [⟨some 87, .move, [.t 14], none⟩,
                         ⟨some 88, .bin .lt, [.t 87, .k (.i 0)], none⟩] [1, 2, 6, 7, 10, 13, 14, 88] [2, 6, 10, 27, 29, 30, 34, 36, 40])
                       (.cond (.t 88)
                        (.seq
                         (.reg [] [⟨some 4, .move, [.k (.b false)], none⟩] [4] [])
                         .ret)
                        .skip))
                      (.seq
                       (.seq
                        (.reg [] [⟨some 89, .move, [.t 14], none⟩,
                          ⟨some 90, .move, [.t 13], none⟩,
                          ⟨some 91, .bin .ne, [.t 89, .t 90], none⟩] [1, 2, 6, 7, 10, 13, 91] [2, 6, 10, 27, 29, 30, 34, 36, 40])
                        (.cond (.t 91)
                         (.seq
                          (.reg [] [⟨some 4, .move, [.k (.b false)], none⟩] [4] [])
                          .ret)
                         .skip))
                       (.seq
                        (.reg [] [⟨some 93, .load (some 1) false, [.t 2], none⟩,
                          ⟨some 94, .call [] false, [.f 16, .t 93], none⟩,
                          ⟨some 95, .move, [.t 1], none⟩,
                          ⟨some 96, .call [] false, [.f 45, .t 95], none⟩,
                          ⟨some 97, .call [] false, [.f 46, .t 94, .t 96], none⟩,
                          ⟨some 92, .move, [.t 97], none⟩,
                          ⟨some 98, .ext 0, [.t 92], none⟩,
                          ⟨some 99, .ext 1, [.t 92], none⟩,
                          ⟨some 15, .alloc [.nils], [], none⟩,
                          ⟨none, .store 1 true, [.t 15, .t 98], none⟩,
                          ⟨some 16, .move, [.t 99], none⟩] [6, 7, 10, 13, 15, 16] [6, 10, 15, 27, 29, 30, 34, 36, 40, 94, 96, 97])
                        (.seq
                         (.seq
                          (.reg [] [⟨some 100, .load (some 1) false, [.t 15], none⟩,
                            ⟨some 101, .load (some 1) false, [.t 6], none⟩,
                            ⟨some 102, .call [] false, [.f 20, .t 100, .t 101], none⟩,
                            ⟨some 103, .not, [.t 102], none⟩,
                            ⟨some 104, .move, [.t 103], none⟩,
                            ⟨some 105, .move, [.t 16], some (104, false)⟩,
                            ⟨some 106, .move, [.t 7], some (104, false)⟩,
                            ⟨some 107, .bne, [.t 105, .t 106], some (104, false)⟩,
                            ⟨some 108, .pick, [.t 104, .k (.b true), .t 107], none⟩] [10, 13, 108] [10, 34, 36, 40])
                          (.cond (.t 108)
                           (.seq
                            (.reg [] [⟨some 4, .move, [.k (.b false)], none⟩] [4] [])
                            .ret)
                           .skip))
                         (.seq
                          (.reg [] [⟨some 14, .move, [.k (.i 1)], none⟩] [10, 13, 14] [10, 34, 36, 40])
                          (.seq
                           (.reg [] [⟨some 109, .load (some 1) false, [.t 10], none⟩,
                             ⟨some 110, .move, [.t 14], none⟩,
                             ⟨some 111, .call [] false, [.f 35, .t 109, .t 110], none⟩,
                             ⟨some 14, .move, [.t 111], none⟩] [13, 14] [])
                           (.seq
                            (.seq
                             (.reg [] [⟨some 112, .move, [.t 14], none⟩,
                               ⟨some 113, .bin .lt, [.t 112, .k (.i 0)], none⟩] [13, 14, 113] [])
                             (.cond (.t 113)
                              (.seq
                               (.reg [] [⟨some 4, .move, [.k (.b false)], none⟩] [4] [])
                               .ret)
                              .skip))
                            (.seq
                             (.seq
                              (.reg [] [⟨some 114, .move, [.t 14], none⟩,
                                ⟨some 115, .move, [.t 13], none⟩,
                                ⟨some 116, .bin .ne, [.t 114, .t 115], none⟩] [116] [])
                              (.cond (.t 116)
                               (.seq
                                (.reg [] [⟨some 4, .move, [.k (.b false)], none⟩] [4] [])
                                .ret)
                               .skip))
                             (.seq
                              (.reg [] [⟨some 4, .move, [.k (.b true)], none⟩] [4] [])
                              .ret)))))))))))))))))))))))))))))
def a10 : AF := ⟨c10, [.tmp 4]⟩
/-- spec.GraphSum -/
def c36 : AC :=
 (.seq
  (.reg [] [⟨some 2, .box, [.t 0], none⟩,
    ⟨some 3, .box, [.t 1], none⟩,
    ⟨some 4, .alloc [.nils], [], none⟩,
    ⟨some 5, .move, [.k (.b false)], none⟩] [2, 3, 4] [2, 3, 4, 17, 20, 22, 43])
  (.seq
   (.seq
    (.reg [] [⟨some 7, .load (some 1) false, [.t 2], none⟩,
      ⟨some 8, .call [] false, [.f 59, .t 7], none⟩,
      ⟨some 9, .not, [.t 8], none⟩,
      ⟨some 10, .move, [.t 9], none⟩,
      ⟨some 11, .load (some 1) false, [.t 3], some (10, false)⟩,
      ⟨some 12, .call [] false, [.f 59, .t 11], some (10, false)⟩,
      ⟨some 13, .not, [.t 12], some (10, false)⟩,
      ⟨some 14, .pick, [.t 10, .k (.b true), .t 13], none⟩] [2, 3, 4, 14] [2, 3, 4, 17, 20, 22, 43])
    (.cond (.t 14)
     (.seq
      (.reg [] [⟨some 15, .build [.nils] [], [], none⟩,
        ⟨none, .store 1 true, [.t 4, .t 15], none⟩,
        ⟨some 5, .move, [.k (.b false)], none⟩] [4, 5] [4, 17, 20, 22, 43])
      .ret)
     .skip))
   (.seq
    (.reg [2, 5, 8, 0, 9, 1, 11, 12, 13] [⟨some 19, .load (some 1) false, [.t 2], none⟩,
      ⟨some 21, .load (some 1) false, [.t 3], none⟩,
      ⟨some 16, .bslice 2 true, [], none⟩,
      ⟨none, .chk (.load (some 1) false), [.t 19, .t 2], none⟩,
      ⟨none, .chk (.load (some 1) false), [.t 21, .t 3], none⟩,
      ⟨some 17, .bslice 1 true, [.t 16], none⟩,
      ⟨none, .chk (.load (some 1) false), [.t 19, .t 2], none⟩,
      ⟨none, .chk (.load (some 1) false), [.t 21, .t 3], none⟩,
      ⟨some 18, .build [.nils] [(0, 1)], [.t 17], none⟩,
      ⟨some 20, .call [] true, [.f 85, .t 18, .t 19], none⟩,
      ⟨none, .chk (.load (some 1) false), [.t 21, .t 3], none⟩,
      ⟨some 22, .call [] true, [.f 85, .t 20, .t 21], none⟩,
      ⟨some 6, .alloc [.nils], [], none⟩,
      ⟨none, .store 1 true, [.t 6, .t 22], none⟩] [2, 4, 6] [2, 4, 6, 17, 20, 22, 43])
    (.seq
     (.reg [0, 1, 14, 2, 3, 4, 5, 28, 6, 7, 8, 9, 10, 11, 12, 13, 38, 41, 44, 45] [⟨some 23, .faddr 0, [.t 6], none⟩,
       ⟨some 24, .load none false, [.t 23], none⟩,
       ⟨some 26, .faddr 0, [.t 6], none⟩,
       ⟨some 27, .load none false, [.t 26], none⟩,
       ⟨some 28, .iaddr 1, [.t 27, .k (.i 1)], none⟩,
       ⟨some 29, .load none false, [.t 28], none⟩,
       ⟨some 31, .faddr 0, [.t 6], none⟩,
       ⟨some 32, .load none false, [.t 31], none⟩,
       ⟨some 33, .faddr 0, [.t 2], none⟩,
       ⟨some 34, .load none false, [.t 33], none⟩,
       ⟨some 35, .len, [.t 34], none⟩,
       ⟨some 36, .bin .add, [.k (.i 1), .t 35], none⟩,
       ⟨some 37, .iaddr 1, [.t 32, .t 36], none⟩,
       ⟨some 38, .load none false, [.t 37], none⟩,
       ⟨some 25, .bslice 2 true, [], none⟩,
       ⟨none, .chk (.faddr 0), [.t 23, .t 6], none⟩,
       ⟨none, .chk (.load none false), [.t 24, .t 23], none⟩,
       ⟨none, .chk (.faddr 0), [.t 26, .t 6], none⟩,
       ⟨none, .chk (.load none false), [.t 27, .t 26], none⟩,
       ⟨none, .chk (.iaddr 1), [.t 28, .t 27, .k (.i 1)], none⟩,
       ⟨none, .chk (.load none false), [.t 29, .t 28], none⟩,
       ⟨none, .chk (.faddr 0), [.t 31, .t 6], none⟩,
       ⟨none, .chk (.load none false), [.t 32, .t 31], none⟩,
       ⟨none, .chk (.faddr 0), [.t 33, .t 2], none⟩,
       ⟨none, .chk (.load none false), [.t 34, .t 33], none⟩,
       ⟨none, .chk (.len), [.t 35, .t 34], none⟩,
       ⟨none, .chk (.iaddr 1), [.t 37, .t 32, .t 36], none⟩,
       ⟨none, .chk (.load none false), [.t 38, .t 37], none⟩,
       ⟨some 30, .append 2 true, [.t 25, .t 29], none⟩,
       ⟨none, .chk (.faddr 0), [.t 23, .t 6], none⟩,
       ⟨none, .chk (.load none false), [.t 24, .t 23], none⟩,
       ⟨none, .chk (.faddr 0), [.t 31, .t 6], none⟩,
       ⟨none, .chk (.load none false), [.t 32, .t 31], none⟩,
       ⟨none, .chk (.faddr 0), [.t 33, .t 2], none⟩,
       ⟨none, .chk (.load none false), [.t 34, .t 33], none⟩,
       ⟨none, .chk (.len), [.t 35, .t 34], none⟩,
       ⟨none, .chk (.iaddr 1), [.t 37, .t 32, .t 36], none⟩,
       ⟨none, .chk (.load none false), [.t 38, .t 37], none⟩,
       ⟨some 39, .append 2 true, [.t 30, .t 38], none⟩,
       ⟨none, .chk (.faddr 0), [.t 23, .t 6], none⟩,
       ⟨none, .chk (.load none false), [.t 24, .t 23], none⟩,
       ⟨some 40, .call [] false, [.f 90, .t 39], none⟩,
       ⟨none, .chk (.faddr 0), [.t 23, .t 6], none⟩,
       ⟨none, .chk (.load none false), [.t 24, .t 23], none⟩,
       ⟨some 41, .iaddr 1, [.t 24, .k (.i 0)], none⟩,
       ⟨none, .store 1 true, [.t 41, .t 40], none⟩] [4, 6] [4, 6, 17, 20, 22, 43])
     (.seq
      (.reg [] [⟨some 42, .load (some 1) false, [.t 6], none⟩,
        ⟨some 43, .call [] false, [.f 84, .t 42], none⟩,
        ⟨some 44, .ext 0, [.t 43], none⟩,
        ⟨some 45, .ext 1, [.t 43], none⟩,
        ⟨none, .store 1 true, [.t 4, .t 44], none⟩,
        ⟨some 5, .move, [.t 45], none⟩] [4, 5] [4, 17, 20, 22, 43])
      .ret)))))
def a36 : AF := ⟨c36, [.cell 4 (some 1), .tmp 5]⟩
def b37l0 : AC :=
 (.seq
  (.reg [] [⟨some 43, .bin .lt, [.t 42, .t 41], none⟩] [3, 4, 6, 7, 40, 41, 42, 43] [3, 4, 38, 50, 64, 67])
  (.seq
   (.cond (.t 43)
    .skip
    (.exit 0))
   (.seq
    (.block 1
     (.seq
      (.reg [] [⟨some 44, .iaddr 1, [.t 40, .t 42], none⟩,
        ⟨some 45, .load none false, [.t 44], none⟩,
        ⟨some 9, .move, [.t 45], none⟩] [3, 4, 6, 7, 9, 40, 41, 42] [3, 4, 38, 50, 64, 67])
      (.reg [] [⟨some 46, .move, [.t 7], none⟩,
        ⟨some 47, .move, [.t 9], none⟩,
        ⟨some 48, .call [] false, [.f 87, .t 47, .k (.i 1)], none⟩,
        ⟨some 49, .bslice 1 true, [.t 48], none⟩,
        ⟨some 50, .append 1 true, [.t 46, .t 49], none⟩,
        ⟨some 7, .move, [.t 50], none⟩] [3, 4, 6, 7, 40, 41, 42] [3, 4, 38, 50, 64, 67])))
    (.reg [] [⟨some 51, .bin .add, [.t 42, .k (.i 1)], none⟩,
      ⟨some 42, .move, [.t 51], none⟩] [3, 4, 6, 7, 40, 41, 42] [3, 4, 38, 50, 64, 67]))))
def c37l0 : AC := b37l0
theorem r37l0 (call lp s) : run call lp c37l0 s = run call lp b37l0 s := rfl
def b37l1 : AC :=
 (.seq
  (.reg [] [⟨some 56, .bin .lt, [.t 55, .t 54], none⟩] [4, 6, 7, 53, 54, 55, 56] [4, 38, 50, 64, 67])
  (.seq
   (.cond (.t 56)
    .skip
    (.exit 2))
   (.seq
    (.block 3
     (.seq
      (.reg [] [⟨some 57, .iaddr 1, [.t 53, .t 55], none⟩,
        ⟨some 58, .load none false, [.t 57], none⟩,
        ⟨some 11, .move, [.t 58], none⟩] [4, 6, 7, 11, 53, 54, 55] [4, 38, 50, 64, 67])
      (.reg [] [⟨some 59, .move, [.t 7], none⟩,
        ⟨some 60, .move, [.t 11], none⟩,
        ⟨some 61, .move, [.t 6], none⟩,
        ⟨some 62, .call [] false, [.f 87, .t 60, .t 61], none⟩,
        ⟨some 63, .bslice 1 true, [.t 62], none⟩,
        ⟨some 64, .append 1 true, [.t 59, .t 63], none⟩,
        ⟨some 7, .move, [.t 64], none⟩] [4, 6, 7, 53, 54, 55] [4, 38, 50, 64, 67])))
    (.reg [] [⟨some 65, .bin .add, [.t 55, .k (.i 1)], none⟩,
      ⟨some 55, .move, [.t 65], none⟩] [4, 6, 7, 53, 54, 55] [4, 38, 50, 64, 67]))))
def c37l1 : AC := b37l1
theorem r37l1 (call lp s) : run call lp c37l1 s = run call lp b37l1 s := rfl
/-- impl.GraphSum -/
def c37 : AC :=
 (.seq
  (.reg [] [⟨some 2, .box, [.t 0], none⟩,
    ⟨some 3, .box, [.t 1], none⟩,
    ⟨some 4, .alloc [.nils], [], none⟩,
    ⟨some 5, .move, [.k (.b false)], none⟩] [2, 3, 4] [2, 3, 4, 38, 50, 64, 67])
  (.seq
   (.seq
    (.reg [] [⟨some 12, .load (some 1) false, [.t 2], none⟩,
      ⟨some 13, .call [] false, [.f 64, .t 12], none⟩,
      ⟨some 14, .not, [.t 13], none⟩,
      ⟨some 15, .move, [.t 14], none⟩,
      ⟨some 16, .load (some 1) false, [.t 3], some (15, false)⟩,
      ⟨some 17, .call [] false, [.f 64, .t 16], some (15, false)⟩,
      ⟨some 18, .not, [.t 17], some (15, false)⟩,
      ⟨some 19, .pick, [.t 15, .k (.b true), .t 18], none⟩] [2, 3, 4, 19] [2, 3, 4, 38, 50, 64, 67])
    (.cond (.t 19)
     (.seq
      (.reg [] [⟨some 20, .build [.nils] [], [], none⟩,
        ⟨none, .store 1 true, [.t 4, .t 20], none⟩,
        ⟨some 5, .move, [.k (.b false)], none⟩] [4, 5] [4, 38, 50, 64, 67])
      .ret)
     .skip))
   (.seq
    (.reg [] [⟨some 21, .faddr 0, [.t 2], none⟩,
      ⟨some 22, .load none false, [.t 21], none⟩,
      ⟨some 23, .len, [.t 22], none⟩,
      ⟨some 24, .bin .add, [.k (.i 1), .t 23], none⟩,
      ⟨some 6, .move, [.t 24], none⟩] [2, 3, 4, 6] [2, 3, 4, 38, 50, 64, 67])
    (.seq
     (.reg [0, 1, 2, 3, 9, 4, 5, 6, 7, 8, 14, 15, 16, 17, 18] [⟨some 25, .faddr 0, [.t 2], none⟩,
       ⟨some 26, .load none false, [.t 25], none⟩,
       ⟨some 27, .iaddr 1, [.t 26, .k (.i 0)], none⟩,
       ⟨some 28, .load none false, [.t 27], none⟩,
       ⟨some 30, .faddr 0, [.t 3], none⟩,
       ⟨some 31, .load none false, [.t 30], none⟩,
       ⟨some 32, .iaddr 1, [.t 31, .k (.i 0)], none⟩,
       ⟨some 33, .load none false, [.t 32], none⟩,
       ⟨some 34, .move, [.t 6], none⟩,
       ⟨some 29, .call [] false, [.f 87, .t 28, .k (.i 1)], none⟩,
       ⟨none, .chk (.faddr 0), [.t 30, .t 3], none⟩,
       ⟨none, .chk (.load none false), [.t 31, .t 30], none⟩,
       ⟨none, .chk (.iaddr 1), [.t 32, .t 31, .k (.i 0)], none⟩,
       ⟨none, .chk (.load none false), [.t 33, .t 32], none⟩,
       ⟨some 35, .call [] false, [.f 87, .t 33, .t 34], none⟩,
       ⟨some 36, .append 2 true, [.t 29, .t 35], none⟩,
       ⟨some 37, .call [0] false, [.f 91, .t 36], none⟩,
       ⟨some 38, .bslice 1 true, [.t 37], none⟩,
       ⟨some 7, .move, [.t 38], none⟩] [2, 3, 4, 6, 7] [2, 3, 4, 38, 50, 64, 67])
     (.seq
      (.seq
       (.reg [] [⟨some 39, .faddr 0, [.t 2], none⟩,
         ⟨some 40, .load none false, [.t 39], none⟩,
         ⟨some 41, .len, [.t 40], none⟩,
         ⟨some 42, .move, [.k (.i 0)], none⟩] [3, 4, 6, 7, 40, 41, 42] [3, 4, 38, 50, 64, 67])
       (.block 0
        (.loop [3, 4, 6, 7, 40, 41, 42] [3, 4, 38, 50, 64, 67] c37l0)))
      (.seq
       (.seq
        (.reg [] [⟨some 52, .faddr 0, [.t 3], none⟩,
          ⟨some 53, .load none false, [.t 52], none⟩,
          ⟨some 54, .len, [.t 53], none⟩,
          ⟨some 55, .move, [.k (.i 0)], none⟩] [4, 6, 7, 53, 54, 55] [4, 38, 50, 64, 67])
        (.block 2
         (.loop [4, 6, 7, 53, 54, 55] [4, 38, 50, 64, 67] c37l1)))
       (.seq
        (.reg [] [⟨some 66, .move, [.t 7], none⟩,
          ⟨some 67, .call [] false, [.f 88, .t 66, .k (.i 0)], none⟩,
          ⟨some 68, .ext 0, [.t 67], none⟩,
          ⟨some 69, .ext 1, [.t 67], none⟩,
          ⟨none, .store 1 true, [.t 4, .t 68], none⟩,
          ⟨some 5, .move, [.t 69], none⟩] [4, 5] [4, 38, 50, 64, 67])
        .ret)))))))
def a37 : AF := ⟨c37, [.cell 4 (some 1), .tmp 5]⟩
/-- laws.FnExactGraphSum -/
def c6 : AC :=
 (.seq
  (.reg [] [⟨some 2, .box, [.t 0], none⟩,
    ⟨some 3, .box, [.t 1], none⟩,
    ⟨some 4, .move, [.k (.b false)], none⟩] [2, 3] [2, 3])
  (.seq
   (.reg [] [⟨some 5, .move, [.k (.i 1048576)], none⟩] [2, 3, 5] [2, 3])
   (.seq
    (.reg [] [⟨some 17, .load (some 1) false, [.t 2], none⟩,
      ⟨some 18, .move, [.t 5], none⟩,
      ⟨some 19, .call [] false, [.f 14, .t 17, .t 18], none⟩,
      ⟨some 5, .move, [.t 19], none⟩] [2, 3, 5] [2, 3])
    (.seq
     (.seq
      (.reg [] [⟨some 20, .move, [.t 5], none⟩,
        ⟨some 21, .bin .lt, [.t 20, .k (.i 0)], none⟩] [2, 3, 5, 21] [2, 3])
      (.cond (.t 21)
       (.seq
        (.reg [] [⟨some 4, .move, [.k (.b true)], none⟩] [4] [])
        .ret)
       .skip))
     (.seq
      (.reg [] [⟨some 22, .load (some 1) false, [.t 3], none⟩,
        ⟨some 23, .move, [.t 5], none⟩,
        ⟨some 24, .call [] false, [.f 14, .t 22, .t 23], none⟩,
        ⟨some 5, .move, [.t 24], none⟩] [2, 3, 5] [2, 3])
      (.seq
       (.seq
        (.reg [] [⟨some 25, .move, [.t 5], none⟩,
          ⟨some 26, .bin .lt, [.t 25, .k (.i 0)], none⟩] [2, 3, 26] [2, 3])
        (.cond (.t 26)
         (.seq
          (.reg [] [⟨some 4, .move, [.k (.b true)], none⟩] [4] [])
          .ret)
         .skip))
       (.seq
        (.reg [0, 2, 1, 4, 5, 6, 7, 8, 9, 10, 11] [⟨some 28, .load (some 1) false, [.t 2], none⟩,
          ⟨some 30, .load (some 1) false, [.t 3], none⟩,
          ⟨some 29, .call [] false, [.f 16, .t 28], none⟩,
          ⟨none, .chk (.load (some 1) false), [.t 30, .t 3], none⟩,
          ⟨some 31, .call [] false, [.f 16, .t 30], none⟩,
          ⟨some 32, .call [] false, [.f 36, .t 29, .t 31], none⟩,
          ⟨some 27, .move, [.t 32], none⟩,
          ⟨some 33, .ext 0, [.t 27], none⟩,
          ⟨some 34, .ext 1, [.t 27], none⟩,
          ⟨some 6, .alloc [.nils], [], none⟩,
          ⟨none, .store 1 true, [.t 6, .t 33], none⟩,
          ⟨some 7, .move, [.t 34], none⟩] [2, 3, 6, 7] [2, 3, 6, 29, 31, 32])
        (.seq
         (.reg [] [⟨some 35, .load (some 1) false, [.t 2], none⟩,
           ⟨some 36, .call [] false, [.f 16, .t 35], none⟩,
           ⟨some 8, .alloc [.nils], [], none⟩,
           ⟨none, .store 1 true, [.t 8, .t 36], none⟩] [2, 3, 6, 7, 8] [2, 3, 6, 8, 29, 31, 32, 36])
         (.seq
          (.reg [] [⟨some 37, .load (some 1) false, [.t 3], none⟩,
            ⟨some 38, .call [] false, [.f 16, .t 37], none⟩,
            ⟨some 9, .alloc [.nils], [], none⟩,
            ⟨none, .store 1 true, [.t 9, .t 38], none⟩] [2, 3, 6, 7, 8, 9] [2, 3, 6, 8, 9, 29, 31, 32, 36, 38])
          (.seq
           (.reg [] [⟨some 40, .load (some 1) false, [.t 8], none⟩,
             ⟨some 41, .load (some 1) false, [.t 9], none⟩,
             ⟨some 42, .call [] false, [.f 37, .t 40, .t 41], none⟩,
             ⟨some 39, .move, [.t 42], none⟩,
             ⟨some 43, .ext 0, [.t 39], none⟩,
             ⟨some 44, .ext 1, [.t 39], none⟩,
             ⟨some 10, .alloc [.nils], [], none⟩,
             ⟨none, .store 1 true, [.t 10, .t 43], none⟩,
             ⟨some 11, .move, [.t 44], none⟩] [2, 3, 6, 7, 8, 9, 10, 11] [2, 3, 6, 8, 9, 10, 29, 31, 32, 36, 38, 42])
           (.seq
            (.seq
             (.reg [] [⟨some 45, .load (some 1) false, [.t 10], none⟩,
               ⟨some 46, .load (some 1) false, [.t 6], none⟩,
               ⟨some 47, .call [] false, [.f 20, .t 45, .t 46], none⟩,
               ⟨some 48, .not, [.t 47], none⟩,
               ⟨some 49, .move, [.t 48], none⟩,
               ⟨some 50, .move, [.t 11], some (49, false)⟩,
               ⟨some 51, .move, [.t 7], some (49, false)⟩,
               ⟨some 52, .bne, [.t 50, .t 51], some (49, false)⟩,
               ⟨some 53, .pick, [.t 49, .k (.b true), .t 52], none⟩] [2, 3, 6, 7, 8, 9, 10, 11, 53] [2, 3, 6, 8, 9, 10, 29, 31, 32, 36, 38, 42])
             (.cond (.t 53)
              (.seq
               (.reg [] [⟨some 4, .move, [.k (.b false)], none⟩] [4] [])
               .ret)
              .skip))
            (.seq
             (.seq
              (.reg [0, 1, 2, 4, 5] [⟨some 54, .load (some 1) false, [.t 8], none⟩,
                ⟨some 55, .load (some 1) false, [.t 2], none⟩,
                ⟨some 56, .call [] false, [.f 16, .t 55], none⟩,
                ⟨none, .chk (.load (some 1) false), [.t 54, .t 8], none⟩,
                ⟨some 57, .call [] false, [.f 20, .t 54, .t 56], none⟩,
                ⟨some 58, .not, [.t 57], none⟩] [2, 3, 6, 7, 8, 9, 10, 11, 58] [2, 3, 6, 8, 9, 10, 29, 31, 32, 36, 38, 42])
              (.cond (.t 58)
               (.seq
                (.reg [] [⟨some 4, .move, [.k (.b false)], none⟩] [4] [])
                .ret)
               .skip))
             (.seq
              (.seq
               (.reg [0, 1, 2, 4, 5] [⟨some 59, .load (some 1) false, [.t 9], none⟩,
                 ⟨some 60, .load (some 1) false, [.t 3], none⟩,
                 ⟨some 61, .call [] false, [.f 16, .t 60], none⟩,
                 ⟨none, .chk (.load (some 1) false), [.t 59, .t 9], none⟩,
                 ⟨some 62, .call [] false, [.f 20, .t 59, .t 61], none⟩,
                 ⟨some 63, .not, [.t 62], none⟩] [2, 3, 6, 7, 8, 9, 10, 11, 63] [2, 3, 6, 8, 9, 10, 29, 31, 32, 36, 38, 42])
               (.cond (.t 63)
                (.seq
                 (.reg [] [⟨some 4, .move, [.k (.b false)], none⟩] [4] [])
                 .ret)
                .skip))
              (.seq
               (.reg [] [⟨some 12, .move, [.k (.i 1)], none⟩] [2, 3, 6, 7, 8, 9, 10, 11, 12] [2, 3, 6, 8, 9, 10, 29, 31, 32, 36, 38, 42])
               (.seq
                (.reg [] [⟨some 64, .load (some 1) false, [.t 8], none⟩,
                  ⟨some 65, .move, [.t 12], none⟩,
                  ⟨some 66, .call [0] false, [.f 21, .t 64, .t 65], none⟩,
                  ⟨some 12, .move, [.t 66], none⟩] [2, 3, 6, 7, 9, 10, 11, 12] [2, 3, 6, 9, 10, 29, 31, 32, 36, 38, 42])
                (.seq
                 (.reg [] [⟨some 67, .load (some 1) false, [.t 9], none⟩,
                   ⟨some 68, .move, [.t 12], none⟩,
                   ⟨some 69, .call [0] false, [.f 21, .t 67, .t 68], none⟩,
                   ⟨some 12, .move, [.t 69], none⟩] [2, 3, 6, 7, 10, 11, 12] [2, 3, 6, 10, 29, 31, 32, 36, 38, 42])
                 (.seq
                  (.seq
                   (.reg [] [⟨some 70, .move, [.t 12], none⟩,
                     ⟨some 71, .bin .lt, [.t 70, .k (.i 0)], none⟩,
                     ⟨some 72, .move, [.t 71], none⟩,
                     ⟨some 73, .load (some 1) false, [.t 10], some (72, false)⟩,
                     ⟨some 74, .load (some 1) false, [.t 6], some (72, false)⟩,
                     ⟨some 75, .call [] false, [.f 20, .t 73, .t 74], some (72, false)⟩,
                     ⟨some 76, .not, [.t 75], some (72, false)⟩,
                     ⟨some 77, .pick, [.t 72, .k (.b true), .t 76], none⟩,
                     ⟨some 78, .move, [.t 77], none⟩,
                     ⟨some 79, .move, [.t 11], some (78, false)⟩,
                     ⟨some 80, .move, [.t 7], some (78, false)⟩,
                     ⟨some 81, .bne, [.t 79, .t 80], some (78, false)⟩,
                     ⟨some 82, .pick, [.t 78, .k (.b true), .t 81], none⟩] [2, 3, 6, 7, 10, 82] [2, 3, 6, 10, 29, 31, 32, 36, 38, 42])
                   (.cond (.t 82)
                    (.seq
                     (.reg [] [⟨some 4, .move, [.k (.b false)], none⟩] [4] [])
                     .ret)
                    .skip))
                  (.seq
                   (.reg [] [⟨some 13, .move, [.k (.i 1)], none⟩] [2, 3, 6, 7, 10, 13] [2, 3, 6, 10, 29, 31, 32, 36, 38, 42])
                   (.seq
                    (.reg [] [⟨some 83, .load (some 1) false, [.t 10], none⟩,
                      ⟨some 84, .move, [.t 13], none⟩,
                      ⟨some 85, .call [0] false, [.f 21, .t 83, .t 84], none⟩,
                      ⟨some 13, .move, [.t 85], none⟩] [2, 3, 6, 7, 10, 13] [2, 3, 6, 10, 29, 31, 32, 36, 38, 42])
                    (.seq
                     (.reg [] [⟨some 14, .move, [.k (.i 1)], none⟩] [2, 3, 6, 7, 10, 13, 14] [2, 3, 6, 10, 29, 31, 32, 36, 38, 42])
                     (.seq
                      (.reg [] [⟨some 86, .load (some 1) false, [.t 10], none⟩,
                        ⟨some 87, .move, [.t 14], none⟩,
                        ⟨some 88, .call [] false, [.f 35, .t 86, .t 87], none⟩,
                        ⟨some 14, .move, [.t 88], none⟩] [2, 3, 6, 7, 10, 13, 14] [2, 3, 6, 10, 29, 31, 32, 36, 38, 42])
                      (.seq
                       (.seq
                        (.reg [] [⟨some 89, .move, [.t 14], none⟩,
                          ⟨some 90, .bin .lt, [.t 89, .k (.i 0)], none⟩] [2, 3, 6, 7, 10, 13, 14, 90] [2, 3, 6, 10, 29, 31, 32, 36, 38, 42])
                        (.cond (.t 90)
                         (.seq
                          (.reg [] [⟨some 4, .move, [.k (.b false)], none⟩] [4] [])
                          .ret)
                         .skip))
                       (.seq
                        (.seq
                         (.reg [] [⟨some 91, .move, [.t 14], none⟩,
                           ⟨some 92, .move, [.t 13], none⟩,
                           ⟨some 93, .bin .ne, [.t 91, .t 92], none⟩] [2, 3, 6, 7, 10, 13, 93] [2, 3, 6, 10, 29, 31, 32, 36, 38, 42])
                         (.cond (.t 93)
                          (.seq
                           (.reg [] [⟨some 4, .move, [.k (.b false)], none⟩] [4] [])
                           .ret)
                          .skip))
                        (.seq
                         (.reg [0, 2, 1, 4, 5, 6, 7, 8, 9, 10, 11] [⟨some 95, .load (some 1) false, [.t 2], none⟩,
                           ⟨some 97, .load (some 1) false, [.t 3], none⟩,
                           ⟨some 96, .call [] false, [.f 16, .t 95], none⟩,
                           ⟨none, .chk (.load (some 1) false), [.t 97, .t 3], none⟩,
                           ⟨some 98, .call [] false, [.f 16, .t 97], none⟩,
                           ⟨some 99, .call [] false, [.f 37, .t 96, .t 98], none⟩,
                           ⟨some 94, .move, [.t 99], none⟩,
                           ⟨some 100, .ext 0, [.t 94], none⟩,
                           ⟨some 101, .ext 1, [.t 94], none⟩,
                           ⟨some 15, .alloc [.nils], [], none⟩,
                           ⟨none, .store 1 true, [.t 15, .t 100], none⟩,
                           ⟨some 16, .move, [.t 101], none⟩] [6, 7, 10, 13, 15, 16] [6, 10, 15, 29, 31, 32, 36, 38, 42, 96, 98, 99])
                         (.seq
                          (.seq
                           (.reg [] [⟨some 102, .load (some 1) false, [.t 15], none⟩,
                             ⟨some 103, .load (some 1) false, [.t 6], none⟩,
                             ⟨some 104, .call [] false, [.f 20, .t 102, .t 103], none⟩,
                             ⟨some 105, .not, [.t 104], none⟩,
                             ⟨some 106, .move, [.t 105], none⟩,
                             ⟨some 107, .move, [.t 16], some (106, false)⟩,
                             ⟨some 108, .move, [.t 7], some (106, false)⟩,
                             ⟨some 109, .bne, [.t 107, .t 108], some (106, false)⟩,
                             ⟨some 110, .pick, [.t 106, .k (.b true), .t 109], none⟩] [10, 13, 110] [10, 36, 38, 42])
                           (.cond (.t 110)
                            (.seq
                             (.reg [] [⟨some 4, .move, [.k (.b false)], none⟩] [4] [])
                             .ret)
                            .skip))
                          (.seq
                           (.reg [] [⟨some 14, .move, [.k (.i 1)], none⟩] [10, 13, 14] [10, 36, 38, 42])
                           (.seq
                            (.reg [] [⟨some 111, .load (some 1) false, [.t 10], none⟩,
                              ⟨some 112, .move, [.t 14], none⟩,
                              ⟨some 113, .call [] false, [.f 35, .t 111, .t 112], none⟩,
                              ⟨some 14, .move, [.t 113], none⟩] [13, 14] [])
                            (.seq
                             (.seq
                              (.reg [] [⟨some 114, .move, [.t 14], none⟩,
                                ⟨some 115, .bin .lt, [.t 114, .k (.i 0)], none⟩] [13, 14, 115] [])
                              (.cond (.t 115)
                               (.seq
                                (.reg [] [⟨some 4, .move, [.k (.b false)], none⟩] [4] [])
                                .ret)
                               .skip))
                             (.seq
                              (.seq
                               (.reg [] [⟨some 116, .move, [.t 14], none⟩,
                                 ⟨some 117, .move, [.t 13], none⟩,
                                 ⟨some 118, .bin .ne, [.t 116, .t 117], none⟩] [118] [])
                               (.cond (.t 118)
                                (.seq
                                 (.reg [] [⟨some 4, .move, [.k (.b false)], none⟩] [4] [])
                                 .ret)
                                .skip))
                              (.seq
                               (.reg [] [⟨some 4, .move, [.k (.b true)], none⟩] [4] [])
                               .ret))))))))))))))))))))))))))))))
def a6 : AF := ⟨c6, [.tmp 4]⟩
def b105l0 : AC :=
 (.seq
  (.seq
   (.reg [] [⟨some 72, .move, [.t 16], none⟩,
     ⟨some 73, .faddr 0, [.t 5], none⟩,
     ⟨some 74, .load none false, [.t 73], none⟩,
     ⟨some 75, .move, [.t 12], none⟩,
     ⟨some 76, .iaddr 1, [.t 74, .t 75], none⟩,
     ⟨some 77, .load none false, [.t 76], none⟩,
     ⟨some 78, .len, [.t 77], none⟩,
     ⟨some 79, .bin .lt, [.t 72, .t 78], none⟩] [2, 3, 4, 5, 8, 9, 10, 11, 12, 13, 14, 15, 16, 79] [4, 5, 8, 10, 15, 36, 71, 116, 142, 177, 183])
   (.cond (.t 79)
    .skip
    (.exit 6)))
  (.seq
   (.block 7
    (.seq
     (.reg [] [⟨some 82, .faddr 0, [.t 5], none⟩,
       ⟨some 83, .load none false, [.t 82], none⟩,
       ⟨some 84, .move, [.t 12], none⟩,
       ⟨some 85, .iaddr 1, [.t 83, .t 84], none⟩,
       ⟨some 86, .load none false, [.t 85], none⟩,
       ⟨some 87, .move, [.t 16], none⟩,
       ⟨some 88, .iaddr 2, [.t 86, .t 87], none⟩,
       ⟨some 89, .load (some 2) false, [.t 88], none⟩,
       ⟨some 17, .alloc [.i 0, .i 0], [], none⟩,
       ⟨none, .store 2 true, [.t 17, .t 89], none⟩] [2, 3, 4, 5, 8, 9, 10, 11, 12, 13, 14, 15, 16, 17] [4, 5, 8, 10, 15, 17, 36, 71, 116, 142, 177, 183])
     (.seq
      (.seq
       (.reg [] [⟨some 90, .move, [.t 3], none⟩,
         ⟨some 91, .move, [.t 90], none⟩,
         ⟨some 92, .faddr 0, [.t 17], some (91, true)⟩,
         ⟨some 93, .load none false, [.t 92], some (91, true)⟩,
         ⟨some 94, .faddr 0, [.t 15], some (91, true)⟩,
         ⟨some 95, .load none false, [.t 94], some (91, true)⟩,
         ⟨some 96, .bin .eq, [.t 93, .t 95], some (91, true)⟩,
         ⟨some 97, .pick, [.t 91, .t 96, .k (.b false)], none⟩,
         ⟨some 98, .move, [.t 97], none⟩,
         ⟨some 99, .faddr 0, [.t 15], some (98, true)⟩,
         ⟨some 100, .load none false, [.t 99], some (98, true)⟩,
         ⟨some 101, .move, [.t 2], some (98, true)⟩,
         ⟨some 102, .call [] false, [.f 108, .t 100, .t 101], some (98, true)⟩,
         ⟨some 103, .pick, [.t 98, .t 102, .k (.b false)], none⟩] [2, 3, 4, 5, 8, 9, 10, 11, 12, 13, 14, 15, 16, 17, 103] [4, 5, 8, 10, 15, 17, 36, 71, 116, 142, 177, 183])
       (.cond (.t 103)
        (.reg [] [⟨some 104, .move, [.t 13], none⟩,
          ⟨some 105, .faddr 0, [.t 15], none⟩,
          ⟨some 106, .load none false, [.t 105], none⟩,
          ⟨some 107, .faddr 1, [.t 15], none⟩,
          ⟨some 108, .load none false, [.t 107], none⟩,
          ⟨some 109, .move, [.t 9], none⟩,
          ⟨some 110, .bin .mul, [.t 108, .t 109], none⟩,
          ⟨some 111, .faddr 1, [.t 17], none⟩,
          ⟨some 112, .load none false, [.t 111], none⟩,
          ⟨some 113, .bin .add, [.t 110, .t 112], none⟩,
          ⟨some 114, .build [.i 0, .i 0] [(0, 1), (1, 1)], [.t 106, .t 113], none⟩,
          ⟨some 115, .bslice 2 true, [.t 114], none⟩,
          ⟨some 116, .append 2 true, [.t 104, .t 115], none⟩,
          ⟨some 13, .move, [.t 116], none⟩] [2, 3, 4, 5, 8, 9, 10, 11, 12, 13, 14, 15, 16, 17] [4, 5, 8, 10, 15, 17, 36, 71, 116, 142, 177, 183])
        .skip))
      (.seq
       (.reg [] [⟨some 117, .move, [.t 3], none⟩,
         ⟨some 118, .not, [.t 117], none⟩,
         ⟨some 119, .move, [.t 118], none⟩,
         ⟨some 120, .faddr 0, [.t 15], some (119, true)⟩,
         ⟨some 121, .load none false, [.t 120], some (119, true)⟩,
         ⟨some 122, .bin .ne, [.t 121, .k (.i 0)], some (119, true)⟩,
         ⟨some 123, .pick, [.t 119, .t 122, .k (.b false)], none⟩,
         ⟨some 124, .move, [.t 123], none⟩,
         ⟨some 125, .faddr 0, [.t 17], some (124, true)⟩,
         ⟨some 126, .load none false, [.t 125], some (124, true)⟩,
         ⟨some 127, .faddr 0, [.t 15], some (124, true)⟩,
         ⟨some 128, .load none false, [.t 127], some (124, true)⟩,
         ⟨some 129, .neg, [.t 128], some (124, true)⟩,
         ⟨some 130, .bin .eq, [.t 126, .t 129], some (124, true)⟩,
         ⟨some 131, .pick, [.t 124, .t 130, .k (.b false)], none⟩] [2, 3, 4, 5, 8, 9, 10, 11, 12, 13, 14, 15, 16, 17, 131] [4, 5, 8, 10, 15, 17, 36, 71, 116, 142, 177, 183])
       (.cond (.t 131)
        (.reg [] [⟨some 132, .move, [.t 13], none⟩,
          ⟨some 133, .faddr 1, [.t 15], none⟩,
          ⟨some 134, .load none false, [.t 133], none⟩,
          ⟨some 135, .move, [.t 9], none⟩,
          ⟨some 136, .bin .mul, [.t 134, .t 135], none⟩,
          ⟨some 137, .faddr 1, [.t 17], none⟩,
          ⟨some 138, .load none false, [.t 137], none⟩,
          ⟨some 139, .bin .add, [.t 136, .t 138], none⟩,
          ⟨some 140, .build [.i 0, .i 0] [(1, 1)], [.t 139], none⟩,
          ⟨some 141, .bslice 2 true, [.t 140], none⟩,
          ⟨some 142, .append 2 true, [.t 132, .t 141], none⟩,
          ⟨some 13, .move, [.t 142], none⟩] [2, 3, 4, 5, 8, 9, 10, 11, 12, 13, 14, 15, 16] [4, 5, 8, 10, 15, 36, 71, 116, 142, 177, 183])
        .skip)))))
   (.reg [] [⟨some 80, .move, [.t 16], none⟩,
     ⟨some 81, .bin .add, [.t 80, .k (.i 1)], none⟩,
     ⟨some 16, .move, [.t 81], none⟩] [2, 3, 4, 5, 8, 9, 10, 11, 12, 13, 14, 15, 16] [4, 5, 8, 10, 15, 36, 71, 116, 142, 177, 183])))
def c105l0 : AC := b105l0
theorem r105l0 (call lp s) : run call lp c105l0 s = run call lp b105l0 s := rfl
def b105l1 : AC :=
 (.seq
  (.seq
   (.reg [] [⟨some 37, .move, [.t 14], none⟩,
     ⟨some 38, .faddr 0, [.t 4], none⟩,
     ⟨some 39, .load none false, [.t 38], none⟩,
     ⟨some 40, .move, [.t 11], none⟩,
     ⟨some 41, .iaddr 1, [.t 39, .t 40], none⟩,
     ⟨some 42, .load none false, [.t 41], none⟩,
     ⟨some 43, .len, [.t 42], none⟩,
     ⟨some 44, .bin .lt, [.t 37, .t 43], none⟩] [2, 3, 4, 5, 8, 9, 10, 11, 12, 13, 14, 44] [4, 5, 8, 10, 36, 71, 116, 142, 177, 183])
   (.cond (.t 44)
    .skip
    (.exit 4)))
  (.seq
   (.block 5
    (.seq
     (.reg [] [⟨some 47, .faddr 0, [.t 4], none⟩,
       ⟨some 48, .load none false, [.t 47], none⟩,
       ⟨some 49, .move, [.t 11], none⟩,
       ⟨some 50, .iaddr 1, [.t 48, .t 49], none⟩,
       ⟨some 51, .load none false, [.t 50], none⟩,
       ⟨some 52, .move, [.t 14], none⟩,
       ⟨some 53, .iaddr 2, [.t 51, .t 52], none⟩,
       ⟨some 54, .load (some 2) false, [.t 53], none⟩,
       ⟨some 15, .alloc [.i 0, .i 0], [], none⟩,
       ⟨none, .store 2 true, [.t 15, .t 54], none⟩] [2, 3, 4, 5, 8, 9, 10, 11, 12, 13, 14, 15] [4, 5, 8, 10, 15, 36, 71, 116, 142, 177, 183])
     (.seq
      (.seq
       (.reg [] [⟨some 55, .faddr 0, [.t 15], none⟩,
         ⟨some 56, .load none false, [.t 55], none⟩,
         ⟨some 57, .move, [.t 2], none⟩,
         ⟨some 58, .call [] false, [.f 108, .t 56, .t 57], none⟩,
         ⟨some 59, .not, [.t 58], none⟩] [2, 3, 4, 5, 8, 9, 10, 11, 12, 13, 14, 15, 59] [4, 5, 8, 10, 15, 36, 71, 116, 142, 177, 183])
       (.cond (.t 59)
        (.reg [] [⟨some 60, .move, [.t 13], none⟩,
          ⟨some 61, .faddr 0, [.t 15], none⟩,
          ⟨some 62, .load none false, [.t 61], none⟩,
          ⟨some 63, .faddr 1, [.t 15], none⟩,
          ⟨some 64, .load none false, [.t 63], none⟩,
          ⟨some 65, .move, [.t 9], none⟩,
          ⟨some 66, .bin .mul, [.t 64, .t 65], none⟩,
          ⟨some 67, .move, [.t 12], none⟩,
          ⟨some 68, .bin .add, [.t 66, .t 67], none⟩,
          ⟨some 69, .build [.i 0, .i 0] [(0, 1), (1, 1)], [.t 62, .t 68], none⟩,
          ⟨some 70, .bslice 2 true, [.t 69], none⟩,
          ⟨some 71, .append 2 true, [.t 60, .t 70], none⟩,
          ⟨some 13, .move, [.t 71], none⟩] [2, 3, 4, 5, 8, 9, 10, 11, 12, 13, 14, 15] [4, 5, 8, 10, 15, 36, 71, 116, 142, 177, 183])
        .skip))
      (.seq
       (.reg [] [⟨some 16, .move, [.k (.i 0)], none⟩] [2, 3, 4, 5, 8, 9, 10, 11, 12, 13, 14, 15, 16] [4, 5, 8, 10, 15, 36, 71, 116, 142, 177, 183])
       (.block 6
        (.loop [2, 3, 4, 5, 8, 9, 10, 11, 12, 13, 14, 15, 16] [4, 5, 8, 10, 15, 36, 71, 116, 142, 177, 183] c105l0))))))
   (.reg [] [⟨some 45, .move, [.t 14], none⟩,
     ⟨some 46, .bin .add, [.t 45, .k (.i 1)], none⟩,
     ⟨some 14, .move, [.t 46], none⟩] [2, 3, 4, 5, 8, 9, 10, 11, 12, 13, 14] [4, 5, 8, 10, 36, 71, 116, 142, 177, 183])))
def c105l1 : AC := b105l1
theorem r105l1 (call lp s) : run call lp c105l1 s = run call lp b105l1 s := rfl
def b105l2 : AC :=
 (.seq
  (.seq
   (.reg [] [⟨some 143, .move, [.t 18], none⟩,
     ⟨some 144, .faddr 0, [.t 5], none⟩,
     ⟨some 145, .load none false, [.t 144], none⟩,
     ⟨some 146, .move, [.t 12], none⟩,
     ⟨some 147, .iaddr 1, [.t 145, .t 146], none⟩,
     ⟨some 148, .load none false, [.t 147], none⟩,
     ⟨some 149, .len, [.t 148], none⟩,
     ⟨some 150, .bin .lt, [.t 143, .t 149], none⟩] [2, 3, 4, 5, 8, 9, 10, 11, 12, 13, 18, 150] [4, 5, 8, 10, 36, 71, 116, 142, 177, 183])
   (.cond (.t 150)
    .skip
    (.exit 8)))
  (.seq
   (.block 9
    (.seq
     (.reg [] [⟨some 153, .faddr 0, [.t 5], none⟩,
       ⟨some 154, .load none false, [.t 153], none⟩,
       ⟨some 155, .move, [.t 12], none⟩,
       ⟨some 156, .iaddr 1, [.t 154, .t 155], none⟩,
       ⟨some 157, .load none false, [.t 156], none⟩,
       ⟨some 158, .move, [.t 18], none⟩,
       ⟨some 159, .iaddr 2, [.t 157, .t 158], none⟩,
       ⟨some 160, .load (some 2) false, [.t 159], none⟩,
       ⟨some 19, .alloc [.i 0, .i 0], [], none⟩,
       ⟨none, .store 2 true, [.t 19, .t 160], none⟩] [2, 3, 4, 5, 8, 9, 10, 11, 12, 13, 18, 19] [4, 5, 8, 10, 19, 36, 71, 116, 142, 177, 183])
     (.seq
      (.reg [] [⟨some 161, .faddr 0, [.t 19], none⟩,
        ⟨some 162, .load none false, [.t 161], none⟩,
        ⟨some 163, .move, [.t 2], none⟩,
        ⟨some 164, .call [] false, [.f 108, .t 162, .t 163], none⟩,
        ⟨some 165, .not, [.t 164], none⟩] [2, 3, 4, 5, 8, 9, 10, 11, 12, 13, 18, 19, 165] [4, 5, 8, 10, 19, 36, 71, 116, 142, 177, 183])
      (.cond (.t 165)
       (.reg [] [⟨some 166, .move, [.t 13], none⟩,
         ⟨some 167, .faddr 0, [.t 19], none⟩,
         ⟨some 168, .load none false, [.t 167], none⟩,
         ⟨some 169, .move, [.t 11], none⟩,
         ⟨some 170, .move, [.t 9], none⟩,
         ⟨some 171, .bin .mul, [.t 169, .t 170], none⟩,
         ⟨some 172, .faddr 1, [.t 19], none⟩,
         ⟨some 173, .load none false, [.t 172], none⟩,
         ⟨some 174, .bin .add, [.t 171, .t 173], none⟩,
         ⟨some 175, .build [.i 0, .i 0] [(0, 1), (1, 1)], [.t 168, .t 174], none⟩,
         ⟨some 176, .bslice 2 true, [.t 175], none⟩,
         ⟨some 177, .append 2 true, [.t 166, .t 176], none⟩,
         ⟨some 13, .move, [.t 177], none⟩] [2, 3, 4, 5, 8, 9, 10, 11, 12, 13, 18] [4, 5, 8, 10, 36, 71, 116, 142, 177, 183])
       .skip))))
   (.reg [] [⟨some 151, .move, [.t 18], none⟩,
     ⟨some 152, .bin .add, [.t 151, .k (.i 1)], none⟩,
     ⟨some 18, .move, [.t 152], none⟩] [2, 3, 4, 5, 8, 9, 10, 11, 12, 13, 18] [4, 5, 8, 10, 36, 71, 116, 142, 177, 183])))
def c105l2 : AC := b105l2
theorem r105l2 (call lp s) : run call lp c105l2 s = run call lp b105l2 s := rfl
def b105l3 : AC :=
 (.seq
  (.seq
   (.reg [] [⟨some 31, .move, [.t 12], none⟩,
     ⟨some 32, .move, [.t 9], none⟩,
     ⟨some 33, .bin .lt, [.t 31, .t 32], none⟩] [2, 3, 4, 5, 8, 9, 10, 11, 12, 33] [4, 5, 8, 10, 183])
   (.cond (.t 33)
    .skip
    (.exit 2)))
  (.seq
   (.block 3
    (.seq
     (.reg [] [⟨some 36, .eslice 2, [], none⟩,
       ⟨some 13, .move, [.t 36], none⟩] [2, 3, 4, 5, 8, 9, 10, 11, 12, 13] [4, 5, 8, 10, 36, 71, 116, 142, 177, 183])
     (.seq
      (.seq
       (.reg [] [⟨some 14, .move, [.k (.i 0)], none⟩] [2, 3, 4, 5, 8, 9, 10, 11, 12, 13, 14] [4, 5, 8, 10, 36, 71, 116, 142, 177, 183])
       (.block 4
        (.loop [2, 3, 4, 5, 8, 9, 10, 11, 12, 13, 14] [4, 5, 8, 10, 36, 71, 116, 142, 177, 183] c105l1)))
      (.seq
       (.seq
        (.reg [] [⟨some 18, .move, [.k (.i 0)], none⟩] [2, 3, 4, 5, 8, 9, 10, 11, 12, 13, 18] [4, 5, 8, 10, 36, 71, 116, 142, 177, 183])
        (.block 8
         (.loop [2, 3, 4, 5, 8, 9, 10, 11, 12, 13, 18] [4, 5, 8, 10, 36, 71, 116, 142, 177, 183] c105l2)))
       (.reg [0, 1, 2, 3, 6, 9, 10, 11] [⟨some 178, .faddr 0, [.t 10], none⟩,
         ⟨some 179, .load none false, [.t 178], none⟩,
         ⟨some 180, .move, [.t 13], none⟩,
         ⟨some 181, .call [] false, [.f 90, .t 180], none⟩,
         ⟨none, .chk (.faddr 0), [.t 178, .t 10], none⟩,
         ⟨none, .chk (.load none false), [.t 179, .t 178], none⟩,
         ⟨some 182, .bslice 1 true, [.t 181], none⟩,
         ⟨none, .chk (.faddr 0), [.t 178, .t 10], none⟩,
         ⟨none, .chk (.load none false), [.t 179, .t 178], none⟩,
         ⟨some 183, .append 1 true, [.t 179, .t 182], none⟩,
         ⟨some 184, .faddr 0, [.t 10], none⟩,
         ⟨none, .store 1 true, [.t 184, .t 183], none⟩] [2, 3, 4, 5, 8, 9, 10, 11, 12] [4, 5, 8, 10, 183])))))
   (.reg [] [⟨some 34, .move, [.t 12], none⟩,
     ⟨some 35, .bin .add, [.t 34, .k (.i 1)], none⟩,
     ⟨some 12, .move, [.t 35], none⟩] [2, 3, 4, 5, 8, 9, 10, 11, 12] [4, 5, 8, 10, 183])))
def c105l3 : AC := b105l3
theorem r105l3 (call lp s) : run call lp c105l3 s = run call lp b105l3 s := rfl
def b105l4 : AC :=
 (.seq
  (.seq
   (.reg [] [⟨some 24, .move, [.t 11], none⟩,
     ⟨some 25, .faddr 0, [.t 4], none⟩,
     ⟨some 26, .load none false, [.t 25], none⟩,
     ⟨some 27, .len, [.t 26], none⟩,
     ⟨some 28, .bin .lt, [.t 24, .t 27], none⟩] [2, 3, 4, 5, 8, 9, 10, 11, 28] [4, 5, 8, 10, 183])
   (.cond (.t 28)
    .skip
    (.exit 0)))
  (.seq
   (.block 1
    (.seq
     (.reg [] [⟨some 12, .move, [.k (.i 0)], none⟩] [2, 3, 4, 5, 8, 9, 10, 11, 12] [4, 5, 8, 10, 183])
     (.block 2
      (.loop [2, 3, 4, 5, 8, 9, 10, 11, 12] [4, 5, 8, 10, 183] c105l3))))
   (.reg [] [⟨some 29, .move, [.t 11], none⟩,
     ⟨some 30, .bin .add, [.t 29, .k (.i 1)], none⟩,
     ⟨some 11, .move, [.t 30], none⟩] [2, 3, 4, 5, 8, 9, 10, 11] [4, 5, 8, 10, 183])))
def c105l4 : AC := b105l4
theorem r105l4 (call lp s) : run call lp c105l4 s = run call lp b105l4 s := rfl
/-- spec.l12Pairs -/
def c105 : AC :=
 (.seq
  (.reg [] [⟨some 4, .box, [.t 0], none⟩,
    ⟨some 5, .box, [.t 1], none⟩,
    ⟨some 8, .alloc [.nils], [], none⟩] [2, 3, 4, 5, 8] [4, 5, 8, 183])
  (.seq
   (.reg [] [⟨some 20, .faddr 0, [.t 5], none⟩,
     ⟨some 21, .load none false, [.t 20], none⟩,
     ⟨some 22, .len, [.t 21], none⟩,
     ⟨some 9, .move, [.t 22], none⟩] [2, 3, 4, 5, 8, 9] [4, 5, 8, 183])
   (.seq
    (.reg [] [⟨some 23, .build [.nils] [], [], none⟩,
      ⟨some 10, .alloc [.nils], [], none⟩,
      ⟨none, .store 1 true, [.t 10, .t 23], none⟩] [2, 3, 4, 5, 8, 9, 10] [4, 5, 8, 10, 183])
    (.seq
     (.seq
      (.reg [] [⟨some 11, .move, [.k (.i 0)], none⟩] [2, 3, 4, 5, 8, 9, 10, 11] [4, 5, 8, 10, 183])
      (.block 0
       (.loop [2, 3, 4, 5, 8, 9, 10, 11] [4, 5, 8, 10, 183] c105l4)))
     (.seq
      (.reg [] [⟨some 185, .load (some 1) false, [.t 10], none⟩,
        ⟨none, .store 1 true, [.t 8, .t 185], none⟩] [8] [8, 183])
      .ret)))))
def a105 : AF := ⟨c105, [.cell 8 (some 1)]⟩
/-- spec.GraphPar -/
def c42 : AC :=
 (.seq
  (.reg [] [⟨some 2, .box, [.t 0], none⟩,
    ⟨some 3, .box, [.t 1], none⟩,
    ⟨some 4, .alloc [.nils], [], none⟩,
    ⟨some 5, .move, [.k (.b false)], none⟩] [2, 3, 4] [2, 3, 4, 17, 18, 19])
  (.seq
   (.seq
    (.reg [] [⟨some 6, .load (some 1) false, [.t 2], none⟩,
      ⟨some 7, .call [] false, [.f 59, .t 6], none⟩,
      ⟨some 8, .not, [.t 7], none⟩,
      ⟨some 9, .move, [.t 8], none⟩,
      ⟨some 10, .load (some 1) false, [.t 3], some (9, false)⟩,
      ⟨some 11, .call [] false, [.f 59, .t 10], some (9, false)⟩,
      ⟨some 12, .not, [.t 11], some (9, false)⟩,
      ⟨some 13, .pick, [.t 9, .k (.b true), .t 12], none⟩] [2, 3, 4, 13] [2, 3, 4, 17, 18, 19])
    (.cond (.t 13)
     (.seq
      (.reg [] [⟨some 14, .build [.nils] [], [], none⟩,
        ⟨none, .store 1 true, [.t 4, .t 14], none⟩,
        ⟨some 5, .move, [.k (.b false)], none⟩] [4, 5] [4, 17, 18, 19])
      .ret)
     .skip))
   (.seq
    (.reg [0, 1, 2, 5, 6, 7, 8, 9, 10] [⟨some 15, .load (some 1) false, [.t 2], none⟩,
      ⟨some 16, .load (some 1) false, [.t 3], none⟩,
      ⟨some 17, .mkslice 1 (.b false), [.k (.i 4), .k (.i 4)], none⟩,
      ⟨none, .chk (.load (some 1) false), [.t 15, .t 2], none⟩,
      ⟨none, .chk (.load (some 1) false), [.t 16, .t 3], none⟩,
      ⟨some 18, .call [] false, [.f 105, .t 15, .t 16, .t 17, .k (.b false)], none⟩,
      ⟨some 19, .call [] false, [.f 84, .t 18], none⟩,
      ⟨some 20, .ext 0, [.t 19], none⟩,
      ⟨some 21, .ext 1, [.t 19], none⟩,
      ⟨none, .store 1 true, [.t 4, .t 20], none⟩,
      ⟨some 5, .move, [.t 21], none⟩] [4, 5] [4, 17, 18, 19])
    .ret)))
def a42 : AF := ⟨c42, [.cell 4 (some 1), .tmp 5]⟩
def b107l0 : AC :=
 (.seq
  (.reg [] [⟨some 45, .bin .lt, [.t 44, .t 43], none⟩] [0, 1, 3, 4, 8, 10, 20, 21, 22, 42, 43, 44, 45] [10, 15, 37, 69, 93])
  (.seq
   (.cond (.t 45)
    .skip
    (.exit 2))
   (.seq
    (.block 3
     (.seq
      (.reg [] [⟨some 46, .iaddr 2, [.t 42, .t 44], none⟩,
        ⟨some 47, .load (some 2) false, [.t 46], none⟩,
        ⟨some 12, .alloc [.i 0, .i 0], [], none⟩,
        ⟨none, .store 2 true, [.t 12, .t 47], none⟩] [0, 1, 3, 4, 8, 10, 12, 20, 21, 22, 42, 43, 44] [10, 12, 15, 37, 69, 93])
      (.seq
       (.reg [] [⟨some 48, .faddr 0, [.t 10], none⟩,
         ⟨some 49, .load none false, [.t 48], none⟩,
         ⟨some 50, .bin .ne, [.t 49, .k (.i 0)], none⟩,
         ⟨some 51, .move, [.t 50], none⟩,
         ⟨some 52, .faddr 0, [.t 10], some (51, true)⟩,
         ⟨some 53, .load none false, [.t 52], some (51, true)⟩,
         ⟨some 54, .faddr 0, [.t 12], some (51, true)⟩,
         ⟨some 55, .load none false, [.t 54], some (51, true)⟩,
         ⟨some 56, .neg, [.t 55], some (51, true)⟩,
         ⟨some 57, .bin .eq, [.t 53, .t 56], some (51, true)⟩,
         ⟨some 58, .pick, [.t 51, .t 57, .k (.b false)], none⟩] [0, 1, 3, 4, 8, 10, 12, 20, 21, 22, 42, 43, 44, 58] [10, 12, 15, 37, 69, 93])
       (.cond (.t 58)
        (.reg [] [⟨some 59, .move, [.t 8], none⟩,
          ⟨some 60, .faddr 1, [.t 10], none⟩,
          ⟨some 61, .load none false, [.t 60], none⟩,
          ⟨some 62, .load none false, [.t 3], none⟩,
          ⟨some 63, .bin .mul, [.t 61, .t 62], none⟩,
          ⟨some 64, .faddr 1, [.t 12], none⟩,
          ⟨some 65, .load none false, [.t 64], none⟩,
          ⟨some 66, .bin .add, [.t 63, .t 65], none⟩,
          ⟨some 67, .build [.i 0, .i 0] [(0, 1), (1, 1)], [.k (.i 0), .t 66], none⟩,
          ⟨some 68, .bslice 2 true, [.t 67], none⟩,
          ⟨some 69, .append 2 true, [.t 59, .t 68], none⟩,
          ⟨some 8, .move, [.t 69], none⟩] [0, 1, 3, 4, 8, 10, 20, 21, 22, 42, 43, 44] [10, 15, 37, 69, 93])
        .skip))))
    (.reg [] [⟨some 70, .bin .add, [.t 44, .k (.i 1)], none⟩,
      ⟨some 44, .move, [.t 70], none⟩] [0, 1, 3, 4, 8, 10, 20, 21, 22, 42, 43, 44] [10, 15, 37, 69, 93]))))
def c107l0 : AC := b107l0
theorem r107l0 (call lp s) : run call lp c107l0 s = run call lp b107l0 s := rfl
def b107l1 : AC :=
 (.seq
  (.reg [] [⟨some 23, .bin .lt, [.t 22, .t 21], none⟩] [0, 1, 3, 4, 8, 20, 21, 22, 23] [15, 37, 69, 93])
  (.seq
   (.cond (.t 23)
    .skip
    (.exit 0))
   (.seq
    (.block 1
     (.seq
      (.reg [] [⟨some 24, .iaddr 2, [.t 20, .t 22], none⟩,
        ⟨some 25, .load (some 2) false, [.t 24], none⟩,
        ⟨some 10, .alloc [.i 0, .i 0], [], none⟩,
        ⟨none, .store 2 true, [.t 10, .t 25], none⟩] [0, 1, 3, 4, 8, 10, 20, 21, 22] [10, 15, 37, 69, 93])
      (.seq
       (.reg [] [⟨some 26, .move, [.t 8], none⟩,
         ⟨some 27, .faddr 0, [.t 10], none⟩,
         ⟨some 28, .load none false, [.t 27], none⟩,
         ⟨some 29, .faddr 1, [.t 10], none⟩,
         ⟨some 30, .load none false, [.t 29], none⟩,
         ⟨some 31, .load none false, [.t 3], none⟩,
         ⟨some 32, .bin .mul, [.t 30, .t 31], none⟩,
         ⟨some 33, .move, [.t 1], none⟩,
         ⟨some 34, .bin .add, [.t 32, .t 33], none⟩,
         ⟨some 35, .build [.i 0, .i 0] [(0, 1), (1, 1)], [.t 28, .t 34], none⟩,
         ⟨some 36, .bslice 2 true, [.t 35], none⟩,
         ⟨some 37, .append 2 true, [.t 26, .t 36], none⟩,
         ⟨some 8, .move, [.t 37], none⟩] [0, 1, 3, 4, 8, 10, 20, 21, 22] [10, 15, 37, 69, 93])
       (.seq
        (.reg [] [⟨some 38, .faddr 0, [.t 4], none⟩,
          ⟨some 39, .load none false, [.t 38], none⟩,
          ⟨some 40, .move, [.t 1], none⟩,
          ⟨some 41, .iaddr 1, [.t 39, .t 40], none⟩,
          ⟨some 42, .load none false, [.t 41], none⟩,
          ⟨some 43, .len, [.t 42], none⟩,
          ⟨some 44, .move, [.k (.i 0)], none⟩] [0, 1, 3, 4, 8, 10, 20, 21, 22, 42, 43, 44] [10, 15, 37, 69, 93])
        (.block 2
         (.loop [0, 1, 3, 4, 8, 10, 20, 21, 22, 42, 43, 44] [10, 15, 37, 69, 93] c107l0))))))
    (.reg [] [⟨some 71, .bin .add, [.t 22, .k (.i 1)], none⟩,
      ⟨some 22, .move, [.t 71], none⟩] [0, 1, 3, 4, 8, 20, 21, 22] [15, 37, 69, 93]))))
def c107l1 : AC := b107l1
theorem r107l1 (call lp s) : run call lp c107l1 s = run call lp b107l1 s := rfl
def b107l2 : AC :=
 (.seq
  (.reg [] [⟨some 79, .bin .lt, [.t 78, .t 77], none⟩] [0, 3, 8, 76, 77, 78, 79] [15, 37, 69, 93])
  (.seq
   (.cond (.t 79)
    .skip
    (.exit 4))
   (.seq
    (.block 5
     (.seq
      (.reg [] [⟨some 80, .iaddr 2, [.t 76, .t 78], none⟩,
        ⟨some 81, .load (some 2) false, [.t 80], none⟩,
        ⟨some 14, .alloc [.i 0, .i 0], [], none⟩,
        ⟨none, .store 2 true, [.t 14, .t 81], none⟩] [0, 3, 8, 14, 76, 77, 78] [14, 15, 37, 69, 93])
      (.reg [] [⟨some 82, .move, [.t 8], none⟩,
        ⟨some 83, .faddr 0, [.t 14], none⟩,
        ⟨some 84, .load none false, [.t 83], none⟩,
        ⟨some 85, .move, [.t 0], none⟩,
        ⟨some 86, .load none false, [.t 3], none⟩,
        ⟨some 87, .bin .mul, [.t 85, .t 86], none⟩,
        ⟨some 88, .faddr 1, [.t 14], none⟩,
        ⟨some 89, .load none false, [.t 88], none⟩,
        ⟨some 90, .bin .add, [.t 87, .t 89], none⟩,
        ⟨some 91, .build [.i 0, .i 0] [(0, 1), (1, 1)], [.t 84, .t 90], none⟩,
        ⟨some 92, .bslice 2 true, [.t 91], none⟩,
        ⟨some 93, .append 2 true, [.t 82, .t 92], none⟩,
        ⟨some 8, .move, [.t 93], none⟩] [0, 3, 8, 76, 77, 78] [15, 37, 69, 93])))
    (.reg [] [⟨some 94, .bin .add, [.t 78, .k (.i 1)], none⟩,
      ⟨some 78, .move, [.t 94], none⟩] [0, 3, 8, 76, 77, 78] [15, 37, 69, 93]))))
def c107l2 : AC := b107l2
theorem r107l2 (call lp s) : run call lp c107l2 s = run call lp b107l2 s := rfl
/-- impl.GraphPar$1 -/
def c107 : AC :=
 (.seq
  (.reg [] [⟨some 7, .move, [.k (.nils)], none⟩] [0, 1, 2, 3, 4] [])
  (.seq
   (.reg [] [⟨some 15, .eslice 2, [], none⟩,
     ⟨some 8, .move, [.t 15], none⟩] [0, 1, 2, 3, 4, 8] [15, 37, 69, 93])
   (.seq
    (.seq
     (.reg [] [⟨some 16, .faddr 0, [.t 2], none⟩,
       ⟨some 17, .load none false, [.t 16], none⟩,
       ⟨some 18, .move, [.t 0], none⟩,
       ⟨some 19, .iaddr 1, [.t 17, .t 18], none⟩,
       ⟨some 20, .load none false, [.t 19], none⟩,
       ⟨some 21, .len, [.t 20], none⟩,
       ⟨some 22, .move, [.k (.i 0)], none⟩] [0, 1, 3, 4, 8, 20, 21, 22] [15, 37, 69, 93])
     (.block 0
      (.loop [0, 1, 3, 4, 8, 20, 21, 22] [15, 37, 69, 93] c107l1)))
    (.seq
     (.seq
      (.reg [] [⟨some 72, .faddr 0, [.t 4], none⟩,
        ⟨some 73, .load none false, [.t 72], none⟩,
        ⟨some 74, .move, [.t 1], none⟩,
        ⟨some 75, .iaddr 1, [.t 73, .t 74], none⟩,
        ⟨some 76, .load none false, [.t 75], none⟩,
        ⟨some 77, .len, [.t 76], none⟩,
        ⟨some 78, .move, [.k (.i 0)], none⟩] [0, 3, 8, 76, 77, 78] [15, 37, 69, 93])
      (.block 4
       (.loop [0, 3, 8, 76, 77, 78] [15, 37, 69, 93] c107l2)))
     (.seq
      (.reg [] [⟨some 95, .move, [.t 8], none⟩,
        ⟨some 7, .move, [.t 95], none⟩] [7] [15, 37, 69, 93])
      .ret)))))
def a107 : AF := ⟨c107, [.tmp 7]⟩
def b106l0 : AC :=
 (.seq
  (.reg [] [⟨some 22, .bin .lt, [.t 21, .t 20], none⟩] [2, 4, 6, 8, 9, 14, 15, 20, 21, 22] [4, 6, 11, 31, 35])
  (.seq
   (.cond (.t 22)
    .skip
    (.exit 2))
   (.seq
    (.block 3
     (.seq
      (.reg [] [⟨some 23, .move, [.t 21], none⟩,
        ⟨some 10, .move, [.t 23], none⟩] [2, 4, 6, 8, 9, 10, 14, 15, 20, 21] [4, 6, 11, 31, 35])
      (.reg [] [⟨some 24, .move, [.t 8], none⟩,
        ⟨some 25, .move, [.t 2], none⟩,
        ⟨some 26, .move, [.t 9], none⟩,
        ⟨some 27, .move, [.t 10], none⟩,
        ⟨some 28, .call [] false, [.t 25, .t 26, .t 27], none⟩,
        ⟨some 29, .call [0] false, [.f 91, .t 28], none⟩,
        ⟨some 30, .bslice 1 true, [.t 29], none⟩,
        ⟨some 31, .append 1 true, [.t 24, .t 30], none⟩,
        ⟨some 8, .move, [.t 31], none⟩] [2, 4, 6, 8, 9, 14, 15, 20, 21] [4, 6, 11, 31, 35])))
    (.reg [] [⟨some 32, .bin .add, [.t 21, .k (.i 1)], none⟩,
      ⟨some 21, .move, [.t 32], none⟩] [2, 4, 6, 8, 9, 14, 15, 20, 21] [4, 6, 11, 31, 35]))))
def c106l0 : AC := b106l0
theorem r106l0 (call lp s) : run call lp c106l0 s = run call lp b106l0 s := rfl
def b106l1 : AC :=
 (.seq
  (.reg [] [⟨some 16, .bin .lt, [.t 15, .t 14], none⟩] [2, 4, 6, 8, 14, 15, 16] [4, 6, 11, 31, 35])
  (.seq
   (.cond (.t 16)
    .skip
    (.exit 0))
   (.seq
    (.block 1
     (.seq
      (.reg [] [⟨some 17, .move, [.t 15], none⟩,
        ⟨some 9, .move, [.t 17], none⟩] [2, 4, 6, 8, 9, 14, 15] [4, 6, 11, 31, 35])
      (.seq
       (.reg [] [⟨some 18, .faddr 0, [.t 4], none⟩,
         ⟨some 19, .load none false, [.t 18], none⟩,
         ⟨some 20, .len, [.t 19], none⟩,
         ⟨some 21, .move, [.k (.i 0)], none⟩] [2, 4, 6, 8, 9, 14, 15, 20, 21] [4, 6, 11, 31, 35])
       (.block 2
        (.loop [2, 4, 6, 8, 9, 14, 15, 20, 21] [4, 6, 11, 31, 35] c106l0)))))
    (.reg [] [⟨some 33, .bin .add, [.t 15, .k (.i 1)], none⟩,
      ⟨some 15, .move, [.t 33], none⟩] [2, 4, 6, 8, 14, 15] [4, 6, 11, 31, 35]))))
def c106l1 : AC := b106l1
theorem r106l1 (call lp s) : run call lp c106l1 s = run call lp b106l1 s := rfl
/-- impl.paired -/
def c106 : AC :=
 (.seq
  (.reg [] [⟨some 3, .box, [.t 0], none⟩,
    ⟨some 4, .box, [.t 1], none⟩,
    ⟨some 6, .alloc [.nils], [], none⟩,
    ⟨some 7, .move, [.k (.b false)], none⟩] [2, 3, 4, 6] [3, 4, 6, 11, 31, 35])
  (.seq
   (.reg [] [⟨some 11, .eslice 1, [], none⟩,
     ⟨some 8, .move, [.t 11], none⟩] [2, 3, 4, 6, 8] [3, 4, 6, 11, 31, 35])
   (.seq
    (.seq
     (.reg [] [⟨some 12, .faddr 0, [.t 3], none⟩,
       ⟨some 13, .load none false, [.t 12], none⟩,
       ⟨some 14, .len, [.t 13], none⟩,
       ⟨some 15, .move, [.k (.i 0)], none⟩] [2, 4, 6, 8, 14, 15] [4, 6, 11, 31, 35])
     (.block 0
      (.loop [2, 4, 6, 8, 14, 15] [4, 6, 11, 31, 35] c106l1)))
    (.seq
     (.reg [] [⟨some 34, .move, [.t 8], none⟩,
       ⟨some 35, .call [] false, [.f 88, .t 34, .k (.i 0)], none⟩,
       ⟨some 36, .ext 0, [.t 35], none⟩,
       ⟨some 37, .ext 1, [.t 35], none⟩,
       ⟨none, .store 1 true, [.t 6, .t 36], none⟩,
       ⟨some 7, .move, [.t 37], none⟩] [6, 7] [6, 11, 31, 35])
     .ret))))
def a106 : AF := ⟨c106, [.cell 6 (some 1), .tmp 7]⟩
/-- impl.GraphPar -/
def c43 : AC :=
 (.seq
  (.reg [] [⟨some 2, .box, [.t 0], none⟩,
    ⟨some 3, .box, [.t 1], none⟩,
    ⟨some 4, .alloc [.nils], [], none⟩,
    ⟨some 5, .move, [.k (.b false)], none⟩] [2, 3, 4] [2, 3, 4, 6, 22])
  (.seq
   (.seq
    (.reg [] [⟨some 7, .load (some 1) false, [.t 2], none⟩,
      ⟨some 8, .call [] false, [.f 64, .t 7], none⟩,
      ⟨some 9, .not, [.t 8], none⟩,
      ⟨some 10, .move, [.t 9], none⟩,
      ⟨some 11, .load (some 1) false, [.t 3], some (10, false)⟩,
      ⟨some 12, .call [] false, [.f 64, .t 11], some (10, false)⟩,
      ⟨some 13, .not, [.t 12], some (10, false)⟩,
      ⟨some 14, .pick, [.t 10, .k (.b true), .t 13], none⟩] [2, 3, 4, 14] [2, 3, 4, 6, 22])
    (.cond (.t 14)
     (.seq
      (.reg [] [⟨some 15, .build [.nils] [], [], none⟩,
        ⟨none, .store 1 true, [.t 4, .t 15], none⟩,
        ⟨some 5, .move, [.k (.b false)], none⟩] [4, 5] [2, 3, 4, 6, 22])
      .ret)
     .skip))
   (.seq
    (.reg [] [⟨some 16, .faddr 0, [.t 3], none⟩,
      ⟨some 17, .load none false, [.t 16], none⟩,
      ⟨some 18, .len, [.t 17], none⟩,
      ⟨some 6, .alloc [.i 0], [], none⟩,
      ⟨none, .store 1 true, [.t 6, .t 18], none⟩] [2, 3, 4, 6] [2, 3, 4, 6, 22])
    (.seq
     (.reg [] [⟨some 19, .load (some 1) false, [.t 2], none⟩,
       ⟨some 20, .load (some 1) false, [.t 3], none⟩,
       ⟨some 21, .mkfunc 107, [.t 2, .t 6, .t 3], none⟩,
       ⟨some 22, .call [] false, [.f 106, .t 19, .t 20, .t 21], none⟩,
       ⟨some 23, .ext 0, [.t 22], none⟩,
       ⟨some 24, .ext 1, [.t 22], none⟩,
       ⟨none, .store 1 true, [.t 4, .t 23], none⟩,
       ⟨some 5, .move, [.t 24], none⟩] [4, 5] [2, 3, 4, 6, 22])
     .ret))))
def a43 : AF := ⟨c43, [.cell 4 (some 1), .tmp 5]⟩
/-- laws.FnExactGraphPar -/
def c9 : AC :=
 (.seq
  (.reg [] [⟨some 2, .box, [.t 0], none⟩,
    ⟨some 3, .box, [.t 1], none⟩,
    ⟨some 4, .move, [.k (.b false)], none⟩] [2, 3] [2, 3])
  (.seq
   (.reg [] [⟨some 5, .move, [.k (.i 1048576)], none⟩] [2, 3, 5] [2, 3])
   (.seq
    (.reg [] [⟨some 17, .load (some 1) false, [.t 2], none⟩,
      ⟨some 18, .move, [.t 5], none⟩,
      ⟨some 19, .call [] false, [.f 14, .t 17, .t 18], none⟩,
      ⟨some 5, .move, [.t 19], none⟩] [2, 3, 5] [2, 3])
    (.seq
     (.seq
      (.reg [] [⟨some 20, .move, [.t 5], none⟩,
        ⟨some 21, .bin .lt, [.t 20, .k (.i 0)], none⟩] [2, 3, 5, 21] [2, 3])
      (.cond (.t 21)
       (.seq
        (.reg [] [⟨some 4, .move, [.k (.b true)], none⟩] [4] [])
        .ret)
       .skip))
     (.seq
      (.reg [] [⟨some 22, .load (some 1) false, [.t 3], none⟩,
        ⟨some 23, .move, [.t 5], none⟩,
        ⟨some 24, .call [] false, [.f 14, .t 22, .t 23], none⟩,
        ⟨some 5, .move, [.t 24], none⟩] [2, 3, 5] [2, 3])
      (.seq
       (.seq
        (.reg [] [⟨some 25, .move, [.t 5], none⟩,
          ⟨some 26, .bin .lt, [.t 25, .k (.i 0)], none⟩] [2, 3, 26] [2, 3])
        (.cond (.t 26)
         (.seq
          (.reg [] [⟨some 4, .move, [.k (.b true)], none⟩] [4] [])
          .ret)
         .skip))
       (.seq
        (.reg [0, 2, 1, 4, 5, 6, 7, 8, 9, 10, 11] [⟨some 28, .load (some 1) false, [.t 2], none⟩,
          ⟨some 30, .load (some 1) false, [.t 3], none⟩,
          ⟨some 29, .call [] false, [.f 16, .t 28], none⟩,
          ⟨none, .chk (.load (some 1) false), [.t 30, .t 3], none⟩,
          ⟨some 31, .call [] false, [.f 16, .t 30], none⟩,
          ⟨some 32, .call [] false, [.f 42, .t 29, .t 31], none⟩,
          ⟨some 27, .move, [.t 32], none⟩,
          ⟨some 33, .ext 0, [.t 27], none⟩,
          ⟨some 34, .ext 1, [.t 27], none⟩,
          ⟨some 6, .alloc [.nils], [], none⟩,
          ⟨none, .store 1 true, [.t 6, .t 33], none⟩,
          ⟨some 7, .move, [.t 34], none⟩] [2, 3, 6, 7] [2, 3, 6, 29, 31, 32])
        (.seq
         (.reg [] [⟨some 35, .load (some 1) false, [.t 2], none⟩,
           ⟨some 36, .call [] false, [.f 16, .t 35], none⟩,
           ⟨some 8, .alloc [.nils], [], none⟩,
           ⟨none, .store 1 true, [.t 8, .t 36], none⟩] [2, 3, 6, 7, 8] [2, 3, 6, 8, 29, 31, 32, 36])
         (.seq
          (.reg [] [⟨some 37, .load (some 1) false, [.t 3], none⟩,
            ⟨some 38, .call [] false, [.f 16, .t 37], none⟩,
            ⟨some 9, .alloc [.nils], [], none⟩,
            ⟨none, .store 1 true, [.t 9, .t 38], none⟩] [2, 3, 6, 7, 8, 9] [2, 3, 6, 8, 9, 29, 31, 32, 36, 38])
          (.seq
           (.reg [] [⟨some 40, .load (some 1) false, [.t 8], none⟩,
             ⟨some 41, .load (some 1) false, [.t 9], none⟩,
             ⟨some 42, .call [] false, [.f 43, .t 40, .t 41], none⟩,
             ⟨some 39, .move, [.t 42], none⟩,
             ⟨some 43, .ext 0, [.t 39], none⟩,
             ⟨some 44, .ext 1, [.t 39], none⟩,
             ⟨some 10, .alloc [.nils], [], none⟩,
             ⟨none, .store 1 true, [.t 10, .t 43], none⟩,
             ⟨some 11, .move, [.t 44], none⟩] [2, 3, 6, 7, 8, 9, 10, 11] [2, 3, 6, 8, 9, 10, 29, 31, 32, 36, 38, 42])
           (.seq
            (.seq
             (.reg [] [⟨some 45, .load (some 1) false, [.t 10], none⟩,
               ⟨some 46, .load (some 1) false, [.t 6], none⟩,
               ⟨some 47, .call [] false, [.f 20, .t 45, .t 46], none⟩,
               ⟨some 48, .not, [.t 47], none⟩,
               ⟨some 49, .move, [.t 48], none⟩,
               ⟨some 50, .move, [.t 11], some (49, false)⟩,
               ⟨some 51, .move, [.t 7], some (49, false)⟩,
               ⟨some 52, .bne, [.t 50, .t 51], some (49, false)⟩,
               ⟨some 53, .pick, [.t 49, .k (.b true), .t 52], none⟩] [2, 3, 6, 7, 8, 9, 10, 11, 53] [2, 3, 6, 8, 9, 10, 29, 31, 32, 36, 38, 42])
             (.cond (.t 53)
              (.seq
               (.reg [] [⟨some 4, .move, [.k (.b false)], none⟩] [4] [])
               .ret)
              .skip))
            (.seq
             (.seq
              (.reg [0, 1, 2, 4, 5] [⟨some 54, .load (some 1) false, [.t 8], none⟩,
                ⟨some 55, .load (some 1) false, [.t 2], none⟩,
                ⟨some 56, .call [] false, [.f 16, .t 55], none⟩,
                ⟨none, .chk (.load (some 1) false), [.t 54, .t 8], none⟩,
                ⟨some 57, .call [] false, [.f 20, .t 54, .t 56], none⟩,
                ⟨some 58, .not, [.t 57], none⟩] [2, 3, 6, 7, 8, 9, 10, 11, 58] [2, 3, 6, 8, 9, 10, 29, 31, 32, 36, 38, 42])
              (.cond (.t 58)
               (.seq
                (.reg [] [⟨some 4, .move, [.k (.b false)], none⟩] [4] [])
                .ret)
               .skip))
             (.seq
              (.seq
               (.reg [0, 1, 2, 4, 5] [⟨some 59, .load (some 1) false, [.t 9], none⟩,
                 ⟨some 60, .load (some 1) false, [.t 3], none⟩,
                 ⟨some 61, .call [] false, [.f 16, .t 60], none⟩,
                 ⟨none, .chk (.load (some 1) false), [.t 59, .t 9], none⟩,
                 ⟨some 62, .call [] false, [.f 20, .t 59, .t 61], none⟩,
                 ⟨some 63, .not, [.t 62], none⟩] [2, 3, 6, 7, 8, 9, 10, 11, 63] [2, 3, 6, 8, 9, 10, 29, 31, 32, 36, 38, 42])
               (.cond (.t 63)
                (.seq
                 (.reg [] [⟨some 4, .move, [.k (.b false)], none⟩] [4] [])
                 .ret)
                .skip))
              (.seq
               (.reg [] [⟨some 12, .move, [.k (.i 1)], none⟩] [2, 3, 6, 7, 8, 9, 10, 11, 12] [2, 3, 6, 8, 9, 10, 29, 31, 32, 36, 38, 42])
               (.seq
                (.reg [] [⟨some 64, .load (some 1) false, [.t 8], none⟩,
                  ⟨some 65, .move, [.t 12], none⟩,
                  ⟨some 66, .call [0] false, [.f 21, .t 64, .t 65], none⟩,
                  ⟨some 12, .move, [.t 66], none⟩] [2, 3, 6, 7, 9, 10, 11, 12] [2, 3, 6, 9, 10, 29, 31, 32, 36, 38, 42])
                (.seq
                 (.reg [] [⟨some 67, .load (some 1) false, [.t 9], none⟩,
                   ⟨some 68, .move, [.t 12], none⟩,
                   ⟨some 69, .call [0] false, [.f 21, .t 67, .t 68], none⟩,
                   ⟨some 12, .move, [.t 69], none⟩] [2, 3, 6, 7, 10, 11, 12] [2, 3, 6, 10, 29, 31, 32, 36, 38, 42])
                 (.seq
                  (.seq
                   (.reg [] [⟨some 70, .move, [.t 12], none⟩,
                     ⟨some 71, .bin .lt, [.t 70, .k (.i 0)], none⟩,
                     ⟨some 72, .move, [.t 71], none⟩,
                     ⟨some 73, .load (some 1) false, [.t 10], some (72, false)⟩,
                     ⟨some 74, .load (some 1) false, [.t 6], some (72, false)⟩,
                     ⟨some 75, .call [] false, [.f 20, .t 73, .t 74], some (72, false)⟩,
                     ⟨some 76, .not, [.t 75], some (72, false)⟩,
                     ⟨some 77, .pick, [.t 72, .k (.b true), .t 76], none⟩,
                     ⟨some 78, .move, [.t 77], none⟩,
                     ⟨some 79, .move, [.t 11], some (78, false)⟩,
                     ⟨some 80, .move, [.t 7], some (78, false)⟩,
                     ⟨some 81, .bne, [.t 79, .t 80], some (78, false)⟩,
                     ⟨some 82, .pick, [.t 78, .k (.b true), .t 81], none⟩] [2, 3, 6, 7, 10, 82] [2, 3, 6, 10, 29, 31, 32, 36, 38, 42])
                   (.cond (.t 82)
                    (.seq
                     (.reg [] [⟨some 4, .move, [.k (.b false)], none⟩] [4] [])
                     .ret)
                    .skip))
                  (.seq
                   (.reg [] [⟨some 13, .move, [.k (.i 1)], none⟩] [2, 3, 6, 7, 10, 13] [2, 3, 6, 10, 29, 31, 32, 36, 38, 42])
                   (.seq
                    (.reg [] [⟨some 83, .load (some 1) false, [.t 10], none⟩,
                      ⟨some 84, .move, [.t 13], none⟩,
                      ⟨some 85, .call [0] false, [.f 21, .t 83, .t 84], none⟩,
                      ⟨some 13, .move, [.t 85], none⟩] [2, 3, 6, 7, 10, 13] [2, 3, 6, 10, 29, 31, 32, 36, 38, 42])
                    (.seq
                     (.reg [] [⟨some 14, .move, [.k (.i 1)], none⟩] [2, 3, 6, 7, 10, 13, 14] [2, 3, 6, 10, 29, 31, 32, 36, 38, 42])
                     (.seq
                      (.reg [] [⟨some 86, .load (some 1) false, [.t 10], none⟩,
                        ⟨some 87, .move, [.t 14], none⟩,
                        ⟨some 88, .call [] false, [.f 35, .t 86, .t 87], none⟩,
                        ⟨some 14, .move, [.t 88], none⟩] [2, 3, 6, 7, 10, 13, 14] [2, 3, 6, 10, 29, 31, 32, 36, 38, 42])
                      (.seq
                       (.seq
                        (.reg [] [⟨some 89, .move, [.t 14], none⟩,
                          ⟨some 90, .bin .lt, [.t 89, .k (.i 0)], none⟩] [2, 3, 6, 7, 10, 13, 14, 90] [2, 3, 6, 10, 29, 31, 32, 36, 38, 42])
                        (.cond (.t 90)
                         (.seq
                          (.reg [] [⟨some 4, .move, [.k (.b false)], none⟩] [4] [])
                          .ret)
                         .skip))
                       (.seq
                        (.seq
                         (.reg [] [⟨some 91, .move, [.t 14], none⟩,
                           ⟨some 92, .move, [.t 13], none⟩,
                           ⟨some 93, .bin .ne, [.t 91, .t 92], none⟩] [2, 3, 6, 7, 10, 13, 93] [2, 3, 6, 10, 29, 31, 32, 36, 38, 42])
                         (.cond (.t 93)
                          (.seq
                           (.reg [] [⟨some 4, .move, [.k (.b false)], none⟩] [4] [])
                           .ret)
                          .skip))
                        (.seq
                         (.reg [0, 2, 1, 4, 5, 6, 7, 8, 9, 10, 11] [⟨some 95, .load (some 1) false, [.t 2], none⟩,
                           ⟨some 97, .load (some 1) false, [.t 3], none⟩,
                           ⟨some 96, .call [] false, [.f 16, .t 95], none⟩,
                           ⟨none, .chk (.load (some 1) false), [.t 97, .t 3], none⟩,
                           ⟨some 98, .call [] false, [.f 16, .t 97], none⟩,
                           ⟨some 99, .call [] false, [.f 43, .t 96, .t 98], none⟩,
                           ⟨some 94, .move, [.t 99], none⟩,
                           ⟨some 100, .ext 0, [.t 94], none⟩,
                           ⟨some 101, .ext 1, [.t 94], none⟩,
                           ⟨some 15, .alloc [.nils], [], none⟩,
                           ⟨none, .store 1 true, [.t 15, .t 100], none⟩,
                           ⟨some 16, .move, [.t 101], none⟩] [6, 7, 10, 13, 15, 16] [6, 10, 15, 29, 31, 32, 36, 38, 42, 96, 98, 99])
                         (.seq
                          (.seq
                           (.reg [] [⟨some 102, .load (some 1) false, [.t 15], none⟩,
                             ⟨some 103, .load (some 1) false, [.t 6], none⟩,
                             ⟨some 104, .call [] false, [.f 20, .t 102, .t 103], none⟩,
                             ⟨some 105, .not, [.t 104], none⟩,
                             ⟨some 106, .move, [.t 105], none⟩,
                             ⟨some 107, .move, [.t 16], some (106, false)⟩,
                             ⟨some 108, .move, [.t 7], some (106, false)⟩,
                             ⟨some 109, .bne, [.t 107, .t 108], some (106, false)⟩,
                             ⟨some 110, .pick, [.t 106, .k (.b true), .t 109], none⟩] [10, 13, 110] [10, 36, 38, 42])
                           (.cond (.t 110)
                            (.seq
                             (.reg [] [⟨some 4, .move, [.k (.b false)], none⟩] [4] [])
                             .ret)
                            .skip))
                          (.seq
                           (.reg [] [⟨some 14, .move, [.k (.i 1)], none⟩] [10, 13, 14] [10, 36, 38, 42])
                           (.seq
                            (.reg [] [⟨some 111, .load (some 1) false, [.t 10], none⟩,
                              ⟨some 112, .move, [.t 14], none⟩,
                              ⟨some 113, .call [] false, [.f 35, .t 111, .t 112], none⟩,
                              ⟨some 14, .move, [.t 113], none⟩] [13, 14] [])
                            (.seq
                             (.seq
                              (.reg [] [⟨some 114, .move, [.t 14], none⟩,
                                ⟨some 115, .bin .lt, [.t 114, .k (.i 0)], none⟩] [13, 14, 115] [])
                              (.cond (.t 115)
                               (.seq
                                (.reg [] [⟨some 4, .move, [.k (.b false)], none⟩] [4] [])
                                .ret)
                               .skip))
                             (.seq
                              (.seq
                               (.reg [] [⟨some 116, .move, [.t 14], none⟩,
                                 ⟨some 117, .move, [.t 13], none⟩,
                                 ⟨some 118, .bin .ne, [.t 116, .t 117], none⟩] [118] [])
                               (.cond (.t 118)
                                (.seq
                                 (.reg [] [⟨some 4, .move, [.k (.b false)], none⟩] [4] [])
                                 .ret)
                                .skip))
                              (.seq
                               (.reg [] [⟨some 4, .move, [.k (.b true)], none⟩] [4] [])
                               .ret))))))))))))))))))))))))))))))
def a9 : AF := ⟨c9, [.tmp 4]⟩
/-- spec.GraphSync -/
def c53 : AC :=
 (.seq
  (.reg [] [⟨some 3, .box, [.t 0], none⟩,
    ⟨some 4, .box, [.t 1], none⟩,
    ⟨some 6, .alloc [.nils], [], none⟩,
    ⟨some 7, .move, [.k (.b false)], none⟩] [2, 3, 4, 6] [3, 4, 6, 25, 26])
  (.seq
   (.seq
    (.reg [] [⟨some 8, .load (some 1) false, [.t 3], none⟩,
      ⟨some 9, .call [] false, [.f 59, .t 8], none⟩,
      ⟨some 10, .not, [.t 9], none⟩,
      ⟨some 11, .move, [.t 10], none⟩,
      ⟨some 12, .load (some 1) false, [.t 4], some (11, false)⟩,
      ⟨some 13, .call [] false, [.f 59, .t 12], some (11, false)⟩,
      ⟨some 14, .not, [.t 13], some (11, false)⟩,
      ⟨some 15, .pick, [.t 11, .k (.b true), .t 14], none⟩,
      ⟨some 16, .move, [.t 15], none⟩,
      ⟨some 17, .move, [.t 2], some (16, false)⟩,
      ⟨some 18, .len, [.t 17], some (16, false)⟩,
      ⟨some 19, .bin .ne, [.t 18, .k (.i 4)], some (16, false)⟩,
      ⟨some 20, .pick, [.t 16, .k (.b true), .t 19], none⟩] [2, 3, 4, 6, 20] [3, 4, 6, 25, 26])
    (.cond (.t 20)
     (.seq
      (.reg [] [⟨some 21, .build [.nils] [], [], none⟩,
        ⟨none, .store 1 true, [.t 6, .t 21], none⟩,
        ⟨some 7, .move, [.k (.b false)], none⟩] [6, 7] [6, 25, 26])
      .ret)
     .skip))
   (.seq
    (.reg [] [⟨some 22, .load (some 1) false, [.t 3], none⟩,
      ⟨some 23, .load (some 1) false, [.t 4], none⟩,
      ⟨some 24, .move, [.t 2], none⟩,
      ⟨some 25, .call [] false, [.f 105, .t 22, .t 23, .t 24, .k (.b true)], none⟩,
      ⟨some 26, .call [] false, [.f 84, .t 25], none⟩,
      ⟨some 27, .ext 0, [.t 26], none⟩,
      ⟨some 28, .ext 1, [.t 26], none⟩,
      ⟨none, .store 1 true, [.t 6, .t 27], none⟩,
      ⟨some 7, .move, [.t 28], none⟩] [6, 7] [6, 25, 26])
    .ret)))
def a53 : AF := ⟨c53, [.cell 6 (some 1), .tmp 7]⟩
def b113l0 : AC :=
 (.seq
  (.reg [] [⟨some 51, .bin .lt, [.t 50, .t 49], none⟩] [0, 1, 3, 4, 5, 9, 11, 21, 22, 23, 48, 49, 50, 51] [11, 16, 43, 71, 100])
  (.seq
   (.cond (.t 51)
    .skip
    (.exit 2))
   (.seq
    (.block 3
     (.seq
      (.reg [] [⟨some 52, .iaddr 2, [.t 48, .t 50], none⟩,
        ⟨some 53, .load (some 2) false, [.t 52], none⟩,
        ⟨some 13, .alloc [.i 0, .i 0], [], none⟩,
        ⟨none, .store 2 true, [.t 13, .t 53], none⟩] [0, 1, 3, 4, 5, 9, 11, 13, 21, 22, 23, 48, 49, 50] [11, 13, 16, 43, 71, 100])
      (.seq
       (.reg [] [⟨some 54, .faddr 0, [.t 11], none⟩,
         ⟨some 55, .load none false, [.t 54], none⟩,
         ⟨some 56, .faddr 0, [.t 13], none⟩,
         ⟨some 57, .load none false, [.t 56], none⟩,
         ⟨some 58, .bin .eq, [.t 55, .t 57], none⟩] [0, 1, 3, 4, 5, 9, 11, 13, 21, 22, 23, 48, 49, 50, 58] [11, 13, 16, 43, 71, 100])
       (.cond (.t 58)
        (.reg [] [⟨some 59, .move, [.t 9], none⟩,
          ⟨some 60, .faddr 0, [.t 11], none⟩,
          ⟨some 61, .load none false, [.t 60], none⟩,
          ⟨some 62, .faddr 1, [.t 11], none⟩,
          ⟨some 63, .load none false, [.t 62], none⟩,
          ⟨some 64, .load none false, [.t 4], none⟩,
          ⟨some 65, .bin .mul, [.t 63, .t 64], none⟩,
          ⟨some 66, .faddr 1, [.t 13], none⟩,
          ⟨some 67, .load none false, [.t 66], none⟩,
          ⟨some 68, .bin .add, [.t 65, .t 67], none⟩,
          ⟨some 69, .build [.i 0, .i 0] [(0, 1), (1, 1)], [.t 61, .t 68], none⟩,
          ⟨some 70, .bslice 2 true, [.t 69], none⟩,
          ⟨some 71, .append 2 true, [.t 59, .t 70], none⟩,
          ⟨some 9, .move, [.t 71], none⟩] [0, 1, 3, 4, 5, 9, 11, 21, 22, 23, 48, 49, 50] [11, 16, 43, 71, 100])
        .skip))))
    (.reg [] [⟨some 72, .bin .add, [.t 50, .k (.i 1)], none⟩,
      ⟨some 50, .move, [.t 72], none⟩] [0, 1, 3, 4, 5, 9, 11, 21, 22, 23, 48, 49, 50] [11, 16, 43, 71, 100]))))
def c113l0 : AC := b113l0
theorem r113l0 (call lp s) : run call lp c113l0 s = run call lp b113l0 s := rfl
def b113l1 : AC :=
 (.seq
  (.reg [] [⟨some 24, .bin .lt, [.t 23, .t 22], none⟩] [0, 1, 3, 4, 5, 9, 21, 22, 23, 24] [16, 43, 71, 100])
  (.seq
   (.cond (.t 24)
    .skip
    (.exit 0))
   (.seq
    (.block 1
     (.seq
      (.reg [] [⟨some 25, .iaddr 2, [.t 21, .t 23], none⟩,
        ⟨some 26, .load (some 2) false, [.t 25], none⟩,
        ⟨some 11, .alloc [.i 0, .i 0], [], none⟩,
        ⟨none, .store 2 true, [.t 11, .t 26], none⟩] [0, 1, 3, 4, 5, 9, 11, 21, 22, 23] [11, 16, 43, 71, 100])
      (.seq
       (.seq
        (.reg [] [⟨some 27, .faddr 0, [.t 11], none⟩,
          ⟨some 28, .load none false, [.t 27], none⟩,
          ⟨some 29, .load none false, [.t 3], none⟩,
          ⟨some 30, .call [] false, [.f 110, .t 28, .t 29], none⟩,
          ⟨some 31, .not, [.t 30], none⟩] [0, 1, 3, 4, 5, 9, 11, 21, 22, 23, 31] [11, 16, 43, 71, 100])
        (.cond (.t 31)
         (.seq
          (.reg [] [⟨some 32, .move, [.t 9], none⟩,
            ⟨some 33, .faddr 0, [.t 11], none⟩,
            ⟨some 34, .load none false, [.t 33], none⟩,
            ⟨some 35, .faddr 1, [.t 11], none⟩,
            ⟨some 36, .load none false, [.t 35], none⟩,
            ⟨some 37, .load none false, [.t 4], none⟩,
            ⟨some 38, .bin .mul, [.t 36, .t 37], none⟩,
            ⟨some 39, .move, [.t 1], none⟩,
            ⟨some 40, .bin .add, [.t 38, .t 39], none⟩,
            ⟨some 41, .build [.i 0, .i 0] [(0, 1), (1, 1)], [.t 34, .t 40], none⟩,
            ⟨some 42, .bslice 2 true, [.t 41], none⟩,
            ⟨some 43, .append 2 true, [.t 32, .t 42], none⟩,
            ⟨some 9, .move, [.t 43], none⟩] [0, 1, 3, 4, 5, 9, 21, 22, 23] [16, 43, 71, 100])
          (.exit 1))
         .skip))
       (.seq
        (.reg [] [⟨some 44, .faddr 0, [.t 5], none⟩,
          ⟨some 45, .load none false, [.t 44], none⟩,
          ⟨some 46, .move, [.t 1], none⟩,
          ⟨some 47, .iaddr 1, [.t 45, .t 46], none⟩,
          ⟨some 48, .load none false, [.t 47], none⟩,
          ⟨some 49, .len, [.t 48], none⟩,
          ⟨some 50, .move, [.k (.i 0)], none⟩] [0, 1, 3, 4, 5, 9, 11, 21, 22, 23, 48, 49, 50] [11, 16, 43, 71, 100])
        (.block 2
         (.loop [0, 1, 3, 4, 5, 9, 11, 21, 22, 23, 48, 49, 50] [11, 16, 43, 71, 100] c113l0))))))
    (.reg [] [⟨some 73, .bin .add, [.t 23, .k (.i 1)], none⟩,
      ⟨some 23, .move, [.t 73], none⟩] [0, 1, 3, 4, 5, 9, 21, 22, 23] [16, 43, 71, 100]))))
def c113l1 : AC := b113l1
theorem r113l1 (call lp s) : run call lp c113l1 s = run call lp b113l1 s := rfl
def b113l2 : AC :=
 (.seq
  (.reg [] [⟨some 81, .bin .lt, [.t 80, .t 79], none⟩] [0, 3, 4, 9, 78, 79, 80, 81] [16, 43, 71, 100])
  (.seq
   (.cond (.t 81)
    .skip
    (.exit 4))
   (.seq
    (.block 5
     (.seq
      (.reg [] [⟨some 82, .iaddr 2, [.t 78, .t 80], none⟩,
        ⟨some 83, .load (some 2) false, [.t 82], none⟩,
        ⟨some 15, .alloc [.i 0, .i 0], [], none⟩,
        ⟨none, .store 2 true, [.t 15, .t 83], none⟩] [0, 3, 4, 9, 15, 78, 79, 80] [15, 16, 43, 71, 100])
      (.seq
       (.reg [] [⟨some 84, .faddr 0, [.t 15], none⟩,
         ⟨some 85, .load none false, [.t 84], none⟩,
         ⟨some 86, .load none false, [.t 3], none⟩,
         ⟨some 87, .call [] false, [.f 110, .t 85, .t 86], none⟩,
         ⟨some 88, .not, [.t 87], none⟩] [0, 3, 4, 9, 15, 78, 79, 80, 88] [15, 16, 43, 71, 100])
       (.cond (.t 88)
        (.reg [] [⟨some 89, .move, [.t 9], none⟩,
          ⟨some 90, .faddr 0, [.t 15], none⟩,
          ⟨some 91, .load none false, [.t 90], none⟩,
          ⟨some 92, .move, [.t 0], none⟩,
          ⟨some 93, .load none false, [.t 4], none⟩,
          ⟨some 94, .bin .mul, [.t 92, .t 93], none⟩,
          ⟨some 95, .faddr 1, [.t 15], none⟩,
          ⟨some 96, .load none false, [.t 95], none⟩,
          ⟨some 97, .bin .add, [.t 94, .t 96], none⟩,
          ⟨some 98, .build [.i 0, .i 0] [(0, 1), (1, 1)], [.t 91, .t 97], none⟩,
          ⟨some 99, .bslice 2 true, [.t 98], none⟩,
          ⟨some 100, .append 2 true, [.t 89, .t 99], none⟩,
          ⟨some 9, .move, [.t 100], none⟩] [0, 3, 4, 9, 78, 79, 80] [16, 43, 71, 100])
        .skip))))
    (.reg [] [⟨some 101, .bin .add, [.t 80, .k (.i 1)], none⟩,
      ⟨some 80, .move, [.t 101], none⟩] [0, 3, 4, 9, 78, 79, 80] [16, 43, 71, 100]))))
def c113l2 : AC := b113l2
theorem r113l2 (call lp s) : run call lp c113l2 s = run call lp b113l2 s := rfl
/-- impl.GraphSync$1 -/
def c113 : AC :=
 (.seq
  (.reg [] [⟨some 8, .move, [.k (.nils)], none⟩] [0, 1, 2, 3, 4, 5] [])
  (.seq
   (.reg [] [⟨some 16, .eslice 2, [], none⟩,
     ⟨some 9, .move, [.t 16], none⟩] [0, 1, 2, 3, 4, 5, 9] [16, 43, 71, 100])
   (.seq
    (.seq
     (.reg [] [⟨some 17, .faddr 0, [.t 2], none⟩,
       ⟨some 18, .load none false, [.t 17], none⟩,
       ⟨some 19, .move, [.t 0], none⟩,
       ⟨some 20, .iaddr 1, [.t 18, .t 19], none⟩,
       ⟨some 21, .load none false, [.t 20], none⟩,
       ⟨some 22, .len, [.t 21], none⟩,
       ⟨some 23, .move, [.k (.i 0)], none⟩] [0, 1, 3, 4, 5, 9, 21, 22, 23] [16, 43, 71, 100])
     (.block 0
      (.loop [0, 1, 3, 4, 5, 9, 21, 22, 23] [16, 43, 71, 100] c113l1)))
    (.seq
     (.seq
      (.reg [] [⟨some 74, .faddr 0, [.t 5], none⟩,
        ⟨some 75, .load none false, [.t 74], none⟩,
        ⟨some 76, .move, [.t 1], none⟩,
        ⟨some 77, .iaddr 1, [.t 75, .t 76], none⟩,
        ⟨some 78, .load none false, [.t 77], none⟩,
        ⟨some 79, .len, [.t 78], none⟩,
        ⟨some 80, .move, [.k (.i 0)], none⟩] [0, 3, 4, 9, 78, 79, 80] [16, 43, 71, 100])
      (.block 4
       (.loop [0, 3, 4, 9, 78, 79, 80] [16, 43, 71, 100] c113l2)))
     (.seq
      (.reg [] [⟨some 102, .move, [.t 9], none⟩,
        ⟨some 8, .move, [.t 102], none⟩] [8] [16, 43, 71, 100])
      .ret)))))
def a113 : AF := ⟨c113, [.tmp 8]⟩
/-- impl.GraphSync -/
def c54 : AC :=
 (.seq
  (.reg [] [⟨some 3, .box, [.t 0], none⟩,
    ⟨some 4, .box, [.t 1], none⟩,
    ⟨some 5, .box, [.t 2], none⟩,
    ⟨some 6, .alloc [.nils], [], none⟩,
    ⟨some 7, .move, [.k (.b false)], none⟩] [3, 4, 5, 6] [3, 4, 5, 6, 8, 29])
  (.seq
   (.seq
    (.reg [] [⟨some 9, .load (some 1) false, [.t 3], none⟩,
      ⟨some 10, .call [] false, [.f 64, .t 9], none⟩,
      ⟨some 11, .not, [.t 10], none⟩,
      ⟨some 12, .move, [.t 11], none⟩,
      ⟨some 13, .load (some 1) false, [.t 4], some (12, false)⟩,
      ⟨some 14, .call [] false, [.f 64, .t 13], some (12, false)⟩,
      ⟨some 15, .not, [.t 14], some (12, false)⟩,
      ⟨some 16, .pick, [.t 12, .k (.b true), .t 15], none⟩,
      ⟨some 17, .move, [.t 16], none⟩,
      ⟨some 18, .load none false, [.t 5], some (17, false)⟩,
      ⟨some 19, .call [] false, [.f 109, .t 18], some (17, false)⟩,
      ⟨some 20, .not, [.t 19], some (17, false)⟩,
      ⟨some 21, .pick, [.t 17, .k (.b true), .t 20], none⟩] [3, 4, 5, 6, 21] [3, 4, 5, 6, 8, 29])
    (.cond (.t 21)
     (.seq
      (.reg [] [⟨some 22, .build [.nils] [], [], none⟩,
        ⟨none, .store 1 true, [.t 6, .t 22], none⟩,
        ⟨some 7, .move, [.k (.b false)], none⟩] [6, 7] [3, 4, 5, 6, 8, 29])
      .ret)
     .skip))
   (.seq
    (.reg [] [⟨some 23, .faddr 0, [.t 4], none⟩,
      ⟨some 24, .load none false, [.t 23], none⟩,
      ⟨some 25, .len, [.t 24], none⟩,
      ⟨some 8, .alloc [.i 0], [], none⟩,
      ⟨none, .store 1 true, [.t 8, .t 25], none⟩] [3, 4, 5, 6, 8] [3, 4, 5, 6, 8, 29])
    (.seq
     (.reg [] [⟨some 26, .load (some 1) false, [.t 3], none⟩,
       ⟨some 27, .load (some 1) false, [.t 4], none⟩,
       ⟨some 28, .mkfunc 113, [.t 3, .t 5, .t 8, .t 4], none⟩,
       ⟨some 29, .call [] false, [.f 106, .t 26, .t 27, .t 28], none⟩,
       ⟨some 30, .ext 0, [.t 29], none⟩,
       ⟨some 31, .ext 1, [.t 29], none⟩,
       ⟨none, .store 1 true, [.t 6, .t 30], none⟩,
       ⟨some 7, .move, [.t 31], none⟩] [6, 7] [3, 4, 5, 6, 8, 29])
     .ret))))
def a54 : AF := ⟨c54, [.cell 6 (some 1), .tmp 7]⟩
/-- laws.FnExactGraphSync -/
def c12 : AC :=
 (.seq
  (.reg [] [⟨some 3, .box, [.t 0], none⟩,
    ⟨some 4, .box, [.t 1], none⟩,
    ⟨some 6, .move, [.k (.b false)], none⟩] [2, 3, 4] [3, 4])
  (.seq
   (.seq
    (.reg [] [⟨some 20, .move, [.t 2], none⟩,
      ⟨some 21, .len, [.t 20], none⟩,
      ⟨some 22, .bin .gt, [.t 21, .k (.i 1048576)], none⟩] [2, 3, 4, 22] [3, 4])
    (.cond (.t 22)
     (.seq
      (.reg [] [⟨some 6, .move, [.k (.b true)], none⟩] [6] [])
      .ret)
     .skip))
   (.seq
    (.reg [] [⟨some 7, .move, [.k (.i 1048576)], none⟩] [2, 3, 4, 7] [3, 4])
    (.seq
     (.reg [] [⟨some 23, .load (some 1) false, [.t 3], none⟩,
       ⟨some 24, .move, [.t 7], none⟩,
       ⟨some 25, .call [] false, [.f 14, .t 23, .t 24], none⟩,
       ⟨some 7, .move, [.t 25], none⟩] [2, 3, 4, 7] [3, 4])
     (.seq
      (.seq
       (.reg [] [⟨some 26, .move, [.t 7], none⟩,
         ⟨some 27, .bin .lt, [.t 26, .k (.i 0)], none⟩] [2, 3, 4, 7, 27] [3, 4])
       (.cond (.t 27)
        (.seq
         (.reg [] [⟨some 6, .move, [.k (.b true)], none⟩] [6] [])
         .ret)
        .skip))
      (.seq
       (.reg [] [⟨some 28, .load (some 1) false, [.t 4], none⟩,
         ⟨some 29, .move, [.t 7], none⟩,
         ⟨some 30, .call [] false, [.f 14, .t 28, .t 29], none⟩,
         ⟨some 7, .move, [.t 30], none⟩] [2, 3, 4, 7] [3, 4])
       (.seq
        (.seq
         (.reg [] [⟨some 31, .move, [.t 7], none⟩,
           ⟨some 32, .bin .lt, [.t 31, .k (.i 0)], none⟩] [2, 3, 4, 32] [3, 4])
         (.cond (.t 32)
          (.seq
           (.reg [] [⟨some 6, .move, [.k (.b true)], none⟩] [6] [])
           .ret)
          .skip))
        (.seq
         (.reg [0, 3, 1, 5, 2, 6, 7, 8, 9, 10, 11, 12, 13] [⟨some 34, .load (some 1) false, [.t 3], none⟩,
           ⟨some 36, .load (some 1) false, [.t 4], none⟩,
           ⟨some 38, .move, [.t 2], none⟩,
           ⟨some 35, .call [] false, [.f 16, .t 34], none⟩,
           ⟨none, .chk (.load (some 1) false), [.t 36, .t 4], none⟩,
           ⟨some 37, .call [] false, [.f 16, .t 36], none⟩,
           ⟨some 39, .call [] false, [.f 45, .t 38], none⟩,
           ⟨some 40, .call [] false, [.f 53, .t 35, .t 37, .t 39], none⟩,
           ⟨some 33, .move, [.t 40], none⟩,
           ⟨some 41, .ext 0, [.t 33], none⟩,
           ⟨some 42, .ext 1, [.t 33], none⟩,
           ⟨some 8, .alloc [.nils], [], none⟩,
           ⟨none, .store 1 true, [.t 8, .t 41], none⟩,
           ⟨some 9, .move, [.t 42], none⟩] [2, 3, 4, 8, 9] [3, 4, 8, 35, 37, 39, 40])
         (.seq
          (.reg [] [⟨some 43, .load (some 1) false, [.t 3], none⟩,
            ⟨some 44, .call [] false, [.f 16, .t 43], none⟩,
            ⟨some 10, .alloc [.nils], [], none⟩,
            ⟨none, .store 1 true, [.t 10, .t 44], none⟩] [2, 3, 4, 8, 9, 10] [3, 4, 8, 10, 35, 37, 39, 40, 44])
          (.seq
           (.reg [] [⟨some 45, .load (some 1) false, [.t 4], none⟩,
             ⟨some 46, .call [] false, [.f 16, .t 45], none⟩,
             ⟨some 11, .alloc [.nils], [], none⟩,
             ⟨none, .store 1 true, [.t 11, .t 46], none⟩] [2, 3, 4, 8, 9, 10, 11] [3, 4, 8, 10, 11, 35, 37, 39, 40, 44, 46])
           (.seq
            (.reg [] [⟨some 47, .move, [.t 2], none⟩,
              ⟨some 48, .call [] false, [.f 45, .t 47], none⟩,
              ⟨some 12, .move, [.t 48], none⟩] [2, 3, 4, 8, 9, 10, 11, 12] [3, 4, 8, 10, 11, 35, 37, 39, 40, 44, 46, 48])
            (.seq
             (.reg [] [⟨some 50, .load (some 1) false, [.t 10], none⟩,
               ⟨some 51, .load (some 1) false, [.t 11], none⟩,
               ⟨some 52, .move, [.t 12], none⟩,
               ⟨some 53, .call [] false, [.f 54, .t 50, .t 51, .t 52], none⟩,
               ⟨some 49, .move, [.t 53], none⟩,
               ⟨some 54, .ext 0, [.t 49], none⟩,
               ⟨some 55, .ext 1, [.t 49], none⟩,
               ⟨some 13, .alloc [.nils], [], none⟩,
               ⟨none, .store 1 true, [.t 13, .t 54], none⟩,
               ⟨some 14, .move, [.t 55], none⟩] [2, 3, 4, 8, 9, 10, 11, 12, 13, 14] [3, 4, 8, 10, 11, 13, 35, 37, 39, 40, 44, 46, 48, 53])
             (.seq
              (.seq
               (.reg [] [⟨some 56, .load (some 1) false, [.t 13], none⟩,
                 ⟨some 57, .load (some 1) false, [.t 8], none⟩,
                 ⟨some 58, .call [] false, [.f 20, .t 56, .t 57], none⟩,
                 ⟨some 59, .not, [.t 58], none⟩,
                 ⟨some 60, .move, [.t 59], none⟩,
                 ⟨some 61, .move, [.t 14], some (60, false)⟩,
                 ⟨some 62, .move, [.t 9], some (60, false)⟩,
                 ⟨some 63, .bne, [.t 61, .t 62], some (60, false)⟩,
                 ⟨some 64, .pick, [.t 60, .k (.b true), .t 63], none⟩] [2, 3, 4, 8, 9, 10, 11, 12, 13, 14, 64] [3, 4, 8, 10, 11, 13, 35, 37, 39, 40, 44, 46, 48, 53])
               (.cond (.t 64)
                (.seq
                 (.reg [] [⟨some 6, .move, [.k (.b false)], none⟩] [6] [])
                 .ret)
                .skip))
              (.seq
               (.seq
                (.reg [0, 1, 2, 4, 5] [⟨some 65, .load (some 1) false, [.t 10], none⟩,
                  ⟨some 66, .load (some 1) false, [.t 3], none⟩,
                  ⟨some 67, .call [] false, [.f 16, .t 66], none⟩,
                  ⟨none, .chk (.load (some 1) false), [.t 65, .t 10], none⟩,
                  ⟨some 68, .call [] false, [.f 20, .t 65, .t 67], none⟩,
                  ⟨some 69, .not, [.t 68], none⟩] [2, 3, 4, 8, 9, 10, 11, 12, 13, 14, 69] [3, 4, 8, 10, 11, 13, 35, 37, 39, 40, 44, 46, 48, 53])
                (.cond (.t 69)
                 (.seq
                  (.reg [] [⟨some 6, .move, [.k (.b false)], none⟩] [6] [])
                  .ret)
                 .skip))
               (.seq
                (.seq
                 (.reg [0, 1, 2, 4, 5] [⟨some 70, .load (some 1) false, [.t 11], none⟩,
                   ⟨some 71, .load (some 1) false, [.t 4], none⟩,
                   ⟨some 72, .call [] false, [.f 16, .t 71], none⟩,
                   ⟨none, .chk (.load (some 1) false), [.t 70, .t 11], none⟩,
                   ⟨some 73, .call [] false, [.f 20, .t 70, .t 72], none⟩,
                   ⟨some 74, .not, [.t 73], none⟩] [2, 3, 4, 8, 9, 10, 11, 12, 13, 14, 74] [3, 4, 8, 10, 11, 13, 35, 37, 39, 40, 44, 46, 48, 53])
                 (.cond (.t 74)
                  (.seq
                   (.reg [] [⟨some 6, .move, [.k (.b false)], none⟩] [6] [])
                   .ret)
                  .skip))
                (.seq
                 (.seq
                  (.reg [] [⟨some 75, .move, [.t 12], none⟩,
                    ⟨some 76, .move, [.t 2], none⟩,
                    ⟨some 77, .call [] false, [.f 45, .t 76], none⟩,
                    ⟨some 78, .call [] false, [.f 47, .t 75, .t 77], none⟩,
                    ⟨some 79, .not, [.t 78], none⟩] [2, 3, 4, 8, 9, 10, 11, 12, 13, 14, 79] [3, 4, 8, 10, 11, 13, 35, 37, 39, 40, 44, 46, 48, 53])
                  (.cond (.t 79)
                   (.seq
                    (.reg [] [⟨some 6, .move, [.k (.b false)], none⟩] [6] [])
                    .ret)
                   .skip))
                 (.seq
                  (.reg [] [⟨some 15, .move, [.k (.i 1)], none⟩] [2, 3, 4, 8, 9, 10, 11, 12, 13, 14, 15] [3, 4, 8, 10, 11, 13, 35, 37, 39, 40, 44, 46, 48, 53])
                  (.seq
                   (.reg [] [⟨some 80, .load (some 1) false, [.t 10], none⟩,
                     ⟨some 81, .move, [.t 15], none⟩,
                     ⟨some 82, .call [0] false, [.f 21, .t 80, .t 81], none⟩,
                     ⟨some 15, .move, [.t 82], none⟩] [2, 3, 4, 8, 9, 11, 12, 13, 14, 15] [3, 4, 8, 11, 13, 35, 37, 39, 40, 44, 46, 48, 53])
                   (.seq
                    (.reg [] [⟨some 83, .load (some 1) false, [.t 11], none⟩,
                      ⟨some 84, .move, [.t 15], none⟩,
                      ⟨some 85, .call [0] false, [.f 21, .t 83, .t 84], none⟩,
                      ⟨some 15, .move, [.t 85], none⟩] [2, 3, 4, 8, 9, 12, 13, 14, 15] [3, 4, 8, 13, 35, 37, 39, 40, 44, 46, 48, 53])
                    (.seq
                     (.reg [] [⟨some 86, .move, [.t 12], none⟩,
                       ⟨some 87, .move, [.t 15], none⟩,
                       ⟨some 88, .call [0] false, [.f 48, .t 86, .t 87], none⟩,
                       ⟨some 15, .move, [.t 88], none⟩] [2, 3, 4, 8, 9, 13, 14, 15] [3, 4, 8, 13, 35, 37, 39, 40, 44, 46, 48, 53])
                     (.seq
                      (.seq
                       (.reg [] [⟨some 89, .move, [.t 15], none⟩,
                         ⟨some 90, .bin .lt, [.t 89, .k (.i 0)], none⟩,
                         ⟨some 91, .move, [.t 90], none⟩,
                         ⟨some 92, .load (some 1) false, [.t 13], some (91, false)⟩,
                         ⟨some 93, .load (some 1) false, [.t 8], some (91, false)⟩,
                         ⟨some 94, .call [] false, [.f 20, .t 92, .t 93], some (91, false)⟩,
                         ⟨some 95, .not, [.t 94], some (91, false)⟩,
                         ⟨some 96, .pick, [.t 91, .k (.b true), .t 95], none⟩,
                         ⟨some 97, .move, [.t 96], none⟩,
                         ⟨some 98, .move, [.t 14], some (97, false)⟩,
                         ⟨some 99, .move, [.t 9], some (97, false)⟩,
                         ⟨some 100, .bne, [.t 98, .t 99], some (97, false)⟩,
                         ⟨some 101, .pick, [.t 97, .k (.b true), .t 100], none⟩] [2, 3, 4, 8, 9, 13, 101] [3, 4, 8, 13, 35, 37, 39, 40, 44, 46, 48, 53])
                       (.cond (.t 101)
                        (.seq
                         (.reg [] [⟨some 6, .move, [.k (.b false)], none⟩] [6] [])
                         .ret)
                        .skip))
                      (.seq
                       (.reg [] [⟨some 16, .move, [.k (.i 1)], none⟩] [2, 3, 4, 8, 9, 13, 16] [3, 4, 8, 13, 35, 37, 39, 40, 44, 46, 48, 53])
                       (.seq
                        (.reg [] [⟨some 102, .load (some 1) false, [.t 13], none⟩,
                          ⟨some 103, .move, [.t 16], none⟩,
                          ⟨some 104, .call [0] false, [.f 21, .t 102, .t 103], none⟩,
                          ⟨some 16, .move, [.t 104], none⟩] [2, 3, 4, 8, 9, 13, 16] [3, 4, 8, 13, 35, 37, 39, 40, 44, 46, 48, 53])
                        (.seq
                         (.reg [] [⟨some 17, .move, [.k (.i 1)], none⟩] [2, 3, 4, 8, 9, 13, 16, 17] [3, 4, 8, 13, 35, 37, 39, 40, 44, 46, 48, 53])
                         (.seq
                          (.reg [] [⟨some 105, .load (some 1) false, [.t 13], none⟩,
                            ⟨some 106, .move, [.t 17], none⟩,
                            ⟨some 107, .call [] false, [.f 35, .t 105, .t 106], none⟩,
                            ⟨some 17, .move, [.t 107], none⟩] [2, 3, 4, 8, 9, 13, 16, 17] [3, 4, 8, 13, 35, 37, 39, 40, 44, 46, 48, 53])
                          (.seq
                           (.seq
                            (.reg [] [⟨some 108, .move, [.t 17], none⟩,
                              ⟨some 109, .bin .lt, [.t 108, .k (.i 0)], none⟩] [2, 3, 4, 8, 9, 13, 16, 17, 109] [3, 4, 8, 13, 35, 37, 39, 40, 44, 46, 48, 53])
                            (.cond (.t 109)
                             (.seq
                              (.reg [] [⟨some 6, .move, [.k (.b false)], none⟩] [6] [])
                              .ret)
                             .skip))
                           (.seq
                            (.seq
                             (.reg [] [⟨some 110, .move, [.t 17], none⟩,
                               ⟨some 111, .move, [.t 16], none⟩,
                               ⟨some 112, .bin .ne, [.t 110, .t 111], none⟩] [2, 3, 4, 8, 9, 13, 16, 112] [3, 4, 8, 13, 35, 37, 39, 40, 44, 46, 48, 53])
                             (.cond (.t 112)
                              (.seq
                               (.reg [] [⟨some 6, .move, [.k (.b false)], none⟩] [6] [])
                               .ret)
                              .skip))
                            (.seq
                             (.reg [0, 3, 1, 5, 2, 6, 7, 8, 9, 10, 11, 12, 13] [⟨some 114, .load (some 1) false, [.t 3], none⟩,
                               ⟨some 116, .load (some 1) false, [.t 4], none⟩,
                               ⟨some 118, .move, [.t 2], none⟩,
                               ⟨some 115, .call [] false, [.f 16, .t 114], none⟩,
                               ⟨none, .chk (.load (some 1) false), [.t 116, .t 4], none⟩,
                               ⟨some 117, .call [] false, [.f 16, .t 116], none⟩,
                               ⟨some 119, .call [] false, [.f 45, .t 118], none⟩,
                               ⟨some 120, .call [] false, [.f 54, .t 115, .t 117, .t 119], none⟩,
                               ⟨some 113, .move, [.t 120], none⟩,
                               ⟨some 121, .ext 0, [.t 113], none⟩,
                               ⟨some 122, .ext 1, [.t 113], none⟩,
                               ⟨some 18, .alloc [.nils], [], none⟩,
                               ⟨none, .store 1 true, [.t 18, .t 121], none⟩,
                               ⟨some 19, .move, [.t 122], none⟩] [8, 9, 13, 16, 18, 19] [8, 13, 18, 35, 37, 39, 40, 44, 46, 48, 53, 115, 117, 119, 120])
                             (.seq
                              (.seq
                               (.reg [] [⟨some 123, .load (some 1) false, [.t 18], none⟩,
                                 ⟨some 124, .load (some 1) false, [.t 8], none⟩,
                                 ⟨some 125, .call [] false, [.f 20, .t 123, .t 124], none⟩,
                                 ⟨some 126, .not, [.t 125], none⟩,
                                 ⟨some 127, .move, [.t 126], none⟩,
                                 ⟨some 128, .move, [.t 19], some (127, false)⟩,
                                 ⟨some 129, .move, [.t 9], some (127, false)⟩,
                                 ⟨some 130, .bne, [.t 128, .t 129], some (127, false)⟩,
                                 ⟨some 131, .pick, [.t 127, .k (.b true), .t 130], none⟩] [13, 16, 131] [13, 44, 46, 48, 53])
                               (.cond (.t 131)
                                (.seq
                                 (.reg [] [⟨some 6, .move, [.k (.b false)], none⟩] [6] [])
                                 .ret)
                                .skip))
                              (.seq
                               (.reg [] [⟨some 17, .move, [.k (.i 1)], none⟩] [13, 16, 17] [13, 44, 46, 48, 53])
                               (.seq
                                (.reg [] [⟨some 132, .load (some 1) false, [.t 13], none⟩,
                                  ⟨some 133, .move, [.t 17], none⟩,
                                  ⟨some 134, .call [] false, [.f 35, .t 132, .t 133], none⟩,
                                  ⟨some 17, .move, [.t 134], none⟩] [16, 17] [])
                                (.seq
                                 (.seq
                                  (.reg [] [⟨some 135, .move, [.t 17], none⟩,
                                    ⟨some 136, .bin .lt, [.t 135, .k (.i 0)], none⟩] [16, 17, 136] [])
                                  (.cond (.t 136)
                                   (.seq
                                    (.reg [] [⟨some 6, .move, [.k (.b false)], none⟩] [6] [])
                                    .ret)
                                   .skip))
                                 (.seq
                                  (.seq
                                   (.reg [] [⟨some 137, .move, [.t 17], none⟩,
                                     ⟨some 138, .move, [.t 16], none⟩,
                                     ⟨some 139, .bin .ne, [.t 137, .t 138], none⟩] [139] [])
                                   (.cond (.t 139)
                                    (.seq
                                     (.reg [] [⟨some 6, .move, [.k (.b false)], none⟩] [6] [])
                                     .ret)
                                    .skip))
                                  (.seq
                                   (.reg [] [⟨some 6, .move, [.k (.b true)], none⟩] [6] [])
                                   .ret))))))))))))))))))))))))))))))))))
def a12 : AF := ⟨c12, [.tmp 6]⟩
theorem ok117 : okF Try.prog 117 a117 = true := by kernel_rfl
theorem ok58 : okF Try.prog 58 a58 = true := by kernel_rfl
theorem ok14 : okF Try.prog 14 a14 = true := by kernel_rfl
theorem ok150 : okF Try.prog 150 a150 = true := by kernel_rfl
theorem ok120 : okF Try.prog 120 a120 = true := by kernel_rfl
theorem ok63 : okF Try.prog 63 a63 = true := by kernel_rfl
theorem ok16 : okF Try.prog 16 a16 = true := by kernel_rfl
theorem ok60 : okF Try.prog 60 a60 = true := by kernel_rfl
theorem ok83 : okF Try.prog 83 a83 = true := by kernel_rfl
theorem ok118 : okF Try.prog 118 a118 = true := by kernel_rfl
theorem ok59 : okF Try.prog 59 a59 = true := by kernel_rfl
theorem ok85 : okF Try.prog 85 a85 = true := by kernel_rfl
theorem ok161 : okF Try.prog 161 a161 = true := by kernel_rfl
theorem ok90 : okF Try.prog 90 a90 = true := by kernel_rfl
theorem ok138 : okF Try.prog 138 a138 = true := by kernel_rfl
theorem ok84 : okF Try.prog 84 a84 = true := by kernel_rfl
theorem ok33 : okF Try.prog 33 a33 = true := by kernel_rfl
theorem ok86 : okF Try.prog 86 a86 = true := by kernel_rfl
theorem ok169 : okF Try.prog 169 a169 = true := by kernel_rfl
theorem ok151 : okF Try.prog 151 a151 = true := by kernel_rfl
theorem ok121 : okF Try.prog 121 a121 = true := by kernel_rfl
theorem ok64 : okF Try.prog 64 a64 = true := by kernel_rfl
theorem ok87 : okF Try.prog 87 a87 = true := by kernel_rfl
theorem ok139 : okF Try.prog 139 a139 = true := by kernel_rfl
theorem ok142 : okF Try.prog 142 a142 = true := by kernel_rfl
theorem ok91 : okF Try.prog 91 a91 = true := by kernel_rfl
theorem ok88 : okF Try.prog 88 a88 = true := by kernel_rfl
theorem ok34 : okF Try.prog 34 a34 = true := by kernel_rfl
theorem ok154 : okF Try.prog 154 a154 = true := by kernel_rfl
theorem ok124 : okF Try.prog 124 a124 = true := by kernel_rfl
theorem ok68 : okF Try.prog 68 a68 = true := by kernel_rfl
theorem ok20 : okF Try.prog 20 a20 = true := by kernel_rfl
theorem ok125 : okF Try.prog 125 a125 = true := by kernel_rfl
theorem ok69 : okF Try.prog 69 a69 = true := by kernel_rfl
theorem ok21 : okF Try.prog 21 a21 = true := by kernel_rfl
theorem ok140 : okF Try.prog 140 a140 = true := by kernel_rfl
theorem ok89 : okF Try.prog 89 a89 = true := by kernel_rfl
theorem ok35 : okF Try.prog 35 a35 = true := by kernel_rfl
theorem ok5 : okF Try.prog 5 a5 = true := by kernel_rfl
theorem ok92 : okF Try.prog 92 a92 = true := by kernel_rfl
theorem ok38 : okF Try.prog 38 a38 = true := by kernel_rfl
theorem ok93 : okF Try.prog 93 a93 = true := by kernel_rfl
theorem ok95 : okF Try.prog 95 a95 = true := by kernel_rfl
theorem ok97 : okF Try.prog 97 a97 = true := by kernel_rfl
theorem ok96 : okF Try.prog 96 a96 = true := by kernel_rfl
theorem ok143 : okF Try.prog 143 a143 = true := by kernel_rfl
theorem ok94 : okF Try.prog 94 a94 = true := by kernel_rfl
theorem ok39 : okF Try.prog 39 a39 = true := by kernel_rfl
theorem ok7 : okF Try.prog 7 a7 = true := by kernel_rfl
theorem ok45 : okF Try.prog 45 a45 = true := by kernel_rfl
theorem ok108 : okF Try.prog 108 a108 = true := by kernel_rfl
theorem ok44 : okF Try.prog 44 a44 = true := by kernel_rfl
theorem ok109 : okF Try.prog 109 a109 = true := by kernel_rfl
theorem ok110 : okF Try.prog 110 a110 = true := by kernel_rfl
theorem ok46 : okF Try.prog 46 a46 = true := by kernel_rfl
theorem ok47 : okF Try.prog 47 a47 = true := by kernel_rfl
theorem ok48 : okF Try.prog 48 a48 = true := by kernel_rfl
theorem ok10 : okF Try.prog 10 a10 = true := by kernel_rfl
theorem ok36 : okF Try.prog 36 a36 = true := by kernel_rfl
theorem ok37 : okF Try.prog 37 a37 = true := by kernel_rfl
theorem ok6 : okF Try.prog 6 a6 = true := by kernel_rfl
theorem ok105 : okF Try.prog 105 a105 = true := by kernel_rfl
theorem ok42 : okF Try.prog 42 a42 = true := by kernel_rfl
theorem ok107 : okF Try.prog 107 a107 = true := by kernel_rfl
theorem ok106 : okF Try.prog 106 a106 = true := by kernel_rfl
theorem ok43 : okF Try.prog 43 a43 = true := by kernel_rfl
theorem ok9 : okF Try.prog 9 a9 = true := by kernel_rfl
theorem ok53 : okF Try.prog 53 a53 = true := by kernel_rfl
theorem ok113 : okF Try.prog 113 a113 = true := by kernel_rfl
theorem ok54 : okF Try.prog 54 a54 = true := by kernel_rfl
theorem ok12 : okF Try.prog 12 a12 = true := by kernel_rfl
def codes : Nat → Option AF
  | 117 => some a117
  | 58 => some a58
  | 14 => some a14
  | 150 => some a150
  | 120 => some a120
  | 63 => some a63
  | 16 => some a16
  | 60 => some a60
  | 83 => some a83
  | 118 => some a118
  | 59 => some a59
  | 85 => some a85
  | 161 => some a161
  | 90 => some a90
  | 138 => some a138
  | 84 => some a84
  | 33 => some a33
  | 86 => some a86
  | 169 => some a169
  | 151 => some a151
  | 121 => some a121
  | 64 => some a64
  | 87 => some a87
  | 139 => some a139
  | 142 => some a142
  | 91 => some a91
  | 88 => some a88
  | 34 => some a34
  | 154 => some a154
  | 124 => some a124
  | 68 => some a68
  | 20 => some a20
  | 125 => some a125
  | 69 => some a69
  | 21 => some a21
  | 140 => some a140
  | 89 => some a89
  | 35 => some a35
  | 5 => some a5
  | 92 => some a92
  | 38 => some a38
  | 93 => some a93
  | 95 => some a95
  | 97 => some a97
  | 96 => some a96
  | 143 => some a143
  | 94 => some a94
  | 39 => some a39
  | 7 => some a7
  | 45 => some a45
  | 108 => some a108
  | 44 => some a44
  | 109 => some a109
  | 110 => some a110
  | 46 => some a46
  | 47 => some a47
  | 48 => some a48
  | 10 => some a10
  | 36 => some a36
  | 37 => some a37
  | 6 => some a6
  | 105 => some a105
  | 42 => some a42
  | 107 => some a107
  | 106 => some a106
  | 43 => some a43
  | 9 => some a9
  | 53 => some a53
  | 113 => some a113
  | 54 => some a54
  | 12 => some a12
  | _ => none
def G0 : Prog := ⟨codes, fun _ => none⟩
theorem g117 : codes 117 = some a117 := rfl
theorem g58 : codes 58 = some a58 := rfl
theorem g14 : codes 14 = some a14 := rfl
theorem g150 : codes 150 = some a150 := rfl
theorem g120 : codes 120 = some a120 := rfl
theorem g63 : codes 63 = some a63 := rfl
theorem g16 : codes 16 = some a16 := rfl
theorem g60 : codes 60 = some a60 := rfl
theorem g83 : codes 83 = some a83 := rfl
theorem g118 : codes 118 = some a118 := rfl
theorem g59 : codes 59 = some a59 := rfl
theorem g85 : codes 85 = some a85 := rfl
theorem g161 : codes 161 = some a161 := rfl
theorem g90 : codes 90 = some a90 := rfl
theorem g138 : codes 138 = some a138 := rfl
theorem g84 : codes 84 = some a84 := rfl
theorem g33 : codes 33 = some a33 := rfl
theorem g86 : codes 86 = some a86 := rfl
theorem g169 : codes 169 = some a169 := rfl
theorem g151 : codes 151 = some a151 := rfl
theorem g121 : codes 121 = some a121 := rfl
theorem g64 : codes 64 = some a64 := rfl
theorem g87 : codes 87 = some a87 := rfl
theorem g139 : codes 139 = some a139 := rfl
theorem g142 : codes 142 = some a142 := rfl
theorem g91 : codes 91 = some a91 := rfl
theorem g88 : codes 88 = some a88 := rfl
theorem g34 : codes 34 = some a34 := rfl
theorem g154 : codes 154 = some a154 := rfl
theorem g124 : codes 124 = some a124 := rfl
theorem g68 : codes 68 = some a68 := rfl
theorem g20 : codes 20 = some a20 := rfl
theorem g125 : codes 125 = some a125 := rfl
theorem g69 : codes 69 = some a69 := rfl
theorem g21 : codes 21 = some a21 := rfl
theorem g140 : codes 140 = some a140 := rfl
theorem g89 : codes 89 = some a89 := rfl
theorem g35 : codes 35 = some a35 := rfl
theorem g5 : codes 5 = some a5 := rfl
theorem g92 : codes 92 = some a92 := rfl
theorem g38 : codes 38 = some a38 := rfl
theorem g93 : codes 93 = some a93 := rfl
theorem g95 : codes 95 = some a95 := rfl
theorem g97 : codes 97 = some a97 := rfl
theorem g96 : codes 96 = some a96 := rfl
theorem g143 : codes 143 = some a143 := rfl
theorem g94 : codes 94 = some a94 := rfl
theorem g39 : codes 39 = some a39 := rfl
theorem g7 : codes 7 = some a7 := rfl
theorem g45 : codes 45 = some a45 := rfl
theorem g108 : codes 108 = some a108 := rfl
theorem g44 : codes 44 = some a44 := rfl
theorem g109 : codes 109 = some a109 := rfl
theorem g110 : codes 110 = some a110 := rfl
theorem g46 : codes 46 = some a46 := rfl
theorem g47 : codes 47 = some a47 := rfl
theorem g48 : codes 48 = some a48 := rfl
theorem g10 : codes 10 = some a10 := rfl
theorem g36 : codes 36 = some a36 := rfl
theorem g37 : codes 37 = some a37 := rfl
theorem g6 : codes 6 = some a6 := rfl
theorem g105 : codes 105 = some a105 := rfl
theorem g42 : codes 42 = some a42 := rfl
theorem g107 : codes 107 = some a107 := rfl
theorem g106 : codes 106 = some a106 := rfl
theorem g43 : codes 43 = some a43 := rfl
theorem g9 : codes 9 = some a9 := rfl
theorem g53 : codes 53 = some a53 := rfl
theorem g113 : codes 113 = some a113 := rfl
theorem g54 : codes 54 = some a54 := rfl
theorem g12 : codes 12 = some a12 := rfl
theorem gp0 (n : Nat) : G0.prim n = none := rfl
theorem progOK0 : ProgOK Try.prog G0 := by
  refine ⟨by kernel_rfl, fun f af _ h => ?_, fun f p h => by cases h⟩
  simp only [G0] at h
  unfold codes at h
  split at h
  · cases h; exact ok117
  · cases h; exact ok58
  · cases h; exact ok14
  · cases h; exact ok150
  · cases h; exact ok120
  · cases h; exact ok63
  · cases h; exact ok16
  · cases h; exact ok60
  · cases h; exact ok83
  · cases h; exact ok118
  · cases h; exact ok59
  · cases h; exact ok85
  · cases h; exact ok161
  · cases h; exact ok90
  · cases h; exact ok138
  · cases h; exact ok84
  · cases h; exact ok33
  · cases h; exact ok86
  · cases h; exact ok169
  · cases h; exact ok151
  · cases h; exact ok121
  · cases h; exact ok64
  · cases h; exact ok87
  · cases h; exact ok139
  · cases h; exact ok142
  · cases h; exact ok91
  · cases h; exact ok88
  · cases h; exact ok34
  · cases h; exact ok154
  · cases h; exact ok124
  · cases h; exact ok68
  · cases h; exact ok20
  · cases h; exact ok125
  · cases h; exact ok69
  · cases h; exact ok21
  · cases h; exact ok140
  · cases h; exact ok89
  · cases h; exact ok35
  · cases h; exact ok5
  · cases h; exact ok92
  · cases h; exact ok38
  · cases h; exact ok93
  · cases h; exact ok95
  · cases h; exact ok97
  · cases h; exact ok96
  · cases h; exact ok143
  · cases h; exact ok94
  · cases h; exact ok39
  · cases h; exact ok7
  · cases h; exact ok45
  · cases h; exact ok108
  · cases h; exact ok44
  · cases h; exact ok109
  · cases h; exact ok110
  · cases h; exact ok46
  · cases h; exact ok47
  · cases h; exact ok48
  · cases h; exact ok10
  · cases h; exact ok36
  · cases h; exact ok37
  · cases h; exact ok6
  · cases h; exact ok105
  · cases h; exact ok42
  · cases h; exact ok107
  · cases h; exact ok106
  · cases h; exact ok43
  · cases h; exact ok9
  · cases h; exact ok53
  · cases h; exact ok113
  · cases h; exact ok54
  · cases h; exact ok12
  · cases h
end Go.Am
end
