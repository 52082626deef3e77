/- The annotated code of the functions that the law reaches. -/
import Derived.Test.YtopipkiebngakaaAnC
import Derived.Test.YtopipkiebngakaaProg
import Derived.KernelRfl
import Derived.Test.YtopipkiebngakaaAnD
section
set_option maxRecDepth 100000
namespace Go.Am
open Go.Proofs
abbrev AI.a (d : Nat) (k : K) (xs : List Opd) : AI := ⟨some d,k,xs,none⟩
abbrev AI.v (d x : Nat) : AI := ⟨some d,.move,[.t x],none⟩
abbrev AI.u (d : Nat) (k : K) (x : Nat) : AI := ⟨some d,k,[.t x],none⟩
abbrev AI.w (d : Nat) (k : K) (x y : Nat) : AI := ⟨some d,k,[.t x,.t y],none⟩
abbrev AI.n (k : K) (x y : Nat) : AI := ⟨none,k,[.t x,.t y],none⟩
abbrev AI.q (d : Nat) (k : K) (xs : List Opd) (i : Nat) (b : Bool) : AI := ⟨some d,k,xs,some (i,b)⟩
abbrev K.l0 : K := .load none false
abbrev K.l1 (n : Nat) : K := .load (some n) false
def c14 : AC :=
 (.seq
 (.reg [] [.a 2 .move [.k (.sc (.pointer none))]] [0] [7])
 (.seq
 (.seq
 (.reg [] [.v 3 0,
 .u 4 .len 3,
 .a 5 (.bin .gt) [.t 4,.k (.i 2000)]] [0,5] [7])
 (.cond (.t 5)
 (.reg [] [.v 6 0,
 .a 7 (.slice 1 false true) [.t 6,.k (.i 2000)],
 .v 0 7] [0] [7])
 .skip))
 (.seq
 (.reg [] [.v 8 0,
 .u 9 (.build [.nils,.i 0] [(0,1)]) 8,
 .u 10 .box 9,
 .v 2 10] [2] [7,10])
 .ret)))
def a14 : AF := ⟨c14,[.tmp 2]⟩
def c25 : AC :=
 (.seq
 (.reg [] [.a 4 .move [.k (.i 0)]] [0,1] [])
 (.seq
 (.reg [] [.v 7 0,
 .v 8 0,
 .u 9 .nck 8,
 .u 10 (.faddr 1) 9,
 .u 11 .l0 10,
 .a 12 (.bin .add) [.t 11,.k (.i 1)],
 .u 13 .nck 7,
 .u 14 (.faddr 1) 13,
 .n (.store 1 true) 14 12] [0,1] [])
 (.seq
 (.seq
 (.reg [] [.v 15 1,
 .a 16 (.bin .lt) [.t 15,.k (.i 1)],
 .v 17 16,
 .q 18 .move [.t 0] 17 false,
 .q 19 .nck [.t 18] 17 false,
 .q 20 (.faddr 0) [.t 19] 17 false,
 .q 21 .l0 [.t 20] 17 false,
 .q 22 .len [.t 21] 17 false,
 .q 23 (.bin .eq) [.t 22,.k (.i 0)] 17 false,
 .a 24 .pick [.t 17,.k (.b true),.t 23]] [0,1,24] [])
 (.cond (.t 24)
 (.seq
 (.reg [] [.a 4 .move [.k (.i 0)]] [4] [])
 .ret)
 .skip))
 (.seq
 (.reg [] [.v 25 0,
 .u 26 .nck 25,
 .u 27 (.faddr 1) 26,
 .u 28 .l0 27,
 .a 29 (.bin .sub) [.t 28,.k (.i 1)],
 .v 5 29] [0,1,5] [])
 (.seq
 (.seq
 (.reg [] [.v 30 5,
 .v 31 0,
 .u 32 .nck 31,
 .u 33 (.faddr 0) 32,
 .u 34 .l0 33,
 .u 35 .len 34,
 .w 36 (.bin .lt) 30 35] [0,1,5,36] [])
 (.cond (.t 36)
 (.seq
 (.reg [] [.v 37 0,
 .u 38 .nck 37,
 .u 39 (.faddr 0) 38,
 .u 40 .l0 39,
 .v 41 5,
 .w 42 (.iaddr 1) 40 41,
 .u 43 .l0 42,
 .u 44 (.conv .i64) 43,
 .v 45 1,
 .w 46 (.bin .rem) 44 45,
 .v 4 46] [4] [])
 .ret)
 .skip))
 (.seq
 (.reg [0,1,2,3,4,5,6,7,8,9,10,11,12,13,14,15,16,17,18,19,20,21,22,23,24,25,26,27,28,29,30,31,32,33,34,35,36,37,38,39,40,41,42,43,44,45] [.v 47 0,
 .u 48 .nck 47,
 .u 49 (.faddr 0) 48,
 .u 50 .l0 49,
 .v 51 5,
 .v 52 0,
 .u 53 .nck 52,
 .u 54 (.faddr 0) 53,
 .u 55 .l0 54,
 .u 56 .len 55,
 .w 57 (.bin .rem) 51 56,
 .w 58 (.iaddr 1) 50 57,
 .u 59 .l0 58,
 .u 60 (.conv .i64) 59,
 .a 61 (.bin .mul) [.t 60,.k (.i 131)],
 .v 62 0,
 .u 63 .nck 62,
 .u 64 (.faddr 0) 63,
 .u 65 .l0 64,
 .v 66 5,
 .a 67 (.bin .mul) [.t 66,.k (.i 7)],
 .a 68 (.bin .add) [.t 67,.k (.i 3)],
 .v 69 0,
 .u 70 .nck 69,
 .u 71 (.faddr 0) 70,
 .u 72 .l0 71,
 .u 73 .len 72,
 .w 74 (.bin .rem) 68 73,
 .w 75 (.iaddr 1) 65 74,
 .u 76 .l0 75,
 .u 77 (.conv .i64) 76,
 .a 78 (.bin .mul) [.t 77,.k (.i 1117)],
 .w 79 (.bin .add) 61 78,
 .v 80 5,
 .a 81 (.bin .mul) [.t 80,.k (.i 29)],
 .w 82 (.bin .add) 79 81,
 .v 83 5,
 .v 84 0,
 .u 85 .nck 84,
 .u 86 (.faddr 0) 85,
 .u 87 .l0 86,
 .u 88 .len 87,
 .w 89 (.bin .quo) 83 88,
 .a 90 (.bin .mul) [.t 89,.k (.i 53)],
 .w 91 (.bin .add) 82 90,
 .v 6 91] [1,6] [])
 (.seq
 (.reg [] [.v 92 6,
 .v 93 6,
 .a 94 (.bin .quo) [.t 93,.k (.i 64)],
 .w 95 (.bin .xor) 92 94,
 .v 6 95] [1,6] [])
 (.seq
 (.reg [] [.v 96 6,
 .v 97 1,
 .w 98 (.bin .rem) 96 97,
 .v 4 98] [4] [])
 .ret))))))))
def a25 : AF := ⟨c25,[.tmp 4]⟩
def c47 : AC :=
 (.seq
 (.reg [] [.a 2 .move [.k (.i 0)]] [0] [])
 (.seq
 (.seq
 (.reg [] [.v 3 0,
 .a 4 (.call [] false) [.f 25,.t 3,.k (.i 3)],
 .a 5 (.bin .gt) [.t 4,.k (.i 0)]] [0,5] [])
 (.cond (.t 5)
 (.seq
 (.reg [] [.v 6 0,
 .a 7 (.call [] false) [.f 25,.t 6,.k (.i 5)],
 .a 8 (.bin .sub) [.t 7,.k (.i 2)],
 .v 2 8] [2] [])
 .ret)
 .skip))
 (.seq
 (.reg [] [.v 9 0,
 .a 10 (.call [] false) [.f 25,.t 9,.k (.i 9)],
 .a 11 (.bin .sub) [.t 10,.k (.i 4)],
 .v 2 11] [2] [])
 .ret)))
def a47 : AF := ⟨c47,[.tmp 2]⟩
def c59 : AC :=
 (.seq
 (.reg [] [.a 8 (.alloc [.i 0,.i 0,.nils]) []] [0,1,2,3,8] [8,52,59,73,92])
 (.seq
 (.reg [] [.v 16 0,
 .a 17 (.call [] false) [.f 25,.t 16,.k (.i 9)],
 .v 9 17] [0,1,2,3,8,9] [8,52,59,73,92])
 (.seq
 (.seq
 (.reg [] [.v 18 1,
 .a 19 (.bin .eq) [.t 18,.k (.i 0)]] [0,1,2,3,8,9,19] [8,52,59,73,92])
 (.cond (.t 19)
 (.reg [] [.v 20 0,
 .a 21 (.call [] false) [.f 25,.t 20,.k (.i 2)],
 .v 9 21] [0,1,2,3,8,9] [8,52,59,73,92])
 .skip))
 (.seq
 (.block 0
 (.seq
 (.reg [] [.v 23 9,
 .a 24 (.bin .lt) [.t 23,.k (.i 2)],
 .v 25 24,
 .q 26 .move [.t 2] 25 true,
 .q 27 (.bin .gt) [.t 26,.k (.i 0)] 25 true,
 .a 28 .pick [.t 25,.t 27,.k (.b false)],
 .v 29 28,
 .q 30 .move [.t 3] 29 true,
 .a 31 .pick [.t 29,.t 30,.k (.b false)],
 .v 22 31] [0,1,2,3,8,9,22] [8,52,59,73,92])
 (.cond (.t 22)
 (.seq
 (.reg [] [.v 32 0,
 .v 33 2,
 .a 34 (.call [] false) [.f 25,.t 32,.t 33],
 .a 35 (.build [.i 0,.i 0,.nils] [(0,1),(1,1)]) [.k (.i 5),.t 34],
 .n (.store 3 true) 8 35] [8] [8,52,59,73,92])
 .ret)
 (.seq
 (.reg [] [.v 37 9,
 .a 38 (.bin .eq) [.t 37,.k (.i 0)],
 .v 36 38] [0,1,2,3,8,9,36] [8,52,59,73,92])
 (.cond (.t 36)
 (.seq
 (.reg [] [.a 39 (.build [.i 0,.i 0,.nils] []) [],
 .n (.store 3 true) 8 39] [8] [8,52,59,73,92])
 .ret)
 (.seq
 (.reg [] [.v 41 9,
 .a 42 (.bin .lt) [.t 41,.k (.i 5)],
 .v 40 42] [0,1,2,3,8,9,40] [8,52,59,73,92])
 (.cond (.t 40)
 (.seq
 (.reg [] [.v 43 0,
 .a 44 (.call [] false) [.f 47,.t 43],
 .v 10 44] [0,1,2,8,10] [8,52,59,73,92])
 (.seq
 (.reg [] [.v 45 1,
 .a 46 (.bin .sub) [.t 45,.k (.i 1)],
 .a 47 .max2 [.k (.i 0),.t 46],
 .v 11 47] [0,1,2,8,10,11] [8,52,59,73,92])
 (.seq
 (.seq
 (.reg [] [.v 48 1,
 .a 49 (.bin .eq) [.t 48,.k (.i 0)]] [0,2,8,10,11,49] [8,52,59,73,92])
 (.cond (.t 49)
 (.seq
 (.reg [] [.v 50 10,
 .a 51 (.build [.i 0,.i 0,.nils] []) [],
 .u 52 (.bslice 3 true) 51,
 .a 53 (.build [.i 0,.i 0,.nils] [(0,1),(1,1),(2,1)]) [.k (.i 1),.t 50,.t 52],
 .n (.store 3 true) 8 53] [8] [8,52,59,73,92])
 .ret)
 .skip))
 (.seq
 (.reg [] [.v 54 10,
 .v 55 0,
 .v 56 11,
 .v 57 2,
 .a 58 (.call [] false) [.f 59,.t 55,.t 56,.t 57,.k (.b true)],
 .u 59 (.bslice 3 true) 58,
 .a 60 (.build [.i 0,.i 0,.nils] [(0,1),(1,1),(2,1)]) [.k (.i 1),.t 54,.t 59],
 .n (.store 3 true) 8 60] [8] [8,52,59,73,92])
 .ret))))
 (.seq
 (.reg [] [.v 62 9,
 .a 63 (.bin .eq) [.t 62,.k (.i 5)],
 .v 61 63] [0,1,2,3,8,9,61] [8,52,59,73,92])
 (.cond (.t 61)
 (.seq
 (.reg [] [.v 64 0,
 .a 65 (.call [] false) [.f 25,.t 64,.k (.i 4)],
 .v 12 65] [0,1,2,3,8,12] [8,52,59,73,92])
 (.seq
 (.reg [] [.v 66 12,
 .v 67 0,
 .v 68 1,
 .a 69 (.bin .sub) [.t 68,.k (.i 1)],
 .v 70 2,
 .v 71 3,
 .a 72 (.call [] false) [.f 59,.t 67,.t 69,.t 70,.t 71],
 .u 73 (.bslice 3 true) 72,
 .a 74 (.build [.i 0,.i 0,.nils] [(0,1),(1,1),(2,1)]) [.k (.i 4),.t 66,.t 73],
 .n (.store 3 true) 8 74] [8] [8,52,59,73,92])
 .ret))
 .skip)))))))))
 (.seq
 (.reg [] [.a 13 .move [.k (.i 2)]] [0,1,2,3,8,9,13] [8,52,59,73,92])
 (.seq
 (.seq
 (.reg [] [.v 75 9,
 .a 76 (.bin .eq) [.t 75,.k (.i 8)]] [0,1,2,3,8,13,76] [8,52,59,73,92])
 (.cond (.t 76)
 (.reg [] [.a 13 .move [.k (.i 3)]] [0,1,2,3,8,13] [8,52,59,73,92])
 .skip))
 (.seq
 (.reg [] [.v 77 0,
 .v 78 1,
 .a 79 (.bin .sub) [.t 78,.k (.i 1)],
 .v 80 2,
 .v 81 3,
 .a 82 (.call [] false) [.f 59,.t 77,.t 79,.t 80,.t 81],
 .a 14 (.alloc [.i 0,.i 0,.nils]) [],
 .n (.store 3 true) 14 82] [0,1,2,3,8,13,14] [8,14,52,59,73,82,92])
 (.seq
 (.reg [] [.v 83 0,
 .v 84 1,
 .a 85 (.bin .sub) [.t 84,.k (.i 1)],
 .v 86 2,
 .v 87 3,
 .a 88 (.call [] false) [.f 59,.t 83,.t 85,.t 86,.t 87],
 .a 15 (.alloc [.i 0,.i 0,.nils]) [],
 .n (.store 3 true) 15 88] [8,13,14,15] [8,14,15,52,59,73,82,88,92])
 (.seq
 (.reg [] [.v 89 13,
 .u 90 (.l1 3) 14,
 .u 91 (.l1 3) 15,
 .w 92 (.bslice 3 true) 90 91,
 .w 93 (.build [.i 0,.i 0,.nils] [(0,1),(2,1)]) 89 92,
 .n (.store 3 true) 8 93] [8] [8,52,59,73,92])
 .ret)))))))))
def a59 : AF := ⟨c59,[.cell 8 (some 3)]⟩
def b57l0 : AC :=
 (.seq
 (.seq
 (.reg [] [.v 9 5,
 .v 10 3,
 .w 11 (.bin .lt) 9 10] [0,3,4,5,11] [8,22])
 (.cond (.t 11)
 .skip
 (.exit 0)))
 (.seq
 (.block 1
 (.reg [] [.v 14 4,
 .v 15 0,
 .v 16 0,
 .a 17 (.call [] false) [.f 25,.t 16,.k (.i 3)],
 .a 18 (.bin .add) [.k (.i 1),.t 17],
 .v 19 3,
 .a 20 (.call [] false) [.f 59,.t 15,.t 18,.t 19,.k (.b false)],
 .u 21 (.bslice 3 true) 20,
 .w 22 (.append 3 true) 14 21,
 .v 4 22] [0,3,4,5] [8,22]))
 (.reg [] [.v 12 5,
 .a 13 (.bin .add) [.t 12,.k (.i 1)],
 .v 5 13] [0,3,4,5] [8,22])))
def c57l0 : AC := b57l0
theorem r57l0 (call lp s) : run call lp c57l0 s = run call lp b57l0 s := rfl
def c57 : AC :=
 (.seq
 (.reg [] [.a 2 .move [.k (.nils)]] [0] [])
 (.seq
 (.reg [] [.v 6 0,
 .a 7 (.call [] false) [.f 25,.t 6,.k (.i 4)],
 .v 3 7] [0,3] [])
 (.seq
 (.reg [] [.a 8 (.bslice 3 true) [],
 .v 4 8] [0,3,4] [8,22])
 (.seq
 (.seq
 (.reg [] [.a 5 .move [.k (.i 0)]] [0,3,4,5] [8,22])
 (.block 0
 (.loop [0,3,4,5] [8,22] c57l0)))
 (.seq
 (.seq
 (.reg [] [.v 23 3,
 .a 24 (.bin .gt) [.t 23,.k (.i 0)],
 .v 25 24,
 .q 26 .move [.t 0] 25 true,
 .q 27 (.call [] false) [.f 25,.t 26,.k (.i 20)] 25 true,
 .q 28 (.bin .eq) [.t 27,.k (.i 0)] 25 true,
 .a 29 .pick [.t 25,.t 28,.k (.b false)]] [0,3,4,29] [8,22])
 (.cond (.t 29)
 (.reg [] [.v 30 4,
 .v 31 0,
 .v 32 3,
 .a 33 (.call [] false) [.f 25,.t 31,.t 32],
 .v 34 0,
 .v 35 3,
 .a 36 (.bin .add) [.t 35,.k (.i 1)],
 .a 37 (.call [] false) [.f 25,.t 34,.t 36],
 .a 38 (.build [.i 0,.i 0,.nils] [(0,1),(1,1)]) [.k (.i 5),.t 37],
 .w 39 (.iaddr 3) 30 33,
 .n (.store 3 true) 39 38] [4] [8,22])
 .skip))
 (.seq
 (.reg [] [.v 40 4,
 .v 2 40] [2] [8,22])
 .ret))))))
def a57 : AF := ⟨c57,[.tmp 2]⟩
def c46 : AC :=
 (.seq
 (.reg [] [.a 4 (.alloc [.i 0,.i 0,.nils]) []] [0,1,4] [4,11,28,31])
 (.seq
 (.reg [] [.v 6 0,
 .v 7 0,
 .a 8 (.call [] false) [.f 25,.t 7,.k (.i 4)],
 .a 9 (.bin .add) [.k (.i 1),.t 8],
 .v 10 1,
 .a 11 (.call [] false) [.f 59,.t 6,.t 9,.t 10,.k (.b false)],
 .a 5 (.alloc [.i 0,.i 0,.nils]) [],
 .n (.store 3 true) 5 11] [0,4,5] [4,5,11,28,31])
 (.seq
 (.seq
 (.reg [] [.v 12 0,
 .a 13 (.call [] false) [.f 25,.t 12,.k (.i 24)]] [0,4,5,13] [4,5,11,28,31])
 (.block 0
 (.seq
 (.reg [] [.a 15 (.bin .eq) [.t 13,.k (.i 0)],
 .v 14 15] [0,4,5,13,14] [4,5,11,28,31])
 (.cond (.t 14)
 (.reg [] [.u 16 (.faddr 1) 5,
 .u 17 .l0 16,
 .a 18 (.bin .add) [.t 17,.k (.i 7)],
 .u 19 (.faddr 1) 5,
 .n (.store 1 true) 19 18] [4,5] [4,5,11,28,31])
 (.seq
 (.reg [] [.a 21 (.bin .eq) [.t 13,.k (.i 1)],
 .v 20 21] [0,4,5,13,20] [4,5,11,28,31])
 (.cond (.t 20)
 (.reg [] [.v 22 0,
 .a 23 (.call [] false) [.f 25,.t 22,.k (.i 8)],
 .u 24 (.faddr 0) 5,
 .n (.store 1 true) 24 23] [4,5] [4,5,11,28,31])
 (.seq
 (.reg [] [.a 26 (.bin .eq) [.t 13,.k (.i 2)],
 .v 25 26] [4,5,25] [4,5,11,28,31])
 (.cond (.t 25)
 (.reg [] [.a 27 (.build [.i 0,.i 0,.nils] []) [],
 .u 28 (.bslice 3 true) 27,
 .u 29 (.faddr 2) 5,
 .u 30 .l0 29,
 .w 31 (.append 3 true) 28 30,
 .u 32 (.faddr 2) 5,
 .n (.store 1 true) 32 31] [4,5] [4,5,11,28,31])
 .skip))))))))
 (.seq
 (.reg [] [.u 33 (.l1 3) 5,
 .n (.store 3 true) 4 33] [4] [4,11,28,31])
 .ret))))
def a46 : AF := ⟨c46,[.cell 4 (some 3)]⟩
def c44 : AC :=
 (.seq
 (.reg [] [.a 2 (.alloc [.i 0,.i 0,.nils]) [],
 .a 3 .move [.k (.nils)]] [0,2] [2,11])
 (.seq
 (.reg [] [.v 6 0,
 .a 7 (.call [] false) [.f 57,.t 6],
 .v 4 7] [0,2,4] [2,7,11])
 (.seq
 (.reg [] [.v 8 0,
 .v 9 4,
 .u 10 .len 9,
 .a 11 (.call [] false) [.f 46,.t 8,.t 10],
 .a 5 (.alloc [.i 0,.i 0,.nils]) [],
 .n (.store 3 true) 5 11] [0,2,4,5] [2,5,7,11])
 (.seq
 (.seq
 (.reg [] [.v 12 4,
 .u 13 .len 12,
 .a 14 (.bin .gt) [.t 13,.k (.i 0)],
 .v 15 14,
 .q 16 .move [.t 0] 15 true,
 .q 17 (.call [] false) [.f 25,.t 16,.k (.i 3)] 15 true,
 .q 18 (.bin .eq) [.t 17,.k (.i 0)] 15 true,
 .a 19 .pick [.t 15,.t 18,.k (.b false)]] [0,2,4,5,19] [2,5,7,11])
 (.cond (.t 19)
 (.reg [] [.v 20 0,
 .v 21 4,
 .u 22 .len 21,
 .a 23 (.call [] false) [.f 25,.t 20,.t 22],
 .a 24 (.build [.i 0,.i 0,.nils] [(0,1),(1,1)]) [.k (.i 5),.t 23],
 .n (.store 3 true) 5 24] [2,4,5] [2,5,7,11])
 .skip))
 (.seq
 (.reg [] [.u 25 (.l1 3) 5,
 .v 26 4,
 .n (.store 3 true) 2 25,
 .v 3 26] [2,3] [2,7,11])
 .ret)))))
def a44 : AF := ⟨c44,[.cell 2 (some 3),.tmp 3]⟩
def c28 : AC :=
 (.seq
 (.reg [] [.a 6 .move [.k (.b false)]] [0,1,2] [])
 (.seq
 (.reg [] [.v 7 0,
 .v 8 1,
 .w 9 (.bin .ge) 7 8,
 .v 10 9,
 .q 11 .move [.t 0] 10 true,
 .q 12 .move [.t 2] 10 true,
 .q 13 (.bin .le) [.t 11,.t 12] 10 true,
 .a 14 .pick [.t 10,.t 13,.k (.b false)],
 .v 6 14] [6] [])
 .ret))
def a28 : AF := ⟨c28,[.tmp 6]⟩
def c41 : AC :=
 (.seq
 (.reg [] [.a 2 .move [.k (.b false)]] [0] [])
 (.seq
 (.reg [] [.v 3 0,
 .a 4 (.call [] false) [.f 28,.t 3,.k (.i (-4)),.k (.i 4)],
 .v 2 4] [2] [])
 .ret))
def a41 : AF := ⟨c41,[.tmp 2]⟩
def b64l0 : AC :=
 (.seq
 (.seq
 (.reg [] [.v 42 6,
 .v 43 3,
 .w 44 (.bin .lt) 42 43] [1,3,5,6,44] [1])
 (.cond (.t 44)
 .skip
 (.exit 1)))
 (.seq
 (.block 2
 (.seq
 (.reg [] [.u 47 (.faddr 2) 1,
 .u 48 .l0 47,
 .v 49 6,
 .w 50 (.iaddr 3) 48 49,
 .u 51 (.l1 3) 50,
 .a 52 (.call [] false) [.f 64,.t 51],
 .v 7 52] [1,3,5,6,7] [1])
 (.seq
 (.seq
 (.reg [] [.v 53 7,
 .a 54 (.bin .eq) [.t 53,.k (.i 0)]] [1,3,5,6,7,54] [1])
 (.cond (.t 54)
 (.seq
 (.reg [] [.a 2 .move [.k (.i 0)]] [2] [])
 .ret)
 .skip))
 (.reg [] [.v 55 5,
 .v 56 7,
 .w 57 (.bin .add) 55 56,
 .a 58 .min2 [.k (.i 1000),.t 57],
 .v 5 58] [1,3,5,6] [1]))))
 (.reg [] [.v 45 6,
 .a 46 (.bin .add) [.t 45,.k (.i 1)],
 .v 6 46] [1,3,5,6] [1])))
def c64l0 : AC := b64l0
theorem r64l0 (call lp s) : run call lp c64l0 s = run call lp b64l0 s := rfl
def c64 : AC :=
 (.seq
 (.reg [] [.u 1 .box 0,
 .a 2 .move [.k (.i 0)]] [1] [1])
 (.seq
 (.reg [] [.a 3 .move [.k (.i 0)]] [1,3] [1])
 (.seq
 (.reg [] [.u 8 (.faddr 1) 1,
 .u 9 .l0 8,
 .a 10 (.bin .eq) [.t 9,.k (.i 0)],
 .v 4 10] [1,3,4] [1])
 (.seq
 (.seq
 (.reg [] [.u 11 (.faddr 0) 1,
 .u 12 .l0 11] [1,3,4,12] [1])
 (.block 0
 (.seq
 (.reg [] [.a 14 (.bin .eq) [.t 12,.k (.i 0)],
 .v 13 14] [1,3,4,12,13] [1])
 (.cond (.t 13)
 .skip
 (.seq
 (.reg [] [.a 16 (.bin .eq) [.t 12,.k (.i 1)],
 .v 15 16] [1,3,4,12,15] [1])
 (.cond (.t 15)
 (.seq
 (.reg [] [.a 3 .move [.k (.i 1)]] [1,3] [1])
 (.reg [] [.u 17 (.faddr 1) 1,
 .u 18 .l0 17,
 .a 19 (.call [] false) [.f 41,.t 18],
 .v 4 19] [1,3,4] [1]))
 (.seq
 (.seq
 (.reg [] [.a 21 (.bin .eq) [.t 12,.k (.i 2)],
 .v 20 21] [1,3,4,12,20] [1])
 (.cond (.t 20)
 .skip
 (.reg [] [.a 22 (.bin .eq) [.t 12,.k (.i 3)],
 .v 20 22] [1,3,4,12,20] [1])))
 (.cond (.t 20)
 (.reg [] [.a 3 .move [.k (.i 2)]] [1,3,4] [1])
 (.seq
 (.reg [] [.a 24 (.bin .eq) [.t 12,.k (.i 4)],
 .v 23 24] [1,3,12,23] [1])
 (.cond (.t 23)
 (.seq
 (.reg [] [.a 3 .move [.k (.i 1)]] [1,3] [1])
 (.reg [] [.u 25 (.faddr 1) 1,
 .u 26 .l0 25,
 .a 27 (.call [] false) [.f 28,.t 26,.k (.i 0),.k (.i 3)],
 .v 4 27] [1,3,4] [1]))
 (.seq
 (.reg [] [.a 29 (.bin .eq) [.t 12,.k (.i 5)],
 .v 28 29] [1,3,28] [1])
 (.cond (.t 28)
 (.reg [] [.u 30 (.faddr 1) 1,
 .u 31 .l0 30,
 .a 32 (.call [] false) [.f 28,.t 31,.k (.i 0),.k (.i 2)],
 .v 4 32] [1,3,4] [1])
 (.reg [] [.a 4 .move [.k (.b false)]] [1,3,4] [1])))))))))))))
 (.seq
 (.seq
 (.reg [] [.v 33 4,
 .u 34 .not 33,
 .v 35 34,
 .q 36 (.faddr 2) [.t 1] 35 false,
 .q 37 .l0 [.t 36] 35 false,
 .q 38 .len [.t 37] 35 false,
 .q 39 .move [.t 3] 35 false,
 .q 40 (.bin .ne) [.t 38,.t 39] 35 false,
 .a 41 .pick [.t 35,.k (.b true),.t 40]] [1,3,41] [1])
 (.cond (.t 41)
 (.seq
 (.reg [] [.a 2 .move [.k (.i 0)]] [2] [])
 .ret)
 .skip))
 (.seq
 (.reg [] [.a 5 .move [.k (.i 1)]] [1,3,5] [1])
 (.seq
 (.seq
 (.reg [] [.a 6 .move [.k (.i 0)]] [1,3,5,6] [1])
 (.block 1
 (.loop [1,3,5,6] [1] c64l0)))
 (.seq
 (.reg [] [.v 59 5,
 .v 2 59] [2] [])
 .ret))))))))
def a64 : AF := ⟨c64,[.tmp 2]⟩
def c73 : AC :=
 (.seq
 (.reg [] [.u 1 .box 0,
 .a 2 .move [.k (.b false)]] [1] [1])
 (.seq
 (.reg [] [.u 3 (.l1 3) 1,
 .a 4 (.call [] false) [.f 64,.t 3],
 .a 5 (.call [] false) [.f 28,.t 4,.k (.i 1),.k (.i 24)],
 .v 2 5] [2] [])
 .ret))
def a73 : AF := ⟨c73,[.tmp 2]⟩
def b72l0 : AC :=
 (.seq
 (.seq
 (.reg [] [.v 12 6,
 .u 13 (.faddr 2) 2,
 .u 14 .l0 13,
 .u 15 .len 14,
 .w 16 (.bin .lt) 12 15,
 .v 17 16,
 .q 18 .move [.t 1] 17 true,
 .q 19 .move [.t 18] 17 true,
 .q 20 (.faddr 0) [.t 2] 19 true,
 .q 21 .l0 [.t 20] 19 true,
 .q 22 (.bin .eq) [.t 21,.k (.i 1)] 19 true,
 .q 23 .pick [.t 19,.t 22,.k (.b false)] 17 true,
 .q 24 .not [.t 23] 17 true,
 .a 25 .pick [.t 17,.t 24,.k (.b false)]] [1,2,5,6,25] [2])
 (.cond (.t 25)
 .skip
 (.exit 0)))
 (.seq
 (.block 1
 (.reg [] [.v 28 5,
 .u 29 (.faddr 2) 2,
 .u 30 .l0 29,
 .v 31 6,
 .w 32 (.iaddr 3) 30 31,
 .u 33 (.l1 3) 32,
 .v 34 1,
 .a 35 (.call [] false) [.f 72,.t 33,.t 34],
 .w 36 .max2 28 35,
 .v 5 36] [1,2,5,6] [2]))
 (.reg [] [.v 26 6,
 .a 27 (.bin .add) [.t 26,.k (.i 1)],
 .v 6 27] [1,2,5,6] [2])))
def c72l0 : AC := b72l0
theorem r72l0 (call lp s) : run call lp c72l0 s = run call lp b72l0 s := rfl
def c72 : AC :=
 (.seq
 (.reg [] [.u 2 .box 0,
 .a 4 .move [.k (.i 0)]] [1,2] [2])
 (.seq
 (.seq
 (.reg [] [.u 7 (.faddr 0) 2,
 .u 8 .l0 7,
 .a 9 (.bin .eq) [.t 8,.k (.i 5)]] [1,2,9] [2])
 (.cond (.t 9)
 (.seq
 (.reg [] [.u 10 (.faddr 1) 2,
 .u 11 .l0 10,
 .v 4 11] [4] [])
 .ret)
 .skip))
 (.seq
 (.reg [] [.a 5 .move [.k (.i (-1))]] [1,2,5] [2])
 (.seq
 (.seq
 (.reg [] [.a 6 .move [.k (.i 0)]] [1,2,5,6] [2])
 (.block 0
 (.loop [1,2,5,6] [2] c72l0)))
 (.seq
 (.reg [] [.v 37 5,
 .v 4 37] [4] [])
 .ret)))))
def a72 : AF := ⟨c72,[.tmp 4]⟩
def c61 : AC :=
 (.seq
 (.reg [] [.u 2 .box 0,
 .a 4 .move [.k (.b false)]] [1,2] [2])
 (.seq
 (.reg [] [.u 5 (.l1 3) 2,
 .a 6 (.call [] false) [.f 73,.t 5],
 .v 7 6,
 .q 8 .move [.t 1] 7 true,
 .q 9 (.call [] false) [.f 28,.t 8,.k (.i 0),.k (.i 3)] 7 true,
 .a 10 .pick [.t 7,.t 9,.k (.b false)],
 .v 11 10,
 .q 12 (.l1 3) [.t 2] 11 true,
 .q 13 (.call [] false) [.f 72,.t 12,.k (.b false)] 11 true,
 .q 14 .move [.t 1] 11 true,
 .q 15 (.bin .lt) [.t 13,.t 14] 11 true,
 .a 16 .pick [.t 11,.t 15,.k (.b false)],
 .v 4 16] [4] [])
 .ret))
def a61 : AF := ⟨c61,[.tmp 4]⟩
def b60l0 : AC :=
 (.seq
 (.seq
 (.reg [] [.v 4 3,
 .v 5 0,
 .u 6 .len 5,
 .w 7 (.bin .lt) 4 6] [0,3,7] [])
 (.cond (.t 7)
 .skip
 (.exit 0)))
 (.seq
 (.block 1
 (.seq
 (.reg [] [.v 10 0,
 .v 11 3,
 .w 12 (.iaddr 3) 10 11,
 .u 13 (.l1 3) 12,
 .v 14 0,
 .u 15 .len 14,
 .a 16 (.call [] false) [.f 61,.t 13,.t 15],
 .u 17 .not 16,
 .v 18 17,
 .q 19 .move [.t 0] 18 false,
 .q 20 .move [.t 3] 18 false,
 .q 21 (.iaddr 3) [.t 19,.t 20] 18 false,
 .q 22 (.l1 3) [.t 21] 18 false,
 .q 23 (.call [] false) [.f 72,.t 22,.k (.b true)] 18 false,
 .q 24 (.bin .ge) [.t 23,.k (.i 0)] 18 false,
 .a 25 .pick [.t 18,.k (.b true),.t 24]] [0,3,25] [])
 (.cond (.t 25)
 (.seq
 (.reg [] [.a 2 .move [.k (.b false)]] [2] [])
 .ret)
 .skip)))
 (.reg [] [.v 8 3,
 .a 9 (.bin .add) [.t 8,.k (.i 1)],
 .v 3 9] [0,3] [])))
def c60l0 : AC := b60l0
theorem r60l0 (call lp s) : run call lp c60l0 s = run call lp b60l0 s := rfl
def c60 : AC :=
 (.seq
 (.reg [] [.a 2 .move [.k (.b false)]] [0] [])
 (.seq
 (.seq
 (.reg [] [.a 3 .move [.k (.i 0)]] [0,3] [])
 (.block 0
 (.loop [0,3] [] c60l0)))
 (.seq
 (.reg [] [.v 26 0,
 .u 27 .len 26,
 .a 28 (.bin .le) [.t 27,.k (.i 3)],
 .v 2 28] [2] [])
 .ret)))
def a60 : AF := ⟨c60,[.tmp 2]⟩
def c48 : AC :=
 (.seq
 (.reg [] [.u 2 .box 0,
 .a 4 .move [.k (.b false)]] [1,2] [2])
 (.seq
 (.reg [] [.v 5 1,
 .a 6 (.call [] false) [.f 60,.t 5],
 .v 7 6,
 .q 8 (.l1 3) [.t 2] 7 true,
 .q 9 .move [.t 1] 7 true,
 .q 10 .len [.t 9] 7 true,
 .q 11 (.call [] false) [.f 61,.t 8,.t 10] 7 true,
 .a 12 .pick [.t 7,.t 11,.k (.b false)],
 .v 4 12] [4] [])
 .ret))
def a48 : AF := ⟨c48,[.tmp 4]⟩
def c74 : AC :=
 (.seq
 (.reg [] [⟨some 2,.move,[.k (.s ⟨#[]⟩)],none⟩] [0] [])
 (.seq
 (.seq
 (.reg [] [.v 3 0,
 .a 4 (.bin .lt) [.t 3,.k (.i (-9223372036854775807))]] [0,4] [])
 (.cond (.t 4)
 (.seq
 (.reg [] [⟨some 2,.move,[.k (.s ⟨#[45,57,50,50,51,51,55,50,48,51,54,56,53,52,55,55,53,56,48,56]⟩)],none⟩] [2] [])
 .ret)
 .skip))
 (.seq
 (.seq
 (.reg [] [.v 5 0,
 .a 6 (.bin .lt) [.t 5,.k (.i 0)]] [0,6] [])
 (.cond (.t 6)
 (.seq
 (.reg [] [.v 7 0,
 .u 8 .neg 7,
 .a 9 (.call [] false) [.f 74,.t 8],
 ⟨some 10,.bin .add,[.k (.s ⟨#[45]⟩),.t 9],none⟩,
 .v 2 10] [2] [])
 .ret)
 .skip))
 (.seq
 (.seq
 (.reg [] [.v 11 0,
 .a 12 (.bin .lt) [.t 11,.k (.i 10)]] [0,12] [])
 (.cond (.t 12)
 (.seq
 (.reg [] [.v 13 0,
 .a 14 (.bin .add) [.k (.i 48),.t 13],
 .u 15 (.conv .u8) 14,
 .u 16 (.bslice 1 true) 15,
 .u 17 .bstr 16,
 .v 2 17] [2] [])
 .ret)
 .skip))
 (.seq
 (.alt 2 7 6
 (.reg [0,1,6,2,3,4,5,7,8,9,10] [.v 18 0,
 .a 19 (.bin .quo) [.t 18,.k (.i 10)],
 .v 21 0,
 .a 22 (.bin .rem) [.t 21,.k (.i 10)],
 .a 23 (.bin .add) [.k (.i 48),.t 22],
 .u 24 (.conv .u8) 23,
 .a 20 (.call [] false) [.f 74,.t 19],
 .u 25 (.bslice 1 true) 24,
 .u 26 .bstr 25,
 .w 27 (.bin .add) 20 26,
 .v 2 27] [2] [])
 (.reg [0,1,8,2,3,4,5,6,7,10,11] [.v 18 0,
 .a 19 (.bin .quo) [.t 18,.k (.i 10)],
 .v 21 0,
 .a 22 (.bin .rem) [.t 21,.k (.i 10)],
 .a 23 (.bin .add) [.k (.i 48),.t 22],
 .u 24 (.conv .u8) 23,
 .u 25 (.bslice 1 true) 24,
 .u 26 .bstr 25,
 .a 20 (.call [] false) [.f 74,.t 19],
 .n (.chk (.bstr)) 26 25,
 .w 27 (.bin .add) 20 26,
 .v 2 27] [2] []))
 .ret)))))
def a74 : AF := ⟨c74,[.tmp 2]⟩
def c75 : AC :=
 (.seq
 (.reg [] [.a 0 .move [.k (.nils)]] [] [])
 (.seq
 (.reg [] [⟨some 1,.bslice 1 true,[.k (.s ⟨#[]⟩),.k (.s ⟨#[97,99,116]⟩),.k (.s ⟨#[115,117,109]⟩),.k (.s ⟨#[112,97,114]⟩),.k (.s ⟨#[104,105,100,101]⟩)],none⟩,
 .v 0 1] [0] [1])
 .ret))
def a75 : AF := ⟨c75,[.tmp 0]⟩
def c77 : AC :=
 (.seq
 (.reg [] [.a 2 .move [.k (.i 0)]] [0] [])
 (.seq
 (.reg [] [.v 3 0,
 .v 4 0,
 .u 5 .neg 4,
 .w 6 .max2 3 5,
 .a 7 (.bin .sub) [.t 6,.k (.i 1)],
 .v 2 7] [2] [])
 .ret))
def a77 : AF := ⟨c77,[.tmp 2]⟩
def c76 : AC :=
 (.seq
 (.reg [] [⟨some 2,.move,[.k (.s ⟨#[]⟩)],none⟩] [0] [])
 (.seq
 (.block 0
 (.seq
 (.reg [] [.v 4 0,
 .a 5 (.bin .eq) [.t 4,.k (.i 0)],
 .v 3 5] [0,3] [])
 (.cond (.t 3)
 (.seq
 (.reg [] [⟨some 2,.move,[.k (.s ⟨#[116,97,117]⟩)],none⟩] [2] [])
 .ret)
 (.seq
 (.reg [] [.v 7 0,
 .a 8 (.bin .lt) [.t 7,.k (.i 0)],
 .v 6 8] [0,6] [])
 (.cond (.t 6)
 (.seq
 (.reg [] [.v 9 0,
 .a 10 (.call [] false) [.f 77,.t 9],
 .v 11 0,
 .a 12 (.call [] false) [.f 77,.t 11],
 .a 13 (.bin .add) [.t 12,.k (.i 1)],
 ⟨some 14,.sstr true true,[.k (.s ⟨#[97,98,99,100]⟩),.t 10,.t 13],none⟩,
 ⟨some 15,.bin .add,[.k (.s ⟨#[33]⟩),.t 14],none⟩,
 .v 2 15] [2] [])
 .ret)
 .skip)))))
 (.seq
 (.reg [] [.v 16 0,
 .a 17 (.call [] false) [.f 77,.t 16],
 .v 18 0,
 .a 19 (.call [] false) [.f 77,.t 18],
 .a 20 (.bin .add) [.t 19,.k (.i 1)],
 ⟨some 21,.sstr true true,[.k (.s ⟨#[97,98,99,100]⟩),.t 17,.t 20],none⟩,
 .v 2 21] [2] [])
 .ret)))
def a76 : AF := ⟨c76,[.tmp 2]⟩
def b62l0 : AC :=
 (.seq
 (.seq
 (.reg [] [.v 40 4,
 .u 41 (.faddr 2) 1,
 .u 42 .l0 41,
 .u 43 .len 42,
 .w 44 (.bin .lt) 40 43] [1,3,4,44] [1])
 (.cond (.t 44)
 .skip
 (.exit 1)))
 (.seq
 (.block 2
 (.reg [] [.v 47 3,
 ⟨some 48,.bin .add,[.t 47,.k (.s ⟨#[32]⟩)],none⟩,
 .u 49 (.faddr 2) 1,
 .u 50 .l0 49,
 .v 51 4,
 .w 52 (.iaddr 3) 50 51,
 .u 53 (.l1 3) 52,
 .a 54 (.call [] false) [.f 62,.t 53],
 .w 55 (.bin .add) 48 54,
 .v 3 55] [1,3,4] [1]))
 (.reg [] [.v 45 4,
 .a 46 (.bin .add) [.t 45,.k (.i 1)],
 .v 4 46] [1,3,4] [1])))
def c62l0 : AC := b62l0
theorem r62l0 (call lp s) : run call lp c62l0 s = run call lp b62l0 s := rfl
def c62 : AC :=
 (.seq
 (.reg [] [.u 1 .box 0,
 ⟨some 2,.move,[.k (.s ⟨#[]⟩)],none⟩] [1] [1])
 (.seq
 (.seq
 (.reg [] [.u 5 (.faddr 0) 1,
 .u 6 .l0 5] [1,6] [1])
 (.block 0
 (.seq
 (.reg [] [.a 8 (.bin .eq) [.t 6,.k (.i 0)],
 .v 7 8] [1,6,7] [1])
 (.cond (.t 7)
 (.seq
 (.reg [] [⟨some 2,.move,[.k (.s ⟨#[48]⟩)],none⟩] [2] [])
 .ret)
 (.seq
 (.reg [] [.a 10 (.bin .eq) [.t 6,.k (.i 5)],
 .v 9 10] [1,9] [1])
 (.cond (.t 9)
 (.seq
 (.reg [] [.u 11 (.faddr 1) 1,
 .u 12 .l0 11,
 .a 13 (.call [] false) [.f 74,.t 12],
 ⟨some 14,.bin .add,[.k (.s ⟨#[88]⟩),.t 13],none⟩,
 .v 2 14] [2] [])
 .ret)
 .skip))))))
 (.seq
 (.reg [2,0,1,5,6,7,8] [.u 16 (.faddr 0) 1,
 .u 17 .l0 16,
 .a 15 (.call [] false) [.f 75],
 .n (.chk (.faddr 0)) 16 1,
 .n (.chk (.l0)) 17 16,
 .w 18 (.iaddr 1) 15 17,
 .u 19 .l0 18,
 ⟨some 20,.bin .add,[.k (.s ⟨#[40]⟩),.t 19],none⟩,
 .v 3 20] [1,3] [1])
 (.seq
 (.seq
 (.reg [] [.u 21 (.faddr 0) 1,
 .u 22 .l0 21,
 .a 23 (.bin .eq) [.t 22,.k (.i 1)]] [1,3,23] [1])
 (.cond (.t 23)
 (.reg [] [.v 24 3,
 ⟨some 25,.bin .add,[.t 24,.k (.s ⟨#[32]⟩)],none⟩,
 .u 26 (.faddr 1) 1,
 .u 27 .l0 26,
 .a 28 (.call [] false) [.f 76,.t 27],
 .w 29 (.bin .add) 25 28,
 .v 3 29] [1,3] [1])
 .skip))
 (.seq
 (.seq
 (.reg [] [.u 30 (.faddr 0) 1,
 .u 31 .l0 30,
 .a 32 (.bin .eq) [.t 31,.k (.i 4)]] [1,3,32] [1])
 (.cond (.t 32)
 (.reg [] [.v 33 3,
 ⟨some 34,.bin .add,[.t 33,.k (.s ⟨#[32]⟩)],none⟩,
 .u 35 (.faddr 1) 1,
 .u 36 .l0 35,
 .a 37 (.bin .add) [.t 36,.k (.i 1)],
 .a 38 (.call [] false) [.f 76,.t 37],
 .w 39 (.bin .add) 34 38,
 .v 3 39] [1,3] [1])
 .skip))
 (.seq
 (.seq
 (.reg [] [.a 4 .move [.k (.i 0)]] [1,3,4] [1])
 (.block 1
 (.loop [1,3,4] [1] c62l0)))
 (.seq
 (.reg [] [.v 56 3,
 ⟨some 57,.bin .add,[.t 56,.k (.s ⟨#[41]⟩)],none⟩,
 .v 2 57] [2] [])
 .ret)))))))
def a62 : AF := ⟨c62,[.tmp 2]⟩
def b63l0 : AC :=
 (.seq
 (.seq
 (.reg [] [.v 58 8,
 .v 59 6,
 .u 60 .len 59,
 .w 61 (.bin .lt) 58 60] [2,5,6,7,8,61] [2,14,28,36,43,51,57,83,109,157,206,215])
 (.cond (.t 61)
 .skip
 (.exit 1)))
 (.seq
 (.block 2
 (.reg [0,1,2,3,4,5,6,7,8,9,10,11,12,13,14,15,19,20,21,22,23] [.v 64 5,
 .v 65 6,
 .v 66 8,
 .w 67 (.iaddr 4) 65 66,
 .u 68 (.faddr 0) 67,
 .u 69 .l0 68,
 .v 70 6,
 .v 71 8,
 .w 72 (.iaddr 4) 70 71,
 .u 73 (.faddr 1) 72,
 .u 74 (.l1 3) 73,
 .u 75 (.faddr 2) 2,
 .u 76 .l0 75,
 .a 77 (.iaddr 3) [.t 76,.k (.i 1)],
 .u 78 (.l1 3) 77,
 .w 79 (.bslice 3 true) 74 78,
 ⟨none,.chk (.iaddr 4),[.t 67,.t 65,.t 66],none⟩,
 .n (.chk (.faddr 0)) 68 67,
 .n (.chk (.l0)) 69 68,
 .a 80 (.build [.i 0,.i 0,.nils] [(0,1),(2,1)]) [.k (.i 3),.t 79],
 .w 81 (.build [.i 0,.i 0,.i 0,.nils] [(0,1),(1,3)]) 69 80,
 .u 82 (.bslice 4 false) 81,
 .w 83 (.append 4 true) 64 82,
 .v 5 83] [2,5,6,7,8] [2,14,28,36,43,51,57,83,109,157,206,215]))
 (.reg [] [.v 62 8,
 .a 63 (.bin .add) [.t 62,.k (.i 1)],
 .v 8 63] [2,5,6,7,8] [2,14,28,36,43,51,57,83,109,157,206,215])))
def c63l0 : AC := b63l0
theorem r63l0 (call lp s) : run call lp c63l0 s = run call lp b63l0 s := rfl
def b63l1 : AC :=
 (.seq
 (.seq
 (.reg [] [.v 84 9,
 .v 85 7,
 .u 86 .len 85,
 .w 87 (.bin .lt) 84 86] [2,5,6,7,9,87] [2,14,28,36,43,51,57,83,109,157,206,215])
 (.cond (.t 87)
 .skip
 (.exit 3)))
 (.seq
 (.block 4
 (.reg [0,1,2,3,4,5,6,7,8,9,10,11,12,13,14,15,19,20,21,22,23] [.v 90 5,
 .v 91 7,
 .v 92 9,
 .w 93 (.iaddr 4) 91 92,
 .u 94 (.faddr 0) 93,
 .u 95 .l0 94,
 .u 96 (.faddr 2) 2,
 .u 97 .l0 96,
 .a 98 (.iaddr 3) [.t 97,.k (.i 0)],
 .u 99 (.l1 3) 98,
 .v 100 7,
 .v 101 9,
 .w 102 (.iaddr 4) 100 101,
 .u 103 (.faddr 1) 102,
 .u 104 (.l1 3) 103,
 .w 105 (.bslice 3 true) 99 104,
 ⟨none,.chk (.iaddr 4),[.t 93,.t 91,.t 92],none⟩,
 .n (.chk (.faddr 0)) 94 93,
 .n (.chk (.l0)) 95 94,
 .a 106 (.build [.i 0,.i 0,.nils] [(0,1),(2,1)]) [.k (.i 3),.t 105],
 .w 107 (.build [.i 0,.i 0,.i 0,.nils] [(0,1),(1,3)]) 95 106,
 .u 108 (.bslice 4 false) 107,
 .w 109 (.append 4 true) 90 108,
 .v 5 109] [2,5,6,7,9] [2,14,28,36,43,51,57,83,109,157,206,215]))
 (.reg [] [.v 88 9,
 .a 89 (.bin .add) [.t 88,.k (.i 1)],
 .v 9 89] [2,5,6,7,9] [2,14,28,36,43,51,57,83,109,157,206,215])))
def c63l1 : AC := b63l1
theorem r63l1 (call lp s) : run call lp c63l1 s = run call lp b63l1 s := rfl
def b63l2 : AC :=
 (.seq
 (.seq
 (.reg [] [.v 116 11,
 .v 117 7,
 .u 118 .len 117,
 .w 119 (.bin .lt) 116 118] [5,6,7,10,11,119] [14,28,36,43,51,57,83,109,157,206,215])
 (.cond (.t 119)
 .skip
 (.exit 7)))
 (.seq
 (.block 8
 (.seq
 (.reg [0,1,2,3,4,5,6,7,8,9,10,11,12,13,14,15,16,17,18,19] [.v 122 6,
 .v 123 10,
 .w 124 (.iaddr 4) 122 123,
 .u 125 (.faddr 0) 124,
 .u 126 .l0 125,
 .a 127 (.bin .ne) [.t 126,.k (.i 0)],
 .v 128 127,
 .q 129 .move [.t 6] 128 true,
 .q 130 .move [.t 10] 128 true,
 .q 131 (.iaddr 4) [.t 129,.t 130] 128 true,
 .q 132 (.faddr 0) [.t 131] 128 true,
 .q 133 .l0 [.t 132] 128 true,
 .q 134 .move [.t 7] 128 true,
 .q 135 .move [.t 11] 128 true,
 .q 136 (.iaddr 4) [.t 134,.t 135] 128 true,
 .q 137 (.faddr 0) [.t 136] 128 true,
 .q 138 .l0 [.t 137] 128 true,
 .q 139 .neg [.t 138] 128 true,
 .q 140 (.bin .eq) [.t 133,.t 139] 128 true,
 .a 141 .pick [.t 128,.t 140,.k (.b false)]] [5,6,7,10,11,141] [14,28,36,43,51,57,83,109,157,206,215])
 (.cond (.t 141)
 (.reg [0,1,2,3,4,5,6,7,8,9,10,11,12,13,14,15,16] [.v 142 5,
 .v 143 6,
 .v 144 10,
 .w 145 (.iaddr 4) 143 144,
 .u 146 (.faddr 1) 145,
 .u 147 (.l1 3) 146,
 .v 148 7,
 .v 149 11,
 .w 150 (.iaddr 4) 148 149,
 .u 151 (.faddr 1) 150,
 .u 152 (.l1 3) 151,
 .w 153 (.bslice 3 true) 147 152,
 .a 154 (.build [.i 0,.i 0,.nils] [(0,1),(2,1)]) [.k (.i 3),.t 153],
 .u 155 (.build [.i 0,.i 0,.i 0,.nils] [(1,3)]) 154,
 .u 156 (.bslice 4 false) 155,
 .w 157 (.append 4 true) 142 156,
 .v 5 157] [5,6,7,10,11] [14,28,36,43,51,57,83,109,157,206,215])
 .skip)))
 (.reg [] [.v 120 11,
 .a 121 (.bin .add) [.t 120,.k (.i 1)],
 .v 11 121] [5,6,7,10,11] [14,28,36,43,51,57,83,109,157,206,215])))
def c63l2 : AC := b63l2
theorem r63l2 (call lp s) : run call lp c63l2 s = run call lp b63l2 s := rfl
def b63l3 : AC :=
 (.seq
 (.seq
 (.reg [] [.v 110 10,
 .v 111 6,
 .u 112 .len 111,
 .w 113 (.bin .lt) 110 112] [5,6,7,10,113] [14,28,36,43,51,57,83,109,157,206,215])
 (.cond (.t 113)
 .skip
 (.exit 5)))
 (.seq
 (.block 6
 (.seq
 (.reg [] [.a 11 .move [.k (.i 0)]] [5,6,7,10,11] [14,28,36,43,51,57,83,109,157,206,215])
 (.block 7
 (.loop [5,6,7,10,11] [14,28,36,43,51,57,83,109,157,206,215] c63l2))))
 (.reg [] [.v 114 10,
 .a 115 (.bin .add) [.t 114,.k (.i 1)],
 .v 10 115] [5,6,7,10] [14,28,36,43,51,57,83,109,157,206,215])))
def c63l3 : AC := b63l3
theorem r63l3 (call lp s) : run call lp c63l3 s = run call lp b63l3 s := rfl
def b63l4 : AC :=
 (.seq
 (.seq
 (.reg [] [.v 166 13,
 .v 167 12,
 .u 168 .len 167,
 .w 169 (.bin .lt) 166 168] [2,5,12,13,169] [2,14,28,36,43,83,109,157,165,206,215])
 (.cond (.t 169)
 .skip
 (.exit 9)))
 (.seq
 (.block 10
 (.seq
 (.reg [0,1,2,3,4,5,6,7,8,9,10,11,14,12,13,17,18] [.v 172 12,
 .v 173 13,
 .w 174 (.iaddr 4) 172 173,
 .u 175 (.faddr 0) 174,
 .u 176 .l0 175,
 .a 177 (.bin .eq) [.t 176,.k (.i 0)],
 .v 178 177,
 .q 179 .move [.t 12] 178 false,
 .q 180 .move [.t 13] 178 false,
 .q 181 (.iaddr 4) [.t 179,.t 180] 178 false,
 .q 182 (.faddr 0) [.t 181] 178 false,
 .q 183 .l0 [.t 182] 178 false,
 .q 185 (.faddr 1) [.t 2] 178 false,
 .q 186 .l0 [.t 185] 178 false,
 .q 184 (.call [] false) [.f 77,.t 183] 178 false,
 ⟨none,.chk (.faddr 1),[.t 185,.t 2],some (178,false)⟩,
 ⟨none,.chk (.load none false),[.t 186,.t 185],some (178,false)⟩,
 .q 187 (.bin .ne) [.t 184,.t 186] 178 false,
 .a 188 .pick [.t 178,.k (.b true),.t 187]] [2,5,12,13,188] [2,14,28,36,43,83,109,157,165,206,215])
 (.cond (.t 188)
 (.reg [0,1,2,3,4,5,6,7,8,9,10,11,12,13,19,20,21,22,23] [.v 189 5,
 .v 190 12,
 .v 191 13,
 .w 192 (.iaddr 4) 190 191,
 .u 193 (.faddr 0) 192,
 .u 194 .l0 193,
 .u 195 (.faddr 1) 2,
 .u 196 .l0 195,
 .v 197 12,
 .v 198 13,
 .w 199 (.iaddr 4) 197 198,
 .u 200 (.faddr 1) 199,
 .u 201 (.l1 3) 200,
 .u 202 (.bslice 3 true) 201,
 ⟨none,.chk (.iaddr 4),[.t 192,.t 190,.t 191],none⟩,
 .n (.chk (.faddr 0)) 193 192,
 .n (.chk (.l0)) 194 193,
 .n (.chk (.faddr 1)) 195 2,
 .n (.chk (.l0)) 196 195,
 .a 203 (.build [.i 0,.i 0,.nils] [(0,1),(1,1),(2,1)]) [.k (.i 4),.t 196,.t 202],
 .w 204 (.build [.i 0,.i 0,.i 0,.nils] [(0,1),(1,3)]) 194 203,
 .u 205 (.bslice 4 false) 204,
 .w 206 (.append 4 true) 189 205,
 .v 5 206] [2,5,12,13] [2,14,28,36,43,83,109,157,165,206,215])
 .skip)))
 (.reg [] [.v 170 13,
 .a 171 (.bin .add) [.t 170,.k (.i 1)],
 .v 13 171] [2,5,12,13] [2,14,28,36,43,83,109,157,165,206,215])))
def c63l4 : AC := b63l4
theorem r63l4 (call lp s) : run call lp c63l4 s = run call lp b63l4 s := rfl
def c63 : AC :=
 (.seq
 (.reg [] [.u 2 .box 0,
 .a 4 .move [.k (.nils)]] [1,2] [2])
 (.seq
 (.reg [] [.a 14 (.eslice 4) [],
 .v 5 14] [1,2,5] [2,14,28,36,43,83,109,157,206,215])
 (.seq
 (.seq
 (.reg [] [.u 15 (.faddr 0) 2,
 .u 16 .l0 15] [1,2,5,16] [2,14,28,36,43,83,109,157,206,215])
 (.block 0
 (.seq
 (.reg [] [.a 18 (.bin .eq) [.t 16,.k (.i 1)],
 .v 17 18] [1,2,5,16,17] [2,14,28,36,43,83,109,157,206,215])
 (.cond (.t 17)
 (.reg [0,1,2,3,4,5,6,7,8,9,10] [.v 19 5,
 .u 20 (.faddr 1) 2,
 .u 21 .l0 20,
 .u 22 (.faddr 2) 2,
 .u 23 .l0 22,
 .a 24 (.iaddr 3) [.t 23,.k (.i 0)],
 .u 25 (.l1 3) 24,
 .w 26 (.build [.i 0,.i 0,.i 0,.nils] [(0,1),(1,3)]) 21 25,
 .u 27 (.bslice 4 true) 26,
 .w 28 (.append 4 true) 19 27,
 .v 5 28] [5] [14,28,36,43,83,109,157,206,215])
 (.seq
 (.reg [] [.a 30 (.bin .eq) [.t 16,.k (.i 2)],
 .v 29 30] [1,2,5,16,29] [2,14,28,36,43,83,109,157,206,215])
 (.cond (.t 29)
 (.reg [0,1,2,3,4,10,5,6,7,8,9,15,16,17] [.u 31 (.faddr 2) 2,
 .u 32 .l0 31,
 .a 33 (.iaddr 3) [.t 32,.k (.i 0)],
 .u 34 (.l1 3) 33,
 .v 35 1,
 .u 37 (.faddr 2) 2,
 .u 38 .l0 37,
 .a 39 (.iaddr 3) [.t 38,.k (.i 1)],
 .u 40 (.l1 3) 39,
 .v 41 1,
 .a 36 (.call [] false) [.f 63,.t 34,.t 35],
 .n (.chk (.faddr 2)) 37 2,
 .n (.chk (.l0)) 38 37,
 ⟨none,.chk (.iaddr 3),[.t 39,.t 38,.k (.i 1)],none⟩,
 .n (.chk (.l1 3)) 40 39,
 .a 42 (.call [] false) [.f 63,.t 40,.t 41],
 .w 43 (.append 4 true) 36 42,
 .v 5 43] [5] [14,28,36,43,83,109,157,206,215])
 (.seq
 (.reg [] [.a 45 (.bin .eq) [.t 16,.k (.i 3)],
 .v 44 45] [1,2,5,16,44] [2,14,28,36,43,83,109,157,206,215])
 (.cond (.t 44)
 (.seq
 (.reg [] [.u 46 (.faddr 2) 2,
 .u 47 .l0 46,
 .a 48 (.iaddr 3) [.t 47,.k (.i 0)],
 .u 49 (.l1 3) 48,
 .v 50 1,
 .a 51 (.call [] false) [.f 63,.t 49,.t 50],
 .v 6 51] [1,2,5,6] [2,14,28,36,43,51,83,109,157,206,215])
 (.seq
 (.reg [] [.u 52 (.faddr 2) 2,
 .u 53 .l0 52,
 .a 54 (.iaddr 3) [.t 53,.k (.i 1)],
 .u 55 (.l1 3) 54,
 .v 56 1,
 .a 57 (.call [] false) [.f 63,.t 55,.t 56],
 .v 7 57] [2,5,6,7] [2,14,28,36,43,51,57,83,109,157,206,215])
 (.seq
 (.seq
 (.reg [] [.a 8 .move [.k (.i 0)]] [2,5,6,7,8] [2,14,28,36,43,51,57,83,109,157,206,215])
 (.block 1
 (.loop [2,5,6,7,8] [2,14,28,36,43,51,57,83,109,157,206,215] c63l0)))
 (.seq
 (.seq
 (.reg [] [.a 9 .move [.k (.i 0)]] [2,5,6,7,9] [2,14,28,36,43,51,57,83,109,157,206,215])
 (.block 3
 (.loop [2,5,6,7,9] [2,14,28,36,43,51,57,83,109,157,206,215] c63l1)))
 (.seq
 (.reg [] [.a 10 .move [.k (.i 0)]] [5,6,7,10] [14,28,36,43,51,57,83,109,157,206,215])
 (.block 5
 (.loop [5,6,7,10] [14,28,36,43,51,57,83,109,157,206,215] c63l3)))))))
 (.seq
 (.reg [] [.a 159 (.bin .eq) [.t 16,.k (.i 4)],
 .v 158 159] [1,2,5,16,158] [2,14,28,36,43,83,109,157,206,215])
 (.cond (.t 158)
 (.seq
 (.reg [] [.u 160 (.faddr 2) 2,
 .u 161 .l0 160,
 .a 162 (.iaddr 3) [.t 161,.k (.i 0)],
 .u 163 (.l1 3) 162,
 .v 164 1,
 .a 165 (.call [] false) [.f 63,.t 163,.t 164],
 .v 12 165] [2,5,12] [2,14,28,36,43,83,109,157,165,206,215])
 (.seq
 (.reg [] [.a 13 .move [.k (.i 0)]] [2,5,12,13] [2,14,28,36,43,83,109,157,165,206,215])
 (.block 9
 (.loop [2,5,12,13] [2,14,28,36,43,83,109,157,165,206,215] c63l4))))
 (.seq
 (.reg [] [.a 208 (.bin .eq) [.t 16,.k (.i 5)],
 .v 207 208] [1,2,5,207] [2,14,28,36,43,83,109,157,206,215])
 (.cond (.t 207)
 (.reg [] [.v 209 1,
 .u 210 (.faddr 1) 2,
 .u 211 .l0 210,
 .w 212 (.iaddr 3) 209 211,
 .u 213 (.l1 3) 212,
 .v 214 1,
 .a 215 (.call [] false) [.f 63,.t 213,.t 214],
 .v 5 215] [5] [14,28,36,43,83,109,157,206,215])
 .skip))))))))))))
 (.seq
 (.reg [] [.v 216 5,
 .v 4 216] [4] [14,28,36,43,83,109,157,206,215])
 .ret))))
def a63 : AF := ⟨c63,[.tmp 4]⟩
def c42 : AC :=
 (.seq
 (.reg [] [.u 2 .box 0,
 .u 3 .box 1,
 .a 4 .move [.k (.b false)]] [2,3] [2,3])
 (.seq
 (.reg [] [.u 5 (.faddr 0) 2,
 .u 6 .l0 5,
 .u 7 (.faddr 0) 3,
 .u 8 .l0 7,
 .w 9 (.bin .lt) 6 8,
 .v 10 9,
 .q 11 (.faddr 0) [.t 2] 10 false,
 .q 12 .l0 [.t 11] 10 false,
 .q 13 (.faddr 0) [.t 3] 10 false,
 .q 14 .l0 [.t 13] 10 false,
 .q 15 (.bin .eq) [.t 12,.t 14] 10 false,
 .q 16 .move [.t 15] 10 false,
 .q 17 (.faddr 1) [.t 2] 16 true,
 .q 18 .l0 [.t 17] 16 true,
 .q 19 (.faddr 1) [.t 3] 16 true,
 .q 20 .l0 [.t 19] 16 true,
 .q 21 (.bin .lt) [.t 18,.t 20] 16 true,
 .q 22 .pick [.t 16,.t 21,.k (.b false)] 10 false,
 .a 23 .pick [.t 10,.k (.b true),.t 22],
 .v 4 23] [4] [])
 .ret))
def a42 : AF := ⟨c42,[.tmp 4]⟩
def b58l0 : AC :=
 (.seq
 (.seq
 (.reg [0,1,2,3,4,5,6,7,8,9,10,11,12,13] [.v 16 5,
 .a 17 (.bin .gt) [.t 16,.k (.i 0)],
 .v 18 17,
 .q 19 .move [.t 0] 18 true,
 .q 20 .move [.t 4] 18 true,
 .q 21 (.iaddr 2) [.t 19,.t 20] 18 true,
 .q 22 (.l1 2) [.t 21] 18 true,
 .q 23 .move [.t 3] 18 true,
 .q 24 .move [.t 5] 18 true,
 .q 25 (.bin .sub) [.t 24,.k (.i 1)] 18 true,
 .q 26 (.iaddr 2) [.t 23,.t 25] 18 true,
 .q 27 (.l1 2) [.t 26] 18 true,
 .q 28 (.call [] false) [.f 42,.t 22,.t 27] 18 true,
 .a 29 .pick [.t 18,.t 28,.k (.b false)]] [0,3,4,5,29] [7,49])
 (.cond (.t 29)
 .skip
 (.exit 2)))
 (.block 3
 (.reg [] [.v 30 5,
 .a 31 (.bin .sub) [.t 30,.k (.i 1)],
 .v 5 31] [0,3,4,5] [7,49])))
def c58l0 : AC := b58l0
theorem r58l0 (call lp s) : run call lp c58l0 s = run call lp b58l0 s := rfl
def b58l1 : AC :=
 (.seq
 (.seq
 (.reg [] [.v 53 6,
 .v 54 5,
 .w 55 (.bin .gt) 53 54] [0,3,4,5,6,55] [7,49])
 (.cond (.t 55)
 .skip
 (.exit 4)))
 (.seq
 (.block 5
 (.reg [] [.v 58 3,
 .v 59 6,
 .v 60 3,
 .v 61 6,
 .a 62 (.bin .sub) [.t 61,.k (.i 1)],
 .w 63 (.iaddr 2) 60 62,
 .u 64 (.l1 2) 63,
 .w 65 (.iaddr 2) 58 59,
 .n (.store 2 true) 65 64] [0,3,4,5,6] [7,49]))
 (.reg [] [.v 56 6,
 .a 57 (.bin .sub) [.t 56,.k (.i 1)],
 .v 6 57] [0,3,4,5,6] [7,49])))
def c58l1 : AC := b58l1
theorem r58l1 (call lp s) : run call lp c58l1 s = run call lp b58l1 s := rfl
def b58l2 : AC :=
 (.seq
 (.seq
 (.reg [] [.v 8 4,
 .v 9 0,
 .u 10 .len 9,
 .w 11 (.bin .lt) 8 10] [0,3,4,11] [7,49])
 (.cond (.t 11)
 .skip
 (.exit 0)))
 (.seq
 (.block 1
 (.seq
 (.reg [] [.v 14 3,
 .u 15 .len 14,
 .v 5 15] [0,3,4,5] [7,49])
 (.seq
 (.block 2
 (.loop [0,3,4,5] [7,49] c58l0))
 (.seq
 (.seq
 (.reg [0,1,2,3,4,5,6,7,8,9,10,11,12,13] [.v 32 5,
 .a 33 (.bin .gt) [.t 32,.k (.i 0)],
 .v 34 33,
 .q 35 .move [.t 3] 34 true,
 .q 36 .move [.t 5] 34 true,
 .q 37 (.bin .sub) [.t 36,.k (.i 1)] 34 true,
 .q 38 (.iaddr 2) [.t 35,.t 37] 34 true,
 .q 39 (.l1 2) [.t 38] 34 true,
 .q 40 .move [.t 0] 34 true,
 .q 41 .move [.t 4] 34 true,
 .q 42 (.iaddr 2) [.t 40,.t 41] 34 true,
 .q 43 (.l1 2) [.t 42] 34 true,
 .q 44 (.meq false) [.t 39,.t 43] 34 true,
 .a 45 .pick [.t 34,.t 44,.k (.b false)]] [0,3,4,5,45] [7,49])
 (.cond (.t 45)
 (.exit 1)
 .skip))
 (.seq
 (.reg [] [.v 46 3,
 .a 47 (.build [.i 0,.i 0] []) [],
 .u 48 (.bslice 2 true) 47,
 .w 49 (.append 2 true) 46 48,
 .v 3 49] [0,3,4,5] [7,49])
 (.seq
 (.seq
 (.reg [] [.v 50 3,
 .u 51 .len 50,
 .a 52 (.bin .sub) [.t 51,.k (.i 1)],
 .v 6 52] [0,3,4,5,6] [7,49])
 (.block 4
 (.loop [0,3,4,5,6] [7,49] c58l1)))
 (.reg [] [.v 66 3,
 .v 67 5,
 .v 68 0,
 .v 69 4,
 .w 70 (.iaddr 2) 68 69,
 .u 71 (.l1 2) 70,
 .w 72 (.iaddr 2) 66 67,
 .n (.store 2 true) 72 71] [0,3,4] [7,49])))))))
 (.reg [] [.v 12 4,
 .a 13 (.bin .add) [.t 12,.k (.i 1)],
 .v 4 13] [0,3,4] [7,49])))
def c58l2 : AC := b58l2
theorem r58l2 (call lp s) : run call lp c58l2 s = run call lp b58l2 s := rfl
def c58 : AC :=
 (.seq
 (.reg [] [.a 2 .move [.k (.nils)]] [0] [])
 (.seq
 (.reg [] [.a 7 (.bslice 2 true) [],
 .v 3 7] [0,3] [7,49])
 (.seq
 (.seq
 (.reg [] [.a 4 .move [.k (.i 0)]] [0,3,4] [7,49])
 (.block 0
 (.loop [0,3,4] [7,49] c58l2)))
 (.seq
 (.reg [] [.v 73 3,
 .v 2 73] [2] [7,49])
 .ret))))
def a58 : AF := ⟨c58,[.tmp 2]⟩
def b49l0 : AC :=
 (.seq
 (.seq
 (.reg [] [.v 46 14,
 .v 47 7,
 .u 48 .len 47,
 .w 49 (.bin .lt) 46 48,
 .v 50 49,
 .q 51 .move [.t 7] 50 true,
 .q 52 .move [.t 14] 50 true,
 .q 53 (.iaddr 1) [.t 51,.t 52] 50 true,
 .q 54 .l0 [.t 53] 50 true,
 .q 55 .move [.t 13] 50 true,
 .q 56 (.bin .ne) [.t 54,.t 55] 50 true,
 .a 57 .pick [.t 50,.t 56,.k (.b false)]] [1,4,6,7,8,9,10,11,12,13,14,57] [4,8,16,19,32,33,83,87,97,103])
 (.cond (.t 57)
 .skip
 (.exit 4)))
 (.block 5
 (.reg [] [.v 58 14,
 .a 59 (.bin .add) [.t 58,.k (.i 1)],
 .v 14 59] [1,4,6,7,8,9,10,11,12,13,14] [4,8,16,19,32,33,83,87,97,103])))
def c49l0 : AC := b49l0
theorem r49l0 (call lp s) : run call lp c49l0 s = run call lp b49l0 s := rfl
def b49l1 : AC :=
 (.seq
 (.seq
 (.reg [] [.v 34 12,
 .v 35 10,
 .u 36 .len 35,
 .w 37 (.bin .lt) 34 36] [1,4,6,7,8,9,10,11,12,37] [4,8,16,19,32,33,83,87,97,103])
 (.cond (.t 37)
 .skip
 (.exit 2)))
 (.seq
 (.block 3
 (.seq
 (.reg [] [.v 40 10,
 .v 41 12,
 .w 42 (.iaddr 4) 40 41,
 .u 43 (.faddr 1) 42,
 .u 44 (.l1 3) 43,
 .a 45 (.call [] false) [.f 62,.t 44],
 .v 13 45] [1,4,6,7,8,9,10,11,12,13] [4,8,16,19,32,33,83,87,97,103])
 (.seq
 (.reg [] [.a 14 .move [.k (.i 0)]] [1,4,6,7,8,9,10,11,12,13,14] [4,8,16,19,32,33,83,87,97,103])
 (.seq
 (.block 4
 (.loop [1,4,6,7,8,9,10,11,12,13,14] [4,8,16,19,32,33,83,87,97,103] c49l0))
 (.seq
 (.seq
 (.reg [] [.v 60 14,
 .v 61 7,
 .u 62 .len 61,
 .w 63 (.bin .eq) 60 62] [1,4,6,7,8,9,10,11,12,13,14,63] [4,8,16,19,32,33,83,87,97,103])
 (.cond (.t 63)
 (.seq
 (.seq
 (.reg [] [.v 64 14,
 .a 65 (.bin .eq) [.t 64,.k (.i 60)],
 .v 66 65,
 .q 67 .move [.t 10] 66 false,
 .q 68 .move [.t 12] 66 false,
 .q 69 (.iaddr 4) [.t 67,.t 68] 66 false,
 .q 70 (.faddr 1) [.t 69] 66 false,
 .q 71 (.l1 3) [.t 70] 66 false,
 .q 72 (.call [] false) [.f 64,.t 71] 66 false,
 .q 73 (.bin .gt) [.t 72,.k (.i 24)] 66 false,
 .a 74 .pick [.t 66,.k (.b true),.t 73]] [1,4,6,7,8,9,10,11,12,13,14,74] [4,8,16,19,32,33,83,87,97,103])
 (.cond (.t 74)
 (.seq
 (.reg [] [.a 75 (.build [.nils] []) [],
 .n (.store 1 true) 4 75,
 .a 5 .move [.k (.b false)]] [4,5] [4,103])
 .ret)
 .skip))
 (.seq
 (.reg [] [.v 76 6,
 .v 77 10,
 .v 78 12,
 .w 79 (.iaddr 4) 77 78,
 .u 80 (.faddr 1) 79,
 .u 81 (.l1 3) 80,
 .u 82 (.bslice 3 true) 81,
 .w 83 (.append 3 true) 76 82,
 .v 6 83] [1,4,6,7,8,9,10,11,12,13,14] [4,8,16,19,32,33,83,87,97,103])
 (.reg [] [.v 84 7,
 .v 85 13,
 .u 86 (.bslice 1 true) 85,
 .w 87 (.append 1 true) 84 86,
 .v 7 87] [1,4,6,7,8,9,10,11,12,14] [4,8,16,19,32,33,83,87,97,103])))
 .skip))
 (.reg [] [.v 88 11,
 .v 89 10,
 .v 90 12,
 .w 91 (.iaddr 4) 89 90,
 .u 92 (.faddr 0) 91,
 .u 93 .l0 92,
 .v 94 14,
 .w 95 (.build [.i 0,.i 0] [(0,1),(1,1)]) 93 94,
 .u 96 (.bslice 2 true) 95,
 .w 97 (.append 2 true) 88 96,
 .v 11 97] [1,4,6,7,8,9,10,11,12] [4,8,16,19,32,33,83,87,97,103]))))))
 (.reg [] [.v 38 12,
 .a 39 (.bin .add) [.t 38,.k (.i 1)],
 .v 12 39] [1,4,6,7,8,9,10,11,12] [4,8,16,19,32,33,83,87,97,103])))
def c49l1 : AC := b49l1
theorem r49l1 (call lp s) : run call lp c49l1 s = run call lp b49l1 s := rfl
def b49l2 : AC :=
 (.seq
 (.seq
 (.reg [] [.v 21 9,
 .v 22 6,
 .u 23 .len 22,
 .w 24 (.bin .lt) 21 23] [1,4,6,7,8,9,24] [4,8,16,19,83,87,103])
 (.cond (.t 24)
 .skip
 (.exit 0)))
 (.seq
 (.block 1
 (.seq
 (.reg [] [.v 27 6,
 .v 28 9,
 .w 29 (.iaddr 3) 27 28,
 .u 30 (.l1 3) 29,
 .v 31 1,
 .a 32 (.call [] false) [.f 63,.t 30,.t 31],
 .v 10 32] [1,4,6,7,8,9,10] [4,8,16,19,32,83,87,103])
 (.seq
 (.reg [] [.a 33 (.eslice 2) [],
 .v 11 33] [1,4,6,7,8,9,10,11] [4,8,16,19,32,33,83,87,97,103])
 (.seq
 (.seq
 (.reg [] [.a 12 .move [.k (.i 0)]] [1,4,6,7,8,9,10,11,12] [4,8,16,19,32,33,83,87,97,103])
 (.block 2
 (.loop [1,4,6,7,8,9,10,11,12] [4,8,16,19,32,33,83,87,97,103] c49l1)))
 (.reg [0,1,2,3,6,9,10,11] [.u 98 (.faddr 0) 8,
 .u 99 .l0 98,
 .v 100 11,
 .a 101 (.call [] false) [.f 58,.t 100],
 .n (.chk (.faddr 0)) 98 8,
 .n (.chk (.l0)) 99 98,
 .u 102 (.bslice 1 true) 101,
 .n (.chk (.faddr 0)) 98 8,
 .n (.chk (.l0)) 99 98,
 .w 103 (.append 1 true) 99 102,
 .u 104 (.faddr 0) 8,
 .n (.store 1 true) 104 103] [1,4,6,7,8,9] [4,8,16,19,83,87,103])))))
 (.reg [] [.v 25 9,
 .a 26 (.bin .add) [.t 25,.k (.i 1)],
 .v 9 26] [1,4,6,7,8,9] [4,8,16,19,83,87,103])))
def c49l2 : AC := b49l2
theorem r49l2 (call lp s) : run call lp c49l2 s = run call lp b49l2 s := rfl
def c49 : AC :=
 (.seq
 (.reg [] [.u 2 .box 0,
 .a 4 (.alloc [.nils]) [],
 .a 5 .move [.k (.b false)]] [1,2,4] [2,4,103])
 (.seq
 (.reg [] [.u 15 (.l1 3) 2,
 .u 16 (.bslice 3 true) 15,
 .v 6 16] [1,2,4,6] [2,4,16,83,103])
 (.seq
 (.reg [] [.u 17 (.l1 3) 2,
 .a 18 (.call [] false) [.f 62,.t 17],
 .u 19 (.bslice 1 true) 18,
 .v 7 19] [1,4,6,7] [4,16,19,83,87,103])
 (.seq
 (.reg [] [.a 20 (.build [.nils] []) [],
 .a 8 (.alloc [.nils]) [],
 .n (.store 1 true) 8 20] [1,4,6,7,8] [4,8,16,19,83,87,103])
 (.seq
 (.seq
 (.reg [] [.a 9 .move [.k (.i 0)]] [1,4,6,7,8,9] [4,8,16,19,83,87,103])
 (.block 0
 (.loop [1,4,6,7,8,9] [4,8,16,19,83,87,103] c49l2)))
 (.seq
 (.reg [] [.u 105 (.l1 1) 8,
 .n (.store 1 true) 4 105,
 .a 5 .move [.k (.b true)]] [4,5] [4,103])
 .ret))))))
def a49 : AF := ⟨c49,[.cell 4 (some 1),.tmp 5]⟩
def c32 : AC :=
 (.seq
 (.reg [] [.u 2 .box 0,
 .a 4 (.alloc [.nils]) [],
 .a 5 .move [.k (.b false)]] [1,2,4] [2,4,13])
 (.seq
 (.seq
 (.reg [] [.u 6 (.l1 3) 2,
 .v 7 1,
 .a 8 (.call [] false) [.f 48,.t 6,.t 7],
 .u 9 .not 8] [1,2,4,9] [2,4,13])
 (.cond (.t 9)
 (.seq
 (.reg [] [.a 10 (.build [.nils] []) [],
 .n (.store 1 true) 4 10,
 .a 5 .move [.k (.b false)]] [4,5] [4,13])
 .ret)
 .skip))
 (.seq
 (.reg [] [.u 11 (.l1 3) 2,
 .v 12 1,
 .a 13 (.call [] false) [.f 49,.t 11,.t 12],
 .u 14 (.ext 0) 13,
 .u 15 (.ext 1) 13,
 .n (.store 1 true) 4 14,
 .v 5 15] [4,5] [4,13])
 .ret)))
def a32 : AF := ⟨c32,[.cell 4 (some 1),.tmp 5]⟩
def b45l0 : AC :=
 (.seq
 (.seq
 (.reg [] [.v 28 10,
 .a 29 (.bin .gt) [.t 28,.k (.i 0)]] [0,4,5,6,7,8,9,10,29] [4,5,25,45,51])
 (.cond (.t 29)
 .skip
 (.exit 2)))
 (.seq
 (.block 3
 (.seq
 (.reg [] [.v 32 0,
 .a 33 (.call [] false) [.f 25,.t 32,.k (.i 3)],
 .v 11 33] [0,4,5,6,7,8,9,10,11] [4,5,25,45,51])
 (.seq
 (.seq
 (.reg [] [.v 34 7,
 .u 35 .not 34] [0,4,5,6,7,8,9,10,11,35] [4,5,25,45,51])
 (.cond (.t 35)
 (.reg [] [.v 36 0,
 .a 37 (.call [] false) [.f 47,.t 36],
 .v 11 37] [0,4,5,6,7,8,9,10,11] [4,5,25,45,51])
 .skip))
 (.reg [] [.v 38 9,
 .v 39 11,
 .v 40 0,
 .v 41 6,
 .a 42 (.call [] false) [.f 25,.t 40,.t 41],
 .w 43 (.build [.i 0,.i 0] [(0,1),(1,1)]) 39 42,
 .u 44 (.bslice 2 true) 43,
 .w 45 (.append 2 true) 38 44,
 .v 9 45] [0,4,5,6,7,8,9,10] [4,5,25,45,51]))))
 (.reg [] [.v 30 10,
 .a 31 (.bin .sub) [.t 30,.k (.i 1)],
 .v 10 31] [0,4,5,6,7,8,9,10] [4,5,25,45,51])))
def c45l0 : AC := b45l0
theorem r45l0 (call lp s) : run call lp c45l0 s = run call lp b45l0 s := rfl
def b45l1 : AC :=
 (.seq
 (.seq
 (.reg [] [.v 20 8,
 .v 21 6,
 .w 22 (.bin .lt) 20 21] [0,4,5,6,7,8,22] [4,5,51])
 (.cond (.t 22)
 .skip
 (.exit 0)))
 (.seq
 (.block 1
 (.seq
 (.reg [] [.a 25 (.eslice 2) [],
 .v 9 25] [0,4,5,6,7,8,9] [4,5,25,45,51])
 (.seq
 (.seq
 (.reg [] [.v 26 0,
 .a 27 (.call [] false) [.f 25,.t 26,.k (.i 4)],
 .v 10 27] [0,4,5,6,7,8,9,10] [4,5,25,45,51])
 (.block 2
 (.loop [0,4,5,6,7,8,9,10] [4,5,25,45,51] c45l0)))
 (.reg [0,1,2,3,6,9,10,11] [.u 46 (.faddr 0) 5,
 .u 47 .l0 46,
 .v 48 9,
 .a 49 (.call [] false) [.f 58,.t 48],
 .n (.chk (.faddr 0)) 46 5,
 .n (.chk (.l0)) 47 46,
 .u 50 (.bslice 1 true) 49,
 .n (.chk (.faddr 0)) 46 5,
 .n (.chk (.l0)) 47 46,
 .w 51 (.append 1 true) 47 50,
 .u 52 (.faddr 0) 5,
 .n (.store 1 true) 52 51] [0,4,5,6,7,8] [4,5,51]))))
 (.reg [] [.v 23 8,
 .a 24 (.bin .add) [.t 23,.k (.i 1)],
 .v 8 24] [0,4,5,6,7,8] [4,5,51])))
def c45l1 : AC := b45l1
theorem r45l1 (call lp s) : run call lp c45l1 s = run call lp b45l1 s := rfl
def c45 : AC :=
 (.seq
 (.reg [] [.a 4 (.alloc [.nils]) []] [0,1,4] [4,51])
 (.seq
 (.reg [] [.a 12 (.build [.nils] []) [],
 .a 5 (.alloc [.nils]) [],
 .n (.store 1 true) 5 12] [0,1,4,5] [4,5,51])
 (.seq
 (.reg [] [.v 13 0,
 .v 14 1,
 .a 15 (.call [] false) [.f 25,.t 13,.t 14],
 .a 16 (.bin .add) [.k (.i 1),.t 15],
 .v 6 16] [0,4,5,6] [4,5,51])
 (.seq
 (.reg [] [.v 17 0,
 .a 18 (.call [] false) [.f 25,.t 17,.k (.i 2)],
 .a 19 (.bin .eq) [.t 18,.k (.i 0)],
 .v 7 19] [0,4,5,6,7] [4,5,51])
 (.seq
 (.seq
 (.reg [] [.a 8 .move [.k (.i 0)]] [0,4,5,6,7,8] [4,5,51])
 (.block 0
 (.loop [0,4,5,6,7,8] [4,5,51] c45l1)))
 (.seq
 (.seq
 (.reg [] [.v 53 0,
 .a 54 (.call [] false) [.f 25,.t 53,.k (.i 30)]] [4,5,6,54] [4,5,51])
 (.block 4
 (.seq
 (.reg [] [.a 56 (.bin .eq) [.t 54,.k (.i 0)],
 .v 55 56] [4,5,6,54,55] [4,5,51])
 (.cond (.t 55)
 (.alt 5 7 6
 (.reg [0,1,2,3,4,6,5,9,12,15,16] [.u 57 (.faddr 0) 5,
 .u 58 .l0 57,
 .u 59 (.faddr 0) 5,
 .u 60 .l0 59,
 .a 61 (.iaddr 1) [.t 60,.k (.i 0)],
 .a 63 (.build [.i 0,.i 0] [(0,1)]) [.k (.i 9)],
 .u 62 .take 61,
 .n (.chk (.faddr 0)) 57 5,
 .n (.chk (.l0)) 58 57,
 .u 64 (.bslice 2 true) 63,
 .n (.chk (.faddr 0)) 57 5,
 .n (.chk (.l0)) 58 57,
 .w 65 (.append 2 true) 62 64,
 .n (.chk (.faddr 0)) 57 5,
 .n (.chk (.l0)) 58 57,
 .a 66 (.iaddr 1) [.t 58,.k (.i 0)],
 .n (.store 1 true) 66 65] [4,5] [4,5,51])
 (.reg [0,1,2,3,4,12,5,6,15,18,19] [.u 57 (.faddr 0) 5,
 .u 58 .l0 57,
 .u 59 (.faddr 0) 5,
 .u 60 .l0 59,
 .a 61 (.iaddr 1) [.t 60,.k (.i 0)],
 .a 63 (.build [.i 0,.i 0] [(0,1)]) [.k (.i 9)],
 .u 64 (.bslice 2 true) 63,
 .n (.chk (.faddr 0)) 57 5,
 .n (.chk (.l0)) 58 57,
 .n (.chk (.faddr 0)) 59 5,
 .n (.chk (.l0)) 60 59,
 ⟨none,.chk (.iaddr 1),[.t 61,.t 60,.k (.i 0)],none⟩,
 .u 62 .take 61,
 .n (.chk (.faddr 0)) 57 5,
 .n (.chk (.l0)) 58 57,
 .w 65 (.append 2 true) 62 64,
 .n (.chk (.faddr 0)) 57 5,
 .n (.chk (.l0)) 58 57,
 .a 66 (.iaddr 1) [.t 58,.k (.i 0)],
 .n (.store 1 true) 66 65] [4,5] [4,5,51]))
 (.seq
 (.reg [] [.a 68 (.bin .eq) [.t 54,.k (.i 1)],
 .v 67 68] [4,5,6,54,67] [4,5,51])
 (.cond (.t 67)
 (.alt 5 8 7
 (.reg [0,1,2,3,4,7,5,6,10,13,16,17] [.u 69 (.faddr 0) 5,
 .u 70 .l0 69,
 .u 71 (.faddr 0) 5,
 .u 72 .l0 71,
 .a 73 (.iaddr 1) [.t 72,.k (.i 0)],
 .v 75 6,
 .u 76 (.build [.i 0,.i 0] [(1,1)]) 75,
 .u 74 .take 73,
 .n (.chk (.faddr 0)) 69 5,
 .n (.chk (.l0)) 70 69,
 .u 77 (.bslice 2 true) 76,
 .n (.chk (.faddr 0)) 69 5,
 .n (.chk (.l0)) 70 69,
 .w 78 (.append 2 true) 74 77,
 .n (.chk (.faddr 0)) 69 5,
 .n (.chk (.l0)) 70 69,
 .a 79 (.iaddr 1) [.t 70,.k (.i 0)],
 .n (.store 1 true) 79 78] [4,5] [4,5,51])
 (.reg [0,1,2,3,4,13,5,6,7,16,19,20] [.u 69 (.faddr 0) 5,
 .u 70 .l0 69,
 .u 71 (.faddr 0) 5,
 .u 72 .l0 71,
 .a 73 (.iaddr 1) [.t 72,.k (.i 0)],
 .v 75 6,
 .u 76 (.build [.i 0,.i 0] [(1,1)]) 75,
 .u 77 (.bslice 2 true) 76,
 .n (.chk (.faddr 0)) 69 5,
 .n (.chk (.l0)) 70 69,
 .n (.chk (.faddr 0)) 71 5,
 .n (.chk (.l0)) 72 71,
 ⟨none,.chk (.iaddr 1),[.t 73,.t 72,.k (.i 0)],none⟩,
 .u 74 .take 73,
 .n (.chk (.faddr 0)) 69 5,
 .n (.chk (.l0)) 70 69,
 .w 78 (.append 2 true) 74 77,
 .n (.chk (.faddr 0)) 69 5,
 .n (.chk (.l0)) 70 69,
 .a 79 (.iaddr 1) [.t 70,.k (.i 0)],
 .n (.store 1 true) 79 78] [4,5] [4,5,51]))
 (.seq
 (.reg [] [.a 81 (.bin .eq) [.t 54,.k (.i 2)],
 .v 80 81] [4,5,80] [4,5,51])
 (.cond (.t 80)
 (.seq
 (.reg [] [.a 82 (.build [.nils] []) [],
 .n (.store 1 true) 4 82] [4] [4,51])
 .ret)
 .skip))))))))
 (.seq
 (.reg [] [.u 83 (.l1 1) 5,
 .n (.store 1 true) 4 83] [4] [4,51])
 .ret)))))))
def a45 : AF := ⟨c45,[.cell 4 (some 1)]⟩
def c30 : AC :=
 (.seq
 (.reg [] [.a 2 (.alloc [.nils]) []] [0,2] [2,12,18,24,1012])
 (.seq
 (.seq
 (.reg [] [.v 7 0,
 .a 8 (.call [] false) [.f 25,.t 7,.k (.i 2)],
 .a 9 (.bin .eq) [.t 8,.k (.i 0)]] [0,2,9] [2,12,18,24,1012])
 (.cond (.t 9)
 (.seq
 (.reg [] [.v 11 0,
 .a 12 (.call [] false) [.f 44,.t 11],
 .v 10 12,
 .u 13 (.ext 0) 10,
 .u 14 (.ext 1) 10,
 .a 3 (.alloc [.i 0,.i 0,.nils]) [],
 .n (.store 3 true) 3 13,
 .v 4 14] [0,2,3,4] [2,3,12,18,24,1012])
 (.seq
 (.reg [] [.u 16 (.l1 3) 3,
 .v 17 4,
 .a 18 (.call [] false) [.f 32,.t 16,.t 17],
 .v 15 18,
 .u 19 (.ext 0) 15,
 .u 20 (.ext 1) 15,
 .a 5 (.alloc [.nils]) [],
 .n (.store 1 true) 5 19,
 .v 6 20] [0,2,5,6] [2,5,12,18,24,1012])
 (.seq
 (.reg [] [.v 21 6] [0,2,5,21] [2,5,12,18,24,1012])
 (.cond (.t 21)
 (.seq
 (.reg [] [.u 22 (.l1 1) 5,
 .n (.store 1 true) 2 22] [2] [2,12,18,24,1012])
 .ret)
 .skip))))
 .skip))
 (.seq
 (.reg [] [.v 23 0,
 .a 24 (.call [] false) [.f 45,.t 23,.k (.i 6)],
 .n (.store 1 true) 2 24] [2] [2,12,18,24,1012])
 .ret)))
def a30 : AF := ⟨c30,[.cell 2 (some 1)]⟩
def c31 : AC :=
 (.seq
 (.reg [] [.a 2 (.alloc [.i 0,.i 0,.nils]) [],
 .a 3 (.alloc [.i 0,.i 0,.nils]) [],
 .a 4 .move [.k (.nils)]] [0,2,3] [2,3,12,18,25,31,59,67,73,1012])
 (.seq
 (.reg [] [.v 11 0,
 .a 12 (.call [] false) [.f 44,.t 11],
 .v 10 12,
 .u 13 (.ext 0) 10,
 .u 14 (.ext 1) 10,
 .a 5 (.alloc [.i 0,.i 0,.nils]) [],
 .n (.store 3 true) 5 13,
 .v 6 14] [0,2,3,5,6] [2,3,5,12,18,25,31,59,67,73,1012])
 (.seq
 (.reg [] [.v 15 0,
 .v 16 6,
 .u 17 .len 16,
 .a 18 (.call [] false) [.f 46,.t 15,.t 17],
 .a 7 (.alloc [.i 0,.i 0,.nils]) [],
 .n (.store 3 true) 7 18] [0,2,3,5,6,7] [2,3,5,7,12,18,25,31,59,67,73,1012])
 (.seq
 (.seq
 (.reg [] [.v 19 0,
 .a 20 (.call [] false) [.f 25,.t 19,.k (.i 5)]] [0,2,3,5,6,7,20] [2,3,5,7,12,18,25,31,59,67,73,1012])
 (.block 0
 (.seq
 (.reg [] [.a 22 (.bin .eq) [.t 20,.k (.i 0)],
 .v 21 22] [0,2,3,5,6,7,20,21] [2,3,5,7,12,18,25,31,59,67,73,1012])
 (.cond (.t 21)
 (.reg [] [.u 23 (.l1 3) 5,
 .u 24 (.l1 3) 5,
 .w 25 (.bslice 3 true) 23 24,
 .a 26 (.build [.i 0,.i 0,.nils] [(0,1),(2,1)]) [.k (.i 2),.t 25],
 .n (.store 3 true) 7 26] [2,3,5,6,7] [2,3,5,7,12,18,25,31,59,67,73,1012])
 (.seq
 (.reg [] [.a 28 (.bin .eq) [.t 20,.k (.i 1)],
 .v 27 28] [0,2,3,5,6,7,20,27] [2,3,5,7,12,18,25,31,59,67,73,1012])
 (.cond (.t 27)
 (.reg [] [.u 29 (.l1 3) 5,
 .a 30 (.build [.i 0,.i 0,.nils] []) [],
 .w 31 (.bslice 3 true) 29 30,
 .a 32 (.build [.i 0,.i 0,.nils] [(0,1),(2,1)]) [.k (.i 3),.t 31],
 .n (.store 3 true) 7 32] [2,3,5,6,7] [2,3,5,7,12,18,25,31,59,67,73,1012])
 (.seq
 (.reg [] [.a 34 (.bin .eq) [.t 20,.k (.i 2)],
 .v 33 34] [0,2,3,5,6,7,20,33] [2,3,5,7,12,18,25,31,59,67,73,1012])
 (.cond (.t 33)
 (.seq
 (.reg [] [.u 35 (.faddr 0) 5,
 .u 36 .l0 35,
 .a 37 (.bin .eq) [.t 36,.k (.i 2)],
 .v 38 37,
 .q 39 (.faddr 0) [.t 5] 38 false,
 .q 40 .l0 [.t 39] 38 false,
 .q 41 (.bin .eq) [.t 40,.k (.i 3)] 38 false,
 .a 42 .pick [.t 38,.k (.b true),.t 41],
 .v 43 42,
 .q 44 (.faddr 2) [.t 5] 43 true,
 .q 45 .l0 [.t 44] 43 true,
 .q 46 .len [.t 45] 43 true,
 .q 47 (.bin .eq) [.t 46,.k (.i 2)] 43 true,
 .a 48 .pick [.t 43,.t 47,.k (.b false)]] [2,3,5,6,7,48] [2,3,5,7,12,18,25,31,59,67,73,1012])
 (.cond (.t 48)
 (.reg [0,1,2,3,4,5,6,7,8,9,10,13,14] [.u 49 (.faddr 0) 5,
 .u 50 .l0 49,
 .u 51 (.faddr 2) 5,
 .u 52 .l0 51,
 .a 53 (.iaddr 3) [.t 52,.k (.i 1)],
 .u 54 (.l1 3) 53,
 .u 55 (.faddr 2) 5,
 .u 56 .l0 55,
 .a 57 (.iaddr 3) [.t 56,.k (.i 0)],
 .u 58 (.l1 3) 57,
 .w 59 (.bslice 3 true) 54 58,
 .n (.chk (.faddr 0)) 49 5,
 .n (.chk (.l0)) 50 49,
 .w 60 (.build [.i 0,.i 0,.nils] [(0,1),(2,1)]) 50 59,
 .n (.store 3 true) 7 60] [2,3,5,6,7] [2,3,5,7,12,18,25,31,59,67,73,1012])
 .skip))
 (.seq
 (.reg [] [.a 62 (.bin .eq) [.t 20,.k (.i 3)],
 .v 61 62] [0,2,3,5,6,7,61] [2,3,5,7,12,18,25,31,59,67,73,1012])
 (.cond (.t 61)
 (.seq
 (.reg [] [.v 63 0,
 .a 64 (.call [] false) [.f 47,.t 63],
 .v 8 64] [2,3,5,6,7,8] [2,3,5,7,12,18,25,31,59,67,73,1012])
 (.seq
 (.reg [] [.v 65 8,
 .u 66 (.l1 3) 5,
 .u 67 (.bslice 3 true) 66,
 .a 68 (.build [.i 0,.i 0,.nils] [(0,1),(1,1),(2,1)]) [.k (.i 1),.t 65,.t 67],
 .a 9 (.alloc [.i 0,.i 0,.nils]) [],
 .n (.store 3 true) 9 68] [2,3,5,6,7,8,9] [2,3,5,7,9,12,18,25,31,59,67,73,1012])
 (.seq
 (.reg [] [.v 69 8,
 .u 70 (.l1 3) 5,
 .u 71 (.bslice 3 true) 70,
 .a 72 (.build [.i 0,.i 0,.nils] [(0,1),(2,1)]) [.k (.i 1),.t 71],
 .u 73 (.bslice 3 true) 72,
 .a 74 (.build [.i 0,.i 0,.nils] [(0,1),(1,1),(2,1)]) [.k (.i 1),.t 69,.t 73],
 .n (.store 3 true) 7 74] [2,3,5,6,7,9] [2,3,5,7,9,12,18,25,31,59,67,73,1012])
 (.reg [] [.u 75 (.l1 3) 9,
 .n (.store 3 true) 5 75] [2,3,5,6,7] [2,3,5,7,12,18,25,31,59,67,73,1012]))))
 .skip))))))))))
 (.seq
 (.reg [0,1,2,3,5,6] [.u 76 (.l1 3) 5,
 .u 77 (.l1 3) 7,
 .v 78 6,
 .n (.store 3 true) 2 76,
 .n (.chk (.l1 3)) 77 7,
 .n (.store 3 true) 3 77,
 .v 4 78] [2,3,4] [2,3,12,18,25,31,59,67,73,1012])
 .ret)))))
def a31 : AF := ⟨c31,[.cell 2 (some 3),.cell 3 (some 3),.tmp 4]⟩
def b27l0 : AC :=
 (.seq
 (.seq
 (.reg [] [.v 18 4,
 .u 19 (.faddr 0) 1,
 .u 20 .l0 19,
 .v 21 3,
 .w 22 (.iaddr 1) 20 21,
 .u 23 .l0 22,
 .u 24 .len 23,
 .w 25 (.bin .lt) 18 24] [1,3,4,25] [1])
 (.cond (.t 25)
 .skip
 (.exit 2)))
 (.seq
 (.block 3
 (.seq
 (.reg [] [.u 28 (.faddr 0) 1,
 .u 29 .l0 28,
 .v 30 3,
 .w 31 (.iaddr 1) 29 30,
 .u 32 .l0 31,
 .v 33 4,
 .w 34 (.iaddr 2) 32 33,
 .u 35 (.l1 2) 34,
 .a 5 (.alloc [.i 0,.i 0]) [],
 .n (.store 2 true) 5 35] [1,3,4,5] [1,5])
 (.seq
 (.reg [0,1,2,3,4,5,6,7,8,9,10,11,12,13,14,15,16,17,18,19,20,21,22,23,24,25,26,27,28,29,30,31] [.u 36 (.faddr 0) 5,
 .u 37 .l0 36,
 .a 38 (.call [] false) [.f 41,.t 37],
 .u 39 .not 38,
 .v 40 39,
 .q 41 (.faddr 1) [.t 5] 40 false,
 .q 42 .l0 [.t 41] 40 false,
 .q 43 (.faddr 0) [.t 1] 40 false,
 .q 44 .l0 [.t 43] 40 false,
 .q 45 .len [.t 44] 40 false,
 .q 46 (.bin .sub) [.t 45,.k (.i 1)] 40 false,
 .q 47 (.call [] false) [.f 28,.t 42,.k (.i 0),.t 46] 40 false,
 .q 48 .not [.t 47] 40 false,
 .a 49 .pick [.t 40,.k (.b true),.t 48],
 .v 50 49,
 .q 51 .move [.t 4] 50 false,
 .q 52 (.bin .gt) [.t 51,.k (.i 0)] 50 false,
 .q 53 .move [.t 52] 50 false,
 .q 54 (.faddr 0) [.t 1] 53 true,
 .q 55 .l0 [.t 54] 53 true,
 .q 56 .move [.t 3] 53 true,
 .q 57 (.iaddr 1) [.t 55,.t 56] 53 true,
 .q 58 .l0 [.t 57] 53 true,
 .q 59 .move [.t 4] 53 true,
 .q 60 (.bin .sub) [.t 59,.k (.i 1)] 53 true,
 .q 61 (.iaddr 2) [.t 58,.t 60] 53 true,
 .q 62 (.l1 2) [.t 61] 53 true,
 .q 63 (.l1 2) [.t 5] 53 true,
 .q 64 (.call [] false) [.f 42,.t 62,.t 63] 53 true,
 .q 65 .not [.t 64] 53 true,
 .q 66 .pick [.t 53,.t 65,.k (.b false)] 50 false,
 .a 67 .pick [.t 50,.k (.b true),.t 66]] [1,3,4,67] [1])
 (.cond (.t 67)
 (.seq
 (.reg [] [.a 2 .move [.k (.b false)]] [2] [])
 .ret)
 .skip))))
 (.reg [] [.v 26 4,
 .a 27 (.bin .add) [.t 26,.k (.i 1)],
 .v 4 27] [1,3,4] [1])))
def c27l0 : AC := b27l0
theorem r27l0 (call lp s) : run call lp c27l0 s = run call lp b27l0 s := rfl
def b27l1 : AC :=
 (.seq
 (.seq
 (.reg [] [.v 11 3,
 .u 12 (.faddr 0) 1,
 .u 13 .l0 12,
 .u 14 .len 13,
 .w 15 (.bin .lt) 11 14] [1,3,15] [1])
 (.cond (.t 15)
 .skip
 (.exit 0)))
 (.seq
 (.block 1
 (.seq
 (.reg [] [.a 4 .move [.k (.i 0)]] [1,3,4] [1])
 (.block 2
 (.loop [1,3,4] [1] c27l0))))
 (.reg [] [.v 16 3,
 .a 17 (.bin .add) [.t 16,.k (.i 1)],
 .v 3 17] [1,3] [1])))
def c27l1 : AC := b27l1
theorem r27l1 (call lp s) : run call lp c27l1 s = run call lp b27l1 s := rfl
def c27 : AC :=
 (.seq
 (.reg [] [.u 1 .box 0,
 .a 2 .move [.k (.b false)]] [1] [1])
 (.seq
 (.seq
 (.reg [] [.u 6 (.faddr 0) 1,
 .u 7 .l0 6,
 .u 8 .len 7,
 .a 9 (.call [] false) [.f 28,.t 8,.k (.i 1),.k (.i 60)],
 .u 10 .not 9] [1,10] [1])
 (.cond (.t 10)
 (.seq
 (.reg [] [.a 2 .move [.k (.b false)]] [2] [])
 .ret)
 .skip))
 (.seq
 (.seq
 (.reg [] [.a 3 .move [.k (.i 0)]] [1,3] [1])
 (.block 0
 (.loop [1,3] [1] c27l1)))
 (.seq
 (.reg [] [.a 2 .move [.k (.b true)]] [2] [])
 .ret))))
def a27 : AF := ⟨c27,[.tmp 2]⟩
def b43l0 : AC :=
 (.seq
 (.seq
 (.reg [] [.v 13 11,
 .u 14 (.faddr 0) 5,
 .u 15 .l0 14,
 .v 16 1,
 .w 17 (.iaddr 1) 15 16,
 .u 18 .l0 17,
 .u 19 .len 18,
 .w 20 (.bin .lt) 13 19] [1,2,3,4,5,11,20] [5])
 (.cond (.t 20)
 .skip
 (.exit 0)))
 (.seq
 (.block 1
 (.seq
 (.reg [] [.u 23 (.faddr 0) 5,
 .u 24 .l0 23,
 .v 25 1,
 .w 26 (.iaddr 1) 24 25,
 .u 27 .l0 26,
 .v 28 11,
 .w 29 (.iaddr 2) 27 28,
 .u 30 (.l1 2) 29,
 .a 12 (.alloc [.i 0,.i 0]) [],
 .n (.store 2 true) 12 30] [1,2,3,4,5,11,12] [5,12])
 (.seq
 (.reg [] [.u 31 (.faddr 0) 12,
 .u 32 .l0 31,
 .v 33 2,
 .w 34 (.bin .eq) 32 33,
 .v 35 34,
 .q 36 .move [.t 3] 35 true,
 .q 37 (.faddr 1) [.t 12] 35 true,
 .q 38 .l0 [.t 37] 35 true,
 .q 39 (.iaddr 1) [.t 36,.t 38] 35 true,
 .q 40 .l0 [.t 39] 35 true,
 .q 41 .move [.t 4] 35 true,
 .q 42 (.bin .eq) [.t 40,.t 41] 35 true,
 .a 43 .pick [.t 35,.t 42,.k (.b false)]] [1,2,3,4,5,11,43] [5])
 (.cond (.t 43)
 (.seq
 (.reg [] [.a 10 .move [.k (.b true)]] [10] [])
 .ret)
 .skip))))
 (.reg [] [.v 21 11,
 .a 22 (.bin .add) [.t 21,.k (.i 1)],
 .v 11 22] [1,2,3,4,5,11] [5])))
def c43l0 : AC := b43l0
theorem r43l0 (call lp s) : run call lp c43l0 s = run call lp b43l0 s := rfl
def c43 : AC :=
 (.seq
 (.reg [] [.u 5 .box 0,
 .a 10 .move [.k (.b false)]] [1,2,3,4,5] [5])
 (.seq
 (.seq
 (.reg [] [.a 11 .move [.k (.i 0)]] [1,2,3,4,5,11] [5])
 (.block 0
 (.loop [1,2,3,4,5,11] [5] c43l0)))
 (.seq
 (.reg [] [.a 10 .move [.k (.b false)]] [10] [])
 .ret)))
def a43 : AF := ⟨c43,[.tmp 10]⟩
def b70l0 : AC :=
 (.seq
 (.seq
 (.reg [] [.v 11 9,
 .u 12 (.faddr 0) 4,
 .u 13 .l0 12,
 .v 14 1,
 .w 15 (.iaddr 1) 13 14,
 .u 16 .l0 15,
 .u 17 .len 16,
 .w 18 (.bin .lt) 11 17] [1,2,3,4,9,18] [4])
 (.cond (.t 18)
 .skip
 (.exit 0)))
 (.seq
 (.block 1
 (.seq
 (.reg [] [.u 21 (.faddr 0) 4,
 .u 22 .l0 21,
 .v 23 1,
 .w 24 (.iaddr 1) 22 23,
 .u 25 .l0 24,
 .v 26 9,
 .w 27 (.iaddr 2) 25 26,
 .u 28 (.l1 2) 27,
 .a 10 (.alloc [.i 0,.i 0]) [],
 .n (.store 2 true) 10 28] [1,2,3,4,9,10] [4,10])
 (.seq
 (.reg [0,1,2,3,4,5,6,7,8,9,10,11] [.u 29 (.l1 1) 4,
 .v 30 2,
 .u 31 (.faddr 0) 10,
 .u 32 .l0 31,
 .v 33 3,
 .v 34 3,
 .u 35 (.faddr 1) 10,
 .u 36 .l0 35,
 .w 37 (.iaddr 1) 34 36,
 .u 38 .l0 37,
 .a 39 (.call [] false) [.f 43,.t 29,.t 30,.t 32,.t 33,.t 38],
 .u 40 .not 39] [1,2,3,4,9,40] [4])
 (.cond (.t 40)
 (.seq
 (.reg [] [.a 8 .move [.k (.b false)]] [8] [])
 .ret)
 .skip))))
 (.reg [] [.v 19 9,
 .a 20 (.bin .add) [.t 19,.k (.i 1)],
 .v 9 20] [1,2,3,4,9] [4])))
def c70l0 : AC := b70l0
theorem r70l0 (call lp s) : run call lp c70l0 s = run call lp b70l0 s := rfl
def c70 : AC :=
 (.seq
 (.reg [] [.u 4 .box 0,
 .a 8 .move [.k (.b false)]] [1,2,3,4] [4])
 (.seq
 (.seq
 (.reg [] [.a 9 .move [.k (.i 0)]] [1,2,3,4,9] [4])
 (.block 0
 (.loop [1,2,3,4,9] [4] c70l0)))
 (.seq
 (.reg [] [.a 8 .move [.k (.b true)]] [8] [])
 .ret)))
def a70 : AF := ⟨c70,[.tmp 8]⟩
def b54l0 : AC :=
 (.seq
 (.seq
 (.reg [] [.v 19 8,
 .a 20 (.bin .ge) [.t 19,.k (.i 0)]] [1,2,5,6,7,8,20] [2,9,50])
 (.cond (.t 20)
 .skip
 (.exit 2)))
 (.seq
 (.block 3
 (.seq
 (.reg [0,1,2,3,4,5,6,7,8,9,10,11,12,13,14,15,16,17,18,19,20,21,22] [.v 23 1,
 .v 24 8,
 .w 25 (.iaddr 1) 23 24,
 .u 26 .l0 25,
 .v 27 1,
 .v 28 6,
 .w 29 (.iaddr 1) 27 28,
 .u 30 .l0 29,
 .w 31 (.bin .eq) 26 30,
 .v 32 31,
 .q 33 (.l1 1) [.t 2] 32 true,
 .q 34 .move [.t 6] 32 true,
 .q 35 .move [.t 8] 32 true,
 .q 36 .move [.t 1] 32 true,
 .q 37 (.call [] false) [.f 70,.t 33,.t 34,.t 35,.t 36] 32 true,
 .a 38 .pick [.t 32,.t 37,.k (.b false)],
 .v 39 38,
 .q 40 (.l1 1) [.t 2] 39 true,
 .q 41 .move [.t 8] 39 true,
 .q 42 .move [.t 6] 39 true,
 .q 43 .move [.t 1] 39 true,
 .q 44 (.call [] false) [.f 70,.t 40,.t 41,.t 42,.t 43] 39 true,
 .a 45 .pick [.t 39,.t 44,.k (.b false)]] [1,2,5,6,7,8,45] [2,9,50])
 (.cond (.t 45)
 (.reg [] [.v 46 8,
 .v 7 46] [1,2,5,6,7,8] [2,9,50])
 .skip)))
 (.reg [] [.v 21 8,
 .a 22 (.bin .sub) [.t 21,.k (.i 1)],
 .v 8 22] [1,2,5,6,7,8] [2,9,50])))
def c54l0 : AC := b54l0
theorem r54l0 (call lp s) : run call lp c54l0 s = run call lp b54l0 s := rfl
def b54l1 : AC :=
 (.seq
 (.seq
 (.reg [] [.v 10 6,
 .v 11 1,
 .u 12 .len 11,
 .w 13 (.bin .lt) 10 12] [1,2,5,6,13] [2,9,50])
 (.cond (.t 13)
 .skip
 (.exit 0)))
 (.seq
 (.block 1
 (.seq
 (.reg [] [.v 16 6,
 .v 7 16] [1,2,5,6,7] [2,9,50])
 (.seq
 (.seq
 (.reg [] [.v 17 6,
 .a 18 (.bin .sub) [.t 17,.k (.i 1)],
 .v 8 18] [1,2,5,6,7,8] [2,9,50])
 (.block 2
 (.loop [1,2,5,6,7,8] [2,9,50] c54l0)))
 (.reg [] [.v 47 5,
 .v 48 7,
 .u 49 (.bslice 1 true) 48,
 .w 50 (.append 1 true) 47 49,
 .v 5 50] [1,2,5,6] [2,9,50]))))
 (.reg [] [.v 14 6,
 .a 15 (.bin .add) [.t 14,.k (.i 1)],
 .v 6 15] [1,2,5,6] [2,9,50])))
def c54l1 : AC := b54l1
theorem r54l1 (call lp s) : run call lp c54l1 s = run call lp b54l1 s := rfl
def c54 : AC :=
 (.seq
 (.reg [] [.u 2 .box 0,
 .a 4 .move [.k (.nils)]] [1,2] [2])
 (.seq
 (.reg [] [.a 9 (.bslice 1 true) [],
 .v 5 9] [1,2,5] [2,9,50])
 (.seq
 (.seq
 (.reg [] [.a 6 .move [.k (.i 0)]] [1,2,5,6] [2,9,50])
 (.block 0
 (.loop [1,2,5,6] [2,9,50] c54l1)))
 (.seq
 (.reg [] [.v 51 5,
 .v 4 51] [4] [9,50])
 .ret))))
def a54 : AF := ⟨c54,[.tmp 4]⟩
def b55l0 : AC :=
 (.seq
 (.seq
 (.reg [] [.v 11 5,
 .v 12 0,
 .u 13 .len 12,
 .w 14 (.bin .lt) 11 13] [0,1,5,14] [])
 (.cond (.t 14)
 .skip
 (.exit 0)))
 (.seq
 (.block 1
 (.seq
 (.reg [0,1,2,3,4,5,6,7,8] [.v 17 0,
 .v 18 5,
 .w 19 (.iaddr 1) 17 18,
 .u 20 .l0 19,
 .v 21 1,
 .v 22 5,
 .w 23 (.iaddr 1) 21 22,
 .u 24 .l0 23,
 .w 25 (.bin .ne) 20 24] [0,1,5,25] [])
 (.cond (.t 25)
 (.seq
 (.reg [] [.a 4 .move [.k (.b false)]] [4] [])
 .ret)
 .skip)))
 (.reg [] [.v 15 5,
 .a 16 (.bin .add) [.t 15,.k (.i 1)],
 .v 5 16] [0,1,5] [])))
def c55l0 : AC := b55l0
theorem r55l0 (call lp s) : run call lp c55l0 s = run call lp b55l0 s := rfl
def c55 : AC :=
 (.seq
 (.reg [] [.a 4 .move [.k (.b false)]] [0,1] [])
 (.seq
 (.seq
 (.reg [] [.v 6 0,
 .u 7 .len 6,
 .v 8 1,
 .u 9 .len 8,
 .w 10 (.bin .ne) 7 9] [0,1,10] [])
 (.cond (.t 10)
 (.seq
 (.reg [] [.a 4 .move [.k (.b false)]] [4] [])
 .ret)
 .skip))
 (.seq
 (.seq
 (.reg [] [.a 5 .move [.k (.i 0)]] [0,1,5] [])
 (.block 0
 (.loop [0,1,5] [] c55l0)))
 (.seq
 (.reg [] [.a 4 .move [.k (.b true)]] [4] [])
 .ret))))
def a55 : AF := ⟨c55,[.tmp 4]⟩
def b37l0 : AC :=
 (.block 1
 (.seq
 (.reg [0,1,2,3,4,5,6,7,8] [.u 10 (.l1 1) 1,
 .v 11 3,
 .v 12 3,
 .u 13 .len 12,
 .a 14 (.bin .sub) [.t 13,.k (.i 1)],
 .w 15 (.iaddr 1) 11 14,
 .u 16 .l0 15,
 .a 17 (.call [] false) [.f 54,.t 10,.t 16],
 .v 4 17] [1,3,4] [1,9,17,30])
 (.seq
 (.seq
 (.reg [] [.v 18 4,
 .v 19 3,
 .v 20 3,
 .u 21 .len 20,
 .a 22 (.bin .sub) [.t 21,.k (.i 1)],
 .w 23 (.iaddr 1) 19 22,
 .u 24 .l0 23,
 .a 25 (.call [] false) [.f 55,.t 18,.t 24]] [1,3,4,25] [1,9,17,30])
 (.cond (.t 25)
 (.seq
 (.reg [] [.v 26 3,
 .v 2 26] [2] [9,30])
 .ret)
 .skip))
 (.reg [] [.v 27 3,
 .v 28 4,
 .u 29 (.bslice 1 false) 28,
 .w 30 (.append 1 true) 27 29,
 .v 3 30] [1,3] [1,9,30]))))
def c37l0 : AC := b37l0
theorem r37l0 (call lp s) : run call lp c37l0 s = run call lp b37l0 s := rfl
def c37 : AC :=
 (.seq
 (.reg [] [.u 1 .box 0,
 .a 2 .move [.k (.nils)]] [1] [1])
 (.seq
 (.reg [] [.u 5 (.faddr 0) 1,
 .u 6 .l0 5,
 .u 7 .len 6,
 .w 8 (.mkslice 1 (.i 0)) 7 7,
 .u 9 (.bslice 1 false) 8,
 .v 3 9] [1,3] [1,9,30])
 (.block 0
 (.loop [1,3] [1,9,30] c37l0))))
def a37 : AF := ⟨c37,[.tmp 2]⟩
def c18 : AC :=
 (.seq
 (.reg [] [.u 1 .box 0,
 .a 2 .move [.k (.nils)]] [1] [1])
 (.seq
 (.reg [] [.u 4 (.l1 1) 1,
 .a 5 (.call [] false) [.f 37,.t 4],
 .v 3 5] [3] [5])
 (.seq
 (.reg [] [.v 6 3,
 .v 7 3,
 .u 8 .len 7,
 .a 9 (.bin .sub) [.t 8,.k (.i 1)],
 .w 10 (.iaddr 1) 6 9,
 .u 11 .l0 10,
 .v 2 11] [2] [])
 .ret)))
def a18 : AF := ⟨c18,[.tmp 2]⟩
def b50l0 : AC :=
 (.seq
 (.seq
 (.reg [] [.v 15 7,
 .v 16 1,
 .u 17 .len 16,
 .w 18 (.bin .lt) 15 17] [1,2,4,5,6,7,18] [2,4,14,97])
 (.cond (.t 18)
 .skip
 (.exit 0)))
 (.seq
 (.block 1
 (.seq
 (.reg [] [.v 21 5,
 .v 22 7,
 .v 23 5,
 .v 24 1,
 .v 25 7,
 .w 26 (.iaddr 1) 24 25,
 .u 27 .l0 26,
 .w 28 (.iaddr 1) 23 27,
 .u 29 .l0 28,
 .w 30 (.iaddr 1) 21 22,
 .n (.store 1 true) 30 29] [1,2,4,5,6,7] [2,4,14,97])
 (.seq
 (.reg [] [.v 31 1,
 .v 32 7,
 .w 33 (.iaddr 1) 31 32,
 .u 34 .l0 33,
 .v 35 7,
 .w 36 (.bin .eq) 34 35] [1,2,4,5,6,7,36] [2,4,14,97])
 (.cond (.t 36)
 (.seq
 (.reg [] [.v 37 5,
 .v 38 7,
 .v 39 6,
 .w 40 (.iaddr 1) 37 38,
 .n (.store 1 true) 40 39] [1,2,4,5,6,7] [2,4,14,97])
 (.reg [] [.v 41 6,
 .a 42 (.bin .add) [.t 41,.k (.i 1)],
 .v 6 42] [1,2,4,5,6,7] [2,4,14,97]))
 .skip))))
 (.reg [] [.v 19 7,
 .a 20 (.bin .add) [.t 19,.k (.i 1)],
 .v 7 20] [1,2,4,5,6,7] [2,4,14,97])))
def c50l0 : AC := b50l0
theorem r50l0 (call lp s) : run call lp c50l0 s = run call lp b50l0 s := rfl
def b50l1 : AC :=
 (.seq
 (.seq
 (.reg [] [.v 57 11,
 .u 58 (.faddr 0) 2,
 .u 59 .l0 58,
 .v 60 9,
 .w 61 (.iaddr 1) 59 60,
 .u 62 .l0 61,
 .u 63 .len 62,
 .w 64 (.bin .lt) 57 63] [1,2,4,5,8,9,10,11,64] [2,4,8,14,56,91,97])
 (.cond (.t 64)
 .skip
 (.exit 4)))
 (.seq
 (.block 5
 (.reg [0,1,2,3,4,5,6,7,8,9,10,11,12,13,14,15,16,17,18,19,20,21,22,23,24,25] [.v 67 10,
 .u 68 (.faddr 0) 2,
 .u 69 .l0 68,
 .v 70 9,
 .w 71 (.iaddr 1) 69 70,
 .u 72 .l0 71,
 .v 73 11,
 .w 74 (.iaddr 2) 72 73,
 .u 75 (.faddr 0) 74,
 .u 76 .l0 75,
 .v 77 5,
 .u 78 (.faddr 0) 2,
 .u 79 .l0 78,
 .v 80 9,
 .w 81 (.iaddr 1) 79 80,
 .u 82 .l0 81,
 .v 83 11,
 .w 84 (.iaddr 2) 82 83,
 .u 85 (.faddr 1) 84,
 .u 86 .l0 85,
 .w 87 (.iaddr 1) 77 86,
 .u 88 .l0 87,
 .w 89 (.build [.i 0,.i 0] [(0,1),(1,1)]) 76 88,
 .u 90 (.bslice 2 true) 89,
 .w 91 (.append 2 true) 67 90,
 .v 10 91] [1,2,4,5,8,9,10,11] [2,4,8,14,56,91,97]))
 (.reg [] [.v 65 11,
 .a 66 (.bin .add) [.t 65,.k (.i 1)],
 .v 11 66] [1,2,4,5,8,9,10,11] [2,4,8,14,56,91,97])))
def c50l1 : AC := b50l1
theorem r50l1 (call lp s) : run call lp c50l1 s = run call lp b50l1 s := rfl
def b50l2 : AC :=
 (.seq
 (.seq
 (.reg [] [.v 44 9,
 .v 45 1,
 .u 46 .len 45,
 .w 47 (.bin .lt) 44 46] [1,2,4,5,8,9,47] [2,4,8,14,97])
 (.cond (.t 47)
 .skip
 (.exit 2)))
 (.seq
 (.block 3
 (.seq
 (.seq
 (.reg [] [.v 50 1,
 .v 51 9,
 .w 52 (.iaddr 1) 50 51,
 .u 53 .l0 52,
 .v 54 9,
 .w 55 (.bin .ne) 53 54] [1,2,4,5,8,9,55] [2,4,8,14,97])
 (.cond (.t 55)
 (.exit 3)
 .skip))
 (.seq
 (.reg [] [.a 56 (.bslice 2 true) [],
 .v 10 56] [1,2,4,5,8,9,10] [2,4,8,14,56,91,97])
 (.seq
 (.seq
 (.reg [] [.a 11 .move [.k (.i 0)]] [1,2,4,5,8,9,10,11] [2,4,8,14,56,91,97])
 (.block 4
 (.loop [1,2,4,5,8,9,10,11] [2,4,8,14,56,91,97] c50l1)))
 (.reg [0,1,2,3,6,9,10,11] [.u 92 (.faddr 0) 8,
 .u 93 .l0 92,
 .v 94 10,
 .a 95 (.call [] false) [.f 58,.t 94],
 .n (.chk (.faddr 0)) 92 8,
 .n (.chk (.l0)) 93 92,
 .u 96 (.bslice 1 true) 95,
 .n (.chk (.faddr 0)) 92 8,
 .n (.chk (.l0)) 93 92,
 .w 97 (.append 1 true) 93 96,
 .u 98 (.faddr 0) 8,
 .n (.store 1 true) 98 97] [1,2,4,5,8,9] [2,4,8,14,97])))))
 (.reg [] [.v 48 9,
 .a 49 (.bin .add) [.t 48,.k (.i 1)],
 .v 9 49] [1,2,4,5,8,9] [2,4,8,14,97])))
def c50l2 : AC := b50l2
theorem r50l2 (call lp s) : run call lp c50l2 s = run call lp b50l2 s := rfl
def c50 : AC :=
 (.seq
 (.reg [] [.u 2 .box 0,
 .a 4 (.alloc [.nils]) []] [1,2,4] [2,4,97])
 (.seq
 (.reg [] [.v 12 1,
 .u 13 .len 12,
 .w 14 (.mkslice 1 (.i 0)) 13 13,
 .v 5 14] [1,2,4,5] [2,4,14,97])
 (.seq
 (.reg [] [.a 6 .move [.k (.i 0)]] [1,2,4,5,6] [2,4,14,97])
 (.seq
 (.seq
 (.reg [] [.a 7 .move [.k (.i 0)]] [1,2,4,5,6,7] [2,4,14,97])
 (.block 0
 (.loop [1,2,4,5,6,7] [2,4,14,97] c50l0)))
 (.seq
 (.reg [] [.a 43 (.build [.nils] []) [],
 .a 8 (.alloc [.nils]) [],
 .n (.store 1 true) 8 43] [1,2,4,5,8] [2,4,8,14,97])
 (.seq
 (.seq
 (.reg [] [.a 9 .move [.k (.i 0)]] [1,2,4,5,8,9] [2,4,8,14,97])
 (.block 2
 (.loop [1,2,4,5,8,9] [2,4,8,14,97] c50l2)))
 (.seq
 (.reg [] [.u 99 (.l1 1) 8,
 .n (.store 1 true) 4 99] [4] [4,97])
 .ret)))))))
def a50 : AF := ⟨c50,[.cell 4 (some 1)]⟩
def c33 : AC :=
 (.seq
 (.reg [] [.u 1 .box 0,
 .a 2 (.alloc [.nils]) [],
 .a 3 .move [.k (.b false)]] [1,2] [1,2,10,11])
 (.seq
 (.seq
 (.reg [] [.u 4 (.l1 1) 1,
 .a 5 (.call [] false) [.f 27,.t 4],
 .u 6 .not 5] [1,2,6] [1,2,10,11])
 (.cond (.t 6)
 (.seq
 (.reg [] [.a 7 (.build [.nils] []) [],
 .n (.store 1 true) 2 7,
 .a 3 .move [.k (.b false)]] [2,3] [2,10,11])
 .ret)
 .skip))
 (.seq
 (.reg [0,1,2,4,5,6] [.u 8 (.l1 1) 1,
 .u 9 (.l1 1) 1,
 .a 10 (.call [] false) [.f 18,.t 9],
 .n (.chk (.l1 1)) 8 1,
 .a 11 (.call [] false) [.f 50,.t 8,.t 10],
 .n (.store 1 true) 2 11,
 .a 3 .move [.k (.b true)]] [2,3] [2,10,11])
 .ret)))
def a33 : AF := ⟨c33,[.cell 2 (some 1),.tmp 3]⟩
def c15 : AC :=
 (.seq
 (.reg [] [.a 2 (.alloc [.nils]) [],
 .a 3 (.alloc [.nils]) []] [0,2,3] [2,3,16,18,25,32,38,51,1025,2025])
 (.seq
 (.reg [] [.v 15 0,
 .a 16 (.call [] false) [.f 30,.t 15],
 .v 17 0,
 .a 18 (.call [] false) [.f 30,.t 17],
 .a 4 (.alloc [.nils]) [],
 .a 5 (.alloc [.nils]) [],
 .n (.store 1 true) 4 16,
 .n (.store 1 true) 5 18] [0,2,3,4,5] [2,3,4,5,16,18,25,32,38,51,1025,2025])
 (.seq
 (.seq
 (.reg [] [.v 19 0,
 .a 20 (.call [] false) [.f 25,.t 19,.k (.i 4)]] [0,2,3,4,5,20] [2,3,4,5,16,18,25,32,38,51,1025,2025])
 (.block 0
 (.seq
 (.reg [] [.a 22 (.bin .eq) [.t 20,.k (.i 0)],
 .v 21 22] [0,2,3,4,5,20,21] [2,3,4,5,16,18,25,32,38,51,1025,2025])
 (.cond (.t 21)
 (.seq
 (.reg [] [.v 24 0,
 .a 25 (.call [] false) [.f 31,.t 24],
 .v 23 25,
 .u 26 (.ext 0) 23,
 .u 27 (.ext 1) 23,
 .u 28 (.ext 2) 23,
 .a 6 (.alloc [.i 0,.i 0,.nils]) [],
 .a 7 (.alloc [.i 0,.i 0,.nils]) [],
 .n (.store 3 true) 6 26,
 .n (.store 3 true) 7 27,
 .v 8 28] [2,3,4,5,6,7,8] [2,3,4,5,6,7,16,18,25,32,38,51,1025,2025])
 (.seq
 (.reg [] [.u 30 (.l1 3) 6,
 .v 31 8,
 .a 32 (.call [] false) [.f 32,.t 30,.t 31],
 .v 29 32,
 .u 33 (.ext 0) 29,
 .u 34 (.ext 1) 29,
 .a 9 (.alloc [.nils]) [],
 .n (.store 1 true) 9 33,
 .v 10 34] [2,3,4,5,7,8,9,10] [2,3,4,5,7,9,16,18,25,32,38,51,1025,2025])
 (.seq
 (.reg [] [.u 36 (.l1 3) 7,
 .v 37 8,
 .a 38 (.call [] false) [.f 32,.t 36,.t 37],
 .v 35 38,
 .u 39 (.ext 0) 35,
 .u 40 (.ext 1) 35,
 .a 11 (.alloc [.nils]) [],
 .n (.store 1 true) 11 39,
 .v 12 40] [2,3,4,5,9,10,11,12] [2,3,4,5,9,11,16,18,25,32,38,51,1025,2025])
 (.seq
 (.reg [] [.v 41 10,
 .v 42 41,
 .q 43 .move [.t 12] 42 true,
 .a 44 .pick [.t 42,.t 43,.k (.b false)]] [2,3,4,5,9,11,44] [2,3,4,5,9,11,16,18,25,32,38,51,1025,2025])
 (.cond (.t 44)
 (.seq
 (.reg [0,1,2,4] [.u 45 (.l1 1) 9,
 .u 46 (.l1 1) 11,
 .n (.store 1 true) 2 45,
 .n (.chk (.l1 1)) 46 11,
 .n (.store 1 true) 3 46] [2,3] [2,3,16,18,25,32,38,51,1025,2025])
 .ret)
 .skip)))))
 (.seq
 (.reg [] [.a 48 (.bin .eq) [.t 20,.k (.i 1)],
 .v 47 48] [2,3,4,5,47] [2,3,4,5,16,18,25,32,38,51,1025,2025])
 (.cond (.t 47)
 (.seq
 (.reg [] [.u 50 (.l1 1) 4,
 .a 51 (.call [] false) [.f 33,.t 50],
 .v 49 51,
 .u 52 (.ext 0) 49,
 .u 53 (.ext 1) 49,
 .a 13 (.alloc [.nils]) [],
 .n (.store 1 true) 13 52,
 .v 14 53] [2,3,4,5,13,14] [2,3,4,5,13,16,18,25,32,38,51,1025,2025])
 (.seq
 (.reg [] [.v 54 14] [2,3,4,5,13,54] [2,3,4,5,13,16,18,25,32,38,51,1025,2025])
 (.cond (.t 54)
 (.seq
 (.reg [0,1,2,4] [.u 55 (.l1 1) 4,
 .u 56 (.l1 1) 13,
 .n (.store 1 true) 2 55,
 .n (.chk (.l1 1)) 56 13,
 .n (.store 1 true) 3 56] [2,3] [2,3,16,18,25,32,38,51,1025,2025])
 .ret)
 .skip)))
 .skip))))))
 (.seq
 (.reg [0,1,2,4] [.u 57 (.l1 1) 4,
 .u 58 (.l1 1) 5,
 .n (.store 1 true) 2 57,
 .n (.chk (.l1 1)) 58 5,
 .n (.store 1 true) 3 58] [2,3] [2,3,16,18,25,32,38,51,1025,2025])
 .ret))))
def a15 : AF := ⟨c15,[.cell 2 (some 1),.cell 3 (some 1)]⟩
def b36l0 : AC :=
 (.seq
 (.seq
 (.reg [] [.v 12 6,
 .u 13 (.faddr 0) 2,
 .u 14 .l0 13,
 .u 15 .len 14,
 .w 16 (.bin .lt) 12 15] [2,3,4,5,6,16] [2,3,4,5,29,80])
 (.cond (.t 16)
 .skip
 (.exit 0)))
 (.seq
 (.block 1
 (.reg [0,1,7,2,3,4,5,6,14,17,20,21,22] [.u 19 (.faddr 0) 5,
 .u 20 .l0 19,
 .u 22 (.faddr 0) 2,
 .u 23 .l0 22,
 .v 24 6,
 .w 25 (.iaddr 1) 23 24,
 .u 26 .l0 25,
 .a 21 (.bslice 2 true) [],
 .n (.chk (.faddr 0)) 19 5,
 .n (.chk (.l0)) 20 19,
 .n (.chk (.faddr 0)) 22 2,
 .n (.chk (.l0)) 23 22,
 ⟨none,.chk (.iaddr 1),[.t 25,.t 23,.t 24],none⟩,
 .n (.chk (.l0)) 26 25,
 .w 27 (.append 2 true) 21 26,
 .n (.chk (.faddr 0)) 19 5,
 .n (.chk (.l0)) 20 19,
 .u 28 (.bslice 1 false) 27,
 .n (.chk (.faddr 0)) 19 5,
 .n (.chk (.l0)) 20 19,
 .w 29 (.append 1 true) 20 28,
 .u 30 (.faddr 0) 5,
 .n (.store 1 true) 30 29] [2,3,4,5,6] [2,3,4,5,29,80]))
 (.reg [] [.v 17 6,
 .a 18 (.bin .add) [.t 17,.k (.i 1)],
 .v 6 18] [2,3,4,5,6] [2,3,4,5,29,80])))
def c36l0 : AC := b36l0
theorem r36l0 (call lp s) : run call lp c36l0 s = run call lp b36l0 s := rfl
def b36l1 : AC :=
 (.seq
 (.seq
 (.reg [] [.v 42 10,
 .u 43 (.faddr 0) 3,
 .u 44 .l0 43,
 .v 45 8,
 .w 46 (.iaddr 1) 44 45,
 .u 47 .l0 46,
 .u 48 .len 47,
 .w 49 (.bin .lt) 42 48] [3,4,5,7,8,9,10,49] [3,4,5,29,41,75,80])
 (.cond (.t 49)
 .skip
 (.exit 4)))
 (.seq
 (.block 5
 (.reg [0,1,2,3,4,5,6,7,8,9,10,11,12,13,14,15,16,17,18,19,20,21,22,23,24] [.v 52 9,
 .u 53 (.faddr 0) 3,
 .u 54 .l0 53,
 .v 55 8,
 .w 56 (.iaddr 1) 54 55,
 .u 57 .l0 56,
 .v 58 10,
 .w 59 (.iaddr 2) 57 58,
 .u 60 (.faddr 0) 59,
 .u 61 .l0 60,
 .u 62 (.faddr 0) 3,
 .u 63 .l0 62,
 .v 64 8,
 .w 65 (.iaddr 1) 63 64,
 .u 66 .l0 65,
 .v 67 10,
 .w 68 (.iaddr 2) 66 67,
 .u 69 (.faddr 1) 68,
 .u 70 .l0 69,
 .v 71 7,
 .w 72 (.bin .add) 70 71,
 .w 73 (.build [.i 0,.i 0] [(0,1),(1,1)]) 61 72,
 .u 74 (.bslice 2 true) 73,
 .w 75 (.append 2 true) 52 74,
 .v 9 75] [3,4,5,7,8,9,10] [3,4,5,29,41,75,80]))
 (.reg [] [.v 50 10,
 .a 51 (.bin .add) [.t 50,.k (.i 1)],
 .v 10 51] [3,4,5,7,8,9,10] [3,4,5,29,41,75,80])))
def c36l1 : AC := b36l1
theorem r36l1 (call lp s) : run call lp c36l1 s = run call lp b36l1 s := rfl
def b36l2 : AC :=
 (.seq
 (.seq
 (.reg [] [.v 34 8,
 .u 35 (.faddr 0) 3,
 .u 36 .l0 35,
 .u 37 .len 36,
 .w 38 (.bin .lt) 34 37] [3,4,5,7,8,38] [3,4,5,29,80])
 (.cond (.t 38)
 .skip
 (.exit 2)))
 (.seq
 (.block 3
 (.seq
 (.reg [] [.a 41 (.bslice 2 true) [],
 .v 9 41] [3,4,5,7,8,9] [3,4,5,29,41,75,80])
 (.seq
 (.seq
 (.reg [] [.a 10 .move [.k (.i 0)]] [3,4,5,7,8,9,10] [3,4,5,29,41,75,80])
 (.block 4
 (.loop [3,4,5,7,8,9,10] [3,4,5,29,41,75,80] c36l1)))
 (.reg [] [.u 76 (.faddr 0) 5,
 .u 77 .l0 76,
 .v 78 9,
 .u 79 (.bslice 1 false) 78,
 .w 80 (.append 1 true) 77 79,
 .u 81 (.faddr 0) 5,
 .n (.store 1 true) 81 80] [3,4,5,7,8] [3,4,5,29,80]))))
 (.reg [] [.v 39 8,
 .a 40 (.bin .add) [.t 39,.k (.i 1)],
 .v 8 40] [3,4,5,7,8] [3,4,5,29,80])))
def c36l2 : AC := b36l2
theorem r36l2 (call lp s) : run call lp c36l2 s = run call lp b36l2 s := rfl
def c36 : AC :=
 (.seq
 (.reg [] [.u 2 .box 0,
 .u 3 .box 1,
 .a 4 (.alloc [.nils]) []] [2,3,4] [2,3,4,29,80])
 (.seq
 (.reg [] [.a 11 (.build [.nils] []) [],
 .a 5 (.alloc [.nils]) [],
 .n (.store 1 true) 5 11] [2,3,4,5] [2,3,4,5,29,80])
 (.seq
 (.seq
 (.reg [] [.a 6 .move [.k (.i 0)]] [2,3,4,5,6] [2,3,4,5,29,80])
 (.block 0
 (.loop [2,3,4,5,6] [2,3,4,5,29,80] c36l0)))
 (.seq
 (.reg [] [.u 31 (.faddr 0) 2,
 .u 32 .l0 31,
 .u 33 .len 32,
 .v 7 33] [3,4,5,7] [3,4,5,29,80])
 (.seq
 (.seq
 (.reg [] [.a 8 .move [.k (.i 0)]] [3,4,5,7,8] [3,4,5,29,80])
 (.block 2
 (.loop [3,4,5,7,8] [3,4,5,29,80] c36l2)))
 (.seq
 (.reg [] [.u 82 (.l1 1) 5,
 .n (.store 1 true) 4 82] [4] [4,29,80])
 .ret))))))
def a36 : AF := ⟨c36,[.cell 4 (some 1)]⟩
def c17 : AC :=
 (.seq
 (.reg [] [.u 2 .box 0,
 .u 3 .box 1,
 .a 4 (.alloc [.nils]) [],
 .a 5 .move [.k (.b false)]] [2,3,4] [2,3,4,27])
 (.seq
 (.seq
 (.reg [] [.u 6 (.l1 1) 2,
 .a 7 (.call [] false) [.f 27,.t 6],
 .u 8 .not 7,
 .v 9 8,
 .q 10 (.l1 1) [.t 3] 9 false,
 .q 11 (.call [] false) [.f 27,.t 10] 9 false,
 .q 12 .not [.t 11] 9 false,
 .a 13 .pick [.t 9,.k (.b true),.t 12],
 .v 14 13,
 .q 15 (.faddr 0) [.t 2] 14 false,
 .q 16 .l0 [.t 15] 14 false,
 .q 17 .len [.t 16] 14 false,
 .q 18 (.faddr 0) [.t 3] 14 false,
 .q 19 .l0 [.t 18] 14 false,
 .q 20 .len [.t 19] 14 false,
 .q 21 (.bin .add) [.t 17,.t 20] 14 false,
 .q 22 (.bin .gt) [.t 21,.k (.i 60)] 14 false,
 .a 23 .pick [.t 14,.k (.b true),.t 22]] [2,3,4,23] [2,3,4,27])
 (.cond (.t 23)
 (.seq
 (.reg [] [.a 24 (.build [.nils] []) [],
 .n (.store 1 true) 4 24,
 .a 5 .move [.k (.b false)]] [4,5] [4,27])
 .ret)
 .skip))
 (.seq
 (.reg [] [.u 25 (.l1 1) 2,
 .u 26 (.l1 1) 3,
 .a 27 (.call [] false) [.f 36,.t 25,.t 26],
 .n (.store 1 true) 4 27,
 .a 5 .move [.k (.b true)]] [4,5] [4,27])
 .ret)))
def a17 : AF := ⟨c17,[.cell 4 (some 1),.tmp 5]⟩
def b7l0 : AC :=
 (.seq
 (.seq
 (.reg [] [.v 37 13,
 .a 38 (.bin .ge) [.t 37,.k (.i 0)]] [3,8,9,10,11,12,13,38] [3,17,23,27,58])
 (.cond (.t 38)
 .skip
 (.exit 2)))
 (.seq
 (.block 3
 (.seq
 (.reg [0,1,2,3,4,5,6,7,8,9,10] [.v 41 8,
 .v 42 9,
 .v 43 13,
 .w 44 (.bin .add) 42 43,
 .w 45 (.iaddr 1) 41 44,
 .u 46 .l0 45,
 .v 47 8,
 .v 48 11,
 .w 49 (.iaddr 1) 47 48,
 .u 50 .l0 49,
 .w 51 (.bin .eq) 46 50] [3,8,9,10,11,12,13,51] [3,17,23,27,58])
 (.cond (.t 51)
 (.reg [] [.v 52 13,
 .v 12 52] [3,8,9,10,11,12,13] [3,17,23,27,58])
 .skip)))
 (.reg [] [.v 39 13,
 .a 40 (.bin .sub) [.t 39,.k (.i 1)],
 .v 13 40] [3,8,9,10,11,12,13] [3,17,23,27,58])))
def c7l0 : AC := b7l0
theorem r7l0 (call lp s) : run call lp c7l0 s = run call lp b7l0 s := rfl
def b7l1 : AC :=
 (.seq
 (.seq
 (.reg [] [.v 28 11,
 .v 29 9,
 .w 30 (.bin .lt) 28 29] [3,8,9,10,11,30] [3,17,23,27,58])
 (.cond (.t 30)
 .skip
 (.exit 0)))
 (.seq
 (.block 1
 (.seq
 (.reg [] [.a 12 .move [.k (.i (-1))]] [3,8,9,10,11,12] [3,17,23,27,58])
 (.seq
 (.seq
 (.reg [] [.u 33 (.faddr 0) 3,
 .u 34 .l0 33,
 .u 35 .len 34,
 .a 36 (.bin .sub) [.t 35,.k (.i 1)],
 .v 13 36] [3,8,9,10,11,12,13] [3,17,23,27,58])
 (.block 2
 (.loop [3,8,9,10,11,12,13] [3,17,23,27,58] c7l0)))
 (.seq
 (.seq
 (.reg [] [.v 53 12,
 .a 54 (.bin .lt) [.t 53,.k (.i 0)]] [3,8,9,10,11,12,54] [3,17,23,27,58])
 (.cond (.t 54)
 (.seq
 (.reg [] [.a 4 .move [.k (.nils)],
 .a 5 .move [.k (.b false)]] [4,5] [27,58])
 .ret)
 .skip))
 (.reg [] [.v 55 10,
 .v 56 12,
 .u 57 (.bslice 1 true) 56,
 .w 58 (.append 1 true) 55 57,
 .v 10 58] [3,8,9,10,11] [3,17,23,27,58])))))
 (.reg [] [.v 31 11,
 .a 32 (.bin .add) [.t 31,.k (.i 1)],
 .v 11 32] [3,8,9,10,11] [3,17,23,27,58])))
def c7l1 : AC := b7l1
theorem r7l1 (call lp s) : run call lp c7l1 s = run call lp b7l1 s := rfl
def c7 : AC :=
 (.seq
 (.reg [] [.u 2 .box 0,
 .u 3 .box 1,
 .a 4 .move [.k (.nils)],
 .a 5 .move [.k (.b false)]] [2,3] [2,3])
 (.seq
 (.reg [] [.u 15 (.l1 1) 2,
 .u 16 (.l1 1) 3,
 .a 17 (.call [] false) [.f 17,.t 15,.t 16],
 .v 14 17,
 .u 18 (.ext 0) 14,
 .u 19 (.ext 1) 14,
 .a 6 (.alloc [.nils]) [],
 .n (.store 1 true) 6 18,
 .v 7 19] [2,3,6,7] [2,3,6,17])
 (.seq
 (.seq
 (.reg [] [.v 20 7,
 .u 21 .not 20] [2,3,6,21] [2,3,6,17])
 (.cond (.t 21)
 (.seq
 (.reg [] [.a 4 .move [.k (.nils)],
 .a 5 .move [.k (.b false)]] [4,5] [27,58])
 .ret)
 .skip))
 (.seq
 (.reg [] [.u 22 (.l1 1) 6,
 .a 23 (.call [] true) [.f 18,.t 22],
 .v 8 23] [2,3,8] [2,3,17,23])
 (.seq
 (.reg [] [.u 24 (.faddr 0) 2,
 .u 25 .l0 24,
 .u 26 .len 25,
 .v 9 26] [3,8,9] [3,17,23])
 (.seq
 (.reg [] [.a 27 (.bslice 1 true) [],
 .v 10 27] [3,8,9,10] [3,17,23,27,58])
 (.seq
 (.seq
 (.reg [] [.a 11 .move [.k (.i 0)]] [3,8,9,10,11] [3,17,23,27,58])
 (.block 0
 (.loop [3,8,9,10,11] [3,17,23,27,58] c7l1)))
 (.seq
 (.reg [] [.v 59 10,
 .v 4 59,
 .a 5 .move [.k (.b true)]] [4,5] [27,58])
 .ret))))))))
def a7 : AF := ⟨c7,[.tmp 4,.tmp 5]⟩
def c26 : AC :=
 (.seq
 (.reg [] [.u 3 .box 1,
 .a 4 .move [.k (.i 0)]] [0,3] [3])
 (.seq
 (.seq
 (.reg [] [.v 5 0,
 .a 6 (.call [] false) [.f 25,.t 5,.k (.i 20)],
 .a 7 (.bin .eq) [.t 6,.k (.i 0)],
 .v 8 7,
 .q 9 (.faddr 0) [.t 3] 8 false,
 .q 10 .l0 [.t 9] 8 false,
 .q 11 .len [.t 10] 8 false,
 .q 12 (.bin .eq) [.t 11,.k (.i 0)] 8 false,
 .a 13 .pick [.t 8,.k (.b true),.t 12]] [0,3,13] [3])
 (.cond (.t 13)
 (.seq
 (.reg [] [.v 14 0,
 .a 15 (.call [] false) [.f 25,.t 14,.k (.i 8)],
 .a 16 (.bin .sub) [.t 15,.k (.i 2)],
 .v 4 16] [4] [])
 .ret)
 .skip))
 (.seq
 (.reg [] [.v 17 0,
 .u 18 (.faddr 0) 3,
 .u 19 .l0 18,
 .u 20 .len 19,
 .a 21 (.call [] false) [.f 25,.t 17,.t 20],
 .v 4 21] [4] [])
 .ret)))
def a26 : AF := ⟨c26,[.tmp 4]⟩
def b11l0 : AC :=
 (.seq
 (.reg [] [.w 35 (.bin .lt) 34 33] [2,3,5,6,7,8,33,34,35] [2,3,6,7,11,14,20,30,41,1014])
 (.seq
 (.cond (.t 35)
 .skip
 (.exit 0))
 (.seq
 (.block 1
 (.reg [] [.v 36 8,
 .v 37 5,
 .u 38 (.l1 1) 7,
 .a 39 (.call [] false) [.f 26,.t 37,.t 38],
 .u 40 (.bslice 1 true) 39,
 .w 41 (.append 1 true) 36 40,
 .v 8 41] [2,3,5,6,7,8,33,34] [2,3,6,7,11,14,20,30,41,1014]))
 (.reg [] [.a 42 (.bin .add) [.t 34,.k (.i 1)],
 .v 34 42] [2,3,5,6,7,8,33,34] [2,3,6,7,11,14,20,30,41,1014]))))
def c11l0 : AC := b11l0
theorem r11l0 (call lp s) : run call lp c11l0 s = run call lp b11l0 s := rfl
def c11 : AC :=
 (.seq
 (.reg [] [.a 2 (.alloc [.nils]) [],
 .a 3 (.alloc [.nils]) [],
 .a 4 .move [.k (.nils)]] [0,2,3] [2,3,11,14,1014])
 (.seq
 (.reg [] [.v 10 0,
 .a 11 (.call [] false) [.f 14,.t 10],
 .v 5 11] [2,3,5] [2,3,11,14,1014])
 (.seq
 (.reg [] [.v 13 5,
 .a 14 (.call [] false) [.f 15,.t 13],
 .v 12 14,
 .u 15 (.ext 0) 12,
 .u 16 (.ext 1) 12,
 .a 6 (.alloc [.nils]) [],
 .a 7 (.alloc [.nils]) [],
 .n (.store 1 true) 6 15,
 .n (.store 1 true) 7 16] [2,3,5,6,7] [2,3,6,7,11,14,1014])
 (.seq
 (.reg [] [.u 18 (.l1 1) 6,
 .u 19 (.l1 1) 7,
 .a 20 (.call [] false) [.f 7,.t 18,.t 19],
 .v 17 20,
 .u 21 (.ext 0) 17,
 .u 22 (.ext 1) 17,
 .v 8 21,
 .v 9 22] [2,3,5,6,7,8,9] [2,3,6,7,11,14,20,30,41,1014])
 (.seq
 (.seq
 (.reg [] [.v 23 9,
 .u 24 .not 23,
 .v 25 24,
 .q 26 .move [.t 5] 25 false,
 .q 27 (.call [] false) [.f 25,.t 26,.k (.i 4)] 25 false,
 .q 28 (.bin .eq) [.t 27,.k (.i 0)] 25 false,
 .a 29 .pick [.t 25,.k (.b true),.t 28]] [2,3,5,6,7,8,29] [2,3,6,7,11,14,20,30,41,1014])
 (.cond (.t 29)
 (.seq
 (.reg [] [.a 30 (.bslice 1 true) [],
 .v 8 30] [2,3,5,6,7,8] [2,3,6,7,11,14,20,30,41,1014])
 (.seq
 (.reg [] [.u 31 (.faddr 0) 6,
 .u 32 .l0 31,
 .u 33 .len 32,
 .a 34 .move [.k (.i 0)]] [2,3,5,6,7,8,33,34] [2,3,6,7,11,14,20,30,41,1014])
 (.block 0
 (.loop [2,3,5,6,7,8,33,34] [2,3,6,7,11,14,20,30,41,1014] c11l0))))
 .skip))
 (.seq
 (.reg [0,1,2,3,5,6] [.u 43 (.l1 1) 6,
 .u 44 (.l1 1) 7,
 .v 45 8,
 .n (.store 1 true) 2 43,
 .n (.chk (.l1 1)) 44 7,
 .n (.store 1 true) 3 44,
 .v 4 45] [2,3,4] [2,3,11,14,20,30,41,1014])
 .ret))))))
def a11 : AF := ⟨c11,[.cell 2 (some 1),.cell 3 (some 1),.tmp 4]⟩
def c38 : AC :=
 (.seq
 (.reg [] [.a 2 .move [.k (.b false)]] [0] [])
 (.seq
 (.reg [] [.v 3 0,
 .a 4 (.bin .ge) [.t 3,.k (.i (-4))],
 .v 5 4,
 .q 6 .move [.t 0] 5 true,
 .q 7 (.bin .le) [.t 6,.k (.i 4)] 5 true,
 .a 8 .pick [.t 5,.t 7,.k (.b false)],
 .v 2 8] [2] [])
 .ret))
def a38 : AF := ⟨c38,[.tmp 2]⟩
def c71 : AC :=
 (.seq
 (.reg [] [.a 2 .move [.k (.b false)]] [0] [])
 (.seq
 (.reg [] [.v 3 0,
 .v 4 0,
 .w 5 (.bin .ne) 3 4,
 .v 2 5] [2] [])
 .ret))
def a71 : AF := ⟨c71,[.tmp 2]⟩
def c56 : AC :=
 (.seq
 (.reg [] [.a 4 .move [.k (.i 0)]] [0,1] [])
 (.seq
 (.reg [] [.v 7 0,
 .a 8 (.call [] false) [.f 71,.t 7],
 .v 5 8] [0,1,5] [])
 (.seq
 (.reg [] [.v 9 1,
 .a 10 (.call [] false) [.f 71,.t 9],
 .v 6 10] [0,1,5,6] [])
 (.seq
 (.seq
 (.reg [] [.v 11 5] [0,1,6,11] [])
 (.cond (.t 11)
 (.seq
 (.seq
 (.reg [] [.v 12 6] [12] [])
 (.cond (.t 12)
 (.seq
 (.reg [] [.a 4 .move [.k (.i 0)]] [4] [])
 .ret)
 .skip))
 (.seq
 (.reg [] [.a 4 .move [.k (.i (-1))]] [4] [])
 .ret))
 .skip))
 (.seq
 (.seq
 (.reg [] [.v 13 6] [0,1,13] [])
 (.cond (.t 13)
 (.seq
 (.reg [] [.a 4 .move [.k (.i 1)]] [4] [])
 .ret)
 .skip))
 (.seq
 (.seq
 (.reg [] [.v 14 0,
 .v 15 1,
 .w 16 (.bin .lt) 14 15] [0,1,16] [])
 (.cond (.t 16)
 (.seq
 (.reg [] [.a 4 .move [.k (.i (-1))]] [4] [])
 .ret)
 .skip))
 (.seq
 (.seq
 (.reg [] [.v 17 0,
 .v 18 1,
 .w 19 (.bin .gt) 17 18] [19] [])
 (.cond (.t 19)
 (.seq
 (.reg [] [.a 4 .move [.k (.i 1)]] [4] [])
 .ret)
 .skip))
 (.seq
 (.reg [] [.a 4 .move [.k (.i 0)]] [4] [])
 .ret))))))))
def a56 : AF := ⟨c56,[.tmp 4]⟩
def c39 : AC :=
 (.seq
 (.reg [] [.u 2 .box 0,
 .u 3 .box 1,
 .a 4 .move [.k (.i 0)]] [2,3] [2,3])
 (.seq
 (.seq
 (.reg [] [.u 6 (.faddr 0) 2,
 .u 7 .l0 6,
 .u 8 (.faddr 0) 3,
 .u 9 .l0 8,
 .a 10 (.call [] false) [.f 56,.t 7,.t 9],
 .v 5 10] [2,3,5] [2,3])
 (.seq
 (.reg [] [.v 11 5,
 .a 12 (.bin .ne) [.t 11,.k (.i 0)]] [2,3,5,12] [2,3])
 (.cond (.t 12)
 (.seq
 (.reg [] [.v 13 5,
 .v 4 13] [4] [])
 .ret)
 .skip)))
 (.seq
 (.reg [] [.u 14 (.faddr 1) 2,
 .u 15 .l0 14,
 .u 16 (.faddr 1) 3,
 .u 17 .l0 16,
 .a 18 (.call [] false) [.f 56,.t 15,.t 17],
 .v 4 18] [4] [])
 .ret)))
def a39 : AF := ⟨c39,[.tmp 4]⟩
def b19l0 : AC :=
 (.seq
 (.reg [] [.w 27 (.bin .lt) 26 25] [1,4,18,19,20,24,25,26,27] [1])
 (.seq
 (.cond (.t 27)
 .skip
 (.exit 2))
 (.seq
 (.block 3
 (.seq
 (.reg [] [.v 28 26,
 .w 29 (.iaddr 2) 24 26,
 .u 30 (.l1 2) 29,
 .a 6 (.alloc [.i 0,.i 0]) [],
 .v 5 28,
 .n (.store 2 true) 6 30] [1,4,5,6,18,19,20,24,25,26] [1,6])
 (.seq
 (.reg [0,1,2,3,4,5,6,7,8,9,10,11,12,13,14,15,16,17,18,19,20,21,22,23,24,25,26,27,28,29,30] [.u 31 (.faddr 0) 6,
 .u 32 .l0 31,
 .a 33 (.call [] false) [.f 38,.t 32],
 .u 34 .not 33,
 .v 35 34,
 .q 36 (.faddr 1) [.t 6] 35 false,
 .q 37 .l0 [.t 36] 35 false,
 .q 38 (.bin .lt) [.t 37,.k (.i 0)] 35 false,
 .a 39 .pick [.t 35,.k (.b true),.t 38],
 .v 40 39,
 .q 41 (.faddr 1) [.t 6] 40 false,
 .q 42 .l0 [.t 41] 40 false,
 .q 43 (.faddr 0) [.t 1] 40 false,
 .q 44 .l0 [.t 43] 40 false,
 .q 45 .len [.t 44] 40 false,
 .q 46 (.bin .ge) [.t 42,.t 45] 40 false,
 .a 47 .pick [.t 40,.k (.b true),.t 46],
 .v 48 47,
 .q 49 .move [.t 5] 48 false,
 .q 50 (.bin .gt) [.t 49,.k (.i 0)] 48 false,
 .q 51 .move [.t 50] 48 false,
 .q 52 .move [.t 4] 51 true,
 .q 53 .move [.t 5] 51 true,
 .q 54 (.bin .sub) [.t 53,.k (.i 1)] 51 true,
 .q 55 (.iaddr 2) [.t 52,.t 54] 51 true,
 .q 56 (.l1 2) [.t 55] 51 true,
 .q 57 (.l1 2) [.t 6] 51 true,
 .q 58 (.call [] false) [.f 39,.t 56,.t 57] 51 true,
 .q 59 (.bin .ge) [.t 58,.k (.i 0)] 51 true,
 .q 60 .pick [.t 51,.t 59,.k (.b false)] 48 false,
 .a 61 .pick [.t 48,.k (.b true),.t 60]] [1,4,18,19,20,24,25,26,61] [1])
 (.cond (.t 61)
 (.seq
 (.reg [] [.a 2 .move [.k (.b false)]] [2] [])
 .ret)
 .skip))))
 (.reg [] [.a 62 (.bin .add) [.t 26,.k (.i 1)],
 .v 26 62] [1,4,18,19,20,24,25,26] [1]))))
def c19l0 : AC := b19l0
theorem r19l0 (call lp s) : run call lp c19l0 s = run call lp b19l0 s := rfl
def b19l1 : AC :=
 (.seq
 (.reg [] [.w 21 (.bin .lt) 20 19] [1,18,19,20,21] [1])
 (.seq
 (.cond (.t 21)
 .skip
 (.exit 0))
 (.seq
 (.block 1
 (.seq
 (.reg [] [.w 22 (.iaddr 1) 18 20,
 .u 23 .l0 22,
 .v 4 23] [1,4,18,19,20] [1])
 (.seq
 (.reg [] [.v 24 4,
 .u 25 .len 24,
 .a 26 .move [.k (.i 0)]] [1,4,18,19,20,24,25,26] [1])
 (.block 2
 (.loop [1,4,18,19,20,24,25,26] [1] c19l0)))))
 (.reg [] [.a 63 (.bin .add) [.t 20,.k (.i 1)],
 .v 20 63] [1,18,19,20] [1]))))
def c19l1 : AC := b19l1
theorem r19l1 (call lp s) : run call lp c19l1 s = run call lp b19l1 s := rfl
def c19 : AC :=
 (.seq
 (.reg [] [.u 1 .box 0,
 .a 2 .move [.k (.b false)]] [1] [1])
 (.seq
 (.seq
 (.reg [] [.u 7 (.faddr 0) 1,
 .u 8 .l0 7,
 .u 9 .len 8,
 .a 10 (.bin .lt) [.t 9,.k (.i 1)],
 .v 11 10,
 .q 12 (.faddr 0) [.t 1] 11 false,
 .q 13 .l0 [.t 12] 11 false,
 .q 14 .len [.t 13] 11 false,
 .q 15 (.bin .gt) [.t 14,.k (.i 60)] 11 false,
 .a 16 .pick [.t 11,.k (.b true),.t 15]] [1,16] [1])
 (.cond (.t 16)
 (.seq
 (.reg [] [.a 2 .move [.k (.b false)]] [2] [])
 .ret)
 .skip))
 (.seq
 (.seq
 (.reg [] [.u 17 (.faddr 0) 1,
 .u 18 .l0 17,
 .u 19 .len 18,
 .a 20 .move [.k (.i 0)]] [1,18,19,20] [1])
 (.block 0
 (.loop [1,18,19,20] [1] c19l1)))
 (.seq
 (.reg [] [.a 2 .move [.k (.b true)]] [2] [])
 .ret))))
def a19 : AF := ⟨c19,[.tmp 2]⟩
def b69l0 : AC :=
 (.seq
 (.seq
 (.reg [] [.v 29 5,
 .v 30 4,
 .u 31 .len 30,
 .w 32 (.bin .lt) 29 31] [0,3,4,5,32] [28])
 (.cond (.t 32)
 .skip
 (.exit 2)))
 (.seq
 (.block 3
 (.seq
 (.reg [0,1,2,3,4,5,6,7,8,9] [.v 35 4,
 .v 36 5,
 .w 37 (.iaddr 2) 35 36,
 .u 38 (.l1 2) 37,
 .v 39 4,
 .v 40 5,
 .a 41 (.bin .sub) [.t 40,.k (.i 1)],
 .w 42 (.iaddr 2) 39 41,
 .u 43 (.l1 2) 42,
 .w 44 (.meq true) 38 43] [0,3,4,5,44] [28])
 (.cond (.t 44)
 (.seq
 (.reg [] [.v 45 0,
 .v 46 3,
 .v 47 4,
 .v 48 5,
 .w 49 (.iaddr 2) 47 48,
 .u 50 (.l1 2) 49,
 .w 51 (.iaddr 2) 45 46,
 .n (.store 2 true) 51 50] [0,3,4,5] [28])
 (.reg [] [.v 52 3,
 .a 53 (.bin .add) [.t 52,.k (.i 1)],
 .v 3 53] [0,3,4,5] [28]))
 .skip)))
 (.reg [] [.v 33 5,
 .a 34 (.bin .add) [.t 33,.k (.i 1)],
 .v 5 34] [0,3,4,5] [28])))
def c69l0 : AC := b69l0
theorem r69l0 (call lp s) : run call lp c69l0 s = run call lp b69l0 s := rfl
def b69l1 : AC :=
 (.seq
 (.seq
 (.reg [] [.v 10 3,
 .v 11 0,
 .u 12 .len 11,
 .w 13 (.bin .lt) 10 12] [0,3,13] [])
 (.cond (.t 13)
 .skip
 (.exit 0)))
 (.seq
 (.block 1
 (.seq
 (.reg [0,1,2,3,4,5,6,7,8,9] [.v 16 0,
 .v 17 3,
 .w 18 (.iaddr 2) 16 17,
 .u 19 (.l1 2) 18,
 .v 20 0,
 .v 21 3,
 .a 22 (.bin .sub) [.t 21,.k (.i 1)],
 .w 23 (.iaddr 2) 20 22,
 .u 24 (.l1 2) 23,
 .w 25 (.meq false) 19 24] [0,3,25] [])
 (.cond (.t 25)
 (.seq
 (.reg [] [.v 26 0,
 .v 27 3,
 .w 28 (.slice 2 true false) 26 27,
 .v 4 28] [0,3,4] [28])
 (.seq
 (.seq
 (.reg [] [.a 5 .move [.k (.i 1)]] [0,3,4,5] [28])
 (.block 2
 (.loop [0,3,4,5] [28] c69l0)))
 (.seq
 (.reg [] [.v 54 0,
 .v 55 3,
 .w 56 (.slice 2 true false) 54 55,
 ⟨none,.clear 2 (.agg [.i 0,.i 0]),[.t 56],none⟩] [0,3] [])
 (.seq
 (.reg [] [.v 57 0,
 .v 58 3,
 .w 59 (.slice 2 false true) 57 58,
 .v 2 59] [2] [59])
 .ret))))
 .skip)))
 (.reg [] [.v 14 3,
 .a 15 (.bin .add) [.t 14,.k (.i 1)],
 .v 3 15] [0,3] [])))
def c69l1 : AC := b69l1
theorem r69l1 (call lp s) : run call lp c69l1 s = run call lp b69l1 s := rfl
def c69 : AC :=
 (.seq
 (.reg [] [.a 2 .move [.k (.nils)]] [0] [])
 (.seq
 (.seq
 (.reg [] [.v 6 0,
 .u 7 .len 6,
 .a 8 (.bin .lt) [.t 7,.k (.i 2)]] [0,8] [])
 (.cond (.t 8)
 (.seq
 (.reg [] [.v 9 0,
 .v 2 9] [2] [59])
 .ret)
 .skip))
 (.seq
 (.seq
 (.reg [] [.a 3 .move [.k (.i 1)]] [0,3] [])
 (.block 0
 (.loop [0,3] [] c69l1)))
 (.seq
 (.reg [] [.v 60 0,
 .v 2 60] [2] [59])
 .ret))))
def a69 : AF := ⟨c69,[.tmp 2]⟩
def c53 : AC :=
 (.seq
 (.reg [] [.a 2 .move [.k (.nils)]] [0] [])
 (.seq
 (.reg [] [.v 3 0,
 .a 4 (.call [0] false) [.f 68,.t 3,.f 39]] [0] [])
 (.seq
 (.reg [] [.v 5 0,
 .a 6 (.call [0] false) [.f 69,.t 5],
 .v 2 6] [2] [6])
 .ret)))
def a53 : AF := ⟨c53,[.tmp 2]⟩
def b52l0 : AC :=
 (.seq
 (.reg [] [.w 17 (.bin .lt) 16 15] [0,6,14,15,16,17] [9,30])
 (.seq
 (.cond (.t 17)
 .skip
 (.exit 0))
 (.seq
 (.block 1
 (.seq
 (.reg [] [.w 18 (.iaddr 2) 14 16,
 .u 19 (.l1 2) 18,
 .a 8 (.alloc [.i 0,.i 0]) [],
 .n (.store 2 true) 8 19] [0,6,8,14,15,16] [8,9,30])
 (.reg [0,1,2,3,4,5,6,7,8,9,10,11] [.v 20 6,
 .u 21 (.faddr 0) 8,
 .u 22 .l0 21,
 .v 23 0,
 .u 24 (.faddr 1) 8,
 .u 25 .l0 24,
 .w 26 (.iaddr 1) 23 25,
 .u 27 .l0 26,
 .w 28 (.build [.i 0,.i 0] [(0,1),(1,1)]) 22 27,
 .u 29 (.bslice 2 true) 28,
 .w 30 (.append 2 true) 20 29,
 .v 6 30] [0,6,14,15,16] [9,30])))
 (.reg [] [.a 31 (.bin .add) [.t 16,.k (.i 1)],
 .v 16 31] [0,6,14,15,16] [9,30]))))
def c52l0 : AC := b52l0
theorem r52l0 (call lp s) : run call lp c52l0 s = run call lp b52l0 s := rfl
def c52 : AC :=
 (.seq
 (.reg [] [.a 5 .move [.k (.nils)]] [0,1,2] [])
 (.seq
 (.reg [] [.a 9 (.bslice 2 true) [],
 .v 6 9] [0,1,2,6] [9,30])
 (.seq
 (.seq
 (.reg [] [.u 10 (.faddr 0) 2,
 .u 11 .l0 10,
 .v 12 1,
 .w 13 (.iaddr 1) 11 12,
 .u 14 .l0 13,
 .u 15 .len 14,
 .a 16 .move [.k (.i 0)]] [0,6,14,15,16] [9,30])
 (.block 0
 (.loop [0,6,14,15,16] [9,30] c52l0)))
 (.seq
 (.reg [] [.v 32 6,
 .a 33 (.call [0] false) [.f 53,.t 32],
 .v 5 33] [5] [9,30,33])
 .ret))))
def a52 : AF := ⟨c52,[.tmp 5]⟩
def c66 : AC :=
 (.seq
 (.reg [] [.a 4 .move [.k (.nils)]] [0,1,2] [])
 (.seq
 (.reg [] [.u 5 .l0 1,
 .u 6 .l0 2,
 .v 7 0,
 .a 8 (.call [] false) [.t 5,.t 6,.t 7],
 .v 4 8] [4] [8])
 .ret))
def a66 : AF := ⟨c66,[.tmp 4]⟩
def b78l0 : AC :=
 (.seq
 (.reg [] [.w 14 (.bin .lt) 13 12] [0,1,12,13,14] [])
 (.seq
 (.cond (.t 14)
 .skip
 (.exit 0))
 (.seq
 (.block 1
 (.seq
 (.reg [] [.v 15 13,
 .v 5 15] [0,1,5,12,13] [])
 (.seq
 (.reg [0,1,2,3,4,5,6,7,8] [.v 16 0,
 .v 17 5,
 .w 18 (.iaddr 2) 16 17,
 .u 19 (.l1 2) 18,
 .v 20 1,
 .v 21 5,
 .w 22 (.iaddr 2) 20 21,
 .u 23 (.l1 2) 22,
 .w 24 (.meq true) 19 23] [0,1,12,13,24] [])
 (.cond (.t 24)
 (.seq
 (.reg [] [.a 4 .move [.k (.b false)]] [4] [])
 .ret)
 .skip))))
 (.reg [] [.a 25 (.bin .add) [.t 13,.k (.i 1)],
 .v 13 25] [0,1,12,13] []))))
def c78l0 : AC := b78l0
theorem r78l0 (call lp s) : run call lp c78l0 s = run call lp b78l0 s := rfl
def c78 : AC :=
 (.seq
 (.reg [] [.a 4 .move [.k (.b false)]] [0,1] [])
 (.seq
 (.seq
 (.reg [] [.v 6 0,
 .u 7 .len 6,
 .v 8 1,
 .u 9 .len 8,
 .w 10 (.bin .ne) 7 9] [0,1,10] [])
 (.cond (.t 10)
 (.seq
 (.reg [] [.a 4 .move [.k (.b false)]] [4] [])
 .ret)
 .skip))
 (.seq
 (.seq
 (.reg [] [.v 11 0,
 .u 12 .len 11,
 .a 13 .move [.k (.i 0)]] [0,1,12,13] [])
 (.block 0
 (.loop [0,1,12,13] [] c78l0)))
 (.seq
 (.reg [] [.a 4 .move [.k (.b true)]] [4] [])
 .ret))))
def a78 : AF := ⟨c78,[.tmp 4]⟩
def b65l0 : AC :=
 (.seq
 (.seq
 (.reg [] [.v 30 8,
 .v 31 7,
 .w 32 (.bin .lt) 30 31] [0,1,5,6,7,8,16,17,32] [11,14])
 (.cond (.t 32)
 .skip
 (.exit 2)))
 (.seq
 (.block 3
 (.seq
 (.reg [0,1,2,3,4,5,6,7,8,9,10,11,12,13,14,15,16,17,18,19] [.v 35 0,
 .v 36 8,
 .w 37 (.iaddr 1) 35 36,
 .u 38 .l0 37,
 .v 39 0,
 .v 40 7,
 .w 41 (.iaddr 1) 39 40,
 .u 42 .l0 41,
 .w 43 (.bin .eq) 38 42,
 .v 44 43,
 .q 45 .move [.t 6] 44 true,
 .q 46 .move [.t 8] 44 true,
 .q 47 (.iaddr 1) [.t 45,.t 46] 44 true,
 .q 48 .l0 [.t 47] 44 true,
 .q 49 .move [.t 6] 44 true,
 .q 50 .move [.t 7] 44 true,
 .q 51 (.iaddr 1) [.t 49,.t 50] 44 true,
 .q 52 .l0 [.t 51] 44 true,
 .q 53 (.call [] false) [.f 78,.t 48,.t 52] 44 true,
 .a 54 .pick [.t 44,.t 53,.k (.b false)]] [0,1,5,6,7,8,16,17,54] [11,14])
 (.cond (.t 54)
 (.seq
 (.reg [] [.v 55 5,
 .v 56 7,
 .v 57 8,
 .w 58 (.iaddr 1) 55 56,
 .n (.store 1 false) 58 57] [0,1,5,6,16,17] [11,14])
 (.exit 2))
 .skip)))
 (.reg [] [.v 33 8,
 .a 34 (.bin .add) [.t 33,.k (.i 1)],
 .v 8 34] [0,1,5,6,7,8,16,17] [11,14])))
def c65l0 : AC := b65l0
theorem r65l0 (call lp s) : run call lp c65l0 s = run call lp b65l0 s := rfl
def b65l1 : AC :=
 (.seq
 (.reg [] [.w 18 (.bin .lt) 17 16] [0,1,5,6,16,17,18] [11,14])
 (.seq
 (.cond (.t 18)
 .skip
 (.exit 0))
 (.seq
 (.block 1
 (.seq
 (.reg [] [.v 19 17,
 .v 7 19] [0,1,5,6,7,16,17] [11,14])
 (.seq
 (.reg [] [.v 20 6,
 .v 21 7,
 .v 22 1,
 .v 23 7,
 .w 24 (.call [] false) 22 23,
 .w 25 (.iaddr 1) 20 21,
 .n (.store 1 false) 25 24] [0,1,5,6,7,16,17] [11,14])
 (.seq
 (.reg [] [.v 26 5,
 .v 27 7,
 .v 28 7,
 .w 29 (.iaddr 1) 26 27,
 .n (.store 1 false) 29 28] [0,1,5,6,7,16,17] [11,14])
 (.seq
 (.reg [] [.a 8 .move [.k (.i 0)]] [0,1,5,6,7,8,16,17] [11,14])
 (.block 2
 (.loop [0,1,5,6,7,8,16,17] [11,14] c65l0)))))))
 (.reg [] [.a 59 (.bin .add) [.t 17,.k (.i 1)],
 .v 17 59] [0,1,5,6,16,17] [11,14]))))
def c65l1 : AC := b65l1
theorem r65l1 (call lp s) : run call lp c65l1 s = run call lp b65l1 s := rfl
def c65 : AC :=
 (.seq
 (.reg [] [.a 4 .move [.k (.nils)]] [0,1] [])
 (.seq
 (.reg [] [.v 9 0,
 .u 10 .len 9,
 .w 11 (.mkslice 1 (.i 0)) 10 10,
 .v 5 11] [0,1,5] [11])
 (.seq
 (.reg [] [.v 12 0,
 .u 13 .len 12,
 .w 14 (.mkslice 1 (.nils)) 13 13,
 .v 6 14] [0,1,5,6] [11,14])
 (.seq
 (.seq
 (.reg [] [.v 15 0,
 .u 16 .len 15,
 .a 17 .move [.k (.i 0)]] [0,1,5,6,16,17] [11,14])
 (.block 0
 (.loop [0,1,5,6,16,17] [11,14] c65l1)))
 (.seq
 (.reg [] [.v 60 5,
 .v 4 60] [4] [11])
 .ret)))))
def a65 : AF := ⟨c65,[.tmp 4]⟩
def b67l0 : AC :=
 (.seq
 (.reg [] [.w 14 (.bin .lt) 13 12] [0,1,12,13,14] [])
 (.seq
 (.cond (.t 14)
 .skip
 (.exit 0))
 (.seq
 (.block 1
 (.seq
 (.reg [] [.v 15 13,
 .v 5 15] [0,1,5,12,13] [])
 (.seq
 (.reg [0,1,2,3,4,5,6,7,8] [.v 16 0,
 .v 17 5,
 .w 18 (.iaddr 1) 16 17,
 .u 19 .l0 18,
 .v 20 1,
 .v 21 5,
 .w 22 (.iaddr 1) 20 21,
 .u 23 .l0 22,
 .w 24 (.bin .ne) 19 23] [0,1,12,13,24] [])
 (.cond (.t 24)
 (.seq
 (.reg [] [.a 4 .move [.k (.b false)]] [4] [])
 .ret)
 .skip))))
 (.reg [] [.a 25 (.bin .add) [.t 13,.k (.i 1)],
 .v 13 25] [0,1,12,13] []))))
def c67l0 : AC := b67l0
theorem r67l0 (call lp s) : run call lp c67l0 s = run call lp b67l0 s := rfl
def c67 : AC :=
 (.seq
 (.reg [] [.a 4 .move [.k (.b false)]] [0,1] [])
 (.seq
 (.seq
 (.reg [] [.v 6 0,
 .u 7 .len 6,
 .v 8 1,
 .u 9 .len 8,
 .w 10 (.bin .ne) 7 9] [0,1,10] [])
 (.cond (.t 10)
 (.seq
 (.reg [] [.a 4 .move [.k (.b false)]] [4] [])
 .ret)
 .skip))
 (.seq
 (.seq
 (.reg [] [.v 11 0,
 .u 12 .len 11,
 .a 13 .move [.k (.i 0)]] [0,1,12,13] [])
 (.block 0
 (.loop [0,1,12,13] [] c67l0)))
 (.seq
 (.reg [] [.a 4 .move [.k (.b true)]] [4] [])
 .ret))))
def a67 : AF := ⟨c67,[.tmp 4]⟩
def b51l0 : AC :=
 (.block 1
 (.seq
 (.reg [] [.v 11 5,
 .v 12 5,
 .u 13 .len 12,
 .a 14 (.bin .sub) [.t 13,.k (.i 1)],
 .w 15 (.iaddr 1) 11 14,
 .u 16 .l0 15,
 .a 6 (.alloc [.nils]) [],
 .n (.store 1 true) 6 16] [3,5,6] [3,6,10,27])
 (.seq
 (.reg [] [.u 17 .l0 6,
 .w 18 (.mkfunc 66) 3 6,
 .a 19 (.call [] false) [.f 65,.t 17,.t 18],
 .v 7 19] [3,5,6,7] [3,6,10,19,27])
 (.seq
 (.seq
 (.reg [] [.v 20 7,
 .u 21 .l0 6,
 .a 22 (.call [] false) [.f 67,.t 20,.t 21]] [3,5,7,22] [3,6,10,19,27])
 (.cond (.t 22)
 (.seq
 (.reg [] [.v 23 5,
 .v 4 23] [4] [10,27])
 .ret)
 .skip))
 (.reg [] [.v 24 5,
 .v 25 7,
 .u 26 (.bslice 1 false) 25,
 .w 27 (.append 1 true) 24 26,
 .v 5 27] [3,5] [3,10,27])))))
def c51l0 : AC := b51l0
theorem r51l0 (call lp s) : run call lp c51l0 s = run call lp b51l0 s := rfl
def c51 : AC :=
 (.seq
 (.reg [] [.u 3 .box 1,
 .a 4 .move [.k (.nils)]] [0,3] [3])
 (.seq
 (.reg [] [.v 8 0,
 .w 9 (.mkslice 1 (.i 0)) 8 8,
 .u 10 (.bslice 1 false) 9,
 .v 5 10] [3,5] [3,10,27])
 (.block 0
 (.loop [3,5] [3,10,27] c51l0))))
def a51 : AF := ⟨c51,[.tmp 4]⟩
def c34 : AC :=
 (.seq
 (.reg [] [.u 1 .box 0,
 .a 2 .move [.k (.nils)]] [1] [1])
 (.seq
 (.reg [] [.u 3 (.faddr 0) 1,
 .u 4 .l0 3,
 .u 5 .len 4,
 .u 6 (.mkfunc 52) 1,
 .a 7 (.call [] false) [.f 51,.t 5,.t 6],
 .v 2 7] [2] [1,7])
 .ret))
def a34 : AF := ⟨c34,[.tmp 2]⟩
def c35 : AC :=
 (.seq
 (.reg [] [.a 2 .move [.k (.nils)]] [0] [])
 (.seq
 (.seq
 (.reg [] [.v 3 0,
 .a 4 .isnil [.t 3,.k (.nils)]] [0,4] [])
 (.cond (.t 4)
 (.seq
 (.reg [] [.a 2 .move [.k (.nils)]] [2] [5,7])
 .ret)
 .skip))
 (.seq
 (.reg [] [.a 5 (.bslice 1 true) [],
 .v 6 0,
 .w 7 (.append 1 true) 5 6,
 .v 2 7] [2] [5,7])
 .ret)))
def a35 : AF := ⟨c35,[.tmp 2]⟩
def c16 : AC :=
 (.seq
 (.reg [] [.u 1 .box 0,
 .a 2 .move [.k (.nils)]] [1] [1])
 (.seq
 (.reg [] [.u 4 (.l1 1) 1,
 .a 5 (.call [] false) [.f 34,.t 4],
 .v 3 5] [3] [5])
 (.seq
 (.reg [] [.v 6 3,
 .v 7 3,
 .u 8 .len 7,
 .a 9 (.bin .sub) [.t 8,.k (.i 1)],
 .w 10 (.iaddr 1) 6 9,
 .u 11 .l0 10,
 .a 12 (.call [] false) [.f 35,.t 11],
 .v 2 12] [2] [12])
 .ret)))
def a16 : AF := ⟨c16,[.tmp 2]⟩
def c21 : AC :=
 (.seq
 (.reg [] [.u 4 .box 0,
 .u 5 .box 1,
 .a 6 .move [.k (.b false)]] [2,3,4,5] [4,5])
 (.seq
 (.reg [0,1,2,3,4,5,6,7,8,9,10,11,12,13,14,15,16,17,18,19,20,21] [.u 7 (.faddr 0) 4,
 .u 8 .l0 7,
 .u 9 (.faddr 0) 5,
 .u 10 .l0 9,
 .w 11 (.bin .eq) 8 10,
 .v 12 11,
 .q 13 .l0 [.t 2] 12 true,
 .q 14 .l0 [.t 3] 12 true,
 .q 15 (.faddr 1) [.t 4] 12 true,
 .q 16 .l0 [.t 15] 12 true,
 .q 17 (.iaddr 1) [.t 14,.t 16] 12 true,
 .q 18 .l0 [.t 17] 12 true,
 .q 19 (.iaddr 1) [.t 13,.t 18] 12 true,
 .q 20 .l0 [.t 19] 12 true,
 .q 21 .l0 [.t 2] 12 true,
 .q 22 (.faddr 1) [.t 5] 12 true,
 .q 23 .l0 [.t 22] 12 true,
 .q 24 (.iaddr 1) [.t 21,.t 23] 12 true,
 .q 25 .l0 [.t 24] 12 true,
 .q 26 (.bin .eq) [.t 20,.t 25] 12 true,
 .a 27 .pick [.t 12,.t 26,.k (.b false)],
 .v 6 27] [6] [])
 .ret))
def a21 : AF := ⟨c21,[.tmp 6]⟩
def c23 : AC :=
 (.seq
 (.reg [] [.u 3 .box 0,
 .a 4 .move [.k (.b false)]] [1,2,3] [3])
 (.seq
 (.reg [] [.u 5 .l0 1,
 .u 6 (.l1 2) 2,
 .u 7 (.l1 2) 3,
 .a 8 (.call [] false) [.t 5,.t 6,.t 7],
 .v 4 8] [4] [])
 .ret))
def a23 : AF := ⟨c23,[.tmp 4]⟩
def b40l0 : AC :=
 (.seq
 (.reg [] [.w 9 (.bin .lt) 8 7] [0,1,7,8,9] [])
 (.seq
 (.cond (.t 9)
 .skip
 (.exit 0))
 (.seq
 (.block 1
 (.seq
 (.reg [] [.v 10 8,
 .v 5 10] [0,1,5,7,8] [])
 (.seq
 (.reg [] [.v 11 1,
 .v 12 0,
 .v 13 5,
 .w 14 (.iaddr 2) 12 13,
 .u 15 (.l1 2) 14,
 .w 16 (.call [] false) 11 15] [0,1,5,7,8,16] [])
 (.cond (.t 16)
 (.seq
 (.reg [] [.v 17 5,
 .v 4 17] [4] [])
 .ret)
 .skip))))
 (.reg [] [.a 18 (.bin .add) [.t 8,.k (.i 1)],
 .v 8 18] [0,1,7,8] []))))
def c40l0 : AC := b40l0
theorem r40l0 (call lp s) : run call lp c40l0 s = run call lp b40l0 s := rfl
def c40 : AC :=
 (.seq
 (.reg [] [.a 4 .move [.k (.i 0)]] [0,1] [])
 (.seq
 (.seq
 (.reg [] [.v 6 0,
 .u 7 .len 6,
 .a 8 .move [.k (.i 0)]] [0,1,7,8] [])
 (.block 0
 (.loop [0,1,7,8] [] c40l0)))
 (.seq
 (.reg [] [.a 4 .move [.k (.i (-1))]] [4] [])
 .ret)))
def a40 : AF := ⟨c40,[.tmp 4]⟩
def c22 : AC :=
 (.seq
 (.reg [] [.a 4 .move [.k (.b false)]] [0,1] [])
 (.seq
 (.reg [] [.v 5 0,
 .v 6 1,
 .a 7 (.call [] false) [.f 40,.t 5,.t 6],
 .a 8 (.bin .ge) [.t 7,.k (.i 0)],
 .v 4 8] [4] [])
 .ret))
def a22 : AF := ⟨c22,[.tmp 4]⟩
def c24 : AC :=
 (.seq
 (.reg [] [.u 3 .box 0,
 .a 4 .move [.k (.b false)]] [1,2,3] [3])
 (.seq
 (.reg [] [.u 5 .l0 1,
 .u 6 (.l1 2) 3,
 .u 7 (.l1 2) 2,
 .a 8 (.call [] false) [.t 5,.t 6,.t 7],
 .v 4 8] [4] [])
 .ret))
def a24 : AF := ⟨c24,[.tmp 4]⟩
def b10l0 : AC :=
 (.seq
 (.reg [] [.w 36 (.bin .lt) 35 34] [3,4,5,33,34,35,36] [3,4,5])
 (.seq
 (.cond (.t 36)
 .skip
 (.exit 0))
 (.seq
 (.block 1
 (.seq
 (.reg [] [.w 37 (.iaddr 1) 33 35,
 .u 38 .l0 37,
 .v 8 38] [3,4,5,8,33,34,35] [3,4,5])
 (.seq
 (.reg [] [.v 39 8,
 .a 40 (.bin .lt) [.t 39,.k (.i 0)],
 .v 41 40,
 .q 42 .move [.t 8] 41 false,
 .q 43 (.faddr 0) [.t 4] 41 false,
 .q 44 .l0 [.t 43] 41 false,
 .q 45 .len [.t 44] 41 false,
 .q 46 (.bin .ge) [.t 42,.t 45] 41 false,
 .a 47 .pick [.t 41,.k (.b true),.t 46]] [3,4,5,33,34,35,47] [3,4,5])
 (.cond (.t 47)
 (.seq
 (.reg [] [.a 6 .move [.k (.b false)]] [6] [])
 .ret)
 .skip))))
 (.reg [] [.a 48 (.bin .add) [.t 35,.k (.i 1)],
 .v 35 48] [3,4,5,33,34,35] [3,4,5]))))
def c10l0 : AC := b10l0
theorem r10l0 (call lp s) : run call lp c10l0 s = run call lp b10l0 s := rfl
def b10l1 : AC :=
 (.seq
 (.reg [] [.w 63 (.bin .lt) 62 61] [4,5,9,10,11,12,52,53,54,60,61,62,63] [4,5,9,12,50])
 (.seq
 (.cond (.t 63)
 .skip
 (.exit 4))
 (.seq
 (.block 5
 (.seq
 (.reg [] [.w 64 (.iaddr 2) 60 62,
 .u 65 (.l1 2) 64,
 .a 14 (.alloc [.i 0,.i 0]) [],
 .n (.store 2 true) 14 65] [4,5,9,10,11,12,14,52,53,54,60,61,62] [4,5,9,12,14,50])
 (.seq
 (.reg [0,1,2,3,4,5,6,7,8,9,10] [.u 66 (.faddr 0) 4,
 .u 67 .l0 66,
 .u 68 .l0 5,
 .v 69 10,
 .w 70 (.iaddr 1) 68 69,
 .u 71 .l0 70,
 .w 72 (.iaddr 1) 67 71,
 .u 73 .l0 72,
 .w 74 (.mkfunc 23) 12 14,
 .a 75 (.call [] false) [.f 22,.t 73,.t 74],
 .u 76 .not 75] [4,5,9,10,11,12,52,53,54,60,61,62,76] [4,5,9,12,50])
 (.cond (.t 76)
 (.seq
 (.reg [] [.a 6 .move [.k (.b false)]] [6] [])
 .ret)
 .skip))))
 (.reg [] [.a 77 (.bin .add) [.t 62,.k (.i 1)],
 .v 62 77] [4,5,9,10,11,12,52,53,54,60,61,62] [4,5,9,12,50]))))
def c10l1 : AC := b10l1
theorem r10l1 (call lp s) : run call lp c10l1 s = run call lp b10l1 s := rfl
def b10l2 : AC :=
 (.seq
 (.reg [] [.w 88 (.bin .lt) 87 86] [4,5,9,11,12,52,53,54,85,86,87,88] [4,5,9,12,50])
 (.seq
 (.cond (.t 88)
 .skip
 (.exit 6))
 (.seq
 (.block 7
 (.seq
 (.reg [] [.w 89 (.iaddr 2) 85 87,
 .u 90 (.l1 2) 89,
 .a 16 (.alloc [.i 0,.i 0]) [],
 .n (.store 2 true) 16 90] [4,5,9,11,12,16,52,53,54,85,86,87] [4,5,9,12,16,50])
 (.seq
 (.reg [] [.v 91 11,
 .w 92 (.mkfunc 24) 12 16,
 .a 93 (.call [] false) [.f 22,.t 91,.t 92],
 .u 94 .not 93] [4,5,9,11,12,52,53,54,85,86,87,94] [4,5,9,12,50])
 (.cond (.t 94)
 (.seq
 (.reg [] [.a 6 .move [.k (.b false)]] [6] [])
 .ret)
 .skip))))
 (.reg [] [.a 95 (.bin .add) [.t 87,.k (.i 1)],
 .v 87 95] [4,5,9,11,12,52,53,54,85,86,87] [4,5,9,12,50]))))
def c10l2 : AC := b10l2
theorem r10l2 (call lp s) : run call lp c10l2 s = run call lp b10l2 s := rfl
def b10l3 : AC :=
 (.seq
 (.reg [] [.w 55 (.bin .lt) 54 53] [4,5,9,52,53,54,55] [4,5,9,50])
 (.seq
 (.cond (.t 55)
 .skip
 (.exit 2))
 (.seq
 (.block 3
 (.seq
 (.reg [] [.v 56 54,
 .w 57 (.iaddr 1) 52 54,
 .u 58 .l0 57,
 .v 10 56,
 .v 11 58] [4,5,9,10,11,52,53,54] [4,5,9,50])
 (.seq
 (.reg [] [.w 59 (.mkfunc 21) 9 5,
 .a 12 (.alloc [.sc .nilFunc]) [],
 .n (.store 1 true) 12 59] [4,5,9,10,11,12,52,53,54] [4,5,9,12,50])
 (.seq
 (.seq
 (.reg [] [.v 60 11,
 .u 61 .len 60,
 .a 62 .move [.k (.i 0)]] [4,5,9,10,11,12,52,53,54,60,61,62] [4,5,9,12,50])
 (.block 4
 (.loop [4,5,9,10,11,12,52,53,54,60,61,62] [4,5,9,12,50] c10l1)))
 (.seq
 (.reg [0,1,2,3,4,5,6,7,8,9] [.u 78 (.faddr 0) 4,
 .u 79 .l0 78,
 .u 80 .l0 5,
 .v 81 10,
 .w 82 (.iaddr 1) 80 81,
 .u 83 .l0 82,
 .w 84 (.iaddr 1) 79 83,
 .u 85 .l0 84,
 .u 86 .len 85,
 .a 87 .move [.k (.i 0)]] [4,5,9,11,12,52,53,54,85,86,87] [4,5,9,12,50])
 (.block 6
 (.loop [4,5,9,11,12,52,53,54,85,86,87] [4,5,9,12,50] c10l2)))))))
 (.reg [] [.a 96 (.bin .add) [.t 54,.k (.i 1)],
 .v 54 96] [4,5,9,52,53,54] [4,5,9,50]))))
def c10l3 : AC := b10l3
theorem r10l3 (call lp s) : run call lp c10l3 s = run call lp b10l3 s := rfl
def c10 : AC :=
 (.seq
 (.reg [] [.u 3 .box 0,
 .u 4 .box 1,
 .u 5 .box 2,
 .a 6 .move [.k (.b false)]] [3,4,5] [3,4,5])
 (.seq
 (.seq
 (.reg [] [.u 17 (.l1 1) 3,
 .a 18 (.call [] false) [.f 19,.t 17],
 .u 19 .not 18,
 .v 20 19,
 .q 21 (.l1 1) [.t 4] 20 false,
 .q 22 (.call [] false) [.f 19,.t 21] 20 false,
 .q 23 .not [.t 22] 20 false,
 .a 24 .pick [.t 20,.k (.b true),.t 23],
 .v 25 24,
 .q 26 .l0 [.t 5] 25 false,
 .q 27 .len [.t 26] 25 false,
 .q 28 (.faddr 0) [.t 3] 25 false,
 .q 29 .l0 [.t 28] 25 false,
 .q 30 .len [.t 29] 25 false,
 .q 31 (.bin .ne) [.t 27,.t 30] 25 false,
 .a 32 .pick [.t 25,.k (.b true),.t 31]] [3,4,5,32] [3,4,5])
 (.cond (.t 32)
 (.seq
 (.reg [] [.a 6 .move [.k (.b false)]] [6] [])
 .ret)
 .skip))
 (.seq
 (.seq
 (.reg [] [.u 33 .l0 5,
 .u 34 .len 33,
 .a 35 .move [.k (.i 0)]] [3,4,5,33,34,35] [3,4,5])
 (.block 0
 (.loop [3,4,5,33,34,35] [3,4,5] c10l0)))
 (.seq
 (.reg [] [.u 49 (.l1 1) 4,
 .a 50 (.call [] false) [.f 16,.t 49],
 .a 9 (.alloc [.nils]) [],
 .n (.store 1 true) 9 50] [3,4,5,9] [3,4,5,9,50])
 (.seq
 (.seq
 (.reg [] [.u 51 (.faddr 0) 3,
 .u 52 .l0 51,
 .u 53 .len 52,
 .a 54 .move [.k (.i 0)]] [4,5,9,52,53,54] [4,5,9,50])
 (.block 2
 (.loop [4,5,9,52,53,54] [4,5,9,50] c10l3)))
 (.seq
 (.reg [] [.a 6 .move [.k (.b true)]] [6] [])
 .ret))))))
def a10 : AF := ⟨c10,[.tmp 6]⟩
def b29l0 : AC :=
 (.seq
 (.seq
 (.reg [] [.v 28 11,
 .u 29 (.faddr 0) 4,
 .u 30 .l0 29,
 .v 31 9,
 .w 32 (.iaddr 1) 30 31,
 .u 33 .l0 32,
 .u 34 .len 33,
 .w 35 (.bin .lt) 28 34] [2,3,4,5,9,10,11,35] [4,5])
 (.cond (.t 35)
 .skip
 (.exit 2)))
 (.seq
 (.block 3
 (.seq
 (.reg [] [.u 38 (.faddr 0) 4,
 .u 39 .l0 38,
 .v 40 9,
 .w 41 (.iaddr 1) 39 40,
 .u 42 .l0 41,
 .v 43 11,
 .w 44 (.iaddr 2) 42 43,
 .u 45 (.l1 2) 44,
 .a 12 (.alloc [.i 0,.i 0]) [],
 .n (.store 2 true) 12 45] [2,3,4,5,9,10,11,12] [4,5,12])
 (.seq
 (.reg [0,1,2,3,4,5,6,7,8,9,10,11,12,13,14] [.u 46 (.l1 1) 5,
 .v 47 10,
 .u 48 (.faddr 0) 12,
 .u 49 .l0 48,
 .v 50 3,
 .v 51 3,
 .v 52 2,
 .u 53 (.faddr 1) 12,
 .u 54 .l0 53,
 .w 55 (.iaddr 1) 52 54,
 .u 56 .l0 55,
 .w 57 (.iaddr 1) 51 56,
 .u 58 .l0 57,
 .a 59 (.call [] false) [.f 43,.t 46,.t 47,.t 49,.t 50,.t 58],
 .u 60 .not 59] [2,3,4,5,9,10,11,60] [4,5])
 (.cond (.t 60)
 (.seq
 (.reg [] [.a 8 .move [.k (.b false)]] [8] [])
 .ret)
 .skip))))
 (.reg [] [.v 36 11,
 .a 37 (.bin .add) [.t 36,.k (.i 1)],
 .v 11 37] [2,3,4,5,9,10,11] [4,5])))
def c29l0 : AC := b29l0
theorem r29l0 (call lp s) : run call lp c29l0 s = run call lp b29l0 s := rfl
def b29l1 : AC :=
 (.seq
 (.seq
 (.reg [] [.v 79 16,
 .u 80 (.faddr 0) 4,
 .u 81 .l0 80,
 .v 82 9,
 .w 83 (.iaddr 1) 81 82,
 .u 84 .l0 83,
 .u 85 .len 84,
 .w 86 (.bin .lt) 79 85] [2,3,4,5,9,10,13,14,15,16,86] [4,5,14])
 (.cond (.t 86)
 .skip
 (.exit 6)))
 (.seq
 (.block 7
 (.seq
 (.reg [] [.u 89 (.faddr 0) 4,
 .u 90 .l0 89,
 .v 91 9,
 .w 92 (.iaddr 1) 90 91,
 .u 93 .l0 92,
 .v 94 16,
 .w 95 (.iaddr 2) 93 94,
 .u 96 (.l1 2) 95,
 .a 17 (.alloc [.i 0,.i 0]) [],
 .n (.store 2 true) 17 96] [2,3,4,5,9,10,13,14,15,16,17] [4,5,14,17])
 (.reg [0,1,2,3,4,5,6,7,8,9,10,11,12,13,14,15,16,17,18,19,20,21,22,23,24] [.v 97 15,
 .v 98 97,
 .q 99 (.faddr 0) [.t 17] 98 false,
 .q 100 .l0 [.t 99] 98 false,
 .q 101 (.faddr 0) [.t 14] 98 false,
 .q 102 .l0 [.t 101] 98 false,
 .q 103 (.bin .eq) [.t 100,.t 102] 98 false,
 .q 104 .move [.t 103] 98 false,
 .q 105 .move [.t 3] 104 true,
 .q 106 .move [.t 2] 104 true,
 .q 107 (.faddr 1) [.t 17] 104 true,
 .q 108 .l0 [.t 107] 104 true,
 .q 109 (.iaddr 1) [.t 106,.t 108] 104 true,
 .q 110 .l0 [.t 109] 104 true,
 .q 111 (.iaddr 1) [.t 105,.t 110] 104 true,
 .q 112 .l0 [.t 111] 104 true,
 .q 113 .move [.t 3] 104 true,
 .q 114 (.faddr 1) [.t 14] 104 true,
 .q 115 .l0 [.t 114] 104 true,
 .q 116 (.iaddr 1) [.t 113,.t 115] 104 true,
 .q 117 .l0 [.t 116] 104 true,
 .q 118 (.bin .eq) [.t 112,.t 117] 104 true,
 .q 119 .pick [.t 104,.t 118,.k (.b false)] 98 false,
 .a 120 .pick [.t 98,.k (.b true),.t 119],
 .v 15 120] [2,3,4,5,9,10,13,14,15,16] [4,5,14])))
 (.reg [] [.v 87 16,
 .a 88 (.bin .add) [.t 87,.k (.i 1)],
 .v 16 88] [2,3,4,5,9,10,13,14,15,16] [4,5,14])))
def c29l1 : AC := b29l1
theorem r29l1 (call lp s) : run call lp c29l1 s = run call lp b29l1 s := rfl
def b29l2 : AC :=
 (.seq
 (.seq
 (.reg [] [.v 61 13,
 .u 62 (.faddr 0) 5,
 .u 63 .l0 62,
 .v 64 10,
 .w 65 (.iaddr 1) 63 64,
 .u 66 .l0 65,
 .u 67 .len 66,
 .w 68 (.bin .lt) 61 67] [2,3,4,5,9,10,13,68] [4,5])
 (.cond (.t 68)
 .skip
 (.exit 4)))
 (.seq
 (.block 5
 (.seq
 (.reg [] [.u 71 (.faddr 0) 5,
 .u 72 .l0 71,
 .v 73 10,
 .w 74 (.iaddr 1) 72 73,
 .u 75 .l0 74,
 .v 76 13,
 .w 77 (.iaddr 2) 75 76,
 .u 78 (.l1 2) 77,
 .a 14 (.alloc [.i 0,.i 0]) [],
 .n (.store 2 true) 14 78] [2,3,4,5,9,10,13,14] [4,5,14])
 (.seq
 (.reg [] [.a 15 .move [.k (.b false)]] [2,3,4,5,9,10,13,14,15] [4,5,14])
 (.seq
 (.seq
 (.reg [] [.a 16 .move [.k (.i 0)]] [2,3,4,5,9,10,13,14,15,16] [4,5,14])
 (.block 6
 (.loop [2,3,4,5,9,10,13,14,15,16] [4,5,14] c29l1)))
 (.seq
 (.reg [] [.v 121 15,
 .u 122 .not 121] [2,3,4,5,9,10,13,122] [4,5])
 (.cond (.t 122)
 (.seq
 (.reg [] [.a 8 .move [.k (.b false)]] [8] [])
 .ret)
 .skip))))))
 (.reg [] [.v 69 13,
 .a 70 (.bin .add) [.t 69,.k (.i 1)],
 .v 13 70] [2,3,4,5,9,10,13] [4,5])))
def c29l2 : AC := b29l2
theorem r29l2 (call lp s) : run call lp c29l2 s = run call lp b29l2 s := rfl
def b29l3 : AC :=
 (.seq
 (.seq
 (.reg [] [.v 18 9,
 .v 19 2,
 .u 20 .len 19,
 .w 21 (.bin .lt) 18 20] [2,3,4,5,9,21] [4,5])
 (.cond (.t 21)
 .skip
 (.exit 0)))
 (.seq
 (.block 1
 (.seq
 (.reg [] [.v 24 2,
 .v 25 9,
 .w 26 (.iaddr 1) 24 25,
 .u 27 .l0 26,
 .v 10 27] [2,3,4,5,9,10] [4,5])
 (.seq
 (.seq
 (.reg [] [.a 11 .move [.k (.i 0)]] [2,3,4,5,9,10,11] [4,5])
 (.block 2
 (.loop [2,3,4,5,9,10,11] [4,5] c29l0)))
 (.seq
 (.reg [] [.a 13 .move [.k (.i 0)]] [2,3,4,5,9,10,13] [4,5])
 (.block 4
 (.loop [2,3,4,5,9,10,13] [4,5] c29l2))))))
 (.reg [] [.v 22 9,
 .a 23 (.bin .add) [.t 22,.k (.i 1)],
 .v 9 23] [2,3,4,5,9] [4,5])))
def c29l3 : AC := b29l3
theorem r29l3 (call lp s) : run call lp c29l3 s = run call lp b29l3 s := rfl
def c29 : AC :=
 (.seq
 (.reg [] [.u 4 .box 0,
 .u 5 .box 1,
 .a 8 .move [.k (.b false)]] [2,3,4,5] [4,5])
 (.seq
 (.seq
 (.reg [] [.a 9 .move [.k (.i 0)]] [2,3,4,5,9] [4,5])
 (.block 0
 (.loop [2,3,4,5,9] [4,5] c29l3)))
 (.seq
 (.reg [] [.a 8 .move [.k (.b true)]] [8] [])
 .ret)))
def a29 : AF := ⟨c29,[.tmp 8]⟩
def b12l0 : AC :=
 (.seq
 (.seq
 (.reg [] [.v 24 7,
 .v 25 2,
 .u 26 .len 25,
 .w 27 (.bin .lt) 24 26] [2,3,4,7,27] [3,4])
 (.cond (.t 27)
 .skip
 (.exit 0)))
 (.seq
 (.block 1
 (.seq
 (.reg [0,1,2,3,4,5,6,7,8,9] [.v 30 2,
 .v 31 7,
 .w 32 (.iaddr 1) 30 31,
 .u 33 .l0 32,
 .u 34 (.faddr 0) 4,
 .u 35 .l0 34,
 .u 36 .len 35,
 .a 37 (.bin .sub) [.t 36,.k (.i 1)],
 .a 38 (.call [] false) [.f 28,.t 33,.k (.i 0),.t 37],
 .u 39 .not 38] [2,3,4,7,39] [3,4])
 (.cond (.t 39)
 (.seq
 (.reg [] [.a 6 .move [.k (.b false)]] [6] [])
 .ret)
 .skip)))
 (.reg [] [.v 28 7,
 .a 29 (.bin .add) [.t 28,.k (.i 1)],
 .v 7 29] [2,3,4,7] [3,4])))
def c12l0 : AC := b12l0
theorem r12l0 (call lp s) : run call lp c12l0 s = run call lp b12l0 s := rfl
def c12 : AC :=
 (.seq
 (.reg [] [.u 3 .box 0,
 .u 4 .box 1,
 .a 6 .move [.k (.b false)]] [2,3,4] [3,4])
 (.seq
 (.seq
 (.reg [] [.u 8 (.l1 1) 3,
 .a 9 (.call [] false) [.f 27,.t 8],
 .u 10 .not 9,
 .v 11 10,
 .q 12 (.l1 1) [.t 4] 11 false,
 .q 13 (.call [] false) [.f 27,.t 12] 11 false,
 .q 14 .not [.t 13] 11 false,
 .a 15 .pick [.t 11,.k (.b true),.t 14],
 .v 16 15,
 .q 17 .move [.t 2] 16 false,
 .q 18 .len [.t 17] 16 false,
 .q 19 (.faddr 0) [.t 3] 16 false,
 .q 20 .l0 [.t 19] 16 false,
 .q 21 .len [.t 20] 16 false,
 .q 22 (.bin .ne) [.t 18,.t 21] 16 false,
 .a 23 .pick [.t 16,.k (.b true),.t 22]] [2,3,4,23] [3,4])
 (.cond (.t 23)
 (.seq
 (.reg [] [.a 6 .move [.k (.b false)]] [6] [])
 .ret)
 .skip))
 (.seq
 (.seq
 (.reg [] [.a 7 .move [.k (.i 0)]] [2,3,4,7] [3,4])
 (.block 0
 (.loop [2,3,4,7] [3,4] c12l0)))
 (.seq
 (.reg [0,1,2,3,4,7,8] [.u 40 (.l1 1) 3,
 .u 41 (.l1 1) 4,
 .v 42 2,
 .u 43 (.l1 1) 4,
 .a 44 (.call [] false) [.f 18,.t 43],
 .n (.chk (.l1 1)) 40 3,
 .n (.chk (.l1 1)) 41 4,
 .a 45 (.call [] false) [.f 29,.t 40,.t 41,.t 42,.t 44],
 .v 6 45] [6] [])
 .ret))))
def a12 : AF := ⟨c12,[.tmp 6]⟩
def b20l0 : AC :=
 (.seq
 (.reg [] [.w 12 (.bin .lt) 11 10] [1,5,9,10,11,12] [8,24])
 (.seq
 (.cond (.t 12)
 .skip
 (.exit 0))
 (.seq
 (.block 1
 (.seq
 (.reg [] [.w 13 (.iaddr 2) 9 11,
 .u 14 (.l1 2) 13,
 .a 7 (.alloc [.i 0,.i 0]) [],
 .n (.store 2 true) 7 14] [1,5,7,9,10,11] [7,8,24])
 (.reg [] [.v 15 5,
 .u 16 (.faddr 0) 7,
 .u 17 .l0 16,
 .u 18 (.faddr 1) 7,
 .u 19 .l0 18,
 .v 20 1,
 .w 21 (.bin .add) 19 20,
 .w 22 (.build [.i 0,.i 0] [(0,1),(1,1)]) 17 21,
 .u 23 (.bslice 2 true) 22,
 .w 24 (.append 2 true) 15 23,
 .v 5 24] [1,5,9,10,11] [8,24])))
 (.reg [] [.a 25 (.bin .add) [.t 11,.k (.i 1)],
 .v 11 25] [1,5,9,10,11] [8,24]))))
def c20l0 : AC := b20l0
theorem r20l0 (call lp s) : run call lp c20l0 s = run call lp b20l0 s := rfl
def c20 : AC :=
 (.seq
 (.reg [] [.a 4 .move [.k (.nils)]] [0,1] [])
 (.seq
 (.reg [] [.a 8 (.bslice 2 true) [],
 .v 5 8] [0,1,5] [8,24])
 (.seq
 (.seq
 (.reg [] [.v 9 0,
 .u 10 .len 9,
 .a 11 .move [.k (.i 0)]] [1,5,9,10,11] [8,24])
 (.block 0
 (.loop [1,5,9,10,11] [8,24] c20l0)))
 (.seq
 (.reg [] [.v 26 5,
 .v 4 26] [4] [8,24])
 .ret))))
def a20 : AF := ⟨c20,[.tmp 4]⟩
def b9l0 : AC :=
 (.seq
 (.reg [] [.w 35 (.bin .lt) 34 33] [2,3,4,6,32,33,34,35] [2,3,4,6,43,61])
 (.seq
 (.cond (.t 35)
 .skip
 (.exit 0))
 (.seq
 (.block 1
 (.seq
 (.reg [] [.w 36 (.iaddr 1) 32 34,
 .u 37 .l0 36,
 .v 8 37] [2,3,4,6,8,32,33,34] [2,3,4,6,43,61])
 (.reg [0,1,2,3,6,9,10,11] [.u 38 (.faddr 0) 6,
 .u 39 .l0 38,
 .v 40 8,
 .a 41 (.call [] false) [.f 20,.t 40,.k (.i 0)],
 .n (.chk (.faddr 0)) 38 6,
 .n (.chk (.l0)) 39 38,
 .u 42 (.bslice 1 true) 41,
 .n (.chk (.faddr 0)) 38 6,
 .n (.chk (.l0)) 39 38,
 .w 43 (.append 1 true) 39 42,
 .u 44 (.faddr 0) 6,
 .n (.store 1 true) 44 43] [2,3,4,6,32,33,34] [2,3,4,6,43,61])))
 (.reg [] [.a 45 (.bin .add) [.t 34,.k (.i 1)],
 .v 34 45] [2,3,4,6,32,33,34] [2,3,4,6,43,61]))))
def c9l0 : AC := b9l0
theorem r9l0 (call lp s) : run call lp c9l0 s = run call lp b9l0 s := rfl
def b9l1 : AC :=
 (.seq
 (.reg [] [.w 50 (.bin .lt) 49 48] [2,4,6,47,48,49,50] [2,4,6,43,61])
 (.seq
 (.cond (.t 50)
 .skip
 (.exit 2))
 (.seq
 (.block 3
 (.seq
 (.reg [] [.w 51 (.iaddr 1) 47 49,
 .u 52 .l0 51,
 .v 10 52] [2,4,6,10,47,48,49] [2,4,6,43,61])
 (.reg [0,1,2,3,4,5,6,9,12,13,14] [.u 53 (.faddr 0) 6,
 .u 54 .l0 53,
 .v 55 10,
 .u 56 (.faddr 0) 2,
 .u 57 .l0 56,
 .u 58 .len 57,
 .a 59 (.call [] false) [.f 20,.t 55,.t 58],
 .n (.chk (.faddr 0)) 53 6,
 .n (.chk (.l0)) 54 53,
 .u 60 (.bslice 1 true) 59,
 .n (.chk (.faddr 0)) 53 6,
 .n (.chk (.l0)) 54 53,
 .w 61 (.append 1 true) 54 60,
 .u 62 (.faddr 0) 6,
 .n (.store 1 true) 62 61] [2,4,6,47,48,49] [2,4,6,43,61])))
 (.reg [] [.a 63 (.bin .add) [.t 49,.k (.i 1)],
 .v 49 63] [2,4,6,47,48,49] [2,4,6,43,61]))))
def c9l1 : AC := b9l1
theorem r9l1 (call lp s) : run call lp c9l1 s = run call lp b9l1 s := rfl
def c9 : AC :=
 (.seq
 (.reg [] [.u 2 .box 0,
 .u 3 .box 1,
 .a 4 (.alloc [.nils]) [],
 .a 5 .move [.k (.b false)]] [2,3,4] [2,3,4,43,61])
 (.seq
 (.seq
 (.reg [] [.u 11 (.l1 1) 2,
 .a 12 (.call [] false) [.f 19,.t 11],
 .u 13 .not 12,
 .v 14 13,
 .q 15 (.l1 1) [.t 3] 14 false,
 .q 16 (.call [] false) [.f 19,.t 15] 14 false,
 .q 17 .not [.t 16] 14 false,
 .a 18 .pick [.t 14,.k (.b true),.t 17],
 .v 19 18,
 .q 20 (.faddr 0) [.t 2] 19 false,
 .q 21 .l0 [.t 20] 19 false,
 .q 22 .len [.t 21] 19 false,
 .q 23 (.faddr 0) [.t 3] 19 false,
 .q 24 .l0 [.t 23] 19 false,
 .q 25 .len [.t 24] 19 false,
 .q 26 (.bin .add) [.t 22,.t 25] 19 false,
 .q 27 (.bin .gt) [.t 26,.k (.i 60)] 19 false,
 .a 28 .pick [.t 19,.k (.b true),.t 27]] [2,3,4,28] [2,3,4,43,61])
 (.cond (.t 28)
 (.seq
 (.reg [] [.a 29 (.build [.nils] []) [],
 .n (.store 1 true) 4 29,
 .a 5 .move [.k (.b false)]] [4,5] [4,43,61])
 .ret)
 .skip))
 (.seq
 (.reg [] [.a 30 (.build [.nils] []) [],
 .a 6 (.alloc [.nils]) [],
 .n (.store 1 true) 6 30] [2,3,4,6] [2,3,4,6,43,61])
 (.seq
 (.seq
 (.reg [] [.u 31 (.faddr 0) 2,
 .u 32 .l0 31,
 .u 33 .len 32,
 .a 34 .move [.k (.i 0)]] [2,3,4,6,32,33,34] [2,3,4,6,43,61])
 (.block 0
 (.loop [2,3,4,6,32,33,34] [2,3,4,6,43,61] c9l0)))
 (.seq
 (.seq
 (.reg [] [.u 46 (.faddr 0) 3,
 .u 47 .l0 46,
 .u 48 .len 47,
 .a 49 .move [.k (.i 0)]] [2,4,6,47,48,49] [2,4,6,43,61])
 (.block 2
 (.loop [2,4,6,47,48,49] [2,4,6,43,61] c9l1)))
 (.seq
 (.reg [] [.u 64 (.l1 1) 6,
 .n (.store 1 true) 4 64,
 .a 5 .move [.k (.b true)]] [4,5] [4,43,61])
 .ret))))))
def a9 : AF := ⟨c9,[.cell 4 (some 1),.tmp 5]⟩
def c13 : AC :=
 (.seq
 (.reg [] [.u 1 .box 0,
 .a 2 .move [.k (.nils)]] [1] [1])
 (.seq
 (.seq
 (.reg [] [.u 3 (.l1 1) 1,
 .a 4 (.call [] false) [.f 19,.t 3],
 .u 5 .not 4] [1,5] [1])
 (.cond (.t 5)
 (.seq
 (.reg [] [.a 2 .move [.k (.nils)]] [2] [7])
 .ret)
 .skip))
 (.seq
 (.reg [] [.u 6 (.l1 1) 1,
 .a 7 (.call [] false) [.f 16,.t 6],
 .v 2 7] [2] [7])
 .ret)))
def a13 : AF := ⟨c13,[.tmp 2]⟩
def b4l0 : AC :=
 (.seq
 (.seq
 (.reg [] [.v 46 11,
 .v 47 5,
 .u 48 .len 47,
 .w 49 (.bin .lt) 46 48] [3,5,10,11,49] [3,17,35,45,1017,2017])
 (.cond (.t 49)
 .skip
 (.exit 0)))
 (.seq
 (.block 1
 (.seq
 (.reg [0,1,2,3,4,5,6,7,8,9,10,11,12,13,14,15] [.v 52 10,
 .u 53 (.faddr 0) 3,
 .u 54 .l0 53,
 .u 55 .len 54,
 .v 56 5,
 .v 57 11,
 .w 58 (.iaddr 1) 56 57,
 .u 59 .l0 58,
 .w 60 (.bin .add) 55 59,
 .w 61 (.iaddr 1) 52 60,
 .u 62 .l0 61,
 .v 63 10,
 .v 64 11,
 .w 65 (.iaddr 1) 63 64,
 .u 66 .l0 65,
 .w 67 (.bin .ne) 62 66] [3,5,10,11,67] [3,17,35,45,1017,2017])
 (.cond (.t 67)
 (.seq
 (.reg [] [.a 2 .move [.k (.b false)]] [2] [])
 .ret)
 .skip)))
 (.reg [] [.v 50 11,
 .a 51 (.bin .add) [.t 50,.k (.i 1)],
 .v 11 51] [3,5,10,11] [3,17,35,45,1017,2017])))
def c4l0 : AC := b4l0
theorem r4l0 (call lp s) : run call lp c4l0 s = run call lp b4l0 s := rfl
def c4 : AC :=
 (.seq
 (.reg [] [.a 2 .move [.k (.b false)]] [0] [])
 (.seq
 (.seq
 (.reg [] [.v 12 0,
 .u 13 .len 12,
 .a 14 (.bin .gt) [.t 13,.k (.i 1048576)]] [0,14] [])
 (.cond (.t 14)
 (.seq
 (.reg [] [.a 2 .move [.k (.b true)]] [2] [])
 .ret)
 .skip))
 (.seq
 (.reg [] [.v 16 0,
 .a 17 (.call [] false) [.f 11,.t 16],
 .v 15 17,
 .u 18 (.ext 0) 15,
 .u 19 (.ext 1) 15,
 .u 20 (.ext 2) 15,
 .a 3 (.alloc [.nils]) [],
 .a 4 (.alloc [.nils]) [],
 .n (.store 1 true) 3 18,
 .n (.store 1 true) 4 19,
 .v 5 20] [3,4,5] [3,4,17,1017,2017])
 (.seq
 (.reg [] [.u 21 (.l1 1) 3,
 .u 22 (.l1 1) 4,
 .v 23 5,
 .a 24 (.call [] false) [.f 10,.t 21,.t 22,.t 23],
 .v 6 24] [3,4,5,6] [3,4,17,1017,2017])
 (.seq
 (.reg [] [.u 25 (.l1 1) 3,
 .u 26 (.l1 1) 4,
 .v 27 5,
 .a 28 (.call [] false) [.f 12,.t 25,.t 26,.t 27],
 .v 7 28] [3,4,5,6,7] [3,4,17,1017,2017])
 (.seq
 (.seq
 (.reg [] [.v 29 6,
 .v 30 7,
 .w 31 .bne 29 30] [3,4,5,6,31] [3,4,17,1017,2017])
 (.cond (.t 31)
 (.seq
 (.reg [] [.a 2 .move [.k (.b false)]] [2] [])
 .ret)
 .skip))
 (.seq
 (.reg [] [.u 33 (.l1 1) 3,
 .u 34 (.l1 1) 4,
 .a 35 (.call [] false) [.f 9,.t 33,.t 34],
 .v 32 35,
 .u 36 (.ext 0) 32,
 .u 37 (.ext 1) 32,
 .a 8 (.alloc [.nils]) [],
 .n (.store 1 true) 8 36,
 .v 9 37] [3,5,6,8,9] [3,8,17,35,1017,2017])
 (.seq
 (.seq
 (.reg [] [.v 38 6,
 .u 39 .not 38,
 .v 40 39,
 .q 41 .move [.t 9] 40 false,
 .q 42 .not [.t 41] 40 false,
 .a 43 .pick [.t 40,.k (.b true),.t 42]] [3,5,8,43] [3,8,17,35,1017,2017])
 (.cond (.t 43)
 (.seq
 (.reg [] [.a 2 .move [.k (.b true)]] [2] [])
 .ret)
 .skip))
 (.seq
 (.reg [] [.u 44 (.l1 1) 8,
 .a 45 (.call [] false) [.f 13,.t 44],
 .v 10 45] [3,5,10] [3,17,35,45,1017,2017])
 (.seq
 (.seq
 (.reg [] [.a 11 .move [.k (.i 0)]] [3,5,10,11] [3,17,35,45,1017,2017])
 (.block 0
 (.loop [3,5,10,11] [3,17,35,45,1017,2017] c4l0)))
 (.seq
 (.reg [] [.a 2 .move [.k (.b true)]] [2] [])
 .ret)))))))))))
def a4 : AF := ⟨c4,[.tmp 2]⟩
theorem ok14 : okF Try.prog 14 a14 = true := by kernel_rfl
theorem ok25 : okF Try.prog 25 a25 = true := by kernel_rfl
theorem ok47 : okF Try.prog 47 a47 = true := by kernel_rfl
theorem ok59 : okF Try.prog 59 a59 = true := by kernel_rfl
theorem ok57 : okF Try.prog 57 a57 = true := by kernel_rfl
theorem ok46 : okF Try.prog 46 a46 = true := by kernel_rfl
theorem ok44 : okF Try.prog 44 a44 = true := by kernel_rfl
theorem ok28 : okF Try.prog 28 a28 = true := by kernel_rfl
theorem ok41 : okF Try.prog 41 a41 = true := by kernel_rfl
theorem ok64 : okF Try.prog 64 a64 = true := by kernel_rfl
theorem ok73 : okF Try.prog 73 a73 = true := by kernel_rfl
theorem ok72 : okF Try.prog 72 a72 = true := by kernel_rfl
theorem ok61 : okF Try.prog 61 a61 = true := by kernel_rfl
theorem ok60 : okF Try.prog 60 a60 = true := by kernel_rfl
theorem ok48 : okF Try.prog 48 a48 = true := by kernel_rfl
theorem ok74 : okF Try.prog 74 a74 = true := by kernel_rfl
theorem ok75 : okF Try.prog 75 a75 = true := by kernel_rfl
theorem ok77 : okF Try.prog 77 a77 = true := by kernel_rfl
theorem ok76 : okF Try.prog 76 a76 = true := by kernel_rfl
theorem ok62 : okF Try.prog 62 a62 = true := by kernel_rfl
theorem ok63 : okF Try.prog 63 a63 = true := by kernel_rfl
theorem ok42 : okF Try.prog 42 a42 = true := by kernel_rfl
theorem ok58 : okF Try.prog 58 a58 = true := by kernel_rfl
theorem ok49 : okF Try.prog 49 a49 = true := by kernel_rfl
theorem ok32 : okF Try.prog 32 a32 = true := by kernel_rfl
theorem ok45 : okF Try.prog 45 a45 = true := by kernel_rfl
theorem ok30 : okF Try.prog 30 a30 = true := by kernel_rfl
theorem ok31 : okF Try.prog 31 a31 = true := by kernel_rfl
theorem ok27 : okF Try.prog 27 a27 = true := by kernel_rfl
theorem ok43 : okF Try.prog 43 a43 = true := by kernel_rfl
theorem ok70 : okF Try.prog 70 a70 = true := by kernel_rfl
theorem ok54 : okF Try.prog 54 a54 = true := by kernel_rfl
theorem ok55 : okF Try.prog 55 a55 = true := by kernel_rfl
theorem ok37 : okF Try.prog 37 a37 = true := by kernel_rfl
theorem ok18 : okF Try.prog 18 a18 = true := by kernel_rfl
theorem ok50 : okF Try.prog 50 a50 = true := by kernel_rfl
theorem ok33 : okF Try.prog 33 a33 = true := by kernel_rfl
theorem ok15 : okF Try.prog 15 a15 = true := by kernel_rfl
theorem ok36 : okF Try.prog 36 a36 = true := by kernel_rfl
theorem ok17 : okF Try.prog 17 a17 = true := by kernel_rfl
theorem ok7 : okF Try.prog 7 a7 = true := by kernel_rfl
theorem ok26 : okF Try.prog 26 a26 = true := by kernel_rfl
theorem ok11 : okF Try.prog 11 a11 = true := by kernel_rfl
theorem ok38 : okF Try.prog 38 a38 = true := by kernel_rfl
theorem ok71 : okF Try.prog 71 a71 = true := by kernel_rfl
theorem ok56 : okF Try.prog 56 a56 = true := by kernel_rfl
theorem ok39 : okF Try.prog 39 a39 = true := by kernel_rfl
theorem ok19 : okF Try.prog 19 a19 = true := by kernel_rfl
theorem ok69 : okF Try.prog 69 a69 = true := by kernel_rfl
theorem ok53 : okF Try.prog 53 a53 = true := by kernel_rfl
theorem ok52 : okF Try.prog 52 a52 = true := by kernel_rfl
theorem ok66 : okF Try.prog 66 a66 = true := by kernel_rfl
theorem ok78 : okF Try.prog 78 a78 = true := by kernel_rfl
theorem ok65 : okF Try.prog 65 a65 = true := by kernel_rfl
theorem ok67 : okF Try.prog 67 a67 = true := by kernel_rfl
theorem ok51 : okF Try.prog 51 a51 = true := by kernel_rfl
theorem ok34 : okF Try.prog 34 a34 = true := by kernel_rfl
theorem ok35 : okF Try.prog 35 a35 = true := by kernel_rfl
theorem ok16 : okF Try.prog 16 a16 = true := by kernel_rfl
theorem ok21 : okF Try.prog 21 a21 = true := by kernel_rfl
theorem ok23 : okF Try.prog 23 a23 = true := by kernel_rfl
theorem ok40 : okF Try.prog 40 a40 = true := by kernel_rfl
theorem ok22 : okF Try.prog 22 a22 = true := by kernel_rfl
theorem ok24 : okF Try.prog 24 a24 = true := by kernel_rfl
theorem ok10 : okF Try.prog 10 a10 = true := by kernel_rfl
theorem ok29 : okF Try.prog 29 a29 = true := by kernel_rfl
theorem ok12 : okF Try.prog 12 a12 = true := by kernel_rfl
theorem ok20 : okF Try.prog 20 a20 = true := by kernel_rfl
theorem ok9 : okF Try.prog 9 a9 = true := by kernel_rfl
theorem ok13 : okF Try.prog 13 a13 = true := by kernel_rfl
theorem ok4 : okF Try.prog 4 a4 = true := by kernel_rfl
def codes : Nat → Option AF
  | 14 => some a14
  | 25 => some a25
  | 47 => some a47
  | 59 => some a59
  | 57 => some a57
  | 46 => some a46
  | 44 => some a44
  | 28 => some a28
  | 41 => some a41
  | 64 => some a64
  | 73 => some a73
  | 72 => some a72
  | 61 => some a61
  | 60 => some a60
  | 48 => some a48
  | 74 => some a74
  | 75 => some a75
  | 77 => some a77
  | 76 => some a76
  | 62 => some a62
  | 63 => some a63
  | 42 => some a42
  | 58 => some a58
  | 49 => some a49
  | 32 => some a32
  | 45 => some a45
  | 30 => some a30
  | 31 => some a31
  | 27 => some a27
  | 43 => some a43
  | 70 => some a70
  | 54 => some a54
  | 55 => some a55
  | 37 => some a37
  | 18 => some a18
  | 50 => some a50
  | 33 => some a33
  | 15 => some a15
  | 36 => some a36
  | 17 => some a17
  | 7 => some a7
  | 26 => some a26
  | 11 => some a11
  | 38 => some a38
  | 71 => some a71
  | 56 => some a56
  | 39 => some a39
  | 19 => some a19
  | 69 => some a69
  | 53 => some a53
  | 52 => some a52
  | 66 => some a66
  | 78 => some a78
  | 65 => some a65
  | 67 => some a67
  | 51 => some a51
  | 34 => some a34
  | 35 => some a35
  | 16 => some a16
  | 21 => some a21
  | 23 => some a23
  | 40 => some a40
  | 22 => some a22
  | 24 => some a24
  | 10 => some a10
  | 29 => some a29
  | 12 => some a12
  | 20 => some a20
  | 9 => some a9
  | 13 => some a13
  | 4 => some a4
  | _ => none
def G0 : Prog := ⟨codes,fun _ => none⟩
theorem g14 : codes 14 = some a14 := rfl
theorem g25 : codes 25 = some a25 := rfl
theorem g47 : codes 47 = some a47 := rfl
theorem g59 : codes 59 = some a59 := rfl
theorem g57 : codes 57 = some a57 := rfl
theorem g46 : codes 46 = some a46 := rfl
theorem g44 : codes 44 = some a44 := rfl
theorem g28 : codes 28 = some a28 := rfl
theorem g41 : codes 41 = some a41 := rfl
theorem g64 : codes 64 = some a64 := rfl
theorem g73 : codes 73 = some a73 := rfl
theorem g72 : codes 72 = some a72 := rfl
theorem g61 : codes 61 = some a61 := rfl
theorem g60 : codes 60 = some a60 := rfl
theorem g48 : codes 48 = some a48 := rfl
theorem g74 : codes 74 = some a74 := rfl
theorem g75 : codes 75 = some a75 := rfl
theorem g77 : codes 77 = some a77 := rfl
theorem g76 : codes 76 = some a76 := rfl
theorem g62 : codes 62 = some a62 := rfl
theorem g63 : codes 63 = some a63 := rfl
theorem g42 : codes 42 = some a42 := rfl
theorem g58 : codes 58 = some a58 := rfl
theorem g49 : codes 49 = some a49 := rfl
theorem g32 : codes 32 = some a32 := rfl
theorem g45 : codes 45 = some a45 := rfl
theorem g30 : codes 30 = some a30 := rfl
theorem g31 : codes 31 = some a31 := rfl
theorem g27 : codes 27 = some a27 := rfl
theorem g43 : codes 43 = some a43 := rfl
theorem g70 : codes 70 = some a70 := rfl
theorem g54 : codes 54 = some a54 := rfl
theorem g55 : codes 55 = some a55 := rfl
theorem g37 : codes 37 = some a37 := rfl
theorem g18 : codes 18 = some a18 := rfl
theorem g50 : codes 50 = some a50 := rfl
theorem g33 : codes 33 = some a33 := rfl
theorem g15 : codes 15 = some a15 := rfl
theorem g36 : codes 36 = some a36 := rfl
theorem g17 : codes 17 = some a17 := rfl
theorem g7 : codes 7 = some a7 := rfl
theorem g26 : codes 26 = some a26 := rfl
theorem g11 : codes 11 = some a11 := rfl
theorem g38 : codes 38 = some a38 := rfl
theorem g71 : codes 71 = some a71 := rfl
theorem g56 : codes 56 = some a56 := rfl
theorem g39 : codes 39 = some a39 := rfl
theorem g19 : codes 19 = some a19 := rfl
theorem g69 : codes 69 = some a69 := rfl
theorem g53 : codes 53 = some a53 := rfl
theorem g52 : codes 52 = some a52 := rfl
theorem g66 : codes 66 = some a66 := rfl
theorem g78 : codes 78 = some a78 := rfl
theorem g65 : codes 65 = some a65 := rfl
theorem g67 : codes 67 = some a67 := rfl
theorem g51 : codes 51 = some a51 := rfl
theorem g34 : codes 34 = some a34 := rfl
theorem g35 : codes 35 = some a35 := rfl
theorem g16 : codes 16 = some a16 := rfl
theorem g21 : codes 21 = some a21 := rfl
theorem g23 : codes 23 = some a23 := rfl
theorem g40 : codes 40 = some a40 := rfl
theorem g22 : codes 22 = some a22 := rfl
theorem g24 : codes 24 = some a24 := rfl
theorem g10 : codes 10 = some a10 := rfl
theorem g29 : codes 29 = some a29 := rfl
theorem g12 : codes 12 = some a12 := rfl
theorem g20 : codes 20 = some a20 := rfl
theorem g9 : codes 9 = some a9 := rfl
theorem g13 : codes 13 = some a13 := rfl
theorem g4 : codes 4 = some a4 := rfl
theorem gp0 (n : Nat) : G0.prim n = none := rfl
theorem progOK0 : ProgOK Try.prog G0 := by
  refine ⟨by kernel_rfl,fun f af _ h => ?_,fun f p h => by cases h⟩
  simp only [G0] at h
  unfold codes at h
  split at h
  · cases h; exact ok14
  · cases h; exact ok25
  · cases h; exact ok47
  · cases h; exact ok59
  · cases h; exact ok57
  · cases h; exact ok46
  · cases h; exact ok44
  · cases h; exact ok28
  · cases h; exact ok41
  · cases h; exact ok64
  · cases h; exact ok73
  · cases h; exact ok72
  · cases h; exact ok61
  · cases h; exact ok60
  · cases h; exact ok48
  · cases h; exact ok74
  · cases h; exact ok75
  · cases h; exact ok77
  · cases h; exact ok76
  · cases h; exact ok62
  · cases h; exact ok63
  · cases h; exact ok42
  · cases h; exact ok58
  · cases h; exact ok49
  · cases h; exact ok32
  · cases h; exact ok45
  · cases h; exact ok30
  · cases h; exact ok31
  · cases h; exact ok27
  · cases h; exact ok43
  · cases h; exact ok70
  · cases h; exact ok54
  · cases h; exact ok55
  · cases h; exact ok37
  · cases h; exact ok18
  · cases h; exact ok50
  · cases h; exact ok33
  · cases h; exact ok15
  · cases h; exact ok36
  · cases h; exact ok17
  · cases h; exact ok7
  · cases h; exact ok26
  · cases h; exact ok11
  · cases h; exact ok38
  · cases h; exact ok71
  · cases h; exact ok56
  · cases h; exact ok39
  · cases h; exact ok19
  · cases h; exact ok69
  · cases h; exact ok53
  · cases h; exact ok52
  · cases h; exact ok66
  · cases h; exact ok78
  · cases h; exact ok65
  · cases h; exact ok67
  · cases h; exact ok51
  · cases h; exact ok34
  · cases h; exact ok35
  · cases h; exact ok16
  · cases h; exact ok21
  · cases h; exact ok23
  · cases h; exact ok40
  · cases h; exact ok22
  · cases h; exact ok24
  · cases h; exact ok10
  · cases h; exact ok29
  · cases h; exact ok12
  · cases h; exact ok20
  · cases h; exact ok9
  · cases h; exact ok13
  · cases h; exact ok4
  · cases h
end Go.Am
end
