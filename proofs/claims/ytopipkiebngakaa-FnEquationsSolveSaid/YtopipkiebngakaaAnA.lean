/- An abstract machine; its steps are those of the model. -/
import GoSem.Core.View
import GoSem.Op.String
import Derived.Laws.OwnMore
import Derived.Below
import Derived.Laws.Cells
import Derived.Laws.Entries
import Derived.Laws.CopyRow
import Derived.Orders
import Derived.Laws.Unary
import Derived.Laws.MakeOwn
import Derived.Laws.AppendOwn
import Derived.Laws.Tables
section
/- The abstract machine: a deterministic interpreter of the translated code over abstract values. No program in sight. -/
namespace Go.Am
abbrev Id := Nat × Nat
inductive PV
  | undef
  | sc (v : Value)
  | nils
  | sl (u : Bool) (k : Nat) (xs : List PV)
  | own (id : Id) (n : Nat)
  | ref (id : Id) (n i j : Nat)
  | sub (id : Id) (n i : Nat)
  | iref (cs : List PV) (j : Nat)
  | mp (id : Id)
  | clo (f : Nat) (caps : List PV)
  | agg (cs : List PV)
  | tup (vs : List PV)
  | bx (cs : List PV)
  | non
  deriving Inhabited
inductive Key
  | i (n : Int)
  | s (b : ByteArray)
  deriving DecidableEq,Inhabited
def Key.str : Key → Bool | .i _ => false | .s _ => true
def Key.val : Key → Value | .i n => .int .i64 n | .s b => .string b
def keyOf : Value → Option Key
  | .int .i64 n => some (.i n)
  | .string b => some (.s b)
  | _ => none
def lkp (k : Key) : List (Key × PV) → Option PV
  | [] => none
  | (k',x) :: r => if k' = k then some x else lkp k r
def ins (k : Key) (x : PV) : List (Key × PV) → List (Key × PV)
  | [] => [(k,x)]
  | (k',y) :: r => if k' = k then (k,x) :: r else (k',y) :: ins k x r
inductive OB
  | box (cs : List PV)
  | row (k : Nat) (xs : List PV)
  | frz (k : Nat) (xs : List PV)
  | map (s : Bool) (es : List (Key × PV))
  | dead
  deriving Inhabited
abbrev PV.i (n : Int) : PV := .sc (.int .i64 n)
abbrev PV.b (x : Bool) : PV := .sc (.bool x)
abbrev PV.s (x : ByteArray) : PV := .sc (.string x)
def PV.cells : PV → List PV | .agg cs => cs | v => [v]
inductive Opd | t (n : Nat) | k (v : PV) | f (n : Nat)
inductive BK | add | sub | mul | quo | rem | eq | ne | lt | le | gt | ge | xor
inductive K
  | move | pick
  | alloc (z : List PV) | box
  | build (z : List PV) (offs : List (Nat × Nat))
  | bslice (k : Nat) (mv : Bool)
  | eslice (k : Nat)
  | load (k : Option Nat) (tk : Bool)
  | store (w : Nat) (mv : Bool)
  | bin (op : BK) | beq | bne | not | neg
  | faddr (off : Nat)
  | iaddr (es : Nat)
  | iarr (es n : Nat)
  | idx (k : Option Nat) (es n : Nat)
  | istr
  | fld (k : Option Nat) (off : Nat)
  | ext (i : Nat)
  | len | lens
  | append (k : Nat) (cons : Bool)
  | mkslice (k : Nat) (z : PV)
  | mkfunc (f : Nat)
  | slice (es : Nat) (lo hi : Bool)
  | fsl (es : Nat)
  | sstr (lo hi : Bool)
  | mkmap (s : Bool)
  | lookup (s : Bool) (z : PV) (ok : Bool)
  | mapset (s : Bool)
  | conv (k : IntKind)
  | bstr
  | min2 | max2
  | call (byref : List Nat) (leaky : Bool)
  | nck
  | isnil
  | take
  | copy
  | clear (k : Nat) (z : PV)
  | meq (neg : Bool)
  | chk (op : K)
structure AI where
  d : Option Nat
  op : K
  xs : List Opd
  g : Option (Nat × Bool)
inductive AC
  | skip
  | reg (ord : List Nat) (ops : List AI) (live objs : List Nat)
  | nest (pre : List AI) (ld : AI) (mids : List AI) (cl : AI) (post : List AI) (live objs : List Nat)
  | seq (a b : AC)
  | cond (c : Opd) (a b : AC)
  | block (n : Nat) (a : AC)
  | loop (live objs : List Nat) (a : AC)
  | exit (n : Nat)
  | ret
  | alt (i j m : Nat) (a b : AC)
abbrev Regs := List (Nat × PV)
abbrev Objs := List (Nat × OB)
abbrev Stack := List Objs
def getR : Regs → Nat → PV
  | [],_ => .undef
  | (k,v) :: r,t => if k = t then v else getR r t
def getO : Objs → Nat → Option OB
  | [],_ => none
  | (k,v) :: r,t => if k = t then some v else getO r t
def setO : Objs → Nat → OB → Objs
  | [],s,o => [(s,o)]
  | (k,v) :: r,s,o => if k = s then (k,o) :: r else (k,v) :: setO r s o
structure St where
  r : Regs
  l : Objs
  o : Stack
def St.ev (s : St) : Opd → PV
  | .t n => getR s.r n
  | .k v => v
  | .f n => .clo n []
def St.get (s : St) (id : Id) : Option OB :=
  if id.1 = s.o.length then getO s.l id.2 else (s.o[id.1]?).bind (getO · id.2)
def St.set (s : St) (id : Id) (ob : OB) : St :=
  if id.1 = s.o.length then { s with l := setO s.l id.2 ob } else { s with o := s.o.modify id.1 (setO · id.2 ob) }
def St.sets (s : St) : List (Id × OB) → St
  | [] => s
  | (id,ob) :: r => (s.set id ob).sets r
def St.put (s : St) (d : Option Nat) (v : PV) : St := match d with | some t => { s with r := (t,v) :: s.r } | none => s

def cellP : PV → Bool
  | .agg _ | .tup _ | .bx _ | .non => false
  | _ => true
def flatE : PV → Bool
  | .agg cs => cs.all cellP
  | .tup _ | .bx _ | .non => false
  | _ => true
mutual
def fal : PV → PV
  | .sl _ k xs => .sl false k (fals xs)
  | .agg cs => .agg (fals cs)
  | v => v
def fals : List PV → List PV
  | [] => []
  | x :: xs => fal x :: fals xs
end
mutual
def noShare : PV → Bool
  | .sc _ | .nils => true
  | .sl u _ xs => u && noShares xs
  | .agg cs | .tup cs | .bx cs => noShares cs
  | _ => false
def noShares : List PV → Bool
  | [] => true
  | x :: xs => noShare x && noShares xs
end
mutual
def plain : PV → Bool
  | .sc _ | .nils => true
  | .sl u _ _ => !u
  | .agg cs => plains cs
  | _ => false
def plains : List PV → Bool
  | [] => true
  | x :: xs => plain x && plains xs
end
mutual
def atLvl (n : Nat) : PV → Bool
  | .own id _ | .ref id _ _ _ | .sub id _ _ | .mp id => id.1 = n
  | .clo _ cs | .agg cs | .tup cs | .bx cs => atLvls n cs
  | _ => false
def atLvls (n : Nat) : List PV → Bool
  | [] => false
  | x :: xs => atLvl n x || atLvls n xs
end
mutual
def noRef : PV → Bool
  | .own _ _ | .ref _ _ _ _ | .sub _ _ _ | .mp _ => false
  | .clo _ cs | .agg cs | .tup cs | .bx cs => noRefs cs
  | _ => true
def noRefs : List PV → Bool
  | [] => true
  | x :: xs => noRef x && noRefs xs
end
mutual
def upTo (n : Nat) : PV → Bool
  | .own id _ | .ref id _ _ _ | .sub id _ _ | .mp id => decide (id.1 ≤ n)
  | .clo _ cs | .agg cs | .tup cs | .bx cs => upTos n cs
  | _ => true
def upTos (n : Nat) : List PV → Bool
  | [] => true
  | x :: xs => upTo n x && upTos n xs
end
def ib (i : Int) (n : Nat) : Bool := decide (0 ≤ i) && decide (i < n)
def takeC (k : Option Nat) (cs : List PV) (j : Nat) : Option PV := match k with
  | none => cs[j]?
  | some k => if j + k ≤ cs.length then some (.agg ((cs.drop j).take k)) else none
def putC (cs : List PV) (j : Nat) : List PV → List PV
  | [] => cs
  | v :: vs => putC (cs.set j v) (j + 1) vs
def sure : PV → Bool
  | .undef => false
  | x => x.cells.all cellP
def buildC : List PV → List (Nat × Nat) → List PV → Option (List PV)
  | z,[],[] => some z
  | z,(o,n) :: os,x :: xs => if x.cells.length = n ∧ o + n ≤ z.length ∧ sure x = true then buildC (putC z o x.cells) os xs else none
  | _,_,_ => none
def unAgg (x : PV) (cs : List PV) : PV := match x with | .agg _ => .agg cs | _ => cs.headD .undef
def nth (xs : List PV) (i : Nat) : Option PV := xs[i]?
def OB.elem (n i : Nat) : OB → Option (List PV)
  | .box cs => if n = 1 then if i = 0 then some cs else none else none
  | .row _ xs => if n = xs.length then (nth xs i).map PV.cells else none
  | _ => none
def OB.isBox : OB → Bool
  | .box _ => true
  | _ => false
def pack1 (mv : Bool) (g : Id → Option OB) : PV → Option (PV × List (Id × OB))
  | .sc v => some (.sc v,[])
  | .nils => some (.nils,[])
  | .sl false k xs => some (.sl false k xs,[])
  | .own id n => match g id with
    | some (.row k xs) => if n = xs.length then (if mv then some (.sl true k xs,[(id,.dead)]) else some (.sl false k (fals xs),[(id,.frz k (fals xs))])) else none
    | some (.frz k xs) => if n = xs.length then some (.sl false k xs,[]) else none
    | _ => none
  | _ => none
def packs (mv : Bool) (g : Id → Option OB) : List PV → Option (List PV × List (Id × OB))
  | [] => some ([],[])
  | x :: xs => match pack1 mv g x,packs mv g xs with
    | some (y,w),some (ys,ws) => some (y :: ys,w ++ ws)
    | _,_ => none
def packE (mv : Bool) (g : Id → Option OB) : PV → Option (PV × List (Id × OB))
  | .agg cs => match packs mv g cs with | some (ys,w) => some (.agg ys,w) | none => none
  | v => pack1 mv g v
def packEs (mv : Bool) (g : Id → Option OB) : List PV → Option (List PV × List (Id × OB))
  | [] => some ([],[])
  | x :: xs => match packE mv g x,packEs mv g xs with
    | some (y,w),some (ys,ws) => some (y :: ys,w ++ ws)
    | _,_ => none
def nodupId : List (Id × OB) → Bool
  | [] => true
  | (id,_) :: r => r.all (fun x => !(x.1 == id)) && nodupId r

def live (g : Id → Option OB) (id : Id) (m i : Nat) : Bool := match g id with
  | some (.box _) => decide (m = 1) && decide (i = 0)
  | some (.row _ xs) => decide (m = xs.length)
  | _ => false
def bxor (k : IntKind) (a b : Int) : Int := k.wrap ((BitVec.ofInt k.bits a ^^^ BitVec.ofInt k.bits b).toNat)
def scs : List PV → Bool
  | [] => true
  | .sc _ :: xs => scs xs
  | _ => false
def sliceOf (lo hi : Bool) (n : Nat) : List PV → Option (Nat × Nat)
  | [] => if lo = false ∧ hi = false then some (0,n) else none
  | [.sc (.int .i64 a)] => if lo = true ∧ hi = false ∧ 0 ≤ a ∧ a ≤ n then some (a.toNat,n) else if lo = false ∧ hi = true ∧ 0 ≤ a ∧ a ≤ n then some (0,a.toNat) else none
  | [.sc (.int .i64 a),.sc (.int .i64 b)] => if lo = true ∧ hi = true ∧ 0 ≤ a ∧ a ≤ b ∧ b ≤ n then some (a.toNat,b.toNat) else none
  | _ => none
def bin : BK → PV → PV → Option PV
  | .add,.sc (.int k a),.sc (.int k' b) => if k = k' then some (.sc (.int k (k.wrap (a + b)))) else none
  | .sub,.sc (.int k a),.sc (.int k' b) => if k = k' then some (.sc (.int k (k.wrap (a - b)))) else none
  | .mul,.sc (.int k a),.sc (.int k' b) => if k = k' then some (.sc (.int k (k.wrap (a * b)))) else none
  | .quo,.sc (.int k a),.sc (.int k' b) => if k = k' then if b = 0 then none else some (.sc (.int k (k.wrap (a.tdiv b)))) else none
  | .rem,.sc (.int k a),.sc (.int k' b) => if k = k' then if b = 0 then none else some (.sc (.int k (a.tmod b))) else none
  | .eq,.sc (.int k a),.sc (.int k' b) => if k = k' then some (.b (a == b)) else none
  | .ne,.sc (.int k a),.sc (.int k' b) => if k = k' then some (.b (a != b)) else none
  | .lt,.sc (.int k a),.sc (.int k' b) => if k = k' then some (.b (decide (a < b))) else none
  | .le,.sc (.int k a),.sc (.int k' b) => if k = k' then some (.b (decide (a ≤ b))) else none
  | .gt,.sc (.int k a),.sc (.int k' b) => if k = k' then some (.b (decide (b < a))) else none
  | .ge,.sc (.int k a),.sc (.int k' b) => if k = k' then some (.b (decide (b ≤ a))) else none
  | .xor,.sc (.int k a),.sc (.int k' b) => if k = k' then some (.sc (.int k (bxor k a b))) else none
  | .add,.sc (.string a),.sc (.string b) => if a.size + b.size ≤ 9223372036854775807 then some (.s (a ++ b)) else none
  | .eq,.sc (.string a),.sc (.string b) => some (.b (a.toList == b.toList))
  | .ne,.sc (.string a),.sc (.string b) => some (.b (!(a.toList == b.toList)))
  | .lt,.sc (.string a),.sc (.string b) => some (.b (Op.bytesLess a.toList b.toList))
  | .le,.sc (.string a),.sc (.string b) => some (.b (Op.bytesLess a.toList b.toList || a.toList == b.toList))
  | .gt,.sc (.string a),.sc (.string b) => some (.b (!(Op.bytesLess a.toList b.toList || a.toList == b.toList)))
  | .ge,.sc (.string a),.sc (.string b) => some (.b (!(Op.bytesLess a.toList b.toList)))
  | _,_,_ => none
def srcOf (g : Id → Option OB) (k : Nat) (cons : Bool) : PV → Option (List PV × List (Id × OB))
  | .nils => some ([],[])
  | .sl false k' ys => if k' = k then some (ys,[]) else none
  | .own id m => match g id with
    | some (.row k' ys) => if m = ys.length ∧ k' = k then (if cons then some (ys,[(id,.dead)]) else if plains ys then some (ys,[]) else none) else none
    | some (.frz k' ys) => if m = ys.length ∧ k' = k then some (ys,[]) else none
    | _ => none
  | .sc (.slice _ 0 _) => some ([],[])
  | _ => none
def u8s : List PV → Option (List Int)
  | [] => some []
  | .sc (.int .u8 n) :: r => match u8s r with | some ns => some (n :: ns) | none => none
  | _ => none
def strU (ns : List Int) : ByteArray := ns.foldl (fun r n => r.push (UInt8.ofNat n.toNat)) ByteArray.empty
def strO : Option (List Int) → Option (PV × List (Id × OB))
  | some ns => some (.s (strU ns),[])
  | none => none
def lkR (ok : Bool) (z : PV) (r : Option PV) : PV := if ok then .tup [r.getD z,.b r.isSome] else r.getD z
def core1 (n d : Nat) (g : Id → Option OB) : K → List PV → Option (PV × List (Id × OB))
  | .move,[x] => some (x,[])
  | .pick,[.sc (.bool c),a,b] => some (if c then a else b,[])
  | .alloc z,[] => if (g (n,d)).isNone then some (.ref (n,d) 1 0 0,[((n,d),.box z)]) else none
  | .box,[x] => if (g (n,d)).isNone && sure x then some (.ref (n,d) 1 0 0,[((n,d),.box x.cells)]) else none
  | .build z offs,xs => match buildC z offs xs with | some cs => some (.agg cs,[]) | none => none
  | .bslice k mv,xs => match xs with
    | [] => some (.nils,[])
    | _ => match packEs mv g xs with
      | some (ys,ws) => if nodupId ws && (g (n,d)).isNone && ys.all (fun y => decide (y.cells.length = k)) then some (.own (n,d) ys.length,ws ++ [((n,d),.row k ys)]) else none
      | none => none
  | .eslice k,[] => if (g (n,d)).isNone then some (.own (n,d) 0,[((n,d),.row k [])]) else none
  | .load k _,[.ref id m i j] => match g id with
    | some ob => match ob.elem m i with
      | some cs => match takeC k cs j with
        | some v => if plains cs || ob.isBox then some (v,[]) else none
        | none => none
      | none => none
    | none => none
  | .load k _,[.iref cs j] => match takeC k cs j with | some v => some (v,[]) | none => none
  | .store w mv,[.ref id m i j,x] => match g id with
    | some (.box cs) => if x.cells.length = w ∧ sure x = true ∧ m = 1 ∧ i = 0 ∧ j + w ≤ cs.length ∧ upTos id.1 x.cells = true then some (.undef,[(id,.box (putC cs j x.cells))]) else none
    | some (.row k xs) => if m = xs.length then match packs mv g x.cells with
        | some (ys,ws) => if nodupId ((id,.dead) :: ws) then match nth xs i with
            | some e => if ys.length = w ∧ j + w ≤ e.cells.length then some (.undef,ws ++ [(id,.row k (xs.set i (unAgg e (putC e.cells j ys))))]) else none
            | none => none
          else none
        | none => none
      else none
    | _ => none
  | .bin op,[x,y] => match bin op x y with | some v => some (v,[]) | none => none
  | .beq,[.sc (.bool a),.sc (.bool b)] => some (.b (a == b),[])
  | .bne,[.sc (.bool a),.sc (.bool b)] => some (.b (!(a == b)),[])
  | .not,[.sc (.bool b)] => some (.b (!b),[])
  | .meq neg,[.agg [.sc (.int .i64 a),.sc (.int .i64 b)],.agg [.sc (.int .i64 a'),.sc (.int .i64 b')]] => some (.b (neg != (decide (a = a') && decide (b = b'))),[])
  | .neg,[.sc (.int k a)] => some (.sc (.int k (k.wrap (0 - a))),[])
  | .faddr off,[.ref id m i j] => if live g id m i then some (.ref id m i (j + off),[]) else none
  | .faddr off,[.iref cs j] => some (.iref cs (j + off),[])
  | .iaddr es,[.sl false k xs,.sc (.int .i64 i)] => if k = es ∧ ib i xs.length = true then match nth xs i.toNat with
      | some e => some (.iref e.cells 0,[])
      | none => none
    else none
  | .iaddr es,[.own id m,.sc (.int .i64 i)] => match g id with
    | some (.row k xs) => if k = es ∧ m = xs.length ∧ ib i m = true then some (.ref id m i.toNat 0,[]) else none
    | some (.frz k xs) => if k = es ∧ m = xs.length ∧ ib i m = true then match nth xs i.toNat with
          | some e => some (.iref e.cells 0,[])
          | none => none
        else none
    | _ => none
  | .iarr es m,[.ref id a b j,.sc (.int .i64 i)] => if live g id a b && ib i m then some (.ref id a b (j + i.toNat * es),[]) else none
  | .iarr es m,[.iref cs j,.sc (.int .i64 i)] => if ib i m then some (.iref cs (j + i.toNat * es),[]) else none
  | .idx k es m,[.agg cs,.sc (.int .i64 i)] => if ib i m then match takeC k cs (i.toNat * es) with | some v => some (v,[]) | none => none else none
  | .istr,[.sc (.string b),.sc (.int .i64 i)] => if h : 0 ≤ i ∧ i.toNat < b.size then some (.sc (.int .u8 (b[i.toNat]'h.2).toNat),[]) else none
  | .fld k off,[.agg cs] => match takeC k cs off with | some v => some (v,[]) | none => none
  | .ext i,[.tup vs] => match vs[i]? with | some (.tup _) => none | some v => some (v,[]) | none => none
  | .len,[.sl _ _ xs] => some (.i xs.length,[])
  | .len,[.nils] => some (.i 0,[])
  | .len,[.own id m] => match g id with
    | some (.row _ xs) => if m = xs.length then some (.i m,[]) else none
    | some (.frz _ xs) => if m = xs.length then some (.i m,[]) else none
    | _ => none
  | .lens,[.sc (.string b)] => some (.i b.size,[])
  | .append k cons,[s,x] =>
    match srcOf g k cons x with
    | none => none
    | some (ys,ws) => match s with
      | .nils => if ys.length ≤ 4294967296 ∧ (g (n,d)).isNone = true then some (.own (n,d) ys.length,ws ++ [((n,d),.row k ys)]) else none
      | .own id m => match g id with
        | some (.row k' xs) => if k' = k ∧ m = xs.length ∧ nodupId ((id,OB.dead) :: ws) = true ∧ xs.length + ys.length ≤ 4294967296 then some (.own id (xs.length + ys.length),ws ++ [(id,.row k (xs ++ ys))]) else none
        | _ => none
      | _ => none
  | .mkslice k z,[.sc (.int .i64 m),.sc (.int .i64 c)] => if m = c ∧ 0 ≤ m ∧ m ≤ 4294967296 ∧ (g (n,d)).isNone = true then some (.own (n,d) m.toNat,[((n,d),.row k (List.replicate m.toNat z))]) else none
  | .mkfunc f,xs => if xs.all (fun x => sure x && cellP x) = true then some (.clo f xs,[]) else none
  | .conv k,[.sc (.int _ a)] => some (.sc (.int k (k.wrap a)),[])
  | .min2,[.sc (.int .i64 a),.sc (.int .i64 b)] => some (.i (if b < a then b else a),[])
  | .max2,[.sc (.int .i64 a),.sc (.int .i64 b)] => some (.i (if a < b then b else a),[])
  | .take,[.ref id m i j] => match g id with
    | some (.row k xs) => if m = xs.length ∧ (g (n,d)).isNone = true then match nth xs i with
        | some e => match nth e.cells j with
          | some (.sl true k' ys) => some (.own (n,d) ys.length,[(id,.row k (xs.set i (unAgg e (e.cells.set j .undef)))),((n,d),.row k' ys)])
          | some .nils => some (.nils,[])
          | _ => none
        | none => none
      else none
    | _ => none
  | .isnil,[.sl _ _ (_ :: _),_] => some (.b false,[])
  | .isnil,[.sc (.slice A _ _),_] => some (.b A.isNone,[])
  | .mkmap s,[] => if (g (n,d)).isNone then some (.mp (n,d),[((n,d),.map s [])]) else none
  | .lookup s z ok,[.mp id,.sc kv] => match g id,keyOf kv with
    | some (.map s' es),some k => if s' = s ∧ k.str = s then some (lkR ok z (lkp k es),[]) else none
    | _,_ => none
  | .lookup s z ok,[.sc (.map none),.sc kv] => match keyOf kv with
    | some k => if k.str = s then some (lkR ok z none,[]) else none
    | none => none
  | .mapset s,[.mp id,.sc kv,x] => match g id,keyOf kv with
    | some (.map s' es),some k => if s' = s ∧ k.str = s then match packE false g x with
        | some (y,ws) => if nodupId ((id,.dead) :: ws) then some (.undef,ws ++ [(id,.map s (ins k y es))]) else none
        | none => none
      else none
    | _,_ => none
  | .slice es lo hi,.sl false k xs :: bs => if k = es then match sliceOf lo hi xs.length bs with
    | some (l,h) => some (.sl false k ((xs.drop l).take (h - l)),[])
    | none => none
    else none
  | .slice es lo hi,.own id m :: bs => match g id with
    | some (.row k xs) => if m = xs.length ∧ k = es then match sliceOf lo hi m bs with
        | some (l,h) => if hi = false then some (.sub id m l,[]) else if lo = false ∧ (g (n,d)).isNone = true then some (.own (n,d) h,[(id,.dead),((n,d),.row k (xs.take h))]) else none
        | none => none
      else none
    | _ => none
  | .fsl es,.own id m :: bs => match g id with
    | some (.row k xs) => if m = xs.length ∧ k = es then match sliceOf true false m bs with
        | some (l,h) => some (.sl false k (((fals xs).drop l).take (h - l)),[(id,.frz k (fals xs))])
        | none => none
      else none
    | _ => none
  | .bstr,[x] => match srcOf g 1 false x with
    | some (ys,_) => match u8s ys with | some ns => some (.s (strU ns),[]) | none => none
    | none => none
  | .sstr lo hi,.sc (.string b) :: bs => match sliceOf lo hi b.size bs with
    | some (l,h) => some (.s (b.extract l h),[])
    | none => none
  | .len,[.sub id m i] => match g id with
    | some (.row _ xs) => if m = xs.length then some (.i (m - i : Nat),[]) else none
    | _ => none
  | .iaddr es,[.sub id m i,.sc (.int .i64 q)] => match g id with
    | some (.row k xs) => if k = es ∧ m = xs.length ∧ ib q (m - i) = true then some (.ref id m (i + q.toNat) 0,[]) else none
    | _ => none
  | .clear k z,[.sub id m i] => match g id with
    | some (.row k' xs) => if k' = k ∧ m = xs.length then some (.tup [],[(id,.row k (xs.take i ++ List.replicate (m - i) z))]) else none
    | _ => none
  | .copy,[.sub id m i,x] => match g id with
    | some (.row k xs) => if m = xs.length ∧ k = 1 ∧ scs xs = true then match srcOf g 1 false x with
        | some (ys,_) => if scs ys = true ∧ i ≤ m then
            some (.i (min (m - i) ys.length : Nat),[(id,.row 1 (xs.take i ++ ys.take (min (m - i) ys.length) ++ xs.drop (i + min (m - i) ys.length)))])
          else none
        | none => none
      else none
    | _ => none
  | .nck,[.iref cs j] => some (.iref cs j,[])
  | .nck,[.clo f caps] => some (.clo f caps,[])
  | .nck,[.ref id m i j] => if live g id m i then some (.ref id m i j,[]) else none
  | _,_ => none
open Classical in
noncomputable def core (n d : Nat) (g : Id → Option OB) : K → List PV → Option (PV × List (Id × OB))
  | .chk op,x :: xs => if core1 n d g op xs = some (x,[]) then some (.undef,[]) else none
  | op,xs => core1 n d g op xs

def snap (g : Id → Option OB) : PV → Option PV
  | .own id m => match g id with
    | some (.row k xs) => if m = xs.length then some (.sl false k (fals xs)) else none
    | some (.frz k xs) => if m = xs.length then some (.sl false k xs) else none
    | _ => none
  | v => some v
def snaps (g : Id → Option OB) : List PV → Option (List PV)
  | [] => some []
  | x :: xs => match snap g x,snaps g xs with | some y,some ys => some (y :: ys) | _,_ => none
def snapE (g : Id → Option OB) : PV → Option PV
  | .agg cs => match snaps g cs with | some ys => some (.agg ys) | none => none
  | v => snap g v
def snapA (g : Id → Option OB) (byref : List Nat) : Nat → List PV → Option (List PV)
  | _,[] => some []
  | q,x :: xs => match (if byref.contains q then some x else snapE g x),snapA g byref (q + 1) xs with | some y,some ys => some (y :: ys) | _,_ => none
def rowId (g : Id → Option OB) : PV → List (Id × Nat × List PV)
  | .own id _ => match g id with | some (.row k xs) => [(id,k,xs)] | _ => []
  | _ => []
def rowIds (g : Id → Option OB) : List PV → List (Id × Nat × List PV)
  | [] => []
  | x :: xs => rowId g x ++ rowIds g xs
def rowIdE (g : Id → Option OB) : PV → List (Id × Nat × List PV)
  | .agg cs => rowIds g cs
  | v => rowId g v
def rowIdA (g : Id → Option OB) (byref : List Nat) : Nat → List PV → List (Id × Nat × List PV)
  | _,[] => []
  | q,x :: xs => (if byref.contains q then [] else rowIdE g x) ++ rowIdA g byref (q + 1) xs
def expo1 (n : Nat) (g : Id → Option OB) : PV → Option (PV × List Id)
  | .sc v => some (.sc v,[])
  | .nils => some (.nils,[])
  | .sl false k xs => some (.sl false k xs,[])
  | .own id m => if id.1 = n then (match g id with
      | some (.row k xs) => if m = xs.length then some (.sl true k xs,[id]) else none
      | some (.frz k xs) => if m = xs.length then some (.sl false k xs,[]) else none
      | _ => none) else some (.own id m,[])
  | .mp id => if id.1 = n then none else some (.mp id,[])
  | .ref id m i j => if id.1 = n then (match g id with
      | some (.box cs) => if m = 1 ∧ i = 0 ∧ j = 0 ∧ plains cs = true then some (.bx cs,[id]) else none
      | _ => none) else some (.ref id m i j,[])
  | _ => none
def expoC (n : Nat) (g : Id → Option OB) (x : PV) : Option (PV × List Id) := match expo1 n g x with
  | some (.bx _,_) => none
  | r => r
def expos (n : Nat) (g : Id → Option OB) : List PV → Option (List PV × List Id)
  | [] => some ([],[])
  | x :: xs => match expoC n g x,expos n g xs with
    | some (y,w),some (ys,ws) => some (y :: ys,w ++ ws)
    | _,_ => none
def expoE (n : Nat) (g : Id → Option OB) : PV → Option (PV × List Id)
  | .agg cs => match expos n g cs with | some (ys,w) => some (.agg ys,w) | none => none
  | v => expo1 n g v
def expoEs (n : Nat) (g : Id → Option OB) : List PV → Option (List PV × List Id)
  | [] => some ([],[])
  | x :: xs => match expoE n g x,expoEs n g xs with
    | some (y,w),some (ys,ws) => some (y :: ys,w ++ ws)
    | _,_ => none
def expo (n : Nat) (g : Id → Option OB) : PV → Option (PV × List Id)
  | .tup cs => match expoEs n g cs with | some (ys,w) => some (.tup ys,w) | none => none
  | v => expoE n g v
def impo1 (n d : Nat) : PV → Nat → PV × Nat × List (Id × OB)
  | .sl true k xs,q => (.own (n,d + 1000 * q) xs.length,q + 1,[((n,d + 1000 * q),.row k xs)])
  | .bx cs,q => (.ref (n,d + 1000 * q) 1 0 0,q + 1,[((n,d + 1000 * q),.box cs)])
  | v,q => (v,q,[])
def impos (n d : Nat) : List PV → Nat → List PV × Nat × List (Id × OB)
  | [],q => ([],q,[])
  | x :: xs,q => let a := impo1 n d x q; let b := impos n d xs a.2.1; (a.1 :: b.1,b.2.1,a.2.2 ++ b.2.2)
def impoE (n d : Nat) : PV → Nat → PV × Nat × List (Id × OB)
  | .agg cs,q => let r := impos n d cs q; (.agg r.1,r.2.1,r.2.2)
  | v,q => impo1 n d v q
def impoEs (n d : Nat) : List PV → Nat → List PV × Nat × List (Id × OB)
  | [],q => ([],q,[])
  | x :: xs,q => let a := impoE n d x q; let b := impoEs n d xs a.2.1; (a.1 :: b.1,b.2.1,a.2.2 ++ b.2.2)
def impo (n d : Nat) : PV → Nat → PV × Nat × List (Id × OB)
  | .tup cs,q => let r := impoEs n d cs q; (.tup r.1,r.2.1,r.2.2)
  | v,q => impoE n d v q
def nodupI : List Id → Bool
  | [] => true
  | a :: r => r.all (fun x => !(x == a)) && nodupI r

inductive RV | tmp (t : Nat) | cell (t : Nat) (k : Option Nat)
structure AF where
  body : AC
  res : List RV
inductive EX | normal | exit (n : Nat) | ret
abbrev CallF := Nat → List PV → Stack → Option (PV × Stack)
section
variable (call : CallF) (loopF : List Nat → List Nat → AC → St → Option (EX × St))
def freshAll (s : St) : List (Id × OB) → Bool
  | [] => true
  | (id,_) :: r => (s.get id).isNone && freshAll s r
def callBy (n : Nat) (s : St) (f : Nat) (zs : List PV) : Option (PV × St) :=
  if noRefs zs then match call f zs [] with | some (r,_) => some (r,s) | none => none
  else if atLvls n zs then match call f zs (s.o ++ [s.l]) with | some (r,o') => some (r,{ s with l := o'.getLastD [],o := o'.dropLast }) | none => none
  else match call f zs (s.o ++ [[]]) with | some (r,o') => some (r,{ s with o := o'.dropLast }) | none => none
def frzs : List (Id × Nat × List PV) → List (Id × OB)
  | [] => []
  | (id,k,xs) :: r => (id,.frz k (fals xs)) :: frzs r
def thaws : List (Id × Nat × List PV) → List (Id × OB)
  | [] => []
  | (id,k,xs) :: r => (id,.row k xs) :: thaws r
def land (n : Nat) (d : Option Nat) (r : PV) (s : St) : Option St :=
  let i := impo n (d.getD 999) r 0
  if freshAll s i.2.2 && nodupId i.2.2 then some ((s.sets i.2.2).put d i.1) else none
def stepCall (s : St) (d : Option Nat) (byref : List Nat) (leaky : Bool) : List PV → Option St
  | .clo f caps :: xs =>
    match snapA s.get byref 0 xs with
    | none => none
    | some ys => match rowIdA s.get byref 0 xs with
      | [] => match callBy call s.o.length s f (ys ++ caps) with
        | some (r,s1) => land s.o.length d r s1
        | none => none
      | rs => match callBy call s.o.length (s.sets (frzs rs)) f (ys ++ caps) with
        | some (r,s1) =>
          if leaky then land s.o.length d r s1
          else if noRefs (ys ++ caps) && noShare r then land s.o.length d r (s1.sets (thaws rs)) else none
        | none => none
  | _ => none
def isSc : PV → Bool
  | .sc _ => true
  | _ => false
def nestCall (s : St) (p : PV) (d : Option Nat) (f : Nat) (zs : List PV) : Option St :=
  match p with
  | .ref id m i j => match s.get id with
    | some (.row k xs) => match nth xs i with
      | some e => match nth e.cells j with
        | some (.sl true k' ys) =>
          if m = xs.length ∧ zs.all isSc = true then
            match call f (.own (0,0) ys.length :: zs) [[(0,.row k' ys)]] with
            | some (.sc r,[[(0,.row k2 ys')]]) =>
              if k2 = k' ∧ ys'.length = ys.length then land s.o.length d (.sc r) (s.set id (.row k (xs.set i (unAgg e (e.cells.set j (.sl true k' ys')))))) else none
            | _ => none
          else none
        | some .nils =>
          if m = xs.length ∧ zs.all isSc = true then
            match callBy call s.o.length s f (.nils :: zs) with
            | some (.sc r,s1) => land s.o.length d (.sc r) s1
            | _ => none
          else none
        | _ => none
      | none => none
    | _ => none
  | _ => none
def nestStep (s : St) (ld cl : AI) : Option St := match ld.xs,cl.xs with
  | [x],.f f :: _ :: zs => nestCall call s (s.ev x) cl.d f (zs.map s.ev)
  | _,_ => none
def peekOK (s : St) (ld : AI) : Bool := match ld.xs with
  | [x] => match s.ev x with
    | .ref id m i j => match s.get id with
      | some (.row _ xs) => decide (m = xs.length) && (match nth xs i with | some e => decide (j < e.cells.length) | none => false)
      | _ => false
    | _ => false
  | _ => false
noncomputable def stepI (s : St) (a : AI) : Option St :=
  let go : Option St := match a.op with
    | .call byref leaky => stepCall call s a.d byref leaky (a.xs.map s.ev)
    | op => match core s.o.length (a.d.getD 999) s.get op (a.xs.map s.ev) with
      | some (v,ws) => some ((s.sets ws).put a.d v)
      | none => none
  match a.g with
  | none => go
  | some (j,w) => match getR s.r j with | .sc (.bool b) => if b = w then go else some (s.put a.d .non) | .non => some (s.put a.d .non) | _ => none
noncomputable def steps (s : St) : List AI → Option St
  | [] => some s
  | a :: r => match stepI call s a with | some s' => steps s' r | none => none
mutual
def known (g : Nat → Bool) (n : Nat) : PV → Bool
  | .own id _ | .ref id _ _ _ | .sub id _ _ | .mp id => !(id.1 = n) || g id.2
  | .clo _ cs | .agg cs | .tup cs | .bx cs => knowns g n cs
  | _ => true
def knowns (g : Nat → Bool) (n : Nat) : List PV → Bool
  | [] => true
  | x :: xs => known g n x && knowns g n xs
end
def St.keep (s : St) (live objs : List Nat) : St :=
  let l' := objs.filterMap fun t => (getO s.l t).map (t,·)
  let g := fun t => (getO l' t).isSome
  { s with r := live.map fun t => (t,if known g s.o.length (getR s.r t) then getR s.r t else .undef),l := l' }
def okObjs (n : Nat) (l : Objs) : Bool :=
  l.all fun x => match x.2 with | .box cs => knowns (fun t => (getO l t).isSome) n cs | _ => true
def fin (s : St) : Option (EX × St) := if okObjs s.o.length s.l then some (.normal,s) else none
noncomputable def run : AC → St → Option (EX × St)
  | .skip,s => some (.normal,s)
  | .reg _ ops lv ob,s => match steps call s ops with | some s' => fin (s'.keep lv ob) | none => none
  | .nest pre ld mids cl post lv ob,s => match steps call s pre with
    | some s1 => if peekOK s1 ld = true then match steps call (s1.put ld.d .undef) mids with
        | some s2 => match nestStep call s2 ld cl with
          | some s3 => match steps call s3 post with | some s4 => fin (s4.keep lv ob) | none => none
          | none => none
        | none => none
      else none
    | none => none
  | .seq a b,s => match run a s with | some (.normal,s') => run b s' | r => r
  | .cond c a b,s => match s.ev c with | .sc (.bool t) => if t = true then run a s else run b s | _ => none
  | .block n a,s => match run a s with | some (.exit m,s') => if m = n then some (.normal,s') else some (.exit m,s') | r => r
  | .loop lv ob a,s => loopF lv ob a s
  | .exit n,s => some (.exit n,s)
  | .ret,s => some (.ret,s)
  | .alt _ _ _ a b,s => match run a s,run b s with
    | some x,some y => @ite _ (x = y) (Classical.propDecidable _) (some x) none
    | _,_ => none
end
def pars : Nat → List PV → Regs
  | _,[] => []
  | q,x :: xs => (q,x) :: pars (q + 1) xs
def resV (s : St) : RV → Option PV
  | .tmp t => match getR s.r t with | .tup _ => none | v => some v
  | .cell t k => match getR s.r t with
    | .ref id m i j => match s.get id with
      | some ob => if ob.isBox then match ob.elem m i with | some cs => takeC k cs j | none => none else none
      | none => none
    | _ => none
def resVs (s : St) : List RV → Option (List PV)
  | [] => some []
  | x :: xs => match resV s x,resVs s xs with | some v,some vs => some (v :: vs) | _,_ => none
def single : List PV → PV | [v] => v | vs => .tup vs
def finish (res : List RV) (s : St) : Option (PV × Stack) :=
  match resVs s res with
  | none => none
  | some vs => match expo s.o.length s.get (single vs) with
    | none => none
    | some (r,ids) => if nodupI ids then some (r,s.o) else none
structure Prog where
  code : Nat → Option AF
  prim : Nat → Option (List PV → Stack → Option (PV × Stack))
section
variable (G : Prog)
noncomputable def body1 (call : CallF) (loopF : List Nat → List Nat → AC → St → Option (EX × St)) (f : Nat) (args : List PV) (o : Stack) : Option (PV × Stack) :=
  match G.prim f with
  | some p => p args o
  | none => match G.code f with
    | none => none
    | some af => match run call loopF af.body ⟨pars 0 args,[],o⟩ with
      | some (.ret,s) => finish af.res s
      | some (.normal,s) => finish af.res s
      | _ => none
noncomputable def loop1 (call : CallF) (loopF : List Nat → List Nat → AC → St → Option (EX × St)) (lv ob : List Nat) (a : AC) (s : St) : Option (EX × St) :=
  match fin (s.keep lv ob) with
  | some (_,s0) => match run call loopF a s0 with
    | some (.normal,s') => loopF lv ob a s'
    | r => r
  | none => none
mutual
noncomputable def callN : Nat → CallF
  | 0,_,_,_ => none
  | n + 1,f,args,o => body1 G (callN n) (loopN n) f args o
noncomputable def loopN : Nat → List Nat → List Nat → AC → St → Option (EX × St)
  | 0,_,_,_,_ => none
  | n + 1,lv,ob,a,s => loop1 (callN n) (loopN n) lv ob a s
end
end
end Go.Am
end
section
/- The least fixed point of the abstract machine: `callI`,`loopI`,with their unfolding equations. -/
set_option linter.unusedSimpArgs false
set_option linter.unusedVariables false
namespace Go.Am
section
variable {c c' : CallF} {l l' : List Nat → List Nat → AC → St → Option (EX × St)}
def LeC (c c' : CallF) : Prop := ∀ f a o r,c f a o = some r → c' f a o = some r
def LeL (l l' : List Nat → List Nat → AC → St → Option (EX × St)) : Prop := ∀ x y a s r,l x y a s = some r → l' x y a s = some r
theorem callBy_mono (h : LeC c c') {n s f zs r} (e : callBy c n s f zs = some r) : callBy c' n s f zs = some r := by
  unfold callBy at *
  by_cases h1 : noRefs zs = true
  · simp only [h1,if_true] at *
    cases e1 : c f zs [] with
    | none => simp [e1] at e
    | some q => rw [h _ _ _ _ e1]; rw [e1] at e; exact e
  · by_cases h2 : atLvls n zs = true
    · simp only [h1,h2,if_true] at *
      cases e1 : c f zs (s.o ++ [s.l]) with
      | none => simp [e1] at e
      | some q => rw [h _ _ _ _ e1]; rw [e1] at e; exact e
    · simp only [h1,h2] at *
      cases e1 : c f zs (s.o ++ [[]]) with
      | none => simp [e1] at e
      | some q => rw [h _ _ _ _ e1]; rw [e1] at e; exact e
theorem stepCall_mono (h : LeC c c') {s d b k xs r} (e : stepCall c s d b k xs = some r) : stepCall c' s d b k xs = some r := by
  unfold stepCall at *
  split at e
  · rename_i f caps xs
    split at e
    · cases e
    · rename_i ys hy
      split at e
      · rename_i hr
        split at e
        · rename_i q1 q2 hq
          simp only [hy,hr,callBy_mono h hq]; exact e
        · cases e
      · rename_i hr
        split at e
        · rename_i q1 q2 hq
          simp only [hy,callBy_mono h hq]; exact e
        · cases e
  · cases e
theorem stepI_mono (h : LeC c c') {s a r} (e : stepI c s a = some r) : stepI c' s a = some r := by
  unfold stepI at *
  cases hop : a.op <;> simp only [hop] at e ⊢ <;> try exact e
  rename_i b k
  have key : ∀ {r},stepCall c s a.d b k (a.xs.map s.ev) = some r → stepCall c' s a.d b k (a.xs.map s.ev) = some r := fun e => stepCall_mono h e
  split at e
  · exact key e
  · split at e
    · split at e
      · rename_i hb; rw [if_pos hb]; exact key e
      · rename_i hb; rw [if_neg hb]; exact e
    · exact e
    · cases e
theorem steps_mono (h : LeC c c') : ∀ {as s r},steps c s as = some r → steps c' s as = some r
  | [],_,_,e => e
  | a :: as,s,r,e => by
    simp only [steps] at *
    split at e
    · rename_i s' hs
      rw [stepI_mono h hs]; exact steps_mono h e
    · cases e
theorem nestStep_mono (h : LeC c c') {s ld cl r} (e : nestStep c s ld cl = some r) : nestStep c' s ld cl = some r := by
  unfold nestStep at *
  split at e
  · unfold nestCall at *
    split at e
    · split at e
      · split at e
        · split at e
          · split at e
            · rename_i hc
              split at e
              · rename_i hq
                simp only [h _ _ _ _ hq,hc,and_self,if_true,true_and]
                simp_all
              · cases e
            · cases e
          · split at e
            · rename_i hc
              split at e
              · rename_i hq
                have := callBy_mono h hq
                simp_all
              · cases e
            · cases e
          · cases e
        · cases e
      · cases e
    · cases e
  · cases e
theorem run_mono (h : LeC c c') (hl : LeL l l') : ∀ a s r,run c l a s = some r → run c' l' a s = some r
  | .skip,_,_,e => e
  | .alt _ _ _ a b,s,r,e => by
    simp only [run] at *
    split at e
    · rename_i x y h1 h2
      rw [run_mono h hl a s x h1,run_mono h hl b s y h2]
      exact e
    · cases e
  | .nest pre ld mids cl post lv ob,s,r,e => by
    simp only [run] at *
    split at e
    · rename_i s1 h1
      rw [steps_mono h h1]
      simp only
      split at e
      · rename_i hpk
        rw [if_pos hpk]
        split at e
        · rename_i s2 h2
          rw [steps_mono h h2]
          simp only
          split at e
          · rename_i s3 h3
            rw [nestStep_mono h h3]
            simp only
            split at e
            · rename_i s4 h4
              rw [steps_mono h h4]; exact e
            · cases e
          · cases e
        · cases e
      · cases e
    · cases e
  | .reg _ ops lv ob,s,r,e => by
    simp only [run] at *
    split at e
    · rename_i s' hs; rw [steps_mono h hs]; exact e
    · cases e
  | .seq a b,s,r,e => by
    simp only [run] at *
    cases h1 : run c l a s with
    | none => rw [h1] at e; cases e
    | some q =>
      rw [run_mono h hl a s q h1]
      rw [h1] at e
      obtain ⟨x,s'⟩ := q
      cases x with
      | normal => exact run_mono h hl b s' r e
      | exit n => exact e
      | ret => exact e
  | .cond cc a b,s,r,e => by
    simp only [run] at *
    split at e
    · split at e
      · rename_i ht; rw [if_pos ht]; exact run_mono h hl a s r e
      · rename_i ht; rw [if_neg ht]; exact run_mono h hl b s r e
    · cases e
  | .block n a,s,r,e => by
    simp only [run] at *
    cases h1 : run c l a s with
    | none => rw [h1] at e; cases e
    | some q => rw [run_mono h hl a s q h1]; rw [h1] at e; exact e
  | .loop lv ob a,s,r,e => hl _ _ _ _ _ e
  | .exit n,_,_,e => e
  | .ret,_,_,e => e
theorem body1_mono (G : Prog) (h : LeC c c') (hl : LeL l l') : LeC (body1 G c l) (body1 G c' l') := by
  intro f a o r e
  unfold body1 at *
  split at e
  · exact e
  · split at e
    · cases e
    · rename_i af _
      cases h1 : run c l af.body ⟨pars 0 a,[],o⟩ with
      | none => rw [h1] at e; cases e
      | some q => rw [run_mono h hl _ _ q h1]; rw [h1] at e; exact e
theorem loop1_mono (h : LeC c c') (hl : LeL l l') : LeL (loop1 c l) (loop1 c' l') := by
  intro x y a s r e
  unfold loop1 at *
  cases h0 : fin (s.keep x y) with
  | none => rw [h0] at e; cases e
  | some p =>
    obtain ⟨_,s0⟩ := p
    rw [h0] at e
    simp only at e ⊢
    cases h1 : run c l a s0 with
    | none => rw [h1] at e; cases e
    | some q =>
      rw [run_mono h hl _ _ q h1]; rw [h1] at e
      obtain ⟨z,s'⟩ := q
      cases z with
      | normal => exact hl _ _ _ _ _ e
      | exit n => exact e
      | ret => exact e
end
section
variable (G : Prog)
theorem mono_succ : ∀ n,LeC (callN G n) (callN G (n + 1)) ∧ LeL (loopN G n) (loopN G (n + 1))
  | 0 => ⟨fun _ _ _ _ e => by simp [callN] at e,fun _ _ _ _ _ e => by simp [loopN] at e⟩
  | n + 1 => by
    obtain ⟨a,b⟩ := mono_succ n
    refine ⟨fun f x o r e => ?_,fun x y p s r e => ?_⟩
    · simp only [callN] at *; exact body1_mono G a b _ _ _ _ e
    · simp only [loopN] at *; exact loop1_mono a b _ _ _ _ _ e
theorem mono_le {n m : Nat} (h : n ≤ m) : LeC (callN G n) (callN G m) ∧ LeL (loopN G n) (loopN G m) := by
  induction h with
  | refl => exact ⟨fun _ _ _ _ e => e,fun _ _ _ _ _ e => e⟩
  | step _ ih => exact ⟨fun _ _ _ _ e => (mono_succ G _).1 _ _ _ _ (ih.1 _ _ _ _ e),fun _ _ _ _ _ e => (mono_succ G _).2 _ _ _ _ _ (ih.2 _ _ _ _ _ e)⟩
open Classical in
noncomputable def callI (f : Nat) (args : List PV) (o : Stack) : Option (PV × Stack) :=
  if h : ∃ n r,callN G n f args o = some r then some (Classical.choose (Classical.choose_spec h)) else none
open Classical in
noncomputable def loopI (x y : List Nat) (a : AC) (s : St) : Option (EX × St) :=
  if h : ∃ n r,loopN G n x y a s = some r then some (Classical.choose (Classical.choose_spec h)) else none
theorem callI_iff {f a o r} : callI G f a o = some r ↔ ∃ n,callN G n f a o = some r := by
  unfold callI
  constructor
  · intro e
    split at e
    · rename_i h
      have h2 := Classical.choose_spec (Classical.choose_spec h)
      exact ⟨_,by rw [h2]; exact e⟩
    · cases e
  · rintro ⟨n,e⟩
    have h : ∃ n r,callN G n f a o = some r := ⟨n,r,e⟩
    rw [dif_pos h]
    have h2 := Classical.choose_spec (Classical.choose_spec h)
    have a1 := (mono_le G (Nat.le_max_left n (Classical.choose h))).1 _ _ _ _ e
    have a2 := (mono_le G (Nat.le_max_right n (Classical.choose h))).1 _ _ _ _ h2
    rw [a1] at a2; exact a2.symm
theorem loopI_iff {x y a s r} : loopI G x y a s = some r ↔ ∃ n,loopN G n x y a s = some r := by
  unfold loopI
  constructor
  · intro e
    split at e
    · rename_i h
      have h2 := Classical.choose_spec (Classical.choose_spec h)
      exact ⟨_,by rw [h2]; exact e⟩
    · cases e
  · rintro ⟨n,e⟩
    have h : ∃ n r,loopN G n x y a s = some r := ⟨n,r,e⟩
    rw [dif_pos h]
    have h2 := Classical.choose_spec (Classical.choose_spec h)
    have a1 := (mono_le G (Nat.le_max_left n (Classical.choose h))).2 _ _ _ _ _ e
    have a2 := (mono_le G (Nat.le_max_right n (Classical.choose h))).2 _ _ _ _ _ h2
    rw [a1] at a2; exact a2.symm
theorem leI (n : Nat) : LeC (callN G n) (callI G) ∧ LeL (loopN G n) (loopI G) :=
  ⟨fun _ _ _ _ e => (callI_iff G).2 ⟨n,e⟩,fun _ _ _ _ _ e => (loopI_iff G).2 ⟨n,e⟩⟩
theorem callBy_cont {n s f zs r} (e : callBy (callI G) n s f zs = some r) : ∃ m,callBy (callN G m) n s f zs = some r := by
  unfold callBy at e
  by_cases h1 : noRefs zs = true
  · simp only [h1,if_true] at e
    cases e1 : callI G f zs [] with
    | none => simp [e1] at e
    | some q =>
      obtain ⟨m,hm⟩ := (callI_iff G).1 e1
      refine ⟨m, ?_⟩
      unfold callBy
      simp only [h1,if_true,hm]; rw [e1] at e; exact e
  · by_cases h2 : atLvls n zs = true
    · simp only [h1,h2,if_true] at e
      cases e1 : callI G f zs (s.o ++ [s.l]) with
      | none => simp [e1] at e
      | some q =>
        obtain ⟨m,hm⟩ := (callI_iff G).1 e1
        refine ⟨m, ?_⟩
        unfold callBy
        simp only [h1,h2,if_true,hm]; rw [e1] at e; exact e
    · simp only [h1,h2] at e
      cases e1 : callI G f zs (s.o ++ [[]]) with
      | none => simp [e1] at e
      | some q =>
        obtain ⟨m,hm⟩ := (callI_iff G).1 e1
        refine ⟨m, ?_⟩
        unfold callBy
        simp only [h1,h2,hm]; rw [e1] at e; exact e
theorem stepCall_cont {s d b k xs r} (e : stepCall (callI G) s d b k xs = some r) : ∃ m,stepCall (callN G m) s d b k xs = some r := by
  unfold stepCall at e
  split at e
  · rename_i f caps xs
    split at e
    · cases e
    · rename_i ys hy
      split at e
      · rename_i hr
        split at e
        · rename_i q1 q2 hq
          obtain ⟨m,hm⟩ := callBy_cont G hq
          refine ⟨m, ?_⟩
          unfold stepCall
          simp only [hy,hr,hm]; exact e
        · cases e
      · rename_i hr
        split at e
        · rename_i q1 q2 hq
          obtain ⟨m,hm⟩ := callBy_cont G hq
          refine ⟨m, ?_⟩
          unfold stepCall
          simp only [hy,hm]; exact e
        · cases e
  · cases e
theorem stepI_cont {s a r} (e : stepI (callI G) s a = some r) : ∃ m,stepI (callN G m) s a = some r := by
  unfold stepI at e
  cases hop : a.op
  case call b k =>
    simp only [hop] at e
    have key : ∀ {r},stepCall (callI G) s a.d b k (a.xs.map s.ev) = some r → ∃ m,stepCall (callN G m) s a.d b k (a.xs.map s.ev) = some r := fun e => stepCall_cont G e
    split at e
    · rename_i hg
      obtain ⟨m,hm⟩ := key e
      exact ⟨m,by unfold stepI; simp only [hop,hg]; exact hm⟩
    · rename_i j w hg
      split at e
      · rename_i bb hb
        split at e
        · rename_i hw
          obtain ⟨m,hm⟩ := key e
          exact ⟨m,by unfold stepI; simp only [hop,hg,hb]; rw [if_pos hw]; exact hm⟩
        · rename_i hw
          exact ⟨0,by unfold stepI; simp only [hop,hg,hb]; rw [if_neg hw]; exact e⟩
      · rename_i hx
        exact ⟨0,by unfold stepI; simp only [hop,hg,hx]; exact e⟩
      · cases e
  all_goals
    refine ⟨0, ?_⟩
    unfold stepI
    simp only [hop] at e ⊢
    exact e
theorem steps_cont : ∀ {as s r},steps (callI G) s as = some r → ∃ m,steps (callN G m) s as = some r
  | [],_,_,e => ⟨0,e⟩
  | a :: as,s,r,e => by
    simp only [steps] at e
    split at e
    · rename_i s' hs
      obtain ⟨m,hm⟩ := stepI_cont G hs
      obtain ⟨k,hk⟩ := steps_cont e
      refine ⟨max m k, ?_⟩
      simp only [steps]
      rw [stepI_mono (mono_le G (Nat.le_max_left m k)).1 hm]
      exact steps_mono (mono_le G (Nat.le_max_right m k)).1 hk
    · cases e
theorem nestStep_cont {s ld cl r} (e : nestStep (callI G) s ld cl = some r) : ∃ m,nestStep (callN G m) s ld cl = some r := by
  unfold nestStep at *
  split at e
  · unfold nestCall at *
    split at e
    · split at e
      · split at e
        · split at e
          · split at e
            · rename_i hc
              split at e
              · rename_i hq
                obtain ⟨m,hm⟩ := (callI_iff G).1 hq
                refine ⟨m, ?_⟩
                simp_all
              · cases e
            · cases e
          · split at e
            · rename_i hc
              split at e
              · rename_i hq
                obtain ⟨m,hm⟩ := callBy_cont G hq
                refine ⟨m, ?_⟩
                simp_all
              · cases e
            · cases e
          · cases e
        · cases e
      · cases e
    · cases e
  · cases e
theorem run_cont : ∀ a s r,run (callI G) (loopI G) a s = some r → ∃ m,run (callN G m) (loopN G m) a s = some r
  | .skip,_,_,e => ⟨0,e⟩
  | .alt _ _ _ a b,s,r,e => by
    simp only [run] at e
    split at e
    · rename_i x y h1 h2
      obtain ⟨m,hm⟩ := run_cont a s x h1
      obtain ⟨k,hk⟩ := run_cont b s y h2
      refine ⟨max m k, ?_⟩
      have g1 := mono_le G (Nat.le_max_left m k)
      have g2 := mono_le G (Nat.le_max_right m k)
      simp only [run]
      rw [run_mono g1.1 g1.2 _ _ _ hm,run_mono g2.1 g2.2 _ _ _ hk]
      exact e
    · cases e
  | .nest pre ld mids cl post lv ob,s,r,e => by
    simp only [run] at e
    split at e
    · rename_i s1 h1
      obtain ⟨m1,g1⟩ := steps_cont G h1
      split at e
      · rename_i hpk
        split at e
        · rename_i s2 h2
          obtain ⟨m2,g2⟩ := steps_cont G h2
          split at e
          · rename_i s3 h3
            obtain ⟨m3,g3⟩ := nestStep_cont G h3
            split at e
            · rename_i s4 h4
              obtain ⟨m4,g4⟩ := steps_cont G h4
              refine ⟨max (max m1 m2) (max m3 m4), ?_⟩
              simp only [run]
              rw [steps_mono (mono_le G (by omega)).1 g1]
              simp only
              rw [if_pos hpk,steps_mono (mono_le G (by omega)).1 g2]
              simp only
              rw [nestStep_mono (mono_le G (by omega)).1 g3]
              simp only
              rw [steps_mono (mono_le G (by omega)).1 g4]
              exact e
            · cases e
          · cases e
        · cases e
      · cases e
    · cases e
  | .reg _ ops lv ob,s,r,e => by
    simp only [run] at e
    split at e
    · rename_i s' hs
      obtain ⟨m,hm⟩ := steps_cont G hs
      exact ⟨m,by simp only [run,hm]; exact e⟩
    · cases e
  | .seq a b,s,r,e => by
    simp only [run] at e
    cases h1 : run (callI G) (loopI G) a s with
    | none => rw [h1] at e; cases e
    | some q =>
      obtain ⟨m,hm⟩ := run_cont a s q h1
      rw [h1] at e
      obtain ⟨x,s'⟩ := q
      cases x with
      | normal =>
        obtain ⟨k,hk⟩ := run_cont b s' r e
        refine ⟨max m k, ?_⟩
        have g1 := mono_le G (Nat.le_max_left m k)
        have g2 := mono_le G (Nat.le_max_right m k)
        simp only [run]
        rw [run_mono g1.1 g1.2 _ _ _ hm]
        exact run_mono g2.1 g2.2 _ _ _ hk
      | exit n => exact ⟨m,by simp only [run,hm]; exact e⟩
      | ret => exact ⟨m,by simp only [run,hm]; exact e⟩
  | .cond cc a b,s,r,e => by
    simp only [run] at e
    split at e
    · rename_i t ht
      split at e
      · rename_i htt
        obtain ⟨m,hm⟩ := run_cont a s r e
        exact ⟨m,by simp only [run,ht]; rw [if_pos htt]; exact hm⟩
      · rename_i htt
        obtain ⟨m,hm⟩ := run_cont b s r e
        exact ⟨m,by simp only [run,ht]; rw [if_neg htt]; exact hm⟩
    · cases e
  | .block n a,s,r,e => by
    simp only [run] at e
    cases h1 : run (callI G) (loopI G) a s with
    | none => rw [h1] at e; cases e
    | some q =>
      obtain ⟨m,hm⟩ := run_cont a s q h1
      exact ⟨m,by simp only [run,hm]; rw [h1] at e; exact e⟩
  | .loop lv ob a,s,r,e => by
    obtain ⟨m,hm⟩ := (loopI_iff G).1 e
    exact ⟨m,hm⟩
  | .exit n,_,_,e => ⟨0,e⟩
  | .ret,_,_,e => ⟨0,e⟩
theorem opt_ext {α : Type} {x y : Option α} (h : ∀ r,x = some r ↔ y = some r) : x = y := by
  cases x with
  | none => cases y with
    | none => rfl
    | some b => exact absurd ((h b).2 rfl) (by simp)
  | some a => exact ((h a).1 rfl).symm
theorem callI_eq (f : Nat) (args : List PV) (o : Stack) : callI G f args o = body1 G (callI G) (loopI G) f args o := by
  refine opt_ext fun r => ⟨fun e => ?_,fun e => ?_⟩
  · obtain ⟨n,hn⟩ := (callI_iff G).1 e
    cases n with
    | zero => simp [callN] at hn
    | succ n =>
      simp only [callN] at hn
      exact body1_mono G (leI G n).1 (leI G n).2 _ _ _ _ hn
  · unfold body1 at e
    split at e
    · rename_i p hp
      exact (callI_iff G).2 ⟨1,by simp only [callN]; unfold body1; simp only [hp]; exact e⟩
    · rename_i hp
      split at e
      · cases e
      · rename_i af haf
        cases h1 : run (callI G) (loopI G) af.body ⟨pars 0 args,[],o⟩ with
        | none => rw [h1] at e; cases e
        | some q =>
          obtain ⟨m,hm⟩ := run_cont G _ _ q h1
          exact (callI_iff G).2 ⟨m + 1,by simp only [callN]; unfold body1; simp only [hp,haf,hm]; rw [h1] at e; exact e⟩
theorem loopI_eq (x y : List Nat) (a : AC) (s : St) : loopI G x y a s = loop1 (callI G) (loopI G) x y a s := by
  refine opt_ext fun r => ⟨fun e => ?_,fun e => ?_⟩
  · obtain ⟨n,hn⟩ := (loopI_iff G).1 e
    cases n with
    | zero => simp [loopN] at hn
    | succ n =>
      simp only [loopN] at hn
      exact loop1_mono (leI G n).1 (leI G n).2 _ _ _ _ _ hn
  · unfold loop1 at e
    cases h0 : fin (s.keep x y) with
    | none => rw [h0] at e; cases e
    | some p =>
      obtain ⟨w0,s0⟩ := p
      rw [h0] at e
      simp only at e
      cases h1 : run (callI G) (loopI G) a s0 with
      | none => rw [h1] at e; cases e
      | some q =>
        obtain ⟨m,hm⟩ := run_cont G _ _ q h1
        rw [h1] at e
        obtain ⟨z,s'⟩ := q
        cases z with
        | normal =>
          obtain ⟨k,hk⟩ := (loopI_iff G).1 e
          refine (loopI_iff G).2 ⟨max m k + 1, ?_⟩
          have g1 := mono_le G (Nat.le_max_left m k)
          have g2 := mono_le G (Nat.le_max_right m k)
          simp only [loopN]
          unfold loop1
          rw [h0]
          simp only
          rw [run_mono g1.1 g1.2 _ _ _ hm]
          exact g2.2 _ _ _ _ _ hk
        | exit n => exact (loopI_iff G).2 ⟨m + 1,by simp only [loopN]; unfold loop1; simp only [h0,hm]; exact e⟩
        | ret => exact (loopI_iff G).2 ⟨m + 1,by simp only [loopN]; unfold loop1; simp only [h0,hm]; exact e⟩
end
end Go.Am
end
section
/- What the abstract machine's values and objects say of the model's memory. -/
set_option linter.unusedSimpArgs false
set_option linter.unusedVariables false
namespace Go.Am
mutual
def tree : PV → Bool
  | .undef | .sc _ | .nils => true
  | .sl _ _ xs => trees xs
  | .agg cs => trees cs
  | _ => false
def trees : List PV → Bool
  | [] => true
  | x :: xs => tree x && trees xs
end
structure Loc where
  blk : Nat
  base : Option Addr
  cap : Nat
structure Ctx where
  F : Nat → Option Obj
  L : Id → Loc
  X : Nat → Option Obj
def Ctx.U (c : Ctx) (b : Nat) : Prop := c.F b = none ∧ c.X b = none
theorem Ctx.U.no {c : Ctx} {b : Nat} {o : Obj} {C : Prop} (u : c.U b) (h : c.F b = some o ∨ c.X b = some o) : C := by
  rcases h with h | h
  · rw [u.1] at h; cases h
  · rw [u.2] at h; cases h
abbrev Sto := Id → Option OB
abbrev Hp := Nat → Option Obj
def Ls (k : Nat) (xs : List PV) : Prop := ∀ x ∈ xs,x.cells.length = k ∧ flatE x = true
def OwnOK (c : Ctx) (S : Sto) (id : Id) (n : Nat) (v : Value) : Prop :=
  match S id with
  | some (.row _ xs) | some (.frz _ xs) => n ≤ xs.length ∧ (n = xs.length → v = .slice (c.L id).base n (c.L id).cap)
  | some .dead => True
  | _ => False
def RefOK (c : Ctx) (S : Sto) (id : Id) (n i j : Nat) (v : Value) : Prop :=
  match S id with
  | some (.row k xs) | some (.frz k xs) => n ≤ xs.length ∧ (n = xs.length → v = .pointer (some ⟨(c.L id).blk,i * k + j,none⟩))
  | some (.box _) => n = 1 → i = 0 → v = .pointer (some ⟨(c.L id).blk,j,none⟩)
  | some .dead => True
  | _ => False
def SubOK (c : Ctx) (S : Sto) (id : Id) (n i : Nat) (v : Value) : Prop :=
  match S id with
  | some (.row k xs) | some (.frz k xs) => n ≤ xs.length ∧ (n = xs.length → i ≤ n ∧ v = .slice (if (c.L id).cap = i then (c.L id).base else (c.L id).base.map (·.add (i * k))) (n - i) ((c.L id).cap - i))
  | some .dead => True
  | _ => False
def MapOK (c : Ctx) (S : Sto) (id : Id) (v : Value) : Prop :=
  match S id with
  | some (.map _ _) => v = .map (some (c.L id).blk)
  | some .dead => True
  | _ => False
mutual
def R (c : Ctx) (S : Sto) (h : Hp) : PV → List Value → List Nat → Prop
  | .undef,vs,fp => fp = [] ∧ ∃ v,vs = [v] ∧ v.oneCell' = true
  | .sc v,vs,fp => fp = [] ∧ vs = [v] ∧ v.oneCell' = true
  | .nils,vs,fp => fp = [] ∧ ∃ A,vs = [.slice A 0 0]
  | .sl true k xs,vs,fp => trees xs = true ∧ Ls k xs ∧ ∃ A cp,vs = [.slice A xs.length cp] ∧
      ((xs = [] ∧ cp = 0 ∧ fp = []) ∨ ∃ g cur e ws fq,A = some ⟨g,0,none⟩ ∧ h g = some (.cells cur e (0,0)) ∧ xs.length ≤ cp ∧ cp ≤ maxLen ∧ cur.size = cp * k ∧
        Rs c S h xs ws fq ∧ cur.toList.take (xs.length * k) = ws ∧ fp = g :: fq)
  | .sl false k xs,vs,fp => trees xs = true ∧ Ls k xs ∧ fp = [] ∧ ∃ A cp,vs = [.slice A xs.length cp] ∧
      (xs = [] ∨ ∃ g off cur e fr ws,A = some ⟨g,off,none⟩ ∧ xs.length ≤ cp ∧ c.F g = some (.cells cur e fr) ∧ Rs c S h xs ws [] ∧ (cur.toList.drop off).take (xs.length * k) = ws)
  | .own id n,vs,fp => fp = [] ∧ ∃ v,vs = [v] ∧ v.oneCell' = true ∧ OwnOK c S id n v
  | .ref id n i j,vs,fp => fp = [] ∧ ∃ v,vs = [v] ∧ v.oneCell' = true ∧ RefOK c S id n i j v
  | .sub id n i,vs,fp => fp = [] ∧ ∃ v,vs = [v] ∧ v.oneCell' = true ∧ SubOK c S id n i v
  | .iref cs j,vs,fp => fp = [] ∧ ∃ g off cur e fr ws,vs = [.pointer (some ⟨g,off + j,none⟩)] ∧ c.F g = some (.cells cur e fr) ∧ cs.all cellP = true ∧ trees cs = true ∧ Rs c S h cs ws [] ∧
      (cur.toList.drop off).take cs.length = ws
  | .mp id,vs,fp => fp = [] ∧ ∃ v,vs = [v] ∧ v.oneCell' = true ∧ MapOK c S id v
  | .clo f caps,vs,fp => fp = [] ∧ ∃ ws,vs = [.func (.func f) #[] ws.toArray] ∧ caps.all cellP = true ∧ Rs c S h caps ws []
  | .agg cs,vs,fp => cs.all cellP = true ∧ Rs c S h cs vs fp
  | .tup _,_,_ => False
  | .bx _,_,_ => False
  | .non,_,_ => False
def Rs (c : Ctx) (S : Sto) (h : Hp) : List PV → List Value → List Nat → Prop
  | [],vs,fp => vs = [] ∧ fp = []
  | x :: xs,vs,fp => ∃ v1 v2 f1 f2,vs = v1 ++ v2 ∧ fp = f1 ++ f2 ∧ R c S h x v1 f1 ∧ Rs c S h xs v2 f2
end
def StepOB (c c' : Ctx) (id : Id) : OB → OB → Prop
  | _,.dead => True
  | .box _,.box _ => c'.L id = c.L id
  | .row k xs,.row k' ys | .row k xs,.frz k' ys | .frz k xs,.frz k' ys | .frz k xs,.row k' ys => k' = k ∧ xs.length ≤ ys.length ∧ (ys.length = xs.length → c'.L id = c.L id)
  | .map _ _,.map _ _ => c'.L id = c.L id
  | _,_ => False
structure Adv (c c' : Ctx) (S S' : Sto) : Prop where
  F : ∀ b o,c.F b = some o → c'.F b = some o
  X : c'.X = c.X
  st : ∀ id ob,S id = some ob → ∃ ob',S' id = some ob' ∧ StepOB c c' id ob ob'
theorem OwnOK.adv {c c' S S' id n v} (ha : Adv c c' S S') (h : OwnOK c S id n v) : OwnOK c' S' id n v := by
  unfold OwnOK at *
  cases hs : S id with
  | none => rw [hs] at h; exact h.elim
  | some ob =>
    obtain ⟨ob',h',st⟩ := ha.st id ob hs
    rw [hs] at h; rw [h']
    cases ob <;> cases ob' <;> simp only [StepOB] at st h ⊢ <;> first | trivial | exact h.elim | exact st.elim | (obtain ⟨rfl,st1,st2⟩ := st; refine ⟨by omega,fun e => ?_⟩; have e2 := st2 (by omega); rw [e2]; exact h.2 (by omega))
theorem RefOK.adv {c c' S S' id n i j v} (ha : Adv c c' S S') (h : RefOK c S id n i j v) : RefOK c' S' id n i j v := by
  unfold RefOK at *
  cases hs : S id with
  | none => rw [hs] at h; exact h.elim
  | some ob =>
    obtain ⟨ob',h',st⟩ := ha.st id ob hs
    rw [hs] at h; rw [h']
    cases ob <;> cases ob' <;> simp only [StepOB] at st h ⊢ <;> first | trivial | exact h.elim | exact st.elim | (obtain ⟨rfl,st1,st2⟩ := st; refine ⟨by omega,fun e => ?_⟩; have e2 := st2 (by omega); rw [e2]; exact h.2 (by omega)) | (rw [st]; exact h)
theorem SubOK.adv {c c' S S' id n i v} (ha : Adv c c' S S') (h : SubOK c S id n i v) : SubOK c' S' id n i v := by
  unfold SubOK at *
  cases hs : S id with
  | none => rw [hs] at h; exact h.elim
  | some ob =>
    obtain ⟨ob',h',st⟩ := ha.st id ob hs
    rw [hs] at h; rw [h']
    cases ob <;> cases ob' <;> simp only [StepOB] at st h ⊢ <;> first | trivial | exact h.elim | exact st.elim | (obtain ⟨rfl,st1,st2⟩ := st; refine ⟨by omega,fun e => ?_⟩; have e2 := st2 (by omega); rw [e2]; exact h.2 (by omega))
theorem MapOK.adv {c c' S S' id v} (ha : Adv c c' S S') (h : MapOK c S id v) : MapOK c' S' id v := by
  unfold MapOK at *
  cases hs : S id with
  | none => rw [hs] at h; exact h.elim
  | some ob =>
    obtain ⟨ob',h',st⟩ := ha.st id ob hs
    rw [hs] at h; rw [h']
    cases ob <;> cases ob' <;> simp only [StepOB] at st h ⊢ <;> first | trivial | exact h.elim | exact st.elim | (rw [st]; exact h)
mutual
theorem R.adv {c c' S S'} {h h' : Hp} (ha : Adv c c' S S') : ∀ (x : PV) (vs : List Value) (fp : List Nat),(∀ b ∈ fp,h' b = h b) → R c S h x vs fp → R c' S' h' x vs fp
  | .undef,_,_,_,r => r
  | .sc _,_,_,_,r => r
  | .nils,_,_,_,r => r
  | .sl true k xs,vs,fp,hf,r => by
    simp only [R] at r ⊢
    obtain ⟨t,hk,A,cp,e,r⟩ := r
    refine ⟨t,hk,A,cp,e, ?_⟩
    rcases r with r | ⟨g,cur,et,ws,fq,h1,h2,h3,h4,h5,h7,h8,h9⟩
    · exact .inl r
    · refine .inr ⟨g,cur,et,ws,fq,h1, ?_,h3,h4,h5,Rs.adv ha xs ws fq (fun b hb => hf b (by rw [h9]; exact List.mem_cons_of_mem _ hb)) h7,h8,h9⟩
      rw [hf g (by rw [h9]; exact List.mem_cons_self)]; exact h2
  | .sl false k xs,vs,fp,hf,r => by
    simp only [R] at r ⊢
    obtain ⟨t,hk,hfp,A,cp,e,r⟩ := r
    refine ⟨t,hk,hfp,A,cp,e, ?_⟩
    rcases r with r | ⟨g,off,cur,et,fr,ws,h1,hcp,h2,h4,h5⟩
    · exact .inl r
    · exact .inr ⟨g,off,cur,et,fr,ws,h1,hcp,ha.F _ _ h2,Rs.adv ha xs ws [] (fun b hb => by simp at hb) h4,h5⟩
  | .own id n,vs,fp,_,r => by
    simp only [R] at r ⊢
    obtain ⟨h0,v,h1,h2,h3⟩ := r
    exact ⟨h0,v,h1,h2,h3.adv ha⟩
  | .ref id n i j,vs,fp,_,r => by
    simp only [R] at r ⊢
    obtain ⟨h0,v,h1,h2,h3⟩ := r
    exact ⟨h0,v,h1,h2,h3.adv ha⟩
  | .sub id n i,vs,fp,_,r => by
    simp only [R] at r ⊢
    obtain ⟨h0,v,h1,h2,h3⟩ := r
    exact ⟨h0,v,h1,h2,h3.adv ha⟩
  | .iref cs j,vs,fp,_,r => by
    simp only [R] at r ⊢
    obtain ⟨h0,g,off,cur,e,fr,ws,h1,h2,h3,h4,h5,h6⟩ := r
    exact ⟨h0,g,off,cur,e,fr,ws,h1,ha.F _ _ h2,h3,h4,Rs.adv ha cs ws [] (fun b hb => by simp at hb) h5,h6⟩
  | .mp id,vs,fp,_,r => by
    simp only [R] at r ⊢
    obtain ⟨h0,v,h1,h2,h3⟩ := r
    exact ⟨h0,v,h1,h2,h3.adv ha⟩
  | .clo f caps,vs,fp,_,r => by
    simp only [R] at r ⊢
    obtain ⟨h0,ws,h1,h2,h3⟩ := r
    exact ⟨h0,ws,h1,h2,Rs.adv ha caps ws [] (fun b hb => by simp at hb) h3⟩
  | .agg cs,vs,fp,hf,r => by
    simp only [R] at r ⊢
    exact ⟨r.1,Rs.adv ha cs vs fp hf r.2⟩
  | .tup _,_,_,_,r => by simp only [R] at r
  | .bx _,_,_,_,r => by simp only [R] at r
  | .non,_,_,_,r => by simp only [R] at r
theorem Rs.adv {c c' S S'} {h h' : Hp} (ha : Adv c c' S S') : ∀ (xs : List PV) (vs : List Value) (fp : List Nat),(∀ b ∈ fp,h' b = h b) → Rs c S h xs vs fp → Rs c' S' h' xs vs fp
  | [],_,_,_,r => r
  | x :: xs,vs,fp,hf,r => by
    simp only [Rs] at r ⊢
    obtain ⟨v1,v2,f1,f2,h1,h2,h3,h4⟩ := r
    exact ⟨v1,v2,f1,f2,h1,h2,R.adv ha x v1 f1 (fun b hb => hf b (by rw [h2]; exact List.mem_append_left _ hb)) h3,
      Rs.adv ha xs v2 f2 (fun b hb => hf b (by rw [h2]; exact List.mem_append_right _ hb)) h4⟩
end
end Go.Am
end
section
/- Laws of the relation: lengths,data alone,freezing,elements. -/
set_option linter.unusedSimpArgs false
set_option linter.unusedVariables false
namespace Go.Am
section
variable {c c' : Ctx} {S S' : Sto} {h h' : Hp}
theorem R_one : ∀ {x : PV} {vs : List Value} {fp : List Nat},cellP x = true → R c S h x vs fp → ∃ v,vs = [v] ∧ v.oneCell' = true := by
  intro x vs fp hc r
  cases x with
  | undef => simp only [R] at r; exact r.2
  | sc v => simp only [R] at r; exact ⟨v,r.2.1,r.2.2⟩
  | nils => simp only [R] at r; obtain ⟨_,A,e⟩ := r; exact ⟨_,e,rfl⟩
  | sl u k xs =>
    cases u <;> simp only [R] at r
    · obtain ⟨_,_,_,A,cp,e,_⟩ := r; exact ⟨_,e,rfl⟩
    · obtain ⟨_,_,A,cp,e,_⟩ := r; exact ⟨_,e,rfl⟩
  | own id n => simp only [R] at r; obtain ⟨_,v,e,o,_⟩ := r; exact ⟨v,e,o⟩
  | ref id n i j => simp only [R] at r; obtain ⟨_,v,e,o,_⟩ := r; exact ⟨v,e,o⟩
  | sub id n i => simp only [R] at r; obtain ⟨_,v,e,o,_⟩ := r; exact ⟨v,e,o⟩
  | iref cs j => simp only [R] at r; obtain ⟨_,g,off,cur,et,fr,ws,e,_⟩ := r; exact ⟨_,e,rfl⟩
  | mp id => simp only [R] at r; obtain ⟨_,v,e,o,_⟩ := r; exact ⟨v,e,o⟩
  | clo f caps => simp only [R] at r; obtain ⟨_,ws,e,_⟩ := r; exact ⟨_,e,rfl⟩
  | agg cs => simp [cellP] at hc
  | tup cs => simp [cellP] at hc
  | bx cs => simp [cellP] at hc
  | non => simp [cellP] at hc
theorem Rs_cells_len : ∀ {xs : List PV} {vs : List Value} {fp : List Nat},xs.all cellP = true → Rs c S h xs vs fp → vs.length = xs.length ∧ ∀ v ∈ vs,v.oneCell' = true
  | [],vs,fp,_,r => by simp only [Rs] at r; simp [r.1]
  | x :: xs,vs,fp,hc,r => by
    simp only [Rs] at r
    obtain ⟨v1,v2,f1,f2,rfl,_,h3,h4⟩ := r
    simp only [List.all_cons,Bool.and_eq_true] at hc
    obtain ⟨v,rfl,ho⟩ := R_one hc.1 h3
    obtain ⟨hl,hv⟩ := Rs_cells_len hc.2 h4
    refine ⟨by simp [hl],fun u hu => ?_⟩
    simp only [List.cons_append,List.nil_append,List.mem_cons] at hu
    rcases hu with rfl | hu
    · exact ho
    · exact hv u hu
theorem R_len {x : PV} {vs : List Value} {fp : List Nat} (hf : flatE x = true) (r : R c S h x vs fp) : vs.length = x.cells.length ∧ ∀ v ∈ vs,v.oneCell' = true := by
  cases x with
  | agg cs => simp only [R] at r; exact Rs_cells_len r.1 r.2
  | tup cs => simp [flatE] at hf
  | bx cs => simp [flatE] at hf
  | non => simp [flatE] at hf
  | _ =>
    obtain ⟨v,e,o⟩ := R_one (by rfl) r
    subst e
    exact ⟨rfl,fun u hu => by simp at hu; subst hu; exact o⟩
theorem Rs_len : ∀ {k : Nat} {xs : List PV} {vs : List Value} {fp : List Nat},Ls k xs → Rs c S h xs vs fp → vs.length = xs.length * k ∧ ∀ v ∈ vs,v.oneCell' = true
  | k,[],vs,fp,_,r => by simp only [Rs] at r; simp [r.1]
  | k,x :: xs,vs,fp,hk,r => by
    simp only [Rs] at r
    obtain ⟨v1,v2,f1,f2,rfl,_,h3,h4⟩ := r
    obtain ⟨e1,e2⟩ := hk x List.mem_cons_self
    obtain ⟨l1,o1⟩ := R_len e2 h3
    obtain ⟨l2,o2⟩ := Rs_len (fun y hy => hk y (List.mem_cons_of_mem _ hy)) h4
    refine ⟨by rw [List.length_append,l1,l2,e1,List.length_cons,Nat.add_mul]; omega,fun u hu => ?_⟩
    rcases List.mem_append.1 hu with hu | hu
    · exact o1 u hu
    · exact o2 u hu
theorem Rs_append : ∀ {xs ys : List PV} {vs : List Value} {fp : List Nat},Rs c S h (xs ++ ys) vs fp ↔ ∃ v1 v2 f1 f2,vs = v1 ++ v2 ∧ fp = f1 ++ f2 ∧ Rs c S h xs v1 f1 ∧ Rs c S h ys v2 f2
  | [],ys,vs,fp => by
    constructor
    · intro r; exact ⟨[],vs,[],fp,rfl,rfl,⟨rfl,rfl⟩,r⟩
    · rintro ⟨v1,v2,f1,f2,rfl,rfl,r1,r2⟩
      simp only [Rs] at r1
      obtain ⟨rfl,rfl⟩ := r1
      exact r2
  | x :: xs,ys,vs,fp => by
    rw [List.cons_append]
    simp only [Rs]
    constructor
    · rintro ⟨v1,v2,f1,f2,rfl,rfl,r1,r2⟩
      obtain ⟨a1,a2,b1,b2,rfl,rfl,q1,q2⟩ := Rs_append.1 r2
      exact ⟨v1 ++ a1,a2,f1 ++ b1,b2,by simp,by simp,⟨v1,a1,f1,b1,rfl,rfl,r1,q1⟩,q2⟩
    · rintro ⟨v1,v2,f1,f2,rfl,rfl,⟨a1,a2,b1,b2,rfl,rfl,q1,q2⟩,r2⟩
      exact ⟨a1,a2 ++ v2,b1,b2 ++ f2,by simp,by simp,q1,Rs_append.2 ⟨a2,v2,b2,f2,rfl,rfl,q2,r2⟩⟩
mutual
theorem R.data (hF : ∀ b o,c.F b = some o → c'.F b = some o) : ∀ (x : PV) (vs : List Value) (fp : List Nat),tree x = true → (∀ b ∈ fp,h' b = h b) → R c S h x vs fp → R c' S' h' x vs fp
  | .undef,_,_,_,_,r => r
  | .sc _,_,_,_,_,r => r
  | .nils,_,_,_,_,r => r
  | .sl true k xs,vs,fp,t,hf,r => by
    simp only [R] at r ⊢
    simp only [tree] at t
    obtain ⟨_,hk,A,cp,e,r⟩ := r
    refine ⟨t,hk,A,cp,e, ?_⟩
    rcases r with r | ⟨g,cur,et,ws,fq,h1,h2,h3,h4,h5,h7,h8,h9⟩
    · exact .inl r
    · refine .inr ⟨g,cur,et,ws,fq,h1, ?_,h3,h4,h5,Rs.data hF xs ws fq t (fun b hb => hf b (by rw [h9]; exact List.mem_cons_of_mem _ hb)) h7,h8,h9⟩
      rw [hf g (by rw [h9]; exact List.mem_cons_self)]; exact h2
  | .sl false k xs,vs,fp,t,hf,r => by
    simp only [R] at r ⊢
    simp only [tree] at t
    obtain ⟨_,hk,hfp,A,cp,e,r⟩ := r
    refine ⟨t,hk,hfp,A,cp,e, ?_⟩
    rcases r with r | ⟨g,off,cur,et,fr,ws,h1,hcp,h2,h4,h5⟩
    · exact .inl r
    · exact .inr ⟨g,off,cur,et,fr,ws,h1,hcp,hF _ _ h2,Rs.data hF xs ws [] t (fun b hb => by simp at hb) h4,h5⟩
  | .own _ _,_,_,t,_,_ => by simp [tree] at t
  | .ref _ _ _ _,_,_,t,_,_ => by simp [tree] at t
  | .sub _ _ _,_,_,t,_,_ => by simp [tree] at t
  | .iref _ _,_,_,t,_,_ => by simp [tree] at t
  | .mp _,_,_,t,_,_ => by simp [tree] at t
  | .clo _ _,_,_,t,_,_ => by simp [tree] at t
  | .agg cs,vs,fp,t,hf,r => by
    simp only [R] at r ⊢
    simp only [tree] at t
    exact ⟨r.1,Rs.data hF cs vs fp t hf r.2⟩
  | .tup _,_,_,_,_,r => by simp only [R] at r
  | .bx _,_,_,_,_,r => by simp only [R] at r
  | .non,_,_,_,_,r => by simp only [R] at r
theorem Rs.data (hF : ∀ b o,c.F b = some o → c'.F b = some o) : ∀ (xs : List PV) (vs : List Value) (fp : List Nat),trees xs = true → (∀ b ∈ fp,h' b = h b) → Rs c S h xs vs fp → Rs c' S' h' xs vs fp
  | [],_,_,_,_,r => r
  | x :: xs,vs,fp,t,hf,r => by
    simp only [Rs] at r ⊢
    simp only [trees,Bool.and_eq_true] at t
    obtain ⟨v1,v2,f1,f2,h1,h2,h3,h4⟩ := r
    exact ⟨v1,v2,f1,f2,h1,h2,R.data hF x v1 f1 t.1 (fun b hb => hf b (by rw [h2]; exact List.mem_append_left _ hb)) h3,
      Rs.data hF xs v2 f2 t.2 (fun b hb => hf b (by rw [h2]; exact List.mem_append_right _ hb)) h4⟩
end
mutual
theorem tree_fal : ∀ x : PV,tree (fal x) = tree x
  | .sl _ _ xs => by simp only [fal,tree]; exact trees_fal xs
  | .agg cs => by simp only [fal,tree]; exact trees_fal cs
  | .undef | .sc _ | .nils | .own _ _ | .ref _ _ _ _ | .sub _ _ _ | .iref _ _ | .mp _ | .clo _ _ | .tup _ | .bx _ | .non => rfl
theorem trees_fal : ∀ xs : List PV,trees (fals xs) = trees xs
  | [] => rfl
  | x :: xs => by simp only [fals,trees,tree_fal x,trees_fal xs]
end
theorem fals_length : ∀ xs : List PV,(fals xs).length = xs.length
  | [] => rfl
  | _ :: xs => by simp only [fals,List.length_cons,fals_length xs]
theorem cellP_fal (x : PV) : cellP (fal x) = cellP x := by cases x <;> rfl
theorem all_cellP_fals : ∀ xs : List PV,(fals xs).all cellP = xs.all cellP
  | [] => rfl
  | x :: xs => by simp only [fals,List.all_cons,cellP_fal,all_cellP_fals xs]
theorem Ls_fals {k : Nat} : ∀ {xs : List PV},Ls k xs → Ls k (fals xs)
  | [],h => h
  | x :: xs,h => by
    intro y hy
    simp only [fals,List.mem_cons] at hy
    rcases hy with rfl | hy
    · obtain ⟨a,b⟩ := h x List.mem_cons_self
      cases x <;> simp_all [fal,PV.cells,flatE,fals_length,all_cellP_fals]
    · exact Ls_fals (fun z hz => h z (List.mem_cons_of_mem _ hz)) y hy
theorem fals_isEmpty {xs : List PV} (h : xs = []) : fals xs = [] := by subst h; rfl
mutual
theorem R.fal (hF : ∀ b o,c.F b = some o → c'.F b = some o) : ∀ (x : PV) (vs : List Value) (fp : List Nat),tree x = true → (∀ b ∈ fp,c'.F b = h b) → R c S h x vs fp → R c' S' h' (fal x) vs []
  | .undef,_,_,_,_,r => by simp only [R,Am.fal] at r ⊢; exact ⟨trivial,r.2⟩
  | .sc _,_,_,_,_,r => by simp only [R,Am.fal] at r ⊢; exact ⟨trivial,r.2⟩
  | .nils,_,_,_,_,r => by simp only [R,Am.fal] at r ⊢; exact ⟨trivial,r.2⟩
  | .sl true k xs,vs,fp,t,hf,r => by
    simp only [R,Am.fal] at r ⊢
    simp only [tree] at t
    obtain ⟨_,hk,A,cp,e,r⟩ := r
    refine ⟨by rw [trees_fal]; exact t,Ls_fals hk,trivial,A,cp,by rw [fals_length]; exact e, ?_⟩
    rcases r with r | ⟨g,cur,et,ws,fq,h1,h2,h3,h4,h5,h7,h8,h9⟩
    · exact .inl (fals_isEmpty r.1)
    · refine .inr ⟨g,0,cur,et,(0,0),ws,h1,by rw [fals_length]; exact h3, ?_,Rs.fal hF xs ws fq t (fun b hb => hf b (by rw [h9]; exact List.mem_cons_of_mem _ hb)) h7,by rw [fals_length]; simpa using h8⟩
      rw [hf g (by rw [h9]; exact List.mem_cons_self)]; exact h2
  | .sl false k xs,vs,fp,t,hf,r => by
    simp only [R,Am.fal] at r ⊢
    simp only [tree] at t
    obtain ⟨_,hk,hfp,A,cp,e,r⟩ := r
    refine ⟨by rw [trees_fal]; exact t,Ls_fals hk,trivial,A,cp,by rw [fals_length]; exact e, ?_⟩
    rcases r with r | ⟨g,off,cur,et,fr,ws,h1,hcp,h2,h4,h5⟩
    · exact .inl (fals_isEmpty r)
    · exact .inr ⟨g,off,cur,et,fr,ws,h1,by rw [fals_length]; exact hcp,hF _ _ h2,Rs.fal hF xs ws [] t (fun b hb => by simp at hb) h4,by rw [fals_length]; exact h5⟩
  | .own _ _,_,_,t,_,_ => by simp [tree] at t
  | .ref _ _ _ _,_,_,t,_,_ => by simp [tree] at t
  | .sub _ _ _,_,_,t,_,_ => by simp [tree] at t
  | .iref _ _,_,_,t,_,_ => by simp [tree] at t
  | .mp _,_,_,t,_,_ => by simp [tree] at t
  | .clo _ _,_,_,t,_,_ => by simp [tree] at t
  | .agg cs,vs,fp,t,hf,r => by
    simp only [R,Am.fal] at r ⊢
    simp only [tree] at t
    exact ⟨by rw [all_cellP_fals]; exact r.1,Rs.fal hF cs vs fp t hf r.2⟩
  | .tup _,_,_,_,_,r => by simp only [R] at r
  | .bx _,_,_,_,_,r => by simp only [R] at r
  | .non,_,_,_,_,r => by simp only [R] at r
theorem Rs.fal (hF : ∀ b o,c.F b = some o → c'.F b = some o) : ∀ (xs : List PV) (vs : List Value) (fp : List Nat),trees xs = true → (∀ b ∈ fp,c'.F b = h b) → Rs c S h xs vs fp → Rs c' S' h' (fals xs) vs []
  | [],_,_,_,_,r => by simp only [Rs,fals] at r ⊢; exact ⟨r.1,trivial⟩
  | x :: xs,vs,fp,t,hf,r => by
    simp only [Rs,fals] at r ⊢
    simp only [trees,Bool.and_eq_true] at t
    obtain ⟨v1,v2,f1,f2,h1,h2,h3,h4⟩ := r
    exact ⟨v1,v2,[],[],h1,rfl,R.fal hF x v1 f1 t.1 (fun b hb => hf b (by rw [h2]; exact List.mem_append_left _ hb)) h3,
      Rs.fal hF xs v2 f2 t.2 (fun b hb => hf b (by rw [h2]; exact List.mem_append_right _ hb)) h4⟩
end
end
end Go.Am
end
section
/- The state's relation: registers and objects. -/
set_option linter.unusedSimpArgs false
set_option linter.unusedVariables false
namespace Go.Am
open Go.RowKit
def hp (w : World) : Hp := fun b => w.heap[b]?
def RV1 (c : Ctx) (S : Sto) (h : Hp) : PV → Value → Prop
  | .undef,_ => True
  | .non,v => v = Go.undef
  | .agg cs,v => ∃ vs,v = .agg vs.toArray ∧ R c S h (.agg cs) vs []
  | x,v => R c S h x [v] []
def MV (c : Ctx) (S : Sto) (h : Hp) (x : PV) (v : Value) : Prop := plain x = true ∧ tree x = true ∧ RV1 c S h x v
def Ents (c : Ctx) (S : Sto) (h : Hp) : List (Key × PV) → List MapEntry → Prop
  | [],ms => ms = []
  | (k,x) :: es,ms => ∃ e r,ms = e :: r ∧ e.key = k.val ∧ MV c S h x e.val ∧ Ents c S h es r
def MapIn (c : Ctx) (S : Sto) (h : Hp) (g : Nat) (s : Bool) (es : List (Key × PV)) : Prop :=
  ∃ ms clock es',h g = some (.map ms clock) ∧ List.Perm es es' ∧ Ents c S h es' ms.toList ∧ (es.map (·.1)).Nodup ∧ (∀ k ∈ es.map (·.1),k.str = s) ∧ (∀ e ∈ ms.toList,e.born < clock) ∧ (ms.toList.map (·.born)).Nodup
theorem MV.data {c c' : Ctx} {S S' : Sto} {h h' : Hp} {x : PV} {v : Value} (hF : ∀ b o,c.F b = some o → c'.F b = some o) (r : MV c S h x v) : MV c' S' h' x v := by
  obtain ⟨h1,h2,r⟩ := r
  refine ⟨h1,h2, ?_⟩
  cases x with
  | agg cs =>
    obtain ⟨vs,e,r⟩ := r
    exact ⟨vs,e,R.data hF _ vs [] h2 (fun b hb => by cases hb) r⟩
  | undef => trivial
  | non => exact r
  | sc u => exact R.data (h := h) (S := S) hF _ [v] [] h2 (fun b hb => by cases hb) r
  | nils => exact R.data (h := h) (S := S) hF _ [v] [] h2 (fun b hb => by cases hb) r
  | sl u k xs => exact R.data (h := h) (S := S) hF _ [v] [] h2 (fun b hb => by cases hb) r
  | own _ _ => simp [plain] at h1
  | ref _ _ _ _ => simp [plain] at h1
  | sub _ _ _ => simp [plain] at h1
  | iref _ _ => simp [plain] at h1
  | mp _ => simp [plain] at h1
  | clo _ _ => simp [plain] at h1
  | tup _ => simp [plain] at h1
  | bx _ => simp [plain] at h1
theorem Ents.data {c c' : Ctx} {S S' : Sto} {h h' : Hp} (hF : ∀ b o,c.F b = some o → c'.F b = some o) : ∀ {es : List (Key × PV)} {ms : List MapEntry},Ents c S h es ms → Ents c' S' h' es ms
  | [],_,r => r
  | (_,_) :: _,_,⟨e,q,h1,h2,h3,h4⟩ => ⟨e,q,h1,h2,h3.data hF,h4.data hF⟩
theorem MapIn.data {c c' : Ctx} {S S' : Sto} {h h' : Hp} {g : Nat} {s : Bool} {es : List (Key × PV)} (hF : ∀ b o,c.F b = some o → c'.F b = some o) (hg : h' g = h g) (r : MapIn c S h g s es) : MapIn c' S' h' g s es := by
  obtain ⟨ms,clock,es',h1,h2,h3,h4⟩ := r
  exact ⟨ms,clock,es',by rw [hg]; exact h1,h2,h3.data hF,h4⟩
def RowIn (c : Ctx) (S : Sto) (h : Hp) (g : Nat) (k cap : Nat) (xs : List PV) (fq : List Nat) : Prop :=
  ∃ cur e ws,h g = some (.cells cur e (0,0)) ∧ xs.length ≤ cap ∧ cap ≤ maxLen ∧ cur.size = cap * k ∧ Rs c S h xs ws fq ∧ cur.toList.take (xs.length * k) = ws
def RO (c : Ctx) (S : Sto) (h : Hp) (id : Id) : OB → List Nat → Prop
  | .box cs,fp => ∃ cur e,h (c.L id).blk = some (.cells cur e (0,0)) ∧ cs.all cellP = true ∧ Rs c S h cs cur.toList [] ∧ fp = [(c.L id).blk] ∧ upTos id.1 cs = true
  | .row k xs,fp => trees xs = true ∧ Ls k xs ∧ ((xs = [] ∧ (c.L id).cap = 0 ∧ fp = []) ∨
      ∃ fq,(c.L id).base = some ⟨(c.L id).blk,0,none⟩ ∧ RowIn c S h (c.L id).blk k (c.L id).cap xs fq ∧ fp = (c.L id).blk :: fq)
  | .frz k xs,fp => trees xs = true ∧ Ls k xs ∧ fp = [] ∧ ((xs = [] ∧ (c.L id).cap = 0) ∨
      ∃ cur e ws,(c.L id).base = some ⟨(c.L id).blk,0,none⟩ ∧ xs.length ≤ (c.L id).cap ∧ c.F (c.L id).blk = some (.cells cur e (0,0)) ∧ Rs c S h xs ws [] ∧ cur.toList.take (xs.length * k) = ws)
  | .dead,fp => fp = []
  | .map s es,fp => MapIn c S h (c.L id).blk s es ∧ fp = [(c.L id).blk]
structure StOK (c : Ctx) (S : Sto) (h : Hp) (fp : Id → List Nat) : Prop where
  ob : ∀ id ob,S id = some ob → RO c S h id ob (fp id)
  nd : ∀ id ob,S id = some ob → (fp id).Nodup
  dj : ∀ id id' ob ob',S id = some ob → S id' = some ob' → id ≠ id' → ∀ b ∈ fp id,b ∉ fp id'
  nF : ∀ id ob,S id = some ob → ∀ b ∈ fp id,c.U b
  okF : ∀ b o,c.F b = some o ∨ c.X b = some o → h b = some o
  dis : ∀ b o,c.F b = some o → c.X b = none
theorem RowIn.adv {c c' S S' h h' g k cap xs fq} (ha : Adv c c' S S') (hf : ∀ b ∈ g :: fq,h' b = h b) (r : RowIn c S h g k cap xs fq) : RowIn c' S' h' g k cap xs fq := by
  obtain ⟨cur,e,ws,h1,h2,h3,h4,h5,h6⟩ := r
  exact ⟨cur,e,ws,by rw [hf g List.mem_cons_self]; exact h1,h2,h3,h4,Rs.adv ha xs ws fq (fun b hb => hf b (List.mem_cons_of_mem _ hb)) h5,h6⟩
theorem RO.adv {c c' S S' h h' id ob fp} (ha : Adv c c' S S') (hL : c'.L id = c.L id) (hf : ∀ b ∈ fp,h' b = h b) (r : RO c S h id ob fp) : RO c' S' h' id ob fp := by
  cases ob with
  | box cs =>
    obtain ⟨cur,e,h1,h2,h3,h4,h5⟩ := r
    refine ⟨cur,e, ?_,h2,Rs.adv ha cs _ [] (fun b hb => by simp at hb) h3,by rw [hL]; exact h4,h5⟩
    rw [hL,hf _ (by rw [h4]; exact List.mem_singleton.2 rfl)]; exact h1
  | row k xs =>
    obtain ⟨t,l,r⟩ := r
    refine ⟨t,l, ?_⟩
    rw [hL]
    rcases r with r | ⟨fq,h1,h2,h3⟩
    · exact .inl r
    · exact .inr ⟨fq,h1,h2.adv ha (fun b hb => hf b (by rw [h3]; exact hb)),h3⟩
  | frz k xs =>
    obtain ⟨t,l,e,r⟩ := r
    refine ⟨t,l,e, ?_⟩
    rw [hL]
    rcases r with r | ⟨cur,et,ws,h1,hcp,h2,h3,h4⟩
    · exact .inl r
    · exact .inr ⟨cur,et,ws,h1,hcp,ha.F _ _ h2,Rs.adv ha xs ws [] (fun b hb => by simp at hb) h3,h4⟩
  | dead => exact r
  | map s es =>
    obtain ⟨r1,r2⟩ := r
    refine ⟨?_,by rw [hL]; exact r2⟩
    rw [hL]
    exact r1.data ha.F (hf _ (by rw [r2]; exact List.mem_singleton.2 rfl))
theorem StOK.step {c c' : Ctx} {S S' : Sto} {h h' : Hp} {fp fp' : Id → List Nat} (ok : StOK c S h fp) (ha : Adv c c' S S') (T : Id → Prop)
    (old : ∀ id ob,S' id = some ob → ¬ T id → S id = some ob ∧ c'.L id = c.L id ∧ fp' id = fp id ∧ (∀ b ∈ fp id,h' b = h b ∧ c'.U b))
    (new : ∀ id ob,S' id = some ob → T id → RO c' S' h' id ob (fp' id) ∧ (fp' id).Nodup ∧ (∀ b ∈ fp' id,c'.U b) ∧ ∀ id' ob',id' ≠ id → S' id' = some ob' → ∀ b ∈ fp' id,b ∉ fp' id')
    (okF : ∀ b o,c'.F b = some o ∨ c'.X b = some o → h' b = some o) (dis : ∀ b o,c'.F b = some o → c'.X b = none) : StOK c' S' h' fp' := by
  constructor
  · intro id ob hs
    by_cases ht : T id
    · exact (new id ob hs ht).1
    · obtain ⟨h1,h2,h3,h4⟩ := old id ob hs ht
      rw [h3]
      exact (ok.ob id ob h1).adv ha h2 (fun b hb => (h4 b hb).1)
  · intro id ob hs
    by_cases ht : T id
    · exact (new id ob hs ht).2.1
    · obtain ⟨h1,h2,h3,h4⟩ := old id ob hs ht
      rw [h3]; exact ok.nd id ob h1
  · intro id id' ob ob' hs hs' hne b hb
    by_cases ht : T id
    · exact (new id ob hs ht).2.2.2 id' ob' (Ne.symm hne) hs' b hb
    · by_cases ht' : T id'
      · intro hb'
        exact (new id' ob' hs' ht').2.2.2 id ob hne hs b hb' hb
      · obtain ⟨h1,h2,h3,h4⟩ := old id ob hs ht
        obtain ⟨g1,g2,g3,g4⟩ := old id' ob' hs' ht'
        rw [h3] at hb; rw [g3]
        exact ok.dj id id' ob ob' h1 g1 hne b hb
  · intro id ob hs b hb
    by_cases ht : T id
    · exact (new id ob hs ht).2.2.1 b hb
    · obtain ⟨h1,h2,h3,h4⟩ := old id ob hs ht
      rw [h3] at hb; exact (h4 b hb).2
  · exact okF
  · exact dis
def RV1s (c : Ctx) (S : Sto) (h : Hp) : List PV → List Value → Prop
  | [],vs => vs = []
  | x :: xs,vs => ∃ v ws,vs = v :: ws ∧ RV1 c S h x v ∧ RV1s c S h xs ws
def RVal (c : Ctx) (S : Sto) (h : Hp) : PV → Value → Prop
  | .tup ps,v => ∃ vs,v = .tuple vs.toArray ∧ RV1s c S h ps vs
  | x,v => RV1 c S h x v
theorem RV1.adv {c c' S S' h h' x v} (ha : Adv c c' S S') (r : RV1 c S h x v) : RV1 c' S' h' x v := by
  cases x with
  | undef => trivial
  | non => exact r
  | agg cs => obtain ⟨vs,e,r⟩ := r; exact ⟨vs,e,R.adv ha _ vs [] (fun b hb => by simp at hb) r⟩
  | _ => exact R.adv (h := h) ha _ _ [] (fun b hb => by simp at hb) r
theorem RV1s.adv {c c' S S' h h'} (ha : Adv c c' S S') : ∀ {xs : List PV} {vs : List Value},RV1s c S h xs vs → RV1s c' S' h' xs vs
  | [],_,r => r
  | _ :: _,_,⟨v,ws,e,r1,r2⟩ => ⟨v,ws,e,r1.adv ha,RV1s.adv ha r2⟩
theorem RVal.adv {c c' S S' h h' x v} (ha : Adv c c' S S') (r : RVal c S h x v) : RVal c' S' h' x v := by
  cases x with
  | tup ps => obtain ⟨vs,e,r⟩ := r; exact ⟨vs,e,RV1s.adv ha r⟩
  | _ => simp only [RVal] at r ⊢; exact RV1.adv ha r
mutual
theorem upTo_tree {n : Nat} : ∀ {x : PV},tree x = true → upTo n x = true
  | .undef,_ | .sc _,_ | .nils,_ | .sl _ _ _,_ | .iref _ _,_ | .non,_ => rfl
  | .own _ _,t | .ref _ _ _ _,t | .sub _ _ _,t | .mp _,t | .clo _ _,t | .tup _,t | .bx _,t => by simp [tree] at t
  | .agg cs,t => by simp only [tree] at t; simp only [upTo]; exact upTos_trees t
theorem upTos_trees {n : Nat} : ∀ {xs : List PV},trees xs = true → upTos n xs = true
  | [],_ => rfl
  | x :: xs,t => by
    simp only [trees,Bool.and_eq_true] at t
    simp only [upTos,Bool.and_eq_true]
    exact ⟨upTo_tree t.1,upTos_trees t.2⟩
end
mutual
theorem R.up {c : Ctx} {S : Sto} {h : Hp} {n : Nat} (hlv : ∀ i ob,S i = some ob → i.1 ≤ n) : ∀ (x : PV) (vs : List Value) (fp : List Nat),R c S h x vs fp → upTo n x = true
  | .undef,_,_,_ | .sc _,_,_,_ | .nils,_,_,_ | .sl _ _ _,_,_,_ | .iref _ _,_,_,_ | .non,_,_,_ => rfl
  | .own id m,_,_,r => by
    obtain ⟨_,v,_,_,h⟩ := r
    unfold OwnOK at h
    cases hs : S id with
    | none => rw [hs] at h; exact h.elim
    | some ob => simpa [upTo] using hlv id ob hs
  | .ref id m i j,_,_,r => by
    obtain ⟨_,v,_,_,h⟩ := r
    unfold RefOK at h
    cases hs : S id with
    | none => rw [hs] at h; exact h.elim
    | some ob => simpa [upTo] using hlv id ob hs
  | .sub id m i,_,_,r => by
    obtain ⟨_,v,_,_,h⟩ := r
    unfold SubOK at h
    cases hs : S id with
    | none => rw [hs] at h; exact h.elim
    | some ob => simpa [upTo] using hlv id ob hs
  | .mp id,_,_,r => by
    obtain ⟨_,v,_,_,h⟩ := r
    unfold MapOK at h
    cases hs : S id with
    | none => rw [hs] at h; exact h.elim
    | some ob => simpa [upTo] using hlv id ob hs
  | .clo f caps,_,_,r => by
    obtain ⟨_,ws,_,_,h⟩ := r
    simp only [upTo]
    exact Rs.up hlv caps ws [] h
  | .agg cs,vs,fp,r => by
    simp only [upTo]
    exact Rs.up hlv cs vs fp r.2
  | .tup _,_,_,r => r.elim
  | .bx _,_,_,r => r.elim
theorem Rs.up {c : Ctx} {S : Sto} {h : Hp} {n : Nat} (hlv : ∀ i ob,S i = some ob → i.1 ≤ n) : ∀ (xs : List PV) (vs : List Value) (fp : List Nat),Rs c S h xs vs fp → upTos n xs = true
  | [],_,_,_ => rfl
  | x :: xs,_,_,r => by
    obtain ⟨v1,v2,f1,f2,_,_,r1,r2⟩ := r
    simp only [upTos,Bool.and_eq_true]
    exact ⟨R.up hlv x v1 f1 r1,Rs.up hlv xs v2 f2 r2⟩
end
structure Grew (w w' : World) : Prop where
  os : w'.os = w.os
  tape : w'.tape = w.tape
  output : w'.output = w.output
  size : w.heap.size ≤ w'.heap.size
  fz : ∀ a,a.block < w.heap.size → w'.frozen? a = w.frozen? a
  dr : w.drawn ≤ w'.drawn
theorem Grew.refl (w : World) : Grew w w := ⟨rfl,rfl,rfl,Nat.le_refl _,fun _ _ => rfl,Nat.le_refl _⟩
theorem Grew.trans {a b c : World} (h : Grew a b) (k : Grew b c) : Grew a c := ⟨k.os.trans h.os,k.tape.trans h.tape,k.output.trans h.output,Nat.le_trans h.size k.size,fun x hx => (k.fz x (Nat.lt_of_lt_of_le hx h.size)).trans (h.fz x hx),Nat.le_trans h.dr k.dr⟩
theorem Adv.refl (c : Ctx) (S : Sto) : Adv c c S S := ⟨fun _ _ h => h,rfl,fun id ob h => ⟨ob,h,by cases ob <;> simp [StepOB]⟩⟩
theorem StepOB.trans {c c' c'' : Ctx} {id : Id} {a b d : OB} (h : StepOB c c' id a b) (k : StepOB c' c'' id b d) : StepOB c c'' id a d := by
  cases a <;> cases b <;> cases d <;> simp only [StepOB] at h k ⊢ <;>
    first | trivial | exact h.elim | exact k.elim | exact k.trans h | (obtain ⟨rfl,h1,h2⟩ := h; obtain ⟨rfl,k1,k2⟩ := k; exact ⟨rfl,by omega,fun e => (k2 (by omega)).trans (h2 (by omega))⟩)
theorem Adv.trans {c c' c'' S S' S''} (h : Adv c c' S S') (k : Adv c' c'' S' S'') : Adv c c'' S S'' :=
  ⟨fun b o e => k.F b o (h.F b o e),k.X.trans h.X,fun id ob e => by
    obtain ⟨ob',h1,h2⟩ := h.st id ob e
    obtain ⟨ob'',k1,k2⟩ := k.st id ob' h1
    exact ⟨ob'',k1,h2.trans k2⟩⟩
structure Sim (N : Nat) (c : Ctx) (fp : Id → List Nat) (s : St) (a : Act) (w : World) : Prop where
  rg : ∀ t,RVal c s.get (hp w) (getR s.r t) (a.tmps.getD t undef)
  st : StOK c s.get (hp w) fp
  df : a.defers = []
  sz : N ≤ a.tmps.size
def upd (S : Sto) (id : Id) (ob : OB) : Sto := fun x => if x = id then some ob else S x
def upds (S : Sto) : List (Id × OB) → Sto
  | [] => S
  | (id,ob) :: r => upds (upd S id ob) r
theorem getO_setO (l : Objs) (s t : Nat) (ob : OB) : getO (setO l s ob) t = if t = s then some ob else getO l t := by
  induction l with
  | nil => simp only [setO,getO]; by_cases h : s = t <;> simp [h,eq_comm]
  | cons p l ih =>
    obtain ⟨k,v⟩ := p
    simp only [setO]
    by_cases h : k = s
    · subst h
      by_cases h2 : k = t
      · simp [h2,getO]
      · simp only [if_true,getO,if_neg h2,if_neg (fun e : t = k => h2 e.symm)]
    · simp only [h,if_false,getO,ih]
      by_cases h2 : k = t
      · subst h2; simp [h]
      · simp [h2]
theorem get_set (s : St) (id : Id) (ob : OB) (h : id.1 ≤ s.o.length) : (s.set id ob).get = upd s.get id ob := by
  obtain ⟨l,t⟩ := id
  funext x
  obtain ⟨m,u⟩ := x
  simp only [St.set,St.get,upd]
  simp only at h
  by_cases hl : l = s.o.length
  · subst hl
    simp only [if_true]
    by_cases hm : m = s.o.length
    · subst hm
      simp only [if_true,getO_setO]
      by_cases hu : u = t <;> simp [hu]
    · have : (m,u) ≠ (s.o.length,t) := fun e => hm (Prod.mk.inj e).1
      simp [hm]
  · simp only [hl,if_false,List.length_modify]
    by_cases hm : m = s.o.length
    · have : ¬ (m,u) = (l,t) := fun e => hl ((Prod.mk.inj e).1.symm.trans hm)
      simp [hm,this]
      intro e; exact absurd e.symm hl
    · simp only [hm,if_false,List.getElem?_modify]
      by_cases hlm : l = m
      · subst hlm
        cases ho : s.o[l]? with
        | none =>
          have := List.getElem?_eq_none_iff.1 ho
          omega
        | some ob' => by_cases hu : u = t <;> simp [hu,getO_setO]
      · have : ¬ (m,u) = (l,t) := fun e => hlm (Prod.mk.inj e).1.symm
        simp [hlm,this]
theorem set_o_length (s : St) (id : Id) (ob : OB) : (s.set id ob).o.length = s.o.length := by
  unfold St.set; split <;> simp
theorem get_lvl {s : St} {id : Id} {ob : OB} (h : s.get id = some ob) : id.1 ≤ s.o.length := by
  unfold St.get at h
  split at h
  · omega
  · cases ho : s.o[id.1]? with
    | none => rw [ho] at h; simp at h
    | some x => have := (List.getElem?_eq_some_iff.1 ho).1; omega
theorem get_sets : ∀ (ws : List (Id × OB)) (s : St),(∀ x ∈ ws,x.1.1 ≤ s.o.length) → (s.sets ws).get = upds s.get ws
  | [],_,_ => rfl
  | (id,ob) :: r,s,h => by
    simp only [St.sets,upds]
    rw [get_sets r _ (fun x hx => by rw [set_o_length]; exact h x (List.mem_cons_of_mem _ hx)),get_set s id ob (h _ List.mem_cons_self)]
theorem get_put (s : St) (d : Option Nat) (v : PV) : (s.put d v).get = s.get := by cases d <;> rfl
theorem sets_r : ∀ (ws : List (Id × OB)) (s : St),(s.sets ws).r = s.r
  | [],_ => rfl
  | (id,ob) :: r,s => by
    simp only [St.sets]; rw [sets_r r]; unfold St.set; split <;> rfl
end Go.Am
end
section
/- Operations: what the text says,and that the machine's step is the model's: those that turn no object. -/
set_option linter.unusedSimpArgs false
set_option linter.unusedVariables false
namespace Go.Am
open Go.RowKit
def litOK : PV → Value → Bool
  | .sc (.int k n),.int k' n' => decide (k = k') && decide (n = n')
  | .sc (.bool b),.bool b' => b == b'
  | .sc (.string s),.string s' => s.data.toList == s'.data.toList
  | .nils,.slice none 0 0 => true
  | .sc (.map none),.map none => true
  | .sc (.pointer none),.pointer none => true
  | .sc .nilFunc,.nilFunc => true
  | _,_ => false
def litsOK : List PV → List Value → Bool
  | [],[] => true
  | x :: xs,v :: vs => litOK x v && litsOK xs vs
  | _,_ => false
def litE : PV → Value → Bool
  | .agg cs,.agg vs => litsOK cs vs.toList
  | x,v => litOK x v
theorem ba_ext {s t : ByteArray} (h : (s.data.toList == t.data.toList) = true) : s = t := by
  have h1 : s.data.toList = t.data.toList := by simpa using h
  have h2 : s.data = t.data := by rw [← Array.toArray_toList (xs := s.data),h1]
  cases s; cases t; simp_all
theorem litOK_R {c S h} : ∀ {x : PV} {v : Value},litOK x v = true → R c S h x [v] [] ∧ cellP x = true ∧ v.oneCell' = true ∧ tree x = true := by
  intro x v e
  unfold litOK at e
  split at e
  · simp only [Bool.and_eq_true,decide_eq_true_eq] at e
    obtain ⟨rfl,rfl⟩ := e
    exact ⟨⟨rfl,rfl,rfl⟩,rfl,rfl,rfl⟩
  · obtain rfl := eq_of_beq e
    exact ⟨⟨rfl,rfl,rfl⟩,rfl,rfl,rfl⟩
  · have := ba_ext e
    subst this
    exact ⟨⟨rfl,rfl,rfl⟩,rfl,rfl,rfl⟩
  · exact ⟨⟨rfl,none,rfl⟩,rfl,rfl,rfl⟩
  · exact ⟨⟨rfl,rfl,rfl⟩,rfl,rfl,rfl⟩
  · exact ⟨⟨rfl,rfl,rfl⟩,rfl,rfl,rfl⟩
  · exact ⟨⟨rfl,rfl,rfl⟩,rfl,rfl,rfl⟩
  · cases e
theorem litsOK_R {c S h} : ∀ {xs : List PV} {vs : List Value},litsOK xs vs = true → Rs c S h xs vs [] ∧ xs.all cellP = true ∧ trees xs = true
  | [],[],_ => ⟨⟨rfl,rfl⟩,rfl,rfl⟩
  | [],_ :: _,e => by simp [litsOK] at e
  | _ :: _,[],e => by simp [litsOK] at e
  | x :: xs,v :: vs,e => by
    simp only [litsOK,Bool.and_eq_true] at e
    obtain ⟨r1,c1,_,t1⟩ := litOK_R (c := c) (S := S) (h := h) e.1
    obtain ⟨r2,c2,t2⟩ := litsOK_R (c := c) (S := S) (h := h) e.2
    exact ⟨⟨[v],vs,[],[],rfl,rfl,r1,r2⟩,by simp [c1,c2],by simp [trees,t1,t2]⟩
theorem RVal_of_R {c S h x v} (hc : cellP x = true) (r : R c S h x [v] []) : RVal c S h x v := by
  cases x <;> first | (simp [cellP] at hc; done) | exact r | trivial
theorem R_of_RVal {c S h x v} (hc : cellP x = true) (hu : x ≠ .undef) (r : RVal c S h x v) : R c S h x [v] [] := by
  cases x <;> first | (simp [cellP] at hc; done) | exact absurd rfl hu | exact r
theorem litE_RVal {c S h x v} (e : litE x v = true) : RVal c S h x v := by
  unfold litE at e
  split at e
  · rename_i cs vs
    obtain ⟨r,c1,_⟩ := litsOK_R (c := c) (S := S) (h := h) e
    exact ⟨vs.toList,by simp,c1,r⟩
  · obtain ⟨r,c1,_⟩ := litOK_R (c := c) (S := S) (h := h) e
    exact RVal_of_R c1 r
def opdOK : Opd → Operand → Bool
  | .t n,.tmp m => n == m
  | .k v,.const c => litE v c
  | .f n,.func m => n == m
  | _,_ => false
def opdsOK : List Opd → List Operand → Bool
  | [],[] => true
  | x :: xs,y :: ys => opdOK x y && opdsOK xs ys
  | _,_ => false
theorem opd_RVal {N c fp s a w x y} (sim : Sim N c fp s a w) (e : opdOK x y = true) : RVal c s.get (hp w) (s.ev x) (a.eval y) := by
  unfold opdOK at e
  split at e
  · obtain rfl := eq_of_beq e
    exact sim.rg _
  · exact litE_RVal e
  · obtain rfl := eq_of_beq e
    exact ⟨rfl,[],by rfl,rfl,rfl,rfl⟩
  · cases e
def RVals (c : Ctx) (S : Sto) (h : Hp) : List PV → List Value → Prop
  | [],vs => vs = []
  | x :: xs,vs => ∃ v ws,vs = v :: ws ∧ RVal c S h x v ∧ RVals c S h xs ws
theorem opds_RVals {N c fp s a w} (sim : Sim N c fp s a w) : ∀ {xs ys},opdsOK xs ys = true → RVals c s.get (hp w) (xs.map s.ev) (ys.map a.eval)
  | [],[],_ => rfl
  | [],_ :: _,e => by simp [opdsOK] at e
  | _ :: _,[],e => by simp [opdsOK] at e
  | x :: xs,y :: ys,e => by
    simp only [opdsOK,Bool.and_eq_true] at e
    exact ⟨_,_,rfl,opd_RVal sim e.1,opds_RVals sim e.2⟩
def Yield (P : Program) (c : Ctx) (S : Sto) (w : World) (m : Sem Next) (S' : Sto) (x : PV) : Prop :=
  ∃ nx v w' c' fp',m.run P w = .ok nx w' ∧ (nx = .value v ∨ nx = .skip ∧ v = undef) ∧ StOK c' S' (hp w') fp' ∧ Adv c c' S S' ∧ RVal c' S' (hp w') x v ∧ Grew w w'
theorem yield_pure {P c S w fp x v} {m : Sem Value} (ok : StOK c S (hp w) fp) (hr : m.run P w = .ok v w) (r : RVal c S (hp w) x v) :
    Yield P c S w (do pure (.value (← m))) S x :=
  ⟨_,v,w,c,fp,by simp [hr],.inl rfl,ok,Adv.refl _ _,r,Grew.refl _⟩
def kindOf (P : Program) (t : TypeId) : Option (Option Nat) :=
  match P.underlying t,P.info? t with
  | some (.struct _),some i => some (some i.size)
  | some (.array _ _),some i => some (some i.size)
  | some _,some _ => some none
  | _,_ => none
theorem add_off (g o n : Nat) : (⟨g,o,none⟩ : Addr).add n = ⟨g,o + n,none⟩ := by unfold Addr.add; split <;> simp_all
theorem run_loadVar_one {P : Program} {t : TypeId} {w : World} {a : Addr} {v : Value} (hk : kindOf P t = some none) (hc : w.cell? a = some v) : (loadVar t a).run P w = .ok v w := by
  unfold kindOf at hk
  split at hk <;> simp at hk
  rename_i d i h1 h2 n1 n2
  have hu := run_underlying n1 w
  have hi : (isAgg t).run P w = .ok false w := by
    simp only [isAgg,Sem.run_bind,hu,Result.andThen_ok]
    rfl
  simp [loadVar,hi,hc]
theorem isAgg_true {P : Program} {t : TypeId} {w : World} {n : Nat} (hk : kindOf P t = some (some n)) : (isAgg t).run P w = .ok true w ∧ (sizeOf t).run P w = .ok n w := by
  unfold kindOf at hk
  split at hk <;> simp at hk
  · rename_i fs i h1 h2
    exact ⟨by simp [isAgg,run_underlying h1],by simp [sizeOf,typeInfo,h2,hk]⟩
  · rename_i fs i h1 h2
    exact ⟨by simp [isAgg,run_underlying h1],by simp [sizeOf,typeInfo,h2,hk]⟩
theorem run_loadVar_agg {P : Program} {t : TypeId} {w : World} {a : Addr} {vs : List Value} (hk : kindOf P t = some (some vs.length)) (hc : ∀ j v,vs[j]? = some v → w.cell? (a.add j) = some v) :
    (loadVar t a).run P w = .ok (.agg vs.toArray) w := by
  have hl := run_loadCells_list (P := P) w a vs hc
  obtain ⟨h1,h2⟩ := isAgg_true (w := w) hk
  simp [loadVar,h1,h2,hl]
theorem Rs_takeC {c S h k cs j v vs} (hc : cs.all cellP = true) (r : Rs c S h cs vs []) (e : takeC k cs j = some v) :
    (k = none → ∃ u,vs[j]? = some u ∧ cellP v = true ∧ R c S h v [u] []) ∧
    (∀ m,k = some m → ∃ us,v = .agg ((cs.drop j).take m) ∧ us.length = m ∧ (∀ i u,us[i]? = some u → vs[j + i]? = some u) ∧ R c S h v us []) := by
  have key : ∀ (cs : List PV) (vs : List Value) (j : Nat),cs.all cellP = true → Rs c S h cs vs [] → Rs c S h (cs.drop j) (vs.drop j) [] := by
    intro cs
    induction cs with
    | nil => intro vs j _ r; simp only [Rs] at r; simp [r.1,Rs]
    | cons x xs ih =>
      intro vs j hc r
      cases j with
      | zero => exact r
      | succ j =>
        simp only [Rs] at r
        obtain ⟨v1,v2,f1,f2,rfl,hf,r1,r2⟩ := r
        simp only [List.all_cons,Bool.and_eq_true] at hc
        have hf' := List.append_eq_nil_iff.1 hf.symm
        obtain ⟨u,rfl,_⟩ := R_one hc.1 r1
        simp only [List.cons_append,List.nil_append,List.drop_succ_cons]
        exact ih v2 j hc.2 (by rw [← hf'.2]; exact r2)
  have key2 : ∀ (cs : List PV) (vs : List Value) (m : Nat),cs.all cellP = true → Rs c S h cs vs [] → Rs c S h (cs.take m) (vs.take m) [] := by
    intro cs
    induction cs with
    | nil => intro vs m _ r; simp only [Rs] at r; simp [r.1,Rs]
    | cons x xs ih =>
      intro vs m hc r
      cases m with
      | zero => simp [Rs]
      | succ m =>
        simp only [Rs] at r
        obtain ⟨v1,v2,f1,f2,rfl,hf,r1,r2⟩ := r
        simp only [List.all_cons,Bool.and_eq_true] at hc
        have hf' := List.append_eq_nil_iff.1 hf.symm
        obtain ⟨u,rfl,_⟩ := R_one hc.1 r1
        simp only [List.cons_append,List.nil_append,List.take_succ_cons,Rs]
        exact ⟨[u],v2.take m,f1,[],rfl,by simp [hf'.1],r1,ih v2 m hc.2 (by rw [← hf'.2]; exact r2)⟩
  have hl := (Rs_cells_len hc r).1
  refine ⟨fun hk => ?_,fun m hk => ?_⟩
  · subst hk
    simp only [takeC] at e
    have hj : j < cs.length := (List.getElem?_eq_some_iff.1 e).1
    have rd := key cs vs j hc r
    rw [List.drop_eq_getElem_cons hj] at rd
    simp only [Rs] at rd
    obtain ⟨v1,v2,f1,f2,hv,hf,r1,r2⟩ := rd
    have hf' := List.append_eq_nil_iff.1 hf.symm
    have he : cs[j] = v := (List.getElem?_eq_some_iff.1 e).2
    have hcp : cellP v = true := by rw [← he]; exact List.all_eq_true.1 hc _ (List.getElem_mem hj)
    obtain ⟨u,rfl,_⟩ := R_one (by rw [he]; exact hcp) r1
    refine ⟨u, ?_,hcp,by rw [← he,← hf'.1]; exact r1⟩
    have := congrArg (·[0]?) hv
    simpa [List.getElem?_drop] using this
  · subst hk
    simp only [takeC] at e
    split at e
    · rename_i hle
      simp only [Option.some.injEq] at e
      subst e
      have rd := key2 _ _ m (by rw [List.all_eq_true] at hc ⊢; exact fun x hx => hc x (List.mem_of_mem_drop hx)) (key cs vs j hc r)
      refine ⟨(vs.drop j).take m,rfl,by simp [hl]; omega,fun i u hu => ?_,⟨?_,rd⟩⟩
      · rw [List.getElem?_take] at hu
        split at hu
        · simpa [List.getElem?_drop] using hu
        · cases hu
      · rw [List.all_eq_true] at hc ⊢
        exact fun x hx => hc x (List.mem_of_mem_drop (List.mem_of_mem_take hx))
    · cases e
theorem load_cells {P : Program} {c S w} {t : TypeId} {k : Option Nat} {g o j : Nat} {cs : List PV} {vs : List Value} {v : PV} (hk : kindOf P t = some k) (hc : cs.all cellP = true) (r : Rs c S (hp w) cs vs [])
    (hw : ∀ i u,vs[i]? = some u → w.cell? ⟨g,o + i,none⟩ = some u) (e : takeC k cs j = some v) :
    ∃ u,(loadVar t ⟨g,o + j,none⟩).run P w = .ok u w ∧ RVal c S (hp w) v u := by
  obtain ⟨h1,h2⟩ := Rs_takeC hc r e
  cases k with
  | none =>
    obtain ⟨u,hu,hcp,hr⟩ := h1 rfl
    exact ⟨u,run_loadVar_one hk (hw j u hu),RVal_of_R hcp hr⟩
  | some m =>
    obtain ⟨us,rfl,hl,hu,hr⟩ := h2 m rfl
    refine ⟨.agg us.toArray,run_loadVar_agg (by rw [hl]; exact hk) (fun i u hi => ?_),⟨us,rfl,hr⟩⟩
    rw [add_off,Nat.add_assoc]
    exact hw _ u (hu i u hi)
mutual
theorem plain_fp {c S h} : ∀ {x : PV} {vs fp},plain x = true → R c S h x vs fp → fp = []
  | .undef,_,_,t,_ => by simp [plain] at t
  | .sc _,_,_,_,r => r.1
  | .nils,_,_,_,r => r.1
  | .sl true _ _,_,_,t,_ => by simp [plain] at t
  | .sl false _ _,_,_,_,r => by simp only [R] at r; exact r.2.2.1
  | .own _ _,_,_,t,_ => by simp [plain] at t
  | .ref _ _ _ _,_,_,t,_ => by simp [plain] at t
  | .sub _ _ _,_,_,t,_ => by simp [plain] at t
  | .iref _ _,_,_,t,_ => by simp [plain] at t
  | .mp _,_,_,t,_ => by simp [plain] at t
  | .clo _ _,_,_,t,_ => by simp [plain] at t
  | .agg cs,_,_,t,r => by simp only [plain] at t; simp only [R] at r; exact plains_fp t r.2
  | .tup _,_,_,t,_ => by simp [plain] at t
  | .bx _,_,_,t,_ => by simp [plain] at t
  | .non,_,_,t,_ => by simp [plain] at t
theorem plains_fp {c S h} : ∀ {xs : List PV} {vs fp},plains xs = true → Rs c S h xs vs fp → fp = []
  | [],_,_,_,r => r.2
  | x :: xs,_,_,t,r => by
    simp only [plains,Bool.and_eq_true] at t
    simp only [Rs] at r
    obtain ⟨v1,v2,f1,f2,_,rfl,r1,r2⟩ := r
    rw [plain_fp t.1 r1,plains_fp t.2 r2]; rfl
end
theorem Rs_cells_of_R {c S h x vs fp} (hf : flatE x = true) (r : R c S h x vs fp) : x.cells.all cellP = true ∧ Rs c S h x.cells vs fp := by
  cases x <;> first
    | (simp [flatE] at hf; done)
    | (simp only [R] at r; exact ⟨r.1,r.2⟩)
    | (refine ⟨rfl,vs,[],fp,[],by simp,by simp,r,rfl,rfl⟩)
theorem Rs_elem {c S h k} : ∀ {xs : List PV} {ws fq} {i : Nat} {x : PV},Ls k xs → Rs c S h xs ws fq → xs[i]? = some x →
    ∃ vs f,R c S h x vs f ∧ vs.length = k ∧ (∀ j u,vs[j]? = some u → ws[i * k + j]? = some u) ∧ ∀ b ∈ f,b ∈ fq
  | [],_,_,_,_,_,_,e => by simp at e
  | y :: ys,ws,fq,0,x,hk,r,e => by
    simp only [List.getElem?_cons_zero,Option.some.injEq] at e
    subst e
    simp only [Rs] at r
    obtain ⟨v1,v2,f1,f2,rfl,rfl,r1,r2⟩ := r
    obtain ⟨e1,e2⟩ := hk y List.mem_cons_self
    have hl := (R_len e2 r1).1
    refine ⟨v1,f1,r1,by omega,fun j u hu => ?_,fun b hb => List.mem_append_left _ hb⟩
    have hj := (List.getElem?_eq_some_iff.1 hu).1
    rw [Nat.zero_mul,Nat.zero_add,List.getElem?_append_left hj]; exact hu
  | y :: ys,ws,fq,i + 1,x,hk,r,e => by
    simp only [List.getElem?_cons_succ] at e
    simp only [Rs] at r
    obtain ⟨v1,v2,f1,f2,rfl,rfl,r1,r2⟩ := r
    obtain ⟨e1,e2⟩ := hk y List.mem_cons_self
    have hl := (R_len e2 r1).1
    obtain ⟨vs,f,h1,h2,h3,h4⟩ := Rs_elem (fun z hz => hk z (List.mem_cons_of_mem _ hz)) r2 e
    refine ⟨vs,f,h1,h2,fun j u hu => ?_,fun b hb => List.mem_append_right _ (h4 b hb)⟩
    rw [List.getElem?_append_right (by rw [hl,e1,Nat.add_mul]; omega),hl,e1,show (i + 1) * k + j - k = i * k + j by rw [Nat.add_mul]; omega]
    exact h3 j u hu
theorem cell_of_block {w : World} {g : Nat} {cur : Array Value} {e : TypeId} {fr : Nat × Nat} (h : hp w g = some (.cells cur e fr)) (j : Nat) : w.cell? ⟨g,j,none⟩ = cur[j]? := by
  simp only [hp] at h
  simp [World.cell?,h]
theorem elem_at {c S w fp id ob m i cs} (ok : StOK c S (hp w) fp) (hs : S id = some ob) (he : ob.elem m i = some cs) :
    ∃ o vs f,cs.all cellP = true ∧ Rs c S (hp w) cs vs f ∧ (∀ j u,vs[j]? = some u → w.cell? ⟨(c.L id).blk,o + j,none⟩ = some u) ∧ (∀ j v,RefOK c S id m i j v → v = .pointer (some ⟨(c.L id).blk,o + j,none⟩)) ∧
      (ob.isBox = true → f = []) := by
  have ro := ok.ob id ob hs
  cases ob with
  | box xs =>
    simp only [OB.elem] at he
    split at he
    · rename_i hm
      split at he
      · rename_i hi
        simp only [Option.some.injEq] at he
        subst he
        obtain ⟨cur,e,h1,h2,h3,h4,_⟩ := ro
        refine ⟨0,cur.toList,[],h2,h3,fun j u hu => ?_,fun j v hv => ?_,fun _ => rfl⟩
        · rw [Nat.zero_add,cell_of_block h1]; simpa using hu
        · simp only [RefOK,hs] at hv
          rw [Nat.zero_add]; exact hv hm hi
      · cases he
    · cases he
  | row k xs =>
    simp only [OB.elem,nth] at he
    split at he
    · rename_i hm
      cases hx : xs[i]? with
      | none => rw [hx] at he; simp at he
      | some x =>
        rw [hx] at he
        simp only [Option.map_some,Option.some.injEq] at he
        subst he
        obtain ⟨t,hk,ro⟩ := ro
        rcases ro with ro | ⟨fq,h1,⟨cur,e,ws,g1,g2,g3,g4,g5,g6⟩,h3⟩
        · rw [ro.1] at hx; simp at hx
        · obtain ⟨vs,f,r1,r2,r3,r4⟩ := Rs_elem hk g5 hx
          obtain ⟨q1,q2⟩ := Rs_cells_of_R (hk x (List.mem_of_getElem? hx)).2 r1
          refine ⟨i * k,vs,f,q1,q2,fun j u hu => ?_,fun j v hv => ?_,fun hb => by cases hb⟩
          · have := r3 j u hu
            rw [← g6,List.getElem?_take] at this
            split at this
            · rw [cell_of_block g1]; simpa using this
            · cases this
          · simp only [RefOK,hs] at hv
            exact hv.2 hm
    · cases he
  | frz k xs => simp [OB.elem] at he
  | map _ _ => simp [OB.elem] at he
  | dead => simp [OB.elem] at he
end Go.Am
end
section
/- Operations that turn no object. -/
set_option linter.unusedSimpArgs false
set_option linter.unusedVariables false
namespace Go.Am
open Go.RowKit
def bkOK : BK → BinOp → Bool
  | .add,.add | .sub,.sub | .mul,.mul | .quo,.quo | .rem,.rem | .eq,.eql | .ne,.neq | .lt,.lss | .le,.leq | .gt,.gtr | .ge,.geq | .xor,.xor => true
  | _,_ => false
def fieldOf (P : Program) (t : TypeId) (f : Nat) : Option (Nat × TypeId) :=
  match P.underlying t with
  | some (.struct fields) => match fields[f]? with
    | some fd => match P.info? fd.type with
      | some i => if i.size = 0 then none else some (fd.offset,fd.type)
      | none => none
    | none => none
  | _ => none
def elemOfS (P : Program) (t : TypeId) : Option (TypeId × TypeInfo) :=
  match P.underlying t with
  | some (.slice e) => match P.info? e with | some i => some (e,i) | none => none
  | _ => none
def arrOf (P : Program) (t : TypeId) : Option (Nat × TypeId × Nat) :=
  match P.underlying t with
  | some (.array n e) => match P.info? e with | some i => some (n,e,i.size) | none => none
  | _ => none
def isStr (P : Program) (t : TypeId) : Bool := match P.underlying t with | some .string => true | _ => false
def isBool (P : Program) (t : TypeId) : Bool := match P.underlying t with | some .bool => true | _ => false
def isSl (P : Program) (t : TypeId) : Bool := match P.underlying t with | some (.slice _) => true | _ => false
section
variable {P : Program} {c : Ctx} {S : Sto} {w : World} {fp : Id → List Nat}
theorem RVals_one {x : PV} {vs : List Value} (r : RVals c S (hp w) [x] vs) : ∃ v,vs = [v] ∧ RVal c S (hp w) x v := by
  obtain ⟨v,ws,e,r1,r2⟩ := r
  simp only [RVals] at r2
  subst r2
  exact ⟨v,e,r1⟩
theorem RVals_two {x y : PV} {vs : List Value} (r : RVals c S (hp w) [x,y] vs) : ∃ v u,vs = [v,u] ∧ RVal c S (hp w) x v ∧ RVal c S (hp w) y u := by
  obtain ⟨v,ws,e,r1,r2⟩ := r
  obtain ⟨u,e2,r3⟩ := RVals_one r2
  subst e2
  exact ⟨v,u,e,r1,r3⟩
theorem sc_eq {v u : Value} (r : RVal c S (hp w) (.sc v) u) : u = v := by
  have := r.2.1
  simpa using this
theorem sc_of {v : Value} (h : v.oneCell' = true) : RVal c S (hp w) (.sc v) v := ⟨rfl,rfl,h⟩
theorem str_add {a b : ByteArray} {t : TypeId} {ox oy : Operand} (h : a.size + b.size ≤ 9223372036854775807) :
    (do eqGuard .add t ox oy (.string a) (.string b); binOp .add t (.string a) (.string b) : Sem Value).run P w = .ok (.string (a ++ b)) w := by
  have hm : IntKind.i64.max = 9223372036854775807 := by decide
  have h2 : ¬ (((a.size + b.size : Nat) : Int) > IntKind.i64.max) := by rw [hm]; omega
  simp only [eqGuard,binOp,Op.stringOp]
  simp only [if_neg h2]
  simp
theorem bin_yield (ok : StOK c S (hp w) fp) {b : BK} {o : BinOp} {t : TypeId} {x y z : PV} {v u : Value} {ox oy : Operand} (hb : bkOK b o = true) (hx : RVal c S (hp w) x v) (hy : RVal c S (hp w) y u) (e : bin b x y = some z) :
    Yield P c S w (do pure (.value (← (do eqGuard o t ox oy v u; binOp o t v u)))) S z := by
  have fin : ∀ {r : Value},(do eqGuard o t ox oy v u; binOp o t v u : Sem Value).run P w = .ok r w → z = .sc r → r.oneCell' = true → Yield P c S w (do pure (.value (← (do eqGuard o t ox oy v u; binOp o t v u)))) S z :=
    fun hr hz h1 => yield_pure ok hr (by rw [hz]; exact sc_of h1)
  unfold bin at e
  split at e
  all_goals try (rw [sc_eq hx,sc_eq hy] at fin ⊢)
  all_goals try (cases o <;> simp only [bkOK,Bool.false_eq_true] at hb)
  all_goals first
    | (cases e; done)
    | (split at e
       · rename_i hk
         subst hk
         first
           | (simp only [Option.some.injEq] at e; subst e; refine fin ?_ rfl rfl; simp [eqGuard,binOp,Op.intArith,Op.intCmp,Op.intBits,bxor]; done)
           | (split at e
              · cases e
              · rename_i h0
                simp only [Option.some.injEq] at e; subst e; refine fin ?_ rfl rfl; simp [eqGuard,binOp,Op.intDiv,h0])
           | skip
       · cases e)
    | (simp only [Option.some.injEq] at e; subst e; refine fin ?_ rfl rfl; simp [eqGuard,binOp,Op.stringOp]; done)
    | (split at e
       · rename_i hle
         simp only [Option.some.injEq] at e; subst e; refine fin ?_ rfl rfl
         exact str_add hle
       · cases e)
theorem not_yield (ok : StOK c S (hp w) fp) {b : Bool} {v : Value} (hx : RVal c S (hp w) (.b b) v) :
    Yield P c S w (do pure (.value (← Op.unary .not v))) S (.b (!b)) := by
  rw [sc_eq hx]
  exact yield_pure ok (by simp [Op.unary]) (sc_of rfl)
theorem neg_yield (ok : StOK c S (hp w) fp) {k : IntKind} {n : Int} {v : Value} (hx : RVal c S (hp w) (.sc (.int k n)) v) :
    Yield P c S w (do pure (.value (← Op.unary .neg v))) S (.sc (.int k (k.wrap (0 - n)))) := by
  rw [sc_eq hx]
  exact yield_pure ok (by simp [Op.unary,Op.intArith]) (sc_of rfl)
theorem run_equalIn_bool (d : Nat) {t : TypeId} (h : P.underlying t = some .bool) (a b : Bool) (w : World) : (Op.equalIn (d + 1) t (.bool a) (.bool b)).run P w = .ok (a == b) w := by
  simp [Op.equalIn,run_underlying h]
theorem run_eql_bool {t : TypeId} (ht : isBool P t = true) (a b : Bool) (w : World) : (Op.equal t (.bool a) (.bool b)).run P w = .ok (a == b) w := by
  unfold isBool at ht
  split at ht
  · rename_i h
    exact run_equalIn_bool 9999 h a b w
  · cases ht
theorem beq_yield (ok : StOK c S (hp w) fp) {t : TypeId} {a b : Bool} {v u : Value} {ox oy : Operand} (ht : isBool P t = true) (hx : RVal c S (hp w) (.b a) v) (hy : RVal c S (hp w) (.b b) u) :
    Yield P c S w (do pure (.value (← (do eqGuard .eql t ox oy v u; binOp .eql t v u)))) S (.b (a == b)) := by
  rw [sc_eq hx,sc_eq hy]
  exact yield_pure ok (by simp [eqGuard,binOp,run_eql_bool ht]) (sc_of rfl)
theorem bne_yield (ok : StOK c S (hp w) fp) {t : TypeId} {a b : Bool} {v u : Value} {ox oy : Operand} (ht : isBool P t = true) (hx : RVal c S (hp w) (.b a) v) (hy : RVal c S (hp w) (.b b) u) :
    Yield P c S w (do pure (.value (← (do eqGuard .neq t ox oy v u; binOp .neq t v u)))) S (.b (!(a == b))) := by
  rw [sc_eq hx,sc_eq hy]
  exact yield_pure ok (by simp [eqGuard,binOp,run_eql_bool ht]) (sc_of rfl)
theorem min_yield (ok : StOK c S (hp w) fp) {a b : Int} {v u : Value} {ts : Array TypeId} {t : TypeId} (hx : RVal c S (hp w) (.i a) v) (hy : RVal c S (hp w) (.i b) u) :
    Yield P c S w (do pure (.value (← Builtin.min_ ts t #[v,u]))) S (.i (if b < a then b else a)) := by
  rw [sc_eq hx,sc_eq hy]
  exact yield_pure ok (by simp [Builtin.min_,Builtin.min2]) (sc_of rfl)
theorem ptr_eq {id m i j o v g} (h : ∀ j v,RefOK c S id m i j v → v = .pointer (some ⟨g,o + j,none⟩)) (hx : RVal c S (hp w) (.ref id m i j) v) : v = .pointer (some ⟨g,o + j,none⟩) := by
  obtain ⟨_,u,e,_,h2⟩ := hx
  have : v = u := by simpa using e
  rw [this]; exact h j u h2
theorem load_yield (ok : StOK c S (hp w) fp) {t : TypeId} {k : Option Nat} {id m i j ob cs x v} (hk : kindOf P t = some k) (hs : S id = some ob) (he : ob.elem m i = some cs) (ht : takeC k cs j = some x)
    (hp' : (plains cs || ob.isBox) = true) (hx : RVal c S (hp w) (.ref id m i j) v) :
    Yield P c S w (do pure (.value (← Instr.loadAt t v))) S x := by
  obtain ⟨o,vs,f,h1,h2,h3,h4,h5⟩ := elem_at ok hs he
  have hf : f = [] := by
    rcases Bool.or_eq_true_iff.1 hp' with q | q
    · exact plains_fp q h2
    · exact h5 q
  subst hf
  obtain ⟨u,hr,r⟩ := load_cells (P := P) hk h1 h2 h3 ht
  rw [ptr_eq h4 hx]
  exact yield_pure ok (by simp [Instr.loadAt,Instr.sureAddr,hr]) r
theorem loadI_yield (ok : StOK c S (hp w) fp) {t : TypeId} {k : Option Nat} {j cs x v} (hk : kindOf P t = some k) (ht : takeC k cs j = some x) (hx : RVal c S (hp w) (.iref cs j) v) :
    Yield P c S w (do pure (.value (← Instr.loadAt t v))) S x := by
  obtain ⟨_,g,off,cur,e,fr,ws,h1,h2,h3,h4,h5,h6⟩ := hx
  have hv : v = .pointer (some ⟨g,off + j,none⟩) := by simpa using h1
  have hg := ok.okF _ _ (.inl h2)
  obtain ⟨u,hr,r⟩ := load_cells (P := P) (g := g) (o := off) hk h3 h5 (fun i u hu => by
    rw [cell_of_block hg]
    rw [← h6,List.getElem?_take] at hu
    split at hu
    · simpa [List.getElem?_drop] using hu
    · cases hu) ht
  rw [hv]
  exact yield_pure ok (by simp [Instr.loadAt,Instr.sureAddr,hr]) r
theorem run_fieldAt {t : TypeId} {f off : Nat} {ft : TypeId} {a : Addr} (hf : fieldOf P t f = some (off,ft)) (w : World) : (Instr.fieldAt t (.pointer (some a)) f).run P w = .ok (.pointer (some (a.add off))) w := by
  unfold fieldOf at hf
  split at hf
  · rename_i fields hu
    split at hf
    · rename_i fd hfd
      split at hf
      · rename_i i hi
        split at hf
        · cases hf
        · rename_i h0
          simp only [Option.some.injEq,Prod.mk.injEq] at hf
          obtain ⟨rfl,rfl⟩ := hf
          simp [Instr.fieldAt,run_underlying hu,hfd,Instr.sureAddr,fieldPlace,sizeOf,typeInfo,hi,h0]
      · cases hf
    · cases hf
  · cases hf
theorem one_of_ref {id m i j v} (hx : RVal c S (hp w) (.ref id m i j) v) : v.oneCell' = true ∧ RefOK c S id m i j v := by
  obtain ⟨_,u,e,h1,h2⟩ := hx
  have : v = u := by simpa using e
  subst this
  exact ⟨h1,h2⟩
theorem live_cases {id m i} (h : live S id m i = true) : (∃ cs,S id = some (.box cs) ∧ m = 1 ∧ i = 0) ∨ (∃ k xs,S id = some (.row k xs) ∧ m = xs.length) := by
  unfold live at h
  split at h
  · rename_i cs hs; exact .inl ⟨cs,hs,by simpa using h⟩
  · rename_i k xs hs; exact .inr ⟨k,xs,hs,by simpa using h⟩
  · cases h
theorem ref_cases {id m i j v} (hx : RefOK c S id m i j v) (hl : live S id m i = true) :
    ∃ o,v = .pointer (some ⟨(c.L id).blk,o + j,none⟩) ∧ ∀ j',RefOK c S id m i j' (.pointer (some ⟨(c.L id).blk,o + j',none⟩)) := by
  rcases live_cases hl with ⟨cs,hs,h1,h2⟩ | ⟨k,xs,hs,h1⟩
  · simp only [RefOK,hs] at hx ⊢
    exact ⟨0,by rw [Nat.zero_add]; exact hx h1 h2,fun j' _ _ => by rw [Nat.zero_add]⟩
  · simp only [RefOK,hs] at hx ⊢
    exact ⟨i * k,hx.2 h1,fun j' => ⟨by omega,fun _ => rfl⟩⟩
theorem faddr_yield (ok : StOK c S (hp w) fp) {t : TypeId} {f off ft id m i j v} (hf : fieldOf P t f = some (off,ft)) (hl : live S id m i = true) (hx : RVal c S (hp w) (.ref id m i j) v) :
    Yield P c S w (do pure (.value (← Instr.fieldAt t v f))) S (.ref id m i (j + off)) := by
  obtain ⟨_,h1⟩ := one_of_ref hx
  obtain ⟨o,rfl,h2⟩ := ref_cases h1 hl
  refine yield_pure ok (v := .pointer (some ⟨(c.L id).blk,o + (j + off),none⟩)) (by rw [run_fieldAt hf,add_off,Nat.add_assoc]) ⟨rfl,_,rfl,rfl,h2 _⟩
theorem faddrI_yield (ok : StOK c S (hp w) fp) {t : TypeId} {f off ft cs j v} (hf : fieldOf P t f = some (off,ft)) (hx : RVal c S (hp w) (.iref cs j) v) :
    Yield P c S w (do pure (.value (← Instr.fieldAt t v f))) S (.iref cs (j + off)) := by
  obtain ⟨h0,g,o,cur,e,fr,ws,h1,h2⟩ := hx
  have hv : v = .pointer (some ⟨g,o + j,none⟩) := by simpa using h1
  subst hv
  exact yield_pure ok (by rw [run_fieldAt hf,add_off,Nat.add_assoc]) ⟨rfl,g,o,cur,e,fr,ws,rfl,h2⟩
theorem ib_iff {i : Int} {n : Nat} : ib i n = true ↔ 0 ≤ i ∧ i < n := by simp [ib]
theorem run_indexSl {t e : TypeId} {i : TypeInfo} {es : Nat} {a : Addr} {n cap : Nat} {q : Int} (ht : elemOfS P t = some (e,i)) (hes : i.size = es) (hq : ib q n = true) :
    (Instr.indexAt t (.slice (some a) n cap) (.int .i64 q)).run P w = .ok (.pointer (some (a.add (q.toNat * es)))) w := by
  unfold elemOfS at ht
  split at ht
  · rename_i e' hu
    split at ht
    · rename_i i' hi
      simp only [Option.some.injEq,Prod.mk.injEq] at ht
      obtain ⟨rfl,rfl⟩ := ht
      have := ib_iff.1 hq
      simp [Instr.indexAt,run_underlying hu,asIntOf,this,sizeOf,typeInfo,hi,hes]
    · cases ht
  · cases ht
theorem iaddrS_yield (ok : StOK c S (hp w) fp) {t e : TypeId} {ti : TypeInfo} {es : Nat} {xs : List PV} {q : Int} {x : PV} {v u} (ht : elemOfS P t = some (e,ti)) (hes : ti.size = es) (hq : ib q xs.length = true)
    (hx : xs[q.toNat]? = some x) (hv : RVal c S (hp w) (.sl false es xs) v) (hu : RVal c S (hp w) (.i q) u) :
    Yield P c S w (do pure (.value (← Instr.indexAt t v u))) S (.iref x.cells 0) := by
  rw [sc_eq hu]
  obtain ⟨t1,hk,_,A,cp,e1,r⟩ := hv
  have hv : v = .slice A xs.length cp := by simpa using e1
  subst hv
  rcases r with r | ⟨g,off,cur,et,fr,ws,h1,hcp,h2,h4,h5⟩
  · subst r; simp at hx
  · subst h1
    obtain ⟨vs,f,r1,r2,r3,r4⟩ := Rs_elem hk h4 hx
    obtain ⟨hkx,hfx⟩ := hk x (List.mem_of_getElem? hx)
    obtain ⟨q1,q2⟩ := Rs_cells_of_R hfx r1
    have hf : f = [] := by
      cases f with
      | nil => rfl
      | cons b f => exact absurd (r4 b List.mem_cons_self) (by simp)
    subst hf
    refine yield_pure ok (v := .pointer (some ⟨g,off + q.toNat * es + 0,none⟩)) (by rw [run_indexSl ht hes hq,add_off]; rfl) ⟨rfl,g,off + q.toNat * es,cur,et,fr,vs,rfl,h2,q1, ?_,q2, ?_⟩
    · have : tree x = true := by
        have : ∀ (ys : List PV),trees ys = true → ∀ y ∈ ys,tree y = true := by
          intro ys
          induction ys with
          | nil => intro _ y hy; cases hy
          | cons z zs ih =>
            intro h y hy
            simp only [trees,Bool.and_eq_true] at h
            rcases List.mem_cons.1 hy with rfl | hy
            · exact h.1
            · exact ih h.2 y hy
        exact this xs t1 x (List.mem_of_getElem? hx)
      cases x <;> first | (simp [PV.cells,trees,tree] at this ⊢; done) | (simpa [PV.cells,trees,tree] using this)
    · have hlen := (R_len hfx r1).1
      apply List.ext_getElem?
      intro j
      rw [List.getElem?_take]
      by_cases hj : j < x.cells.length
      · rw [if_pos hj]
        have hjv : j < vs.length := by omega
        have h6 := r3 j vs[j] (List.getElem?_eq_getElem hjv)
        rw [← h5,List.getElem?_take] at h6
        split at h6
        · rw [List.getElem?_drop] at h6 ⊢
          rw [List.getElem?_eq_getElem hjv,← h6]; congr 1; omega
        · cases h6
      · rw [if_neg hj,List.getElem?_eq_none (by omega)]
theorem iaddrO_yield (ok : StOK c S (hp w) fp) {t e : TypeId} {ti : TypeInfo} {es : Nat} {id : Id} {xs : List PV} {q : Int} {v u} (ht : elemOfS P t = some (e,ti)) (hes : ti.size = es) (hs : S id = some (.row es xs))
    (hq : ib q xs.length = true) (hv : RVal c S (hp w) (.own id xs.length) v) (hu : RVal c S (hp w) (.i q) u) :
    Yield P c S w (do pure (.value (← Instr.indexAt t v u))) S (.ref id xs.length q.toNat 0) := by
  rw [sc_eq hu]
  obtain ⟨_,v',e1,h1,h2⟩ := hv
  have : v = v' := by simpa using e1
  subst this
  simp only [OwnOK,hs] at h2
  have h3 := h2.2 trivial
  have hq' := ib_iff.1 hq
  obtain ⟨_,hk,ro⟩ := ok.ob id _ hs
  rcases ro with ro | ⟨fq,hb,_⟩
  · rw [ro.1] at hq'; simp at hq'; omega
  · rw [h3,hb]
    refine yield_pure ok (v := .pointer (some ⟨(c.L id).blk,q.toNat * es + 0,none⟩)) (by rw [run_indexSl ht hes hq,add_off]; simp) ⟨rfl,_,rfl,rfl, ?_⟩
    simp only [RefOK,hs]
    exact ⟨Nat.le_refl _,fun _ => trivial⟩
theorem iaddrF_yield (ok : StOK c S (hp w) fp) {t e : TypeId} {ti : TypeInfo} {es : Nat} {id : Id} {xs : List PV} {q : Int} {x v u} (ht : elemOfS P t = some (e,ti)) (hes : ti.size = es) (hs : S id = some (.frz es xs))
    (hq : ib q xs.length = true) (hx : xs[q.toNat]? = some x) (hv : RVal c S (hp w) (.own id xs.length) v) (hu : RVal c S (hp w) (.i q) u) :
    Yield P c S w (do pure (.value (← Instr.indexAt t v u))) S (.iref x.cells 0) := by
  refine iaddrS_yield ok ht hes hq hx ?_ hu
  obtain ⟨_,v',e1,h1,h2⟩ := hv
  have : v = v' := by simpa using e1
  subst this
  simp only [OwnOK,hs] at h2
  have h3 := h2.2 trivial
  obtain ⟨t1,hk,_,ro⟩ := ok.ob id _ hs
  rcases ro with ro | ⟨cur,et,ws,hb,hcp,hF,hr,htk⟩
  · rw [ro.1] at hx; simp at hx
  · exact ⟨t1,hk,rfl,(c.L id).base,(c.L id).cap,by rw [h3],.inr ⟨(c.L id).blk,0,cur,et,(0,0),ws,hb,hcp,hF,hr,by simpa using htk⟩⟩
theorem len_yield (ok : StOK c S (hp w) fp) {t ty : TypeId} {n : Nat} {v} (ht : isSl P t = true) (hv : ∃ A cp,v = .slice A n cp) :
    Yield P c S w (do pure (.value (← Builtin.len_ #[t] ty #[v]))) S (.i n) := by
  obtain ⟨A,cp,rfl⟩ := hv
  unfold isSl at ht
  split at ht
  · rename_i e hu
    exact yield_pure ok (by simp [Builtin.len_,run_underlying hu,goInt]) (sc_of rfl)
  · cases ht
theorem lens_yield (ok : StOK c S (hp w) fp) {t ty : TypeId} {b : ByteArray} {v} (ht : isStr P t = true) (hv : RVal c S (hp w) (.s b) v) :
    Yield P c S w (do pure (.value (← Builtin.len_ #[t] ty #[v]))) S (.i b.size) := by
  rw [sc_eq hv]
  unfold isStr at ht
  split at ht
  · rename_i hu
    exact yield_pure ok (by simp [Builtin.len_,run_underlying hu,goInt]) (sc_of rfl)
  · cases ht
end
end Go.Am
end
section
/- Operations that make objects,and the store. -/
set_option linter.unusedSimpArgs false
set_option linter.unusedVariables false
namespace Go.Am
open Go.RowKit
section
variable {P : Program} {c : Ctx} {S : Sto} {w : World} {fp : Id → List Nat}
theorem run_indexArr {t e : TypeId} {n es : Nat} {a : Addr} {q : Int} (ht : arrOf P t = some (n,e,es)) (hq : ib q n = true) :
    (Instr.indexAt t (.pointer (some a)) (.int .i64 q)).run P w = .ok (.pointer (some (a.add (q.toNat * es)))) w := by
  unfold arrOf at ht
  split at ht
  · rename_i n' e' hu
    split at ht
    · rename_i i' hi
      simp only [Option.some.injEq,Prod.mk.injEq] at ht
      obtain ⟨rfl,rfl,rfl⟩ := ht
      have := ib_iff.1 hq
      simp [Instr.indexAt,run_underlying hu,asIntOf,this,sizeOf,typeInfo,hi,Instr.sureAddr]
    · cases ht
  · cases ht
theorem iarr_yield (ok : StOK c S (hp w) fp) {t e : TypeId} {n es : Nat} {id a b j q v u} (ht : arrOf P t = some (n,e,es)) (hl : live S id a b = true) (hq : ib q n = true)
    (hx : RVal c S (hp w) (.ref id a b j) v) (hu : RVal c S (hp w) (.i q) u) : Yield P c S w (do pure (.value (← Instr.indexAt t v u))) S (.ref id a b (j + q.toNat * es)) := by
  rw [sc_eq hu]
  obtain ⟨_,h1⟩ := one_of_ref hx
  obtain ⟨o,rfl,h2⟩ := ref_cases h1 hl
  exact yield_pure ok (v := .pointer (some ⟨(c.L id).blk,o + (j + q.toNat * es),none⟩)) (by rw [run_indexArr ht hq,add_off,Nat.add_assoc]) ⟨rfl,_,rfl,rfl,h2 _⟩
theorem iarrI_yield (ok : StOK c S (hp w) fp) {t e : TypeId} {n es : Nat} {cs j q v u} (ht : arrOf P t = some (n,e,es)) (hq : ib q n = true)
    (hx : RVal c S (hp w) (.iref cs j) v) (hu : RVal c S (hp w) (.i q) u) : Yield P c S w (do pure (.value (← Instr.indexAt t v u))) S (.iref cs (j + q.toNat * es)) := by
  rw [sc_eq hu]
  obtain ⟨h0,g,o,cur,et,fr,ws,h1,h2⟩ := hx
  have hv : v = .pointer (some ⟨g,o + j,none⟩) := by simpa using h1
  subst hv
  exact yield_pure ok (by rw [run_indexArr ht hq,add_off,Nat.add_assoc]) ⟨rfl,g,o,cur,et,fr,ws,rfl,h2⟩
theorem run_part {t : TypeId} {k : Option Nat} {cs : List PV} {vs : List Value} {off : Nat} {x : PV} (hk : kindOf P t = some k) (hc : cs.all cellP = true) (r : Rs c S (hp w) cs vs []) (e : takeC k cs off = some x) :
    ∃ u,(part t vs.toArray off).run P w = .ok u w ∧ RVal c S (hp w) x u := by
  obtain ⟨h1,h2⟩ := Rs_takeC hc r e
  cases k with
  | none =>
    obtain ⟨u,hu,hcp,hr⟩ := h1 rfl
    refine ⟨u, ?_,RVal_of_R hcp hr⟩
    unfold kindOf at hk
    split at hk <;> simp at hk
    rename_i d i g1 g2 n1 n2
    have hi : (isAgg t).run P w = .ok false w := by
      simp only [isAgg,Sem.run_bind,run_underlying n1 w,Result.andThen_ok]
      rfl
    simp [part,hi,hu]
  | some m =>
    obtain ⟨us,rfl,hl,hu,hr⟩ := h2 m rfl
    obtain ⟨g1,g2⟩ := isAgg_true (w := w) hk
    refine ⟨.agg us.toArray, ?_,⟨us,rfl,hr⟩⟩
    have hlv := (Rs_cells_len hc r).1
    simp only [takeC] at e
    split at e
    · rename_i hle
      have : vs.toArray.extract off (off + m) = us.toArray := by
        apply Array.ext'
        simp only [Array.toList_extract,List.extract_eq_take_drop]
        apply List.ext_getElem?
        intro i
        by_cases hi : i < m
        · have := hu i us[i] (List.getElem?_eq_getElem (by omega))
          rw [List.getElem?_take,if_pos (by omega),List.getElem?_drop]
          simp only [this]
          rw [List.getElem?_eq_getElem (by omega)]
        · rw [List.getElem?_eq_none (by simp; omega),List.getElem?_eq_none (by omega)]
      have h3 : List.take m (List.drop off vs) = us := by simpa using congrArg Array.toList this
      simp [part,g1,g2,h3]
    · cases e
theorem idx_yield (ok : StOK c S (hp w) fp) {t e : TypeId} {n es : Nat} {k cs q x v u} (ht : arrOf P t = some (n,e,es)) (hk : kindOf P e = some k) (hq : ib q n = true) (he : takeC k cs (q.toNat * es) = some x)
    (hx : RVal c S (hp w) (.agg cs) v) (hu : RVal c S (hp w) (.i q) u) : Yield P c S w (do pure (.value (← Instr.index t v u))) S x := by
  rw [sc_eq hu]
  obtain ⟨vs,rfl,hc,r⟩ := hx
  obtain ⟨z,h1,h2⟩ := run_part (P := P) hk hc r he
  unfold arrOf at ht
  split at ht
  · rename_i n' e' hun
    split at ht
    · rename_i i' hi
      simp only [Option.some.injEq,Prod.mk.injEq] at ht
      obtain ⟨rfl,rfl,rfl⟩ := ht
      have := ib_iff.1 hq
      exact yield_pure ok (by simp [Instr.index,run_underlying hun,asIntOf,this,sizeOf,typeInfo,hi,h1]) h2
    · cases ht
  · cases ht
theorem fld_yield (ok : StOK c S (hp w) fp) {t ft : TypeId} {f off : Nat} {k cs x v} (ht : fieldOf P t f = some (off,ft)) (hk : kindOf P ft = some k) (he : takeC k cs off = some x)
    (hx : RVal c S (hp w) (.agg cs) v) : Yield P c S w (do pure (.value (← Instr.field t v f))) S x := by
  obtain ⟨vs,rfl,hc,r⟩ := hx
  obtain ⟨z,h1,h2⟩ := run_part (P := P) hk hc r he
  unfold fieldOf at ht
  split at ht
  · rename_i fields hun
    split at ht
    · rename_i fd hfd
      split at ht
      · rename_i i hi
        split at ht
        · cases ht
        · simp only [Option.some.injEq,Prod.mk.injEq] at ht
          obtain ⟨rfl,rfl⟩ := ht
          exact yield_pure ok (by simp [Instr.field,run_underlying hun,hfd,asAgg,h1]) h2
      · cases ht
    · cases ht
  · cases ht
theorem RV1_RVal {x v} (h : RV1 c S (hp w) x v) (hn : ∀ ps,x ≠ .tup ps) : RVal c S (hp w) x v := by
  cases x <;> first | exact h | exact absurd rfl (hn _)
theorem RV1s_get : ∀ {xs : List PV} {vs : List Value} {i : Nat} {x : PV},RV1s c S (hp w) xs vs → xs[i]? = some x → ∃ v,vs[i]? = some v ∧ RV1 c S (hp w) x v
  | [],_,_,_,_,e => by simp at e
  | y :: ys,vs,0,x,⟨v,ws,e1,r1,r2⟩,e => by
    simp only [List.getElem?_cons_zero,Option.some.injEq] at e
    subst e; subst e1
    exact ⟨v,rfl,r1⟩
  | y :: ys,vs,i + 1,x,⟨v,ws,e1,r1,r2⟩,e => by
    simp only [List.getElem?_cons_succ] at e
    subst e1
    obtain ⟨u,h1,h2⟩ := RV1s_get r2 e
    exact ⟨u,by simpa using h1,h2⟩
theorem ext_yield (ok : StOK c S (hp w) fp) {i : Nat} {ps : List PV} {x v} (he : ps[i]? = some x) (hn : ∀ qs,x ≠ .tup qs) (hx : RVal c S (hp w) (.tup ps) v) : Yield P c S w (do pure (.value (← Instr.extract v i))) S x := by
  obtain ⟨vs,rfl,r⟩ := hx
  obtain ⟨u,h1,h2⟩ := RV1s_get r he
  exact yield_pure ok (by simp [Instr.extract,h1]) (RV1_RVal h2 hn)
theorem conv_yield (ok : StOK c S (hp w) fp) {s t : TypeId} {k k' : IntKind} {n : Int} {v} (hs : (P.underlying s).isSome = true) (ht : P.underlying t = some (.int k)) (hx : RVal c S (hp w) (.sc (.int k' n)) v) :
    Yield P c S w (do pure (.value (← convert s t v))) S (.sc (.int k (k.wrap n))) := by
  rw [sc_eq hx]
  obtain ⟨d,hd⟩ := Option.isSome_iff_exists.mp hs
  exact yield_pure ok (by simp [convert,run_underlying hd,run_underlying ht,Conv.intToInt]) (sc_of rfl)
theorem hp_alloc_old {o : Obj} {b : Nat} (h : b ≠ w.heap.size) : hp (w.alloc o) b = hp w b := by
  simp only [hp,World.alloc,Array.getElem?_push,if_neg h]
theorem hp_alloc_new {o : Obj} : hp (w.alloc o) w.heap.size = some o := heap_alloc_new w o
theorem hp_lt {b : Nat} {o : Obj} (h : hp w b = some o) : b < w.heap.size := (Array.getElem?_eq_some_iff.1 h).1
theorem fz_alloc (w : World) (cs : Array Value) (e : TypeId) (a : Addr) : (w.alloc (.cells cs e)).frozen? a = w.frozen? a := by
  simp only [World.frozen?,World.alloc,Array.getElem?_push]
  by_cases h : a.block = w.heap.size
  · rw [if_pos h]
    have : w.heap[a.block]? = none := Array.getElem?_eq_none (by omega)
    rw [this]
    simp
  · rw [if_neg h]
theorem Grew.alloc (w : World) (o : Obj) (ho : ∃ cs e,o = .cells cs e (0,0) := by exact ⟨_,_,rfl⟩) : Grew w (w.alloc o) := ⟨rfl,rfl,rfl,by simp,fun a _ => by obtain ⟨cs,e,rfl⟩ := ho; exact fz_alloc w cs e a,Nat.le_refl _⟩
theorem RO_lt {id ob f} (r : RO c S (hp w) id ob f) (hR : ∀ (xs : List PV) vs fq,Rs c S (hp w) xs vs fq → ∀ b ∈ fq,b < w.heap.size) : ∀ b ∈ f,b < w.heap.size := by
  intro b hb
  cases ob with
  | box cs => obtain ⟨cur,e,h1,_,_,h4,_⟩ := r; rw [h4] at hb; simp at hb; subst hb; exact hp_lt h1
  | row k xs =>
    obtain ⟨_,_,r⟩ := r
    rcases r with r | ⟨fq,h1,⟨cur,e,ws,g1,g2,g3,g4,g5,g6⟩,h3⟩
    · rw [r.2.2] at hb; cases hb
    · rw [h3] at hb
      rcases List.mem_cons.1 hb with rfl | hb
      · exact hp_lt g1
      · exact hR _ _ _ g5 b hb
  | frz k xs => obtain ⟨_,_,h,_⟩ := r; rw [h] at hb; cases hb
  | dead => simp only [RO] at r; rw [r] at hb; cases hb
  | map s es =>
    obtain ⟨⟨ms,clock,es',h1,_⟩,h2⟩ := r
    rw [h2] at hb
    simp only [List.mem_singleton] at hb
    subst hb
    exact hp_lt h1
mutual
theorem R_lt : ∀ (x : PV) (vs : List Value) (f : List Nat),R c S (hp w) x vs f → ∀ b ∈ f,b < w.heap.size
  | .undef,_,_,r,b,hb => by rw [r.1] at hb; cases hb
  | .sc _,_,_,r,b,hb => by rw [r.1] at hb; cases hb
  | .nils,_,_,r,b,hb => by rw [r.1] at hb; cases hb
  | .sl true k xs,vs,f,r,b,hb => by
    simp only [R] at r
    obtain ⟨_,_,A,cp,_,r⟩ := r
    rcases r with r | ⟨g,cur,et,ws,fq,h1,h2,h3,h4,h5,h7,h8,h9⟩
    · rw [r.2.2] at hb; cases hb
    · rw [h9] at hb
      rcases List.mem_cons.1 hb with rfl | hb
      · exact hp_lt h2
      · exact Rs_lt xs ws fq h7 b hb
  | .sl false k xs,vs,f,r,b,hb => by simp only [R] at r; rw [r.2.2.1] at hb; cases hb
  | .own _ _,_,_,r,b,hb => by rw [r.1] at hb; cases hb
  | .ref _ _ _ _,_,_,r,b,hb => by rw [r.1] at hb; cases hb
  | .sub _ _ _,_,_,r,b,hb => by rw [r.1] at hb; cases hb
  | .iref _ _,_,_,r,b,hb => by simp only [R] at r; rw [r.1] at hb; cases hb
  | .mp _,_,_,r,b,hb => by rw [r.1] at hb; cases hb
  | .clo _ _,_,_,r,b,hb => by simp only [R] at r; rw [r.1] at hb; cases hb
  | .agg cs,vs,f,r,b,hb => by simp only [R] at r; exact Rs_lt cs vs f r.2 b hb
  | .tup _,_,_,r,_,_ => by simp only [R] at r
  | .bx _,_,_,r,_,_ => by simp only [R] at r
  | .non,_,_,r,_,_ => by simp only [R] at r
theorem Rs_lt : ∀ (xs : List PV) (vs : List Value) (f : List Nat),Rs c S (hp w) xs vs f → ∀ b ∈ f,b < w.heap.size
  | [],_,_,r,b,hb => by simp only [Rs] at r; rw [r.2] at hb; cases hb
  | x :: xs,_,_,r,b,hb => by
    simp only [Rs] at r
    obtain ⟨v1,v2,f1,f2,_,rfl,r1,r2⟩ := r
    rcases List.mem_append.1 hb with hb | hb
    · exact R_lt x v1 f1 r1 b hb
    · exact Rs_lt xs v2 f2 r2 b hb
end
theorem StOK.lt (ok : StOK c S (hp w) fp) {id ob b} (hs : S id = some ob) (hb : b ∈ fp id) : b < w.heap.size := RO_lt (ok.ob id ob hs) (fun xs vs fq r => Rs_lt xs vs fq r) b hb
def setL (c : Ctx) (id : Id) (l : Loc) : Ctx := { c with L := fun x => if x = id then l else c.L x }
def setF (fp : Id → List Nat) (id : Id) (f : List Nat) : Id → List Nat := fun x => if x = id then f else fp x
theorem StepOB.rfl' {id ob} {c c' : Ctx} (h : c'.L id = c.L id) : StepOB c c' id ob ob := by cases ob <;> simp [StepOB,h]
theorem Adv.new {id ob l} (hn : S id = none) : Adv c (setL c id l) S (upd S id ob) :=
  ⟨fun _ _ h => h,rfl,fun x o h => by
    have hne : x ≠ id := fun e => by rw [e,hn] at h; cases h
    exact ⟨o,by simp [upd,hne,h],StepOB.rfl' (by simp [setL,hne])⟩⟩
theorem StOK.new (ok : StOK c S (hp w) fp) {id ob l o f} (hn : S id = none) (hro : RO (setL c id l) (upd S id ob) (hp (w.alloc o)) id ob f) (hnd : f.Nodup)
    (hf : ∀ b ∈ f,c.U b ∧ ∀ id' ob',S id' = some ob' → b ∉ fp id') : StOK (setL c id l) (upd S id ob) (hp (w.alloc o)) (setF fp id f) := by
  refine ok.step (Adv.new hn) (fun x => x = id) ?_ ?_ ?_ ok.dis
  · intro x ob' hx hne
    have hx' : S x = some ob' := by simpa [upd,hne] using hx
    refine ⟨hx',by simp [setL,hne],by simp [setF,hne],fun b hb => ⟨hp_alloc_old ?_,ok.nF x ob' hx' b hb⟩⟩
    have := ok.lt hx' hb
    omega
  · rintro x ob' hx rfl
    have he : ob' = ob := by simpa [upd,eq_comm] using hx
    subst he
    refine ⟨by simpa [setF] using hro,by simpa [setF] using hnd,fun b hb => (hf b (by simpa [setF] using hb)).1,fun id' ob'' hne hs b hb => ?_⟩
    simp only [setF,if_true] at hb
    simp only [setF,hne,if_false]
    exact (hf b hb).2 id' ob'' (by simpa [upd,hne] using hs)
  · intro b o' h
    have := ok.okF b o' h
    rw [hp_alloc_old (by have := hp_lt this; omega)]; exact this
theorem fresh_block (ok : StOK c S (hp w) fp) : c.U w.heap.size ∧ ∀ id' ob',S id' = some ob' → w.heap.size ∉ fp id' := by
  refine ⟨?_,fun id' ob' hs hb => by have := ok.lt hs hb; omega⟩
  constructor
  · cases h : c.F w.heap.size with
    | none => rfl
    | some o => have := hp_lt (ok.okF _ _ (.inl h)); omega
  · cases h : c.X w.heap.size with
    | none => rfl
    | some o => have := hp_lt (ok.okF _ _ (.inr h)); omega
theorem newbox {id : Id} {t : TypeId} {cs : List PV} {vs : List Value} (ok : StOK c S (hp w) fp) (hn : S id = none) (hc : cs.all cellP = true) (hup : upTos id.1 cs = true) (r : Rs c S (hp w) cs vs []) :
    ∃ c' fp',StOK c' (upd S id (.box cs)) (hp (w.alloc (.cells vs.toArray t))) fp' ∧ Adv c c' S (upd S id (.box cs)) ∧
      RVal c' (upd S id (.box cs)) (hp (w.alloc (.cells vs.toArray t))) (.ref id 1 0 0) (.pointer (some ⟨w.heap.size,0,none⟩)) := by
  have fb := fresh_block ok
  have ha : Adv c (setL c id ⟨w.heap.size,none,0⟩) S (upd S id (.box cs)) := Adv.new hn
  refine ⟨setL c id ⟨w.heap.size,none,0⟩,setF fp id [w.heap.size],ok.new hn ?_ (by simp) (fun b hb => ?_),ha,⟨rfl,_,rfl,rfl, ?_⟩⟩
  · refine ⟨vs.toArray,t, ?_,hc,Rs.adv ha cs _ [] (fun b hb => by cases hb) (by simpa using r), ?_⟩
    · simp only [setL,if_true]; exact hp_alloc_new
    · simp [setL,hup]
  · simp only [List.mem_singleton] at hb; subst hb; exact fb
  · simp [RefOK,upd,setL]
theorem cells_RVal {x : PV} {v : Value} (hc : x.cells.all cellP = true) (hu : x ≠ .undef) (r : RVal c S (hp w) x v) : Rs c S (hp w) x.cells v.cells.toList [] := by
  cases x with
  | agg cs => obtain ⟨vs,rfl,h1,h2⟩ := r; simpa [PV.cells,Value.cells] using h2
  | undef => exact absurd rfl hu
  | tup ps => simp [PV.cells,cellP] at hc
  | bx ps => simp [PV.cells,cellP] at hc
  | non => simp [PV.cells,cellP] at hc
  | _ =>
    have ho := R_one (by rfl) r
    obtain ⟨u,e,ho⟩ := ho
    have : v = u := by simpa using e
    subst this
    have hv : v.cells = #[v] := by cases v <;> first | rfl | (simp [Value.oneCell'] at ho)
    rw [hv]
    exact ⟨[v],[],[],[],rfl,rfl,r,rfl,rfl⟩
theorem run_newVar (t : TypeId) (v : Value) : (newVar t v).run P w = .ok ⟨w.heap.size,0,none⟩ (w.alloc (.cells v.cells t)) := by
  simp [newVar,newRow]
theorem box_yield (ok : StOK c S (hp w) fp) {t : TypeId} {id : Id} {x : PV} {v} (hlv : ∀ i ob,S i = some ob → i.1 ≤ id.1) (hn : S id = none) (hc : x.cells.all cellP = true) (hu : x ≠ .undef) (r : RVal c S (hp w) x v) :
    Yield P c S w (do pure (.value (← Instr.box t v))) (upd S id (.box x.cells)) (.ref id 1 0 0) := by
  obtain ⟨c',fp',h1,h2,h3⟩ := newbox (t := t) ok hn hc (Rs.up hlv _ _ _ (cells_RVal hc hu r)) (cells_RVal hc hu r)
  exact ⟨.value (.pointer (some ⟨w.heap.size,0,none⟩)),_,w.alloc (.cells v.cells t),c',fp',by simp [Instr.box,run_newVar],.inl rfl,by simpa using h1,h2,by simpa using h3,Grew.alloc _ _⟩
def zeroOK (P : Program) (t : TypeId) (z : List PV) : Bool :=
  match P.info? t with
  | some i => match i.zero with | some v => litsOK z v.cells.toList | none => false
  | none => false
theorem alloc_yield (ok : StOK c S (hp w) fp) {t : TypeId} {id : Id} {z : List PV} (hn : S id = none) (hz : zeroOK P t z = true) :
    Yield P c S w (do pure (.value (← Instr.alloc t true (.tuple #[])))) (upd S id (.box z)) (.ref id 1 0 0) := by
  unfold zeroOK at hz
  split at hz
  · rename_i i hi
    split at hz
    · rename_i v hv
      obtain ⟨r,hc,ht⟩ := litsOK_R (c := c) (S := S) (h := hp w) hz
      obtain ⟨c',fp',h1,h2,h3⟩ := newbox (t := t) ok hn hc (upTos_trees ht) r
      exact ⟨.value (.pointer (some ⟨w.heap.size,0,none⟩)),_,w.alloc (.cells v.cells t),c',fp',by simp [Instr.alloc,run_newVar,zeroValue,typeInfo,hi,hv],.inl rfl,by simpa using h1,h2,by simpa using h3,Grew.alloc _ _⟩
    · cases hz
  · cases hz
end
end Go.Am
end
section
/- Putting values into rows: what becomes of the objects. -/
set_option linter.unusedSimpArgs false
set_option linter.unusedVariables false
namespace Go.Am
open Go.RowKit
section
variable {c : Ctx} {S : Sto} {w : World} {fp : Id → List Nat}
def Free (c : Ctx) (S : Sto) (fp : Id → List Nat) (f : List Nat) : Prop := f.Nodup ∧ ∀ b ∈ f,c.U b ∧ ∀ id ob,S id = some ob → b ∉ fp id
theorem Free.nil : Free c S fp [] := ⟨List.nodup_nil,fun b hb => by cases hb⟩
def addF (c : Ctx) (f : List Nat) (h : Hp) : Ctx := { c with F := fun b => if b ∈ f then h b else c.F b }
theorem StepOB.row_frz {id : Id} {c c' : Ctx} {k : Nat} {xs : List PV} (h : c'.L id = c.L id) : StepOB c c' id (.row k xs) (.frz k (fals xs)) := by
  simp [StepOB,fals_length,h]
theorem StOK.freeze (ok : StOK c S (hp w) fp) {id k xs} (hs : S id = some (.row k xs)) :
    StOK (addF c (fp id) (hp w)) (upd S id (.frz k (fals xs))) (hp w) (setF fp id []) ∧ Adv c (addF c (fp id) (hp w)) S (upd S id (.frz k (fals xs))) := by
  have hF : ∀ b o,c.F b = some o → (addF c (fp id) (hp w)).F b = some o := by
    intro b o h
    simp only [addF]
    split
    · exact ok.okF b o (.inl h)
    · exact h
  have ha : Adv c (addF c (fp id) (hp w)) S (upd S id (.frz k (fals xs))) := by
    refine ⟨hF,rfl,fun x o hx => ?_⟩
    by_cases hxi : x = id
    · subst hxi
      rw [hs] at hx
      simp only [Option.some.injEq] at hx
      subst hx
      exact ⟨_,by simp [upd],StepOB.row_frz rfl⟩
    · exact ⟨o,by simp [upd,hxi,hx],StepOB.rfl' rfl⟩
  refine ⟨ok.step ha (fun x => x = id) ?_ ?_ ?_ ?_,ha⟩
  · intro x o hx hne
    have hx' : S x = some o := by simpa [upd,hne] using hx
    refine ⟨hx',rfl,by simp [setF,hne],fun b hb => ⟨rfl, ?_,(ok.nF x o hx' b hb).2⟩⟩
    simp only [addF]
    rw [if_neg (fun hb' => ok.dj x id o _ hx' hs hne b hb hb')]
    exact (ok.nF x o hx' b hb).1
  · rintro x o hx rfl
    have he : o = .frz k (fals xs) := by simpa [upd,eq_comm] using hx
    subst he
    refine ⟨?_,by simp [setF],fun b hb => by simp [setF] at hb,fun _ _ _ _ b hb => by simp [setF] at hb⟩
    obtain ⟨t,hk,ro⟩ := ok.ob x _ hs
    refine ⟨by rw [trees_fal]; exact t,Ls_fals hk,by simp [setF], ?_⟩
    rcases ro with ro | ⟨fq,h1,⟨cur,e,ws,g1,g2,g3,g4,g5,g6⟩,h3⟩
    · exact .inl ⟨fals_isEmpty ro.1,ro.2.1⟩
    · refine .inr ⟨cur,e,ws,h1,by rw [fals_length]; exact g2, ?_, ?_,by rw [fals_length]; exact g6⟩
      · simp only [addF]
        rw [if_pos (by rw [h3]; exact List.mem_cons_self)]; exact g1
      · exact Rs.fal hF xs ws fq t (fun b hb => by simp only [addF]; rw [if_pos (by rw [h3]; exact List.mem_cons_of_mem _ hb)]) g5
  · intro b o h
    simp only [addF] at h
    rcases h with h | h
    · split at h
      · exact h
      · exact ok.okF b o (.inl h)
    · exact ok.okF b o (.inr h)
  · intro b o h
    simp only [addF] at h ⊢
    split at h
    · rename_i hb
      exact (ok.nF id _ hs b hb).2
    · exact ok.dis b o h
theorem StOK.kill (ok : StOK c S (hp w) fp) {id ob} (hs : S id = some ob) : StOK c (upd S id .dead) (hp w) (setF fp id []) ∧ Adv c c S (upd S id .dead) := by
  have ha : Adv c c S (upd S id .dead) := by
    refine ⟨fun _ _ h => h,rfl,fun x o hx => ?_⟩
    by_cases hxi : x = id
    · subst hxi; exact ⟨.dead,by simp [upd],by cases o <;> simp [StepOB]⟩
    · exact ⟨o,by simp [upd,hxi,hx],StepOB.rfl' rfl⟩
  refine ⟨ok.step ha (fun x => x = id) ?_ ?_ ok.okF ok.dis,ha⟩
  · intro x o hx hne
    have hx' : S x = some o := by simpa [upd,hne] using hx
    exact ⟨hx',rfl,by simp [setF,hne],fun b hb => ⟨rfl,ok.nF x o hx' b hb⟩⟩
  · rintro x o hx rfl
    have he : o = .dead := by simpa [upd,eq_comm] using hx
    subst he
    exact ⟨by simp [RO,setF],by simp [setF],fun b hb => by simp [setF] at hb,fun _ _ _ _ b hb => by simp [setF] at hb⟩
theorem row_uniq (ok : StOK c S (hp w) fp) {id k xs v} (hs : S id = some (.row k xs)) (hv : OwnOK c S id xs.length v) {c' S'} (hF : ∀ b o,c.F b = some o → c'.F b = some o) : R c' S' (hp w) (.sl true k xs) [v] (fp id) := by
  obtain ⟨t,hk,ro⟩ := ok.ob id _ hs
  simp only [OwnOK,hs] at hv
  have h3 := hv.2 trivial
  simp only [R]
  refine ⟨t,hk,(c.L id).base,(c.L id).cap,by rw [h3], ?_⟩
  rcases ro with ro | ⟨fq,h1,⟨cur,e,ws,g1,g2,g3,g4,g5,g6⟩,hfp⟩
  · exact .inl ⟨ro.1,ro.2.1,ro.2.2⟩
  · exact .inr ⟨_,cur,e,ws,fq,h1,g1,g2,g3,g4,Rs.data hF xs ws fq t (fun _ _ => rfl) g5,g6,hfp⟩
theorem row_shr (ok : StOK c S (hp w) fp) {id k xs v} (hs : S id = some (.frz k xs)) (hv : OwnOK c S id xs.length v) : R c S (hp w) (.sl false k xs) [v] [] := by
  obtain ⟨t,hk,_,ro⟩ := ok.ob id _ hs
  simp only [OwnOK,hs] at hv
  have h3 := hv.2 trivial
  simp only [R]
  refine ⟨t,hk,trivial,(c.L id).base,(c.L id).cap,by rw [h3], ?_⟩
  rcases ro with ro | ⟨cur,e,ws,h1,hF,hr,htk⟩
  · exact .inl ro.1
  · exact .inr ⟨_,0,cur,e,(0,0),ws,h1,hF,hr,by simpa using htk⟩
theorem own_of {id n v} (r : R c S (hp w) (.own id n) [v] []) : OwnOK c S id n v := by
  obtain ⟨_,u,e,_,h⟩ := r
  have : v = u := by simpa using e
  rw [this]; exact h
theorem upd_dom {id ob o} (hs : S id = some ob) : ∀ x ob',upds S [(id,o)] x = some ob' → ∃ ob'',S x = some ob'' := by
  intro x ob' h
  by_cases hx : x = id
  · subst hx; exact ⟨_,hs⟩
  · exact ⟨ob',by simpa [upds,upd,hx] using h⟩
structure Packed (mv : Bool) (c : Ctx) (S : Sto) (w : World) (fp : Id → List Nat) (ws : List (Id × OB)) (c' : Ctx) (fp' : Id → List Nat) (f : List Nat) : Prop where
  L : c'.L = c.L
  ok : StOK c' (upds S ws) (hp w) fp'
  adv : Adv c c' S (upds S ws)
  free : Free c' (upds S ws) fp' f
  fps : ∀ id,fp' id = fp id ∨ fp' id = []
  F : ∀ b,c.U b → c'.U b ∨ ∃ id ob,S id = some ob ∧ b ∈ fp id
  dom : ∀ id ob,upds S ws id = some ob → ∃ ob',S id = some ob'
  from' : ∀ b ∈ f,∃ id ob,S id = some ob ∧ b ∈ fp id
  shr : mv = false → f = []
theorem pack1_ok {mv : Bool} {x y : PV} {ws} {v : Value} (ok : StOK c S (hp w) fp) (r : R c S (hp w) x [v] []) (e : pack1 mv S x = some (y,ws)) :
    ∃ c' fp' f,Packed mv c S w fp ws c' fp' f ∧ R c' (upds S ws) (hp w) y [v] f ∧ tree y = true ∧ cellP y = true := by
  have same : ws = [] → y = x → tree x = true → cellP x = true → ∃ c' fp' f,Packed mv c S w fp ws c' fp' f ∧ R c' (upds S ws) (hp w) y [v] f ∧ tree y = true ∧ cellP y = true := by
    rintro rfl rfl t hc
    exact ⟨c,fp,[],⟨rfl,ok,Adv.refl _ _,Free.nil,fun _ => .inl rfl,fun b h => .inl h,fun _ _ h => ⟨_,h⟩,fun b hb => (by cases hb),fun _ => rfl⟩,r,t,hc⟩
  unfold pack1 at e
  split at e
  · simp only [Option.some.injEq,Prod.mk.injEq] at e
    exact same e.2.symm e.1.symm rfl rfl
  · simp only [Option.some.injEq,Prod.mk.injEq] at e
    exact same e.2.symm e.1.symm rfl rfl
  · rename_i k xs
    simp only [Option.some.injEq,Prod.mk.injEq] at e
    refine same e.2.symm e.1.symm ?_ rfl
    simp only [R] at r; exact r.1
  · rename_i id n
    have hv := own_of r
    split at e
    · rename_i k xs hs
      split at e
      · rename_i hn
        subst hn
        have t := (ok.ob id _ hs).1
        split at e
        · rename_i hmv
          simp only [Option.some.injEq,Prod.mk.injEq] at e
          obtain ⟨rfl,rfl⟩ := e
          obtain ⟨k1,k2⟩ := ok.kill hs
          refine ⟨c,setF fp id [],fp id,⟨rfl,k1,k2,⟨ok.nd id _ hs,fun b hb => ⟨ok.nF id _ hs b hb,fun x o hx hb' => ?_⟩⟩,fun x => ?_,fun b h => .inl h,upd_dom hs,fun b hb => ⟨id,_,hs,hb⟩,fun h => (by rw [h] at hmv; cases hmv)⟩,row_uniq ok hs hv (fun _ _ h => h),t,rfl⟩
          · by_cases hxi : x = id
            · subst hxi; simp [setF] at hb'
            · simp only [setF,hxi,if_false] at hb'
              have hx' : S x = some o := by simpa [upds,upd,hxi] using hx
              exact ok.dj id x _ o hs hx' (Ne.symm hxi) b hb hb'
          · by_cases hxi : x = id
            · exact .inr (by simp [setF,hxi])
            · exact .inl (by simp [setF,hxi])
        · rename_i hmv
          simp only [Option.some.injEq,Prod.mk.injEq] at e
          obtain ⟨rfl,rfl⟩ := e
          obtain ⟨k1,k2⟩ := ok.freeze hs
          refine ⟨addF c (fp id) (hp w),setF fp id [],[],⟨rfl,k1,k2,Free.nil,fun x => ?_,fun b h => ?_,upd_dom hs,fun b hb => (by cases hb),fun _ => rfl⟩, ?_,by simp only [tree]; rw [trees_fal]; exact t,rfl⟩
          · by_cases hxi : x = id
            · exact .inr (by simp [setF,hxi])
            · exact .inl (by simp [setF,hxi])
          · by_cases hb : b ∈ fp id
            · exact .inr ⟨id,_,hs,hb⟩
            · exact .inl ⟨by simp [addF,hb,h.1],h.2⟩
          · have hu := row_uniq ok hs hv (c' := c) (S' := S) (fun _ _ h => h)
            have := R.fal (c' := addF c (fp id) (hp w)) (S' := upd S id (.frz k (fals xs))) (h' := hp w) k2.F (.sl true k xs) [v] (fp id) t (fun b hb => by simp [addF,hb]) hu
            simp only [Am.fal] at this; exact this
      · cases e
    · rename_i k xs hs
      split at e
      · rename_i hn
        subst hn
        simp only [Option.some.injEq,Prod.mk.injEq] at e
        obtain ⟨rfl,rfl⟩ := e
        exact ⟨c,fp,[],⟨rfl,ok,Adv.refl _ _,Free.nil,fun _ => .inl rfl,fun b h => .inl h,fun _ _ h => ⟨_,h⟩,fun b hb => (by cases hb),fun _ => rfl⟩,row_shr ok hs hv,(ok.ob id _ hs).1,rfl⟩
      · cases e
    · cases e
  · cases e
theorem upds_append : ∀ (a b : List (Id × OB)) (S : Sto),upds S (a ++ b) = upds (upds S a) b
  | [],_,_ => rfl
  | (id,ob) :: a,b,S => by simp only [List.cons_append,upds]; exact upds_append a b _
theorem pack1_ws {mv x y ws} (e : pack1 mv S x = some (y,ws)) : ws = [] ∨ ∃ id n ob k xs,x = .own id n ∧ ws = [(id,ob)] ∧ S id = some (.row k xs) := by
  unfold pack1 at e
  repeat' split at e
  all_goals first | (cases e; done) | skip
  all_goals simp only [Option.some.injEq,Prod.mk.injEq] at e
  all_goals obtain ⟨rfl,rfl⟩ := e
  all_goals first | exact .inl rfl | exact .inr ⟨_,_,_,_,_,rfl,rfl,by assumption⟩
theorem pack1_upd {mv x y ws id ob k xs} (hs : S id = some (.row k xs)) (e : pack1 mv S x = some (y,ws)) (hn : ∀ z ∈ ws,z.1 ≠ id) : pack1 mv (upd S id ob) x = some (y,ws) := by
  cases x with
  | own i n =>
    by_cases hi : i = id
    · subst hi
      simp only [pack1,hs] at e
      split at e
      · split at e
        · simp only [Option.some.injEq,Prod.mk.injEq] at e
          obtain ⟨_,rfl⟩ := e
          exact absurd rfl (hn _ List.mem_cons_self)
        · simp only [Option.some.injEq,Prod.mk.injEq] at e
          obtain ⟨_,rfl⟩ := e
          exact absurd rfl (hn _ List.mem_cons_self)
      · cases e
    · simp only [pack1,upd,hi,if_false] at e ⊢
      exact e
  | sl u k xs => cases u <;> exact e
  | _ => exact e
theorem packs_upd {mv id ob k zs} (hs : S id = some (.row k zs)) : ∀ {xs ys ws},packs mv S xs = some (ys,ws) → (∀ z ∈ ws,z.1 ≠ id) → packs mv (upd S id ob) xs = some (ys,ws)
  | [],_,_,e,_ => e
  | x :: xs,ys,ws,e,hn => by
    simp only [packs] at e ⊢
    split at e
    · rename_i y w1 ys2 w2 h1 h2
      simp only [Option.some.injEq,Prod.mk.injEq] at e
      obtain ⟨rfl,rfl⟩ := e
      rw [pack1_upd hs h1 (fun z hz => hn z (List.mem_append_left _ hz)),packs_upd hs h2 (fun z hz => hn z (List.mem_append_right _ hz))]
    · cases e
theorem nodupId_append : ∀ {a b : List (Id × OB)},nodupId (a ++ b) = true → nodupId a = true ∧ nodupId b = true ∧ ∀ x ∈ a,∀ y ∈ b,y.1 ≠ x.1
  | [],b,h => ⟨rfl,h,fun x hx => by cases hx⟩
  | (id,ob) :: a,b,h => by
    simp only [List.cons_append,nodupId,Bool.and_eq_true,List.all_eq_true] at h
    obtain ⟨h1,h2⟩ := h
    obtain ⟨a1,a2,a3⟩ := nodupId_append h2
    refine ⟨?_,a2,fun x hx y hy => ?_⟩
    · simp only [nodupId,Bool.and_eq_true,List.all_eq_true]
      exact ⟨fun x hx => h1 x (List.mem_append_left _ hx),a1⟩
    · rcases List.mem_cons.1 hx with rfl | hx
      · have := h1 y (List.mem_append_right _ hy)
        intro e
        simp [e] at this
      · exact a3 x hx y hy
theorem Packed.trans {mv w1 w2 c1 c2 fp1 fp2 f1 f2} (h1 : Packed mv c S w fp w1 c1 fp1 f1) (h2 : Packed mv c1 (upds S w1) w fp1 w2 c2 fp2 f2) : Packed mv c S w fp (w1 ++ w2) c2 fp2 (f1 ++ f2) := by
  constructor
  · exact h2.L.trans h1.L
  · rw [upds_append]; exact h2.ok
  · rw [upds_append]; exact h1.adv.trans h2.adv
  · rw [upds_append]
    refine ⟨List.nodup_append.2 ⟨h1.free.1,h2.free.1,fun a ha b hb e => ?_⟩,fun b hb => ?_⟩
    · subst e
      obtain ⟨id,ob,hs,hb'⟩ := h2.from' a hb
      exact (h1.free.2 a ha).2 id ob hs hb'
    · rcases List.mem_append.1 hb with hb | hb
      · obtain ⟨g1,g2⟩ := h1.free.2 b hb
        refine ⟨?_,fun id ob hs hb' => ?_⟩
        · rcases h2.F b g1 with q | ⟨id,ob,hs,hb'⟩
          · exact q
          · exact absurd hb' (g2 id ob hs)
        · obtain ⟨ob',hs'⟩ := h2.dom id ob hs
          rcases h2.fps id with q | q
          · rw [q] at hb'; exact g2 id ob' hs' hb'
          · rw [q] at hb'; cases hb'
      · exact h2.free.2 b hb
  · intro id
    rcases h2.fps id with q | q
    · rw [q]; exact h1.fps id
    · exact .inr q
  · intro b hb
    rcases h1.F b hb with q | q
    · rcases h2.F b q with p | ⟨id,ob,hs,hb'⟩
      · exact .inl p
      · obtain ⟨ob',hs'⟩ := h1.dom id ob hs
        rcases h1.fps id with r | r
        · exact .inr ⟨id,ob',hs',by rw [← r]; exact hb'⟩
        · rw [r] at hb'; cases hb'
    · exact .inr q
  · intro id ob h
    rw [upds_append] at h
    obtain ⟨ob1,h3⟩ := h2.dom id ob h
    exact h1.dom id ob1 h3
  · intro b hb
    rcases List.mem_append.1 hb with hb | hb
    · exact h1.from' b hb
    · obtain ⟨id,ob,hs,hb'⟩ := h2.from' b hb
      obtain ⟨ob',hs'⟩ := h1.dom id ob hs
      rcases h1.fps id with r | r
      · exact ⟨id,ob',hs',by rw [← r]; exact hb'⟩
      · rw [r] at hb'; cases hb'
  · intro h
    rw [h1.shr h,h2.shr h]; rfl
theorem Packed.nil {mv} (ok : StOK c S (hp w) fp) : Packed mv c S w fp [] c fp [] :=
  ⟨rfl,ok,Adv.refl _ _,Free.nil,fun _ => .inl rfl,fun b h => .inl h,fun _ _ h => ⟨_,h⟩,fun b hb => (by cases hb),fun _ => rfl⟩
theorem packs_upds {mv} : ∀ {w1 : List (Id × OB)} {S : Sto},(∀ z ∈ w1,∃ k zs,S z.1 = some (.row k zs)) → nodupId w1 = true → ∀ {xs ys ws},packs mv S xs = some (ys,ws) → (∀ x ∈ w1,∀ y ∈ ws,y.1 ≠ x.1) → packs mv (upds S w1) xs = some (ys,ws)
  | [],_,_,_,_,_,_,e,_ => e
  | (id,ob) :: r,S,hr,hnd,xs,ys,ws,e,hd => by
    obtain ⟨k,zs,hs⟩ := hr _ List.mem_cons_self
    simp only [nodupId,Bool.and_eq_true,List.all_eq_true] at hnd
    refine packs_upds (w1 := r) (S := upd S id ob) (fun z hz => ?_) hnd.2 (packs_upd hs e (fun z hz => hd _ List.mem_cons_self z hz)) (fun x hx y hy => hd x (List.mem_cons_of_mem _ hx) y hy)
    obtain ⟨k2,zs2,h2⟩ := hr z (List.mem_cons_of_mem _ hz)
    have := hnd.1 z hz
    refine ⟨k2,zs2, ?_⟩
    have hne : z.1 ≠ id := fun e => by simp [e] at this
    simp [upd,hne,h2]
theorem packs_ok {mv : Bool} : ∀ {xs ys : List PV} {ws} {vs : List Value} {c : Ctx} {S : Sto} {fp : Id → List Nat},xs.all cellP = true → StOK c S (hp w) fp → Rs c S (hp w) xs vs [] → packs mv S xs = some (ys,ws) → nodupId ws = true →
    ∃ c' fp' f,Packed mv c S w fp ws c' fp' f ∧ Rs c' (upds S ws) (hp w) ys vs f ∧ trees ys = true ∧ ys.all cellP = true ∧ ys.length = xs.length
  | [],ys,ws,vs,c,S,fp,_,ok,r,e,_ => by
    simp only [packs,Option.some.injEq,Prod.mk.injEq] at e
    obtain ⟨rfl,rfl⟩ := e
    exact ⟨c,fp,[],Packed.nil ok,r,rfl,rfl,rfl⟩
  | x :: xs,ys,ws,vs,c,S,fp,hc,ok,r,e,hnd => by
    simp only [packs] at e
    split at e
    · rename_i y w1 ys2 w2 h1 h2
      simp only [Option.some.injEq,Prod.mk.injEq] at e
      obtain ⟨rfl,rfl⟩ := e
      simp only [Rs] at r
      obtain ⟨v1,v2,f1,f2,rfl,hf,r1,r2⟩ := r
      have hf' := List.append_eq_nil_iff.1 hf.symm
      rw [hf'.1] at r1; rw [hf'.2] at r2
      simp only [List.all_cons,Bool.and_eq_true] at hc
      obtain ⟨v,rfl,_⟩ := R_one hc.1 r1
      obtain ⟨n1,n2,n3⟩ := nodupId_append hnd
      obtain ⟨c1,fp1,g1,p1,q1,t1,cp1⟩ := pack1_ok ok r1 h1
      have hrow : ∀ z ∈ w1,∃ k zs,S z.1 = some (.row k zs) := by
        intro z hz
        rcases pack1_ws h1 with h | ⟨id,n,ob,k,zs,_,h,hs⟩
        · rw [h] at hz; cases hz
        · rw [h] at hz; simp at hz; subst hz; exact ⟨k,zs,hs⟩
      have h2' := packs_upds (mv := mv) hrow n1 h2 n3
      obtain ⟨c2,fp2,g2,p2,q2,t2,cp2,l2⟩ := packs_ok hc.2 p1.ok (Rs.adv p1.adv xs v2 [] (fun b hb => by cases hb) r2) h2' n2
      refine ⟨c2,fp2,g1 ++ g2,p1.trans p2, ?_,by simp [trees,t1,t2],by simp [cp1,cp2],by simp [l2]⟩
      rw [upds_append]
      exact ⟨[v],v2,g1,g2,rfl,rfl,R.adv p2.adv y [v] g1 (fun _ _ => rfl) q1,q2⟩
    · cases e
end
end Go.Am
end
section
/- Rows: literals,make,append,store. -/
set_option linter.unusedSimpArgs false
set_option linter.unusedVariables false
namespace Go.Am
open Go.RowKit
section
variable {P : Program}
theorem packE_ok {mv : Bool} {x y : PV} {ws} {v : Value} {c S w fp} (ok : StOK c S (hp w) fp) (r : RVal c S (hp w) x v) (e : packE mv S x = some (y,ws)) (hnd : nodupId ws = true) :
    ∃ c' fp' f,Packed mv c S w fp ws c' fp' f ∧ R c' (upds S ws) (hp w) y v.cells.toList f ∧ tree y = true ∧ flatE y = true := by
  cases x with
  | agg cs =>
    simp only [packE] at e
    split at e
    · rename_i ys w' h
      simp only [Option.some.injEq,Prod.mk.injEq] at e
      obtain ⟨rfl,rfl⟩ := e
      obtain ⟨vs,rfl,hc,r⟩ := r
      obtain ⟨c',fp',f,h1,h2,h3,h4,_⟩ := packs_ok hc ok r h hnd
      exact ⟨c',fp',f,h1,⟨h4,by simpa [Value.cells] using h2⟩,by simpa [tree] using h3,by simpa [flatE] using h4⟩
    · cases e
  | tup ps => simp [packE,pack1] at e
  | bx ps => simp [packE,pack1] at e
  | undef => simp [packE,pack1] at e
  | non => simp [packE,pack1] at e
  | _ =>
    have r' : R c S (hp w) _ [v] [] := r
    simp only [packE] at e
    obtain ⟨c',fp',f,h1,h2,h3,h4⟩ := pack1_ok ok r' e
    obtain ⟨u,e2,ho⟩ := R_one (by rfl) r'
    have : v = u := by simpa using e2
    subst this
    have hv : v.cells = #[v] := by cases v <;> first | rfl | (simp [Value.oneCell'] at ho)
    refine ⟨c',fp',f,h1,by rw [hv]; exact h2,h3, ?_⟩
    cases y <;> first | rfl | (simp [cellP] at h4)
theorem packE_ws {mv S x y ws} (e : packE mv S x = some (y,ws)) : ∀ z ∈ ws,∃ k zs,S z.1 = some (.row k zs) := by
  have key : ∀ {xs ys ws},packs mv S xs = some (ys,ws) → ∀ z ∈ ws,∃ k zs,S z.1 = some (.row k zs) := by
    intro xs
    induction xs with
    | nil => intro ys ws e z hz; simp only [packs,Option.some.injEq,Prod.mk.injEq] at e; rw [← e.2] at hz; cases hz
    | cons x xs ih =>
      intro ys ws e z hz
      simp only [packs] at e
      split at e
      · rename_i y w1 ys2 w2 h1 h2
        simp only [Option.some.injEq,Prod.mk.injEq] at e
        obtain ⟨rfl,rfl⟩ := e
        rcases List.mem_append.1 hz with hz | hz
        · rcases pack1_ws h1 with h | ⟨id,n,ob,k,zs,_,h,hs⟩
          · rw [h] at hz; cases hz
          · rw [h] at hz; simp at hz; subst hz; exact ⟨k,zs,hs⟩
        · exact ih h2 z hz
      · cases e
  cases x with
  | agg cs =>
    simp only [packE] at e
    split at e
    · rename_i ys w' h
      simp only [Option.some.injEq,Prod.mk.injEq] at e
      obtain ⟨_,rfl⟩ := e
      exact key h
    · cases e
  | _ =>
    simp only [packE] at e
    intro z hz
    rcases pack1_ws e with h | ⟨id,n,ob,k,zs,_,h,hs⟩
    · rw [h] at hz; cases hz
    · rw [h] at hz; simp at hz; subst hz; exact ⟨k,zs,hs⟩
theorem packE_upd {mv S x y ws id ob k zs} (hs : S id = some (.row k zs)) (e : packE mv S x = some (y,ws)) (hn : ∀ z ∈ ws,z.1 ≠ id) : packE mv (upd S id ob) x = some (y,ws) := by
  cases x with
  | agg cs =>
    simp only [packE] at e ⊢
    split at e
    · rename_i ys w' h
      simp only [Option.some.injEq,Prod.mk.injEq] at e
      obtain ⟨rfl,rfl⟩ := e
      rw [packs_upd hs h hn]
    · cases e
  | _ =>
    simp only [packE] at e ⊢
    exact pack1_upd hs e hn
theorem packEs_upd {mv S id ob k zs} (hs : S id = some (.row k zs)) : ∀ {xs ys ws},packEs mv S xs = some (ys,ws) → (∀ z ∈ ws,z.1 ≠ id) → packEs mv (upd S id ob) xs = some (ys,ws)
  | [],_,_,e,_ => e
  | x :: xs,ys,ws,e,hn => by
    simp only [packEs] at e ⊢
    split at e
    · rename_i y w1 ys2 w2 h1 h2
      simp only [Option.some.injEq,Prod.mk.injEq] at e
      obtain ⟨rfl,rfl⟩ := e
      rw [packE_upd hs h1 (fun z hz => hn z (List.mem_append_left _ hz)),packEs_upd hs h2 (fun z hz => hn z (List.mem_append_right _ hz))]
    · cases e
theorem packEs_upds {mv} : ∀ {w1 : List (Id × OB)} {S : Sto},(∀ z ∈ w1,∃ k zs,S z.1 = some (.row k zs)) → nodupId w1 = true → ∀ {xs ys ws},packEs mv S xs = some (ys,ws) → (∀ x ∈ w1,∀ y ∈ ws,y.1 ≠ x.1) → packEs mv (upds S w1) xs = some (ys,ws)
  | [],_,_,_,_,_,_,e,_ => e
  | (id,ob) :: r,S,hr,hnd,xs,ys,ws,e,hd => by
    obtain ⟨k,zs,hs⟩ := hr _ List.mem_cons_self
    simp only [nodupId,Bool.and_eq_true,List.all_eq_true] at hnd
    refine packEs_upds (w1 := r) (S := upd S id ob) (fun z hz => ?_) hnd.2 (packEs_upd hs e (fun z hz => hd _ List.mem_cons_self z hz)) (fun x hx y hy => hd x (List.mem_cons_of_mem _ hx) y hy)
    obtain ⟨k2,zs2,h2⟩ := hr z (List.mem_cons_of_mem _ hz)
    have := hnd.1 z hz
    refine ⟨k2,zs2, ?_⟩
    have hne : z.1 ≠ id := fun e => by simp [e] at this
    simp [upd,hne,h2]
theorem RVals.adv {c c' S S' w} (ha : Adv c c' S S') : ∀ {xs vs},RVals c S (hp w) xs vs → RVals c' S' (hp w) xs vs
  | [],_,r => r
  | _ :: _,_,⟨v,ws,e,r1,r2⟩ => ⟨v,ws,e,r1.adv ha,RVals.adv ha r2⟩
theorem packEs_ok {mv : Bool} {w : World} : ∀ {xs ys : List PV} {ws} {vs : List Value} {c : Ctx} {S : Sto} {fp : Id → List Nat},StOK c S (hp w) fp → RVals c S (hp w) xs vs → packEs mv S xs = some (ys,ws) → nodupId ws = true →
    ∃ c' fp' f,Packed mv c S w fp ws c' fp' f ∧ Rs c' (upds S ws) (hp w) ys (vs.flatMap fun v => v.cells.toList) f ∧ trees ys = true ∧ (∀ y ∈ ys,flatE y = true) ∧ ys.length = xs.length ∧ vs.length = xs.length
  | [],ys,ws,vs,c,S,fp,ok,r,e,_ => by
    simp only [packEs,Option.some.injEq,Prod.mk.injEq] at e
    obtain ⟨rfl,rfl⟩ := e
    simp only [RVals] at r
    subst r
    exact ⟨c,fp,[],Packed.nil ok,⟨rfl,rfl⟩,rfl,fun y hy => (by cases hy),rfl,rfl⟩
  | x :: xs,ys,ws,vs,c,S,fp,ok,r,e,hnd => by
    simp only [packEs] at e
    split at e
    · rename_i y w1 ys2 w2 h1 h2
      simp only [Option.some.injEq,Prod.mk.injEq] at e
      obtain ⟨rfl,rfl⟩ := e
      obtain ⟨v,us,rfl,r1,r2⟩ := r
      obtain ⟨n1,n2,n3⟩ := nodupId_append hnd
      obtain ⟨c1,fp1,g1,p1,q1,t1,fl1⟩ := packE_ok ok r1 h1 n1
      have h2' := packEs_upds (mv := mv) (packE_ws h1) n1 h2 n3
      obtain ⟨c2,fp2,g2,p2,q2,t2,fl2,l2,l3⟩ := packEs_ok p1.ok (r2.adv p1.adv) h2' n2
      refine ⟨c2,fp2,g1 ++ g2,p1.trans p2, ?_,by simp [trees,t1,t2],fun z hz => ?_,by simp [l2],by simp [l3]⟩
      · rw [upds_append]
        exact ⟨_,_,g1,g2,by simp,rfl,R.adv p2.adv y _ g1 (fun _ _ => rfl) q1,q2⟩
      · rcases List.mem_cons.1 hz with rfl | hz
        · exact fl1
        · exact fl2 z hz
    · cases e
def putCells (cs : List Value) (off : Nat) (vs : List Value) : List Value := cs.take off ++ vs ++ cs.drop (off + vs.length)
theorem foldl_put (vs : List Value) (off : Nat) : ∀ (cs : Array Value) (q : Nat),off + q + vs.length ≤ cs.size →
    ((vs.zipIdx q).foldl (fun (cs : Array Value) (x : Value × Nat) => cs.setIfInBounds (off + x.2) x.1) cs).toList = cs.toList.take (off + q) ++ vs ++ cs.toList.drop (off + q + vs.length) := by
  induction vs with
  | nil => intro cs q h; simp
  | cons v vs ih =>
    intro cs q h
    simp only [List.length_cons] at h
    simp only [List.zipIdx_cons,List.foldl_cons]
    rw [ih _ (q + 1) (by simp; omega)]
    have hq : off + q < cs.toList.length := by simp; omega
    simp only [Array.toList_setIfInBounds,List.length_cons]
    rw [show off + (q + 1) = off + q + 1 by omega,show off + q + (vs.length + 1) = off + q + 1 + vs.length by omega]
    rw [List.drop_set,if_pos (by omega),List.take_set,List.take_add_one,List.getElem?_eq_getElem hq]
    simp only [Option.toList_some]
    rw [List.set_append_right _ _ (by simp; omega)]
    have : (off + q - (List.take (off + q) cs.toList).length) = 0 := by simp; omega
    rw [this]
    simp
theorem fill_row (size : Nat) (hs : 0 < size) : ∀ (vs : List Value) (q : Nat) (cs : Array Value),(∀ v ∈ vs,v.cells.size = size) → (q + vs.length) * size ≤ cs.size →
    ∃ cs',Instr.fill (fun i => some (i * size,size)) cs ((vs.zipIdx q).map fun x => (x.2,x.1)) = some cs' ∧ cs'.size = cs.size ∧ cs'.toList = cs.toList.take (q * size) ++ (vs.flatMap fun v => v.cells.toList) ++ cs.toList.drop ((q + vs.length) * size)
  | [],q,cs,_,_ => ⟨cs,by simp [Instr.fill],rfl,by simp⟩
  | v :: vs,q,cs,hv,hle => by
    have h1 := hv v List.mem_cons_self
    simp only [List.length_cons] at hle
    have hle2 : q * size + size ≤ cs.size := by
      have : (q + 1) * size ≤ (q + (vs.length + 1)) * size := Nat.mul_le_mul_right _ (by omega)
      rw [Nat.add_mul] at this; omega
    let cs1 := (v.cells.zipIdx.foldl (fun (cs : Array Value) (x : Value × Nat) => cs.setIfInBounds (q * size + x.2) x.1) cs)
    have e1 : cs1.toList = cs.toList.take (q * size) ++ v.cells.toList ++ cs.toList.drop (q * size + size) := by
      have := foldl_put v.cells.toList (q * size) cs 0 (by simp [h1]; omega)
      simp only [Nat.add_zero,Array.length_toList,h1] at this
      rw [← this]
      show (Array.foldl _ cs v.cells.zipIdx).toList = _
      rw [← Array.foldl_toList]
      simp
    have s1 : cs1.size = cs.size := by
      have := congrArg List.length e1
      simp at this
      simp only [h1] at this
      omega
    obtain ⟨cs',g1,g2,g3⟩ := fill_row size hs vs (q + 1) cs1 (fun u hu => hv u (List.mem_cons_of_mem _ hu)) (by rw [s1]; rw [show q + 1 + vs.length = q + (vs.length + 1) by omega]; exact hle)
    refine ⟨cs', ?_,by rw [g2,s1], ?_⟩
    · simp only [List.zipIdx_cons,List.map_cons,Instr.fill]
      rw [if_neg (by simp [h1]; omega)]
      exact g1
    · rw [g3,e1]
      have a1 : List.take ((q + 1) * size) (List.take (q * size) cs.toList ++ v.cells.toList ++ List.drop (q * size + size) cs.toList) = List.take (q * size) cs.toList ++ v.cells.toList := by
        rw [List.take_append_of_le_length (by simp [h1,Nat.add_mul]; omega),List.take_of_length_le (by simp [h1,Nat.add_mul]; omega)]
      have a2 : List.drop ((q + 1 + vs.length) * size) (List.take (q * size) cs.toList ++ v.cells.toList ++ List.drop (q * size + size) cs.toList) = List.drop ((q + (v :: vs).length) * size) cs.toList := by
        have hl : (List.take (q * size) cs.toList ++ v.cells.toList).length = q * size + size := by simp [h1]; omega
        rw [List.drop_append,List.drop_eq_nil_of_le (by rw [hl,show q + 1 + vs.length = (q + 1) + vs.length by rfl,Nat.add_mul,Nat.add_mul]; omega),List.nil_append,hl,List.drop_drop]
        congr 1
        simp only [List.length_cons]
        rw [show q + (vs.length + 1) = q + 1 + vs.length by omega]
        have : q * size + size ≤ (q + 1 + vs.length) * size := by rw [Nat.add_mul,Nat.add_mul]; omega
        omega
      rw [a1,a2]
      simp
end
end Go.Am
end
section
/- New rows: literals,make,append. -/
set_option linter.unusedSimpArgs false
set_option linter.unusedVariables false
namespace Go.Am
open Go.RowKit
section
variable {P : Program}
theorem newrow {c : Ctx} {S : Sto} {w : World} {fp : Id → List Nat} {id : Id} {k cap : Nat} {xs : List PV} {ws : List Value} {f : List Nat} {cur : Array Value} {e : TypeId}
    (ok : StOK c S (hp w) fp) (hn : S id = none) (ht : trees xs = true) (hk : Ls k xs) (r : Rs c S (hp w) xs ws f) (hf : Free c S fp f) (hcur : cur.toList.take (xs.length * k) = ws) (hsz : cur.size = cap * k)
    (hcap : xs.length ≤ cap) (hmax : cap ≤ maxLen) :
    ∃ c' fp',StOK c' (upd S id (.row k xs)) (hp (w.alloc (.cells cur e))) fp' ∧ Adv c c' S (upd S id (.row k xs)) ∧ RVal c' (upd S id (.row k xs)) (hp (w.alloc (.cells cur e))) (.own id xs.length) (.slice (some ⟨w.heap.size,0,none⟩) xs.length cap) := by
  have fb := fresh_block ok
  have hlt := Rs_lt xs ws f r
  have ha : Adv c (setL c id ⟨w.heap.size,some ⟨w.heap.size,0,none⟩,cap⟩) S (upd S id (.row k xs)) := Adv.new hn
  refine ⟨setL c id ⟨w.heap.size,some ⟨w.heap.size,0,none⟩,cap⟩,setF fp id (w.heap.size :: f),ok.new hn ?_ ?_ (fun b hb => ?_),ha,⟨rfl,_,rfl,rfl, ?_⟩⟩
  · refine ⟨ht,hk,.inr ⟨f,by simp [setL],⟨cur,e,ws,by simp only [setL,if_true]; exact hp_alloc_new,by simpa [setL] using hcap,by simpa [setL] using hmax,by simpa [setL] using hsz, ?_,hcur⟩,by simp [setL]⟩⟩
    exact Rs.adv ha xs ws f (fun b hb => hp_alloc_old (by have := hlt b hb; omega)) r
  · exact List.nodup_cons.2 ⟨fun h => by have := hlt _ h; omega,hf.1⟩
  · rcases List.mem_cons.1 hb with rfl | hb
    · exact fb
    · exact hf.2 b hb
  · simp [OwnOK,upd,setL]
theorem norowX {c : Ctx} {S : Sto} {w : World} {fp : Id → List Nat} {id : Id} {k : Nat} {A : Option Addr} (ok : StOK c S (hp w) fp) (hn : S id = none) :
    StOK (setL c id ⟨0,A,0⟩) (upd S id (.row k [])) (hp w) (setF fp id []) ∧ Adv c (setL c id ⟨0,A,0⟩) S (upd S id (.row k [])) ∧ RVal (setL c id ⟨0,A,0⟩) (upd S id (.row k [])) (hp w) (.own id 0) (.slice A 0 0) := by
  have ha : Adv c (setL c id ⟨0,A,0⟩) S (upd S id (.row k [])) := Adv.new hn
  refine ⟨ok.step ha (fun x => x = id) ?_ ?_ ok.okF ok.dis,ha,⟨rfl,_,rfl,rfl,by simp [OwnOK,upd,setL]⟩⟩
  · intro x ob' hx hne
    have hx' : S x = some ob' := by simpa [upd,hne] using hx
    exact ⟨hx',by simp [setL,hne],by simp [setF,hne],fun b hb => ⟨rfl,ok.nF x ob' hx' b hb⟩⟩
  · rintro x ob' hx rfl
    have he : ob' = .row k [] := by simpa [upd,eq_comm] using hx
    subst he
    exact ⟨⟨rfl,fun x hx => (by cases hx),.inl ⟨rfl,by simp [setL],by simp [setF]⟩⟩,by simp [setF],fun b hb => by simp [setF] at hb,fun _ _ _ _ b hb => by simp [setF] at hb⟩
theorem run_buildSlice {w : World} {t e : TypeId} {i : TypeInfo} {k : Nat} {z : Value} {vs : List Value} (ht : elemOfS P t = some (e,i)) (hi : i.size = k) (hk : 0 < k) (hz : i.zero = some z) (hv : ∀ v ∈ vs,v.cells.size = k)
    (hl : vs.length * k ≤ 16777216) (h0 : vs ≠ []) :
    ∃ cur : Array Value,(Instr.buildSlice t vs.length ((vs.zipIdx 0).map fun x => (x.2,x.1)).toArray).run P w = .ok (.slice (some ⟨w.heap.size,0,none⟩) vs.length vs.length) (w.alloc (.cells cur e)) ∧
      cur.toList = (vs.flatMap fun v => v.cells.toList) ∧ cur.size = vs.length * k := by
  unfold elemOfS at ht
  split at ht
  · rename_i e' hu
    split at ht
    · rename_i i' hi'
      simp only [Option.some.injEq,Prod.mk.injEq] at ht
      obtain ⟨rfl,rfl⟩ := ht
      obtain ⟨cur,g1,g2,g3⟩ := fill_row k hk vs 0 ((Array.range (vs.length * k)).map (z.cells[· % z.cells.size]!)) hv (by simp)
      have hne : vs.length * k ≠ 0 := by
        have : 0 < vs.length := List.length_pos_iff.2 h0
        have := Nat.mul_pos this hk
        omega
      refine ⟨cur, ?_, ?_,by simpa using g2⟩
      · have h1 : ¬ (16777216 < vs.length * k) := by omega
        simp [Instr.buildSlice,run_underlying hu,sizeOf,typeInfo,hi',hi,h1,hne,zeroValue,hz,g1,newRow]
      · rw [g3]
        simp only [Nat.zero_mul,List.take_zero,List.nil_append,Nat.zero_add]
        rw [List.drop_eq_nil_of_le (by simp)]; simp
    · cases ht
  · cases ht
theorem RVals_len {c S w} : ∀ {xs : List PV} {vs : List Value},RVals c S (hp w) xs vs → vs.length = xs.length
  | [],_,r => by simp only [RVals] at r; simp [r]
  | _ :: _,_,⟨v,ws,e,r1,r2⟩ => by rw [e]; simp [RVals_len r2]
theorem packEs_sizes {mv : Bool} {w : World} {k : Nat} : ∀ {xs ys : List PV} {ws} {vs : List Value} {c : Ctx} {S : Sto} {fp : Id → List Nat},StOK c S (hp w) fp → RVals c S (hp w) xs vs → packEs mv S xs = some (ys,ws) → nodupId ws = true →
    (∀ y ∈ ys,y.cells.length = k) → ∀ v ∈ vs,v.cells.size = k
  | [],_,_,_,_,_,_,_,r,_,_,_,v,hv => by simp only [RVals] at r; rw [r] at hv; cases hv
  | x :: xs,ys,ws,vs,c,S,fp,ok,r,e,hnd,hk,v,hv => by
    simp only [packEs] at e
    split at e
    · rename_i y w1 ys2 w2 h1 h2
      simp only [Option.some.injEq,Prod.mk.injEq] at e
      obtain ⟨rfl,rfl⟩ := e
      obtain ⟨v0,us,rfl,r1,r2⟩ := r
      obtain ⟨n1,n2,n3⟩ := nodupId_append hnd
      obtain ⟨c1,fp1,g1,p1,q1,t1,fl1⟩ := packE_ok ok r1 h1 n1
      rcases List.mem_cons.1 hv with rfl | hv
      · have := (R_len fl1 q1).1
        rw [hk y List.mem_cons_self] at this
        simpa using this
      · have h2' := packEs_upds (mv := mv) (packE_ws h1) n1 h2 n3
        exact packEs_sizes p1.ok (r2.adv p1.adv) h2' n2 (fun z hz => hk z (List.mem_cons_of_mem _ hz)) v hv
    · cases e
theorem bslice_yield {c : Ctx} {S : Sto} {w : World} {fp : Id → List Nat} {mv : Bool} {t e : TypeId} {i : TypeInfo} {k : Nat} {z : Value} {id : Id} {xs ys : List PV} {ws} {vs : List Value}
    (ok : StOK c S (hp w) fp) (ht : elemOfS P t = some (e,i)) (hi : i.size = k) (hk : 0 < k) (hz : i.zero = some z) (r : RVals c S (hp w) xs vs) (hp' : packEs mv S xs = some (ys,ws)) (hnd : nodupId ws = true)
    (hn : S id = none) (hks : ∀ y ∈ ys,y.cells.length = k) (hl : vs.length * k ≤ 16777216) (h0 : xs ≠ []) :
    Yield P c S w (do pure (.value (← Instr.buildSlice t vs.length ((vs.zipIdx 0).map fun x => (x.2,x.1)).toArray))) (upds S (ws ++ [(id,.row k ys)])) (.own id ys.length) := by
  have hlv := RVals_len r
  have h0v : vs ≠ [] := fun h => h0 (List.eq_nil_of_length_eq_zero (by rw [← hlv,h]; rfl))
  have hsz := packEs_sizes ok r hp' hnd hks
  obtain ⟨cur,hr,hc1,hc2⟩ := run_buildSlice (w := w) ht hi hk hz hsz hl h0v
  obtain ⟨c1,fp1,f,p1,q1,t1,fl1,l1,l2⟩ := packEs_ok ok r hp' hnd
  have hLs : Ls k ys := fun y hy => ⟨hks y hy,fl1 y hy⟩
  have hlen : (vs.flatMap fun v => v.cells.toList).length = ys.length * k := (Rs_len hLs q1).1
  have hn1 : upds S ws id = none := by
    cases h : upds S ws id with
    | none => rfl
    | some o => obtain ⟨o',h'⟩ := p1.dom id o h; rw [hn] at h'; cases h'
  have hcap : vs.length ≤ maxLen := by
    have : vs.length ≤ vs.length * k := Nat.le_mul_of_pos_right _ hk
    simp only [maxLen]; omega
  obtain ⟨c',fp',a1,a2,a3⟩ := newrow (id := id) (k := k) (cap := vs.length) (cur := cur) (e := e) p1.ok hn1 t1 hLs q1 p1.free (by rw [hc1,List.take_of_length_le (by rw [hlen]; exact Nat.le_refl _)]) hc2 (by omega) hcap
  refine ⟨.value (.slice (some ⟨w.heap.size,0,none⟩) vs.length vs.length),_,w.alloc (.cells cur e),c',fp',by simp [hr],.inl rfl,by rw [upds_append]; exact a1,by rw [upds_append]; exact p1.adv.trans a2, ?_,Grew.alloc _ _⟩
  rw [upds_append]
  have : ys.length = vs.length := by omega
  rw [this] at a3 ⊢
  exact a3
theorem bslice0_yield {c : Ctx} {S : Sto} {w : World} {fp : Id → List Nat} {t e : TypeId} {i : TypeInfo} (ok : StOK c S (hp w) fp) (ht : elemOfS P t = some (e,i)) :
    Yield P c S w (do pure (.value (← Instr.buildSlice t 0 #[]))) S .nils := by
  unfold elemOfS at ht
  split at ht
  · rename_i e' hu
    split at ht
    · rename_i i' hi'
      refine ⟨.value (.slice (some ⟨w.heap.size,0,none⟩) 0 0),_,w.alloc (.cells #[] e'),c,fp, ?_,.inl rfl, ?_,Adv.refl _ _,⟨rfl,_,rfl⟩,Grew.alloc _ _⟩
      · have h0 : Array.map (fun _ => (default : Value)) (Array.range 0) = #[] := by apply Array.ext'; simp
        simp [Instr.buildSlice,run_underlying hu,sizeOf,typeInfo,hi',Instr.fill,newRow,h0]
      · refine ok.step (Adv.refl c S) (fun _ => False) ?_ (fun _ _ _ h => h.elim) ?_ ok.dis
        · intro x ob' hx _
          exact ⟨hx,rfl,rfl,fun b hb => ⟨hp_alloc_old (by have := ok.lt hx hb; omega),ok.nF x ob' hx b hb⟩⟩
        · intro b o h
          have := ok.okF b o h
          rw [hp_alloc_old (by have := hp_lt this; omega)]; exact this
    · cases ht
  · cases ht
theorem eslice_yield {c : Ctx} {S : Sto} {w : World} {fp : Id → List Nat} {t e : TypeId} {i : TypeInfo} {k : Nat} {id : Id} (ok : StOK c S (hp w) fp) (ht : elemOfS P t = some (e,i)) (hn : S id = none) :
    Yield P c S w (do pure (.value (← Instr.buildSlice t 0 #[]))) (upd S id (.row k [])) (.own id 0) := by
  unfold elemOfS at ht
  split at ht
  · rename_i e' hu
    split at ht
    · rename_i i' hi'
      refine ⟨.value (.slice (some ⟨w.heap.size,0,none⟩) 0 0),_,w.alloc (.cells #[] e'),setL c id ⟨w.heap.size,some ⟨w.heap.size,0,none⟩,0⟩,setF fp id [], ?_,.inl rfl,ok.new hn ?_ (by simp) (fun b hb => by cases hb),Adv.new hn,⟨rfl,_,rfl,rfl, ?_⟩,Grew.alloc _ _⟩
      · have h0 : Array.map (fun _ => (default : Value)) (Array.range 0) = #[] := by apply Array.ext'; simp
        simp [Instr.buildSlice,run_underlying hu,sizeOf,typeInfo,hi',Instr.fill,newRow,h0]
      · exact ⟨rfl,fun x hx => (by cases hx),.inl ⟨rfl,by simp [setL],rfl⟩⟩
      · simp [OwnOK,upd,setL]
    · cases ht
  · cases ht
theorem Rs_replicate {c S h} {z : PV} {zs : List Value} (r : R c S h z zs []) : ∀ m : Nat,Rs c S h (List.replicate m z) (List.replicate m zs).flatten []
  | 0 => ⟨rfl,rfl⟩
  | m + 1 => by
    simp only [List.replicate_succ,List.flatten_cons,Rs]
    exact ⟨_,_,[],[],rfl,rfl,r,Rs_replicate r m⟩
theorem trees_replicate {z : PV} (h : tree z = true) : ∀ m : Nat,trees (List.replicate m z) = true
  | 0 => rfl
  | m + 1 => by simp [List.replicate_succ,trees,h,trees_replicate h m]
theorem madeCells_flatten (z : Array Value) (hz : 0 < z.size) : ∀ m : Nat,(madeCells z (m * z.size)).toList = (List.replicate m z.toList).flatten
  | 0 => by simp [madeCells]
  | m + 1 => by
    have ih := madeCells_flatten z hz m
    have h1 : (madeCells z ((m + 1) * z.size)).toList = (madeCells z (m * z.size)).toList ++ z.toList := by
      apply List.ext_getElem?
      intro j
      rw [List.getElem?_append]
      simp only [Array.length_toList,size_madeCells]
      by_cases h : j < m * z.size
      · rw [if_pos h]
        have h2 : j < (m + 1) * z.size := by rw [Nat.add_mul]; omega
        simp [madeCells,h,h2]
      · rw [if_neg h]
        by_cases h2 : j < (m + 1) * z.size
        · rw [Nat.add_mul,Nat.one_mul] at h2
          have h3 : j - m * z.size < z.size := by omega
          have h4 : j % z.size = j - m * z.size := by
            have : j = (j - m * z.size) + z.size * m := by rw [Nat.mul_comm z.size m]; omega
            rw [this,Nat.add_mul_mod_self_left,Nat.mod_eq_of_lt (by omega)]
            rw [Nat.mul_comm z.size m]; omega
          have h5 : j < (m + 1) * z.size := by rw [Nat.add_mul,Nat.one_mul]; omega
          simp [madeCells,h5,h4,h3]
        · have h3 : ¬ (j - m * z.size < z.size) := by rw [Nat.add_mul,Nat.one_mul] at h2; omega
          simp [madeCells,h2,h3]
    rw [h1,ih,List.replicate_succ',List.flatten_append]
    simp
theorem mkslice_yield {c : Ctx} {S : Sto} {w : World} {fp : Id → List Nat} {t e : TypeId} {i : TypeInfo} {k : Nat} {z : PV} {zv : Value} {id : Id} {m : Int} {v u : Value}
    (ok : StOK c S (hp w) fp) (ht : elemOfS P t = some (e,i)) (hi : i.size = k) (hk : 0 < k) (hb : i.bytes ≤ 65536) (hz : i.zero = some zv) (hzl : litsOK z.cells zv.cells.toList = true) (hf : flatE z = true) (htr : tree z = true) (hzk : z.cells.length = k)
    (hn : S id = none) (h0 : 0 ≤ m) (hm : m ≤ 4294967296) (hv : RVal c S (hp w) (.i m) v) (hu : RVal c S (hp w) (.i m) u) :
    Yield P c S w (do pure (.value (← Instr.makeSlice t v u))) (upds S [(id,.row k (List.replicate m.toNat z))]) (.own id m.toNat) := by
  rw [sc_eq hv,sc_eq hu]
  unfold elemOfS at ht
  split at ht
  · rename_i e' hun
    split at ht
    · rename_i i' hi'
      simp only [Option.some.injEq,Prod.mk.injEq] at ht
      obtain ⟨rfl,rfl⟩ := ht
      have hbytes : (i'.bytes : Int) * m ≤ 281474976710656 := by
        have h1 : (i'.bytes : Int) ≤ 65536 := by omega
        calc (i'.bytes : Int) * m ≤ 65536 * 4294967296 := Int.mul_le_mul h1 hm h0 (by omega)
          _ = 281474976710656 := by decide
      have hr := run_make (P := P) w t e' i' zv hun hi' hz .i64 .i64 m m h0 (Int.le_refl _) hbytes (by omega)
      obtain ⟨r,hcp,_⟩ := litsOK_R (c := c) (S := S) (h := hp w) hzl
      have hR : R c S (hp w) z zv.cells.toList [] := by
        cases z with
        | agg cs => exact ⟨hcp,r⟩
        | tup ps => simp [flatE] at hf
        | bx ps => simp [flatE] at hf
        | _ =>
          simp only [PV.cells,Rs] at r
          obtain ⟨v1,v2,f1,f2,h1,h2,h3,h4,h5⟩ := r
          rw [h4] at h1
          have hf' := List.append_eq_nil_iff.1 h2.symm
          rw [h1,List.append_nil]
          rw [hf'.1] at h3
          exact h3
      have hzs : zv.cells.size = k := by
        have := (R_len hf hR).1
        simpa [hzk] using this
      have hLs : Ls k (List.replicate m.toNat z) := fun y hy => by rw [List.eq_of_mem_replicate hy]; exact ⟨hzk,hf⟩
      have hcur : (madeCells zv.cells (m.toNat * i'.size)).toList = (List.replicate m.toNat zv.cells.toList).flatten := by
        rw [hi,← hzs]; exact madeCells_flatten zv.cells (by omega) m.toNat
      have hRs := Rs_replicate hR m.toNat
      have hlen := (Rs_len hLs hRs).1
      have hmax : m.toNat ≤ maxLen := by simp only [maxLen]; omega
      obtain ⟨c',fp',a1,a2,a3⟩ := newrow (id := id) (k := k) (cap := m.toNat) (cur := madeCells zv.cells (m.toNat * i'.size)) (e := e') ok hn (trees_replicate htr _) hLs hRs Free.nil
        (by rw [hcur,List.take_of_length_le (by rw [hlen]; exact Nat.le_refl _)]) (by rw [size_madeCells,hi]) (by simp) hmax
      refine ⟨.value (.slice (some ⟨w.heap.size,0,none⟩) m.toNat m.toNat),_,w.alloc (.cells (madeCells zv.cells (m.toNat * i'.size)) e'),c',fp',by simp [hr],.inl rfl,a1,a2,by simp only [List.length_replicate] at a3; exact a3,Grew.alloc _ _⟩
    · cases ht
  · cases ht
end
end Go.Am
end
section
/- Append and store. -/
set_option linter.unusedSimpArgs false
set_option linter.unusedVariables false
namespace Go.Am
open Go.RowKit
section
variable {P : Program}
def SrcAt (w : World) (vs : List Value) (n : Nat) (v : Value) : Prop := ∃ A cp,v = .slice A n cp ∧ (n = 0 ∨ ∃ a,A = some a ∧ ∀ j u,vs[j]? = some u → w.cell? (a.add j) = some u)
theorem hp_setRow {w : World} {g b : Nat} {cs : Array Value} (h : b ≠ g) : hp (w.setRow g cs) b = hp w b := setRow_other w g b cs h
theorem Grew.setRow (w : World) (g : Nat) (cs : Array Value) : Grew w (w.setRow g cs) := ⟨rfl,rfl,rfl,by simp,fun a _ => by
  simp only [World.frozen?,World.setRow,Array.getElem?_modify]
  by_cases h : g = a.block
  · simp only [h,if_true]
    cases ho : w.heap[a.block]? with
    | none => simp
    | some o => cases o <;> simp
  · simp only [h,if_false],Nat.le_refl _⟩
theorem run_append_room' (w : World) (t ty e : TypeId) (i : TypeInfo) (ht : P.underlying t = some (.slice e)) (hi : P.info? e = some i) (g sLen sCap : Nat) (cur : Array Value) (e' : TypeId) (hg : w.heap[g]? = some (.cells cur e' (0,0)))
    (a : Addr) (m c : Nat) (news : List Value) (hl : news.length = m * i.size) (hnews : ∀ j u,news[j]? = some u → w.cell? (a.add j) = some u) (h1 : ∀ u ∈ news,u.oneCell' = true)
    (hroom : sLen + m ≤ sCap) (hfit : sLen * i.size + news.length ≤ cur.size) :
    (Builtin.append_ #[t,t] ty #[.slice (some ⟨g,0,none⟩) sLen sCap,.slice (some a) m c]).run P w =
      .ok (.slice (some ⟨g,0,none⟩) (sLen + m) sCap) (w.setRow g (cur.toList.take (sLen * i.size) ++ news ++ cur.toList.drop (sLen * i.size + news.length)).toArray) := by
  have hf := run_firstCells_some (P := P) w i.size m a m c news hl hnews
  have hst := run_storeCells_at P g (sLen * i.size) e' news 0 cur w hg (by simpa using hfit) h1
  simp only [Nat.add_zero] at hst
  simp [Builtin.append_,run_underlying ht,sizeOf,typeInfo,hi,Builtin.lenOf,hroom,hf,Addr.add_lit,hst]
theorem run_append_zero (w : World) (t ty e : TypeId) (i : TypeInfo) (ht : P.underlying t = some (.slice e)) (hi : P.info? e = some i) (A B : Option Addr) (n c d : Nat) (hn : n ≤ c) :
    (Builtin.append_ #[t,t] ty #[.slice A n c,.slice B 0 d]).run P w = .ok (.slice A n c) w := by
  have hf : (Builtin.firstCells i.size 0 (.slice B 0 d)).run P w = .ok #[] w := by cases B <;> simp [Builtin.firstCells,loadCells,loadCellsFrom]
  cases A <;> simp [Builtin.append_,run_underlying ht,sizeOf,typeInfo,hi,Builtin.lenOf,hn,hf,storeCells]
theorem run_append_new (w : World) (t ty e : TypeId) (i : TypeInfo) (z : Value) (ht : P.underlying t = some (.slice e)) (hi : P.info? e = some i) (hz : i.zero = some z)
    (A : Option Addr) (sLen sCap : Nat) (olds : List Value) (hlo : olds.length = sLen * i.size) (holds : sLen = 0 ∨ ∃ b,A = some b ∧ ∀ j v,olds[j]? = some v → w.cell? (b.add j) = some v)
    (a : Addr) (n c : Nat) (news : List Value) (hl : news.length = n * i.size) (hnews : ∀ j v,news[j]? = some v → w.cell? (a.add j) = some v)
    (hg : sCap < sLen + n) (h63 : ((sLen + n : Nat) : Int) ≤ 9223372036854775807) (hfit : Builtin.nextslicecap (sLen + n) sCap * i.bytes ≤ 281474976710656) :
    (Builtin.append_ #[t,t] ty #[.slice A sLen sCap,.slice (some a) n c]).run P w =
      .ok (.slice (some ⟨w.heap.size,0,none⟩) (sLen + n) (grownCap w (sLen + n) sCap e))
        (w.drew.alloc (.cells (olds.toArray ++ news.toArray ++ Builtin.zeroCells z.cells (grownCap w (sLen + n) sCap e - (sLen + n))) e)) := by
  have hn : ¬ (sLen + n ≤ sCap) := by omega
  have h63' : ¬ (9223372036854775807 < ((sLen : Int) + (n : Int))) := by omega
  have h48' : ¬ (281474976710656 < Builtin.nextslicecap (sLen + n) sCap * i.bytes) := by omega
  have hf := run_firstCells_some (P := P) w.drew i.size n a n c news hl (by simpa using hnews)
  have hfo : (Builtin.firstCells i.size sLen (.slice A sLen sCap)).run P w.drew = .ok olds.toArray w.drew := by
    rcases holds with h0 | ⟨b,rfl,hb⟩
    · subst h0
      have : olds = [] := List.eq_nil_of_length_eq_zero (by simpa using hlo)
      subst this
      cases A <;> simp [Builtin.firstCells,loadCells,loadCellsFrom]
    · exact run_firstCells_some (P := P) w.drew i.size sLen b sLen sCap olds hlo (by simpa using hb)
  simp [Builtin.append_,run_underlying ht,sizeOf,typeInfo,zeroValue,hi,hz,Builtin.lenOf,hn,h63',h48',Question.forced,hf,hfo,newRow,grownCap]
  simp only [← Array.append_assoc,List.append_toArray]
theorem trees_append : ∀ {xs ys : List PV},trees xs = true → trees ys = true → trees (xs ++ ys) = true
  | [],_,_,h => h
  | x :: xs,ys,h1,h2 => by
    simp only [trees,Bool.and_eq_true,List.cons_append] at h1 ⊢
    exact ⟨h1.1,trees_append h1.2 h2⟩
theorem Ls_append {k xs ys} (h1 : Ls k xs) (h2 : Ls k ys) : Ls k (xs ++ ys) := fun x hx => (List.mem_append.1 hx).elim (h1 x) (h2 x)
theorem Adv.row {c : Ctx} {S : Sto} {id : Id} {k : Nat} {xs ys : List PV} {l : Loc} (hs : S id = some (.row k xs)) (hl : xs.length ≤ ys.length) (he : ys.length = xs.length → l = c.L id) : Adv c (setL c id l) S (upd S id (.row k ys)) := by
  refine ⟨fun _ _ h => h,rfl,fun x o hx => ?_⟩
  by_cases hxi : x = id
  · subst hxi
    rw [hs] at hx
    simp only [Option.some.injEq] at hx
    subst hx
    refine ⟨.row k ys,by simp [upd], ?_⟩
    exact ⟨rfl,hl,fun e => by simp [setL,he e]⟩
  · exact ⟨o,by simp [upd,hxi,hx],StepOB.rfl' (by simp [setL,hxi])⟩
theorem StOK.reset {c : Ctx} {S : Sto} {w w' : World} {fp : Id → List Nat} {id : Id} {k : Nat} {xs ys : List PV} {l : Loc} {f : List Nat} (ok : StOK c S (hp w) fp) (hs : S id = some (.row k xs))
    (ha : Adv c (setL c id l) S (upd S id (.row k ys))) (hro : RO (setL c id l) (upd S id (.row k ys)) (hp w') id (.row k ys) f) (hnd : f.Nodup)
    (hf : ∀ b ∈ f,c.U b ∧ ∀ id' ob',id' ≠ id → S id' = some ob' → b ∉ fp id') (hsame : ∀ b,b < w.heap.size → b ∉ fp id → hp w' b = hp w b) :
    StOK (setL c id l) (upd S id (.row k ys)) (hp w') (setF fp id f) := by
  refine ok.step ha (fun x => x = id) ?_ ?_ ?_ ok.dis
  · intro x ob' hx hne
    have hx' : S x = some ob' := by simpa [upd,hne] using hx
    exact ⟨hx',by simp [setL,hne],by simp [setF,hne],fun b hb => ⟨hsame b (ok.lt hx' hb) (ok.dj x id ob' _ hx' hs hne b hb),ok.nF x ob' hx' b hb⟩⟩
  · rintro x ob' hx rfl
    have he : ob' = .row k ys := by simpa [upd,eq_comm] using hx
    subst he
    refine ⟨by simpa [setF] using hro,by simpa [setF] using hnd,fun b hb => (hf b (by simpa [setF] using hb)).1,fun id' ob'' hne hs' b hb => ?_⟩
    simp only [setF,if_true] at hb
    simp only [setF,hne,if_false]
    exact (hf b hb).2 id' ob'' hne (by simpa [upd,hne] using hs')
  · intro b o' h
    have h1 := ok.okF b o' h
    rw [hsame b (hp_lt h1) (fun hb => (ok.nF id _ hs b hb).no h)]
    exact h1
theorem zeroCells_size (z : Array Value) (n : Nat) : (Builtin.zeroCells z n).size = n * z.size := size_zeroCells z n
theorem append_own {c : Ctx} {S : Sto} {w : World} {fp : Id → List Nat} {t ty e : TypeId} {i : TypeInfo} {z : Value} {k : Nat} {id : Id} {xs ys : List PV} {vs : List Value} {f : List Nat} {s x : Value}
    (ok : StOK c S (hp w) fp) (ht : P.underlying t = some (.slice e)) (hi : P.info? e = some i) (hz : i.zero = some z) (hsz : i.size = k) (hzs : z.cells.size = k) (hk0 : 0 < k) (hby : i.bytes ≤ 32768)
    (hs : S id = some (.row k xs)) (hv : OwnOK c S id xs.length s) (hty : trees ys = true) (hky : Ls k ys) (r : Rs c S (hp w) ys vs f) (hf : Free c S fp f) (hsrc : SrcAt w vs ys.length x) (hlen : xs.length + ys.length ≤ 4294967296) :
    ∃ v w' c' fp',(Builtin.append_ #[t,t] ty #[s,x]).run P w = .ok v w' ∧ StOK c' (upd S id (.row k (xs ++ ys))) (hp w') fp' ∧ Adv c c' S (upd S id (.row k (xs ++ ys))) ∧ RVal c' (upd S id (.row k (xs ++ ys))) (hp w') (.own id (xs.length + ys.length)) v ∧ Grew w w' := by
  have hv' := hv
  simp only [OwnOK,hs] at hv
  have hs0 := hv.2 trivial
  obtain ⟨A,cp,rfl,hsrc⟩ := hsrc
  obtain ⟨hvl,hv1⟩ := Rs_len hky r
  obtain ⟨htx,hkx,ro⟩ := ok.ob id _ hs
  have hltf := Rs_lt ys vs f r
  have hmaxl : xs.length + ys.length ≤ maxLen := by simp only [maxLen]; omega
  by_cases hy : ys.length = 0
  · -- nothing
    have hy' : ys = [] := List.eq_nil_of_length_eq_zero hy
    subst hy'
    have hcap : xs.length ≤ (c.L id).cap := by
      rcases ro with ro | ⟨fq,_,⟨_,_,_,_,h,_⟩,_⟩
      · rw [ro.1]; exact Nat.zero_le _
      · exact h
    refine ⟨s,w,c,fp,by rw [hs0]; exact run_append_zero w t ty e i ht hi _ _ _ _ _ hcap, ?_, ?_, ?_,Grew.refl _⟩
    all_goals
      have hu : upd S id (.row k (xs ++ [])) = S := by
        funext x
        by_cases hx : x = id
        · subst hx; simp [upd,hs]
        · simp [upd,hx]
      rw [hu]
    · exact ok
    · exact Adv.refl _ _
    · simp only [List.length_nil,Nat.add_zero]
      exact ⟨rfl,s,rfl,by rw [hs0]; rfl,hv'⟩
  · rcases hsrc with h0 | ⟨a,rfl,hcells⟩
    · exact absurd h0 hy
    by_cases hroom : xs.length + ys.length ≤ (c.L id).cap
    · -- in place
      rcases ro with ro | ⟨fq,hb,⟨cur,e',ws,g1,g2,g3,g4,g5,g6⟩,hfp⟩
      · rw [ro.1,ro.2.1] at hroom; simp at hroom; exact absurd (by simp [hroom]) hy
      have hwl := (Rs_len hkx g5).1
      have hfit : xs.length * i.size + vs.length ≤ cur.size := by rw [hsz,hvl,g4,← Nat.add_mul]; exact Nat.mul_le_mul_right _ hroom
      have hr := run_append_room' (P := P) w t ty e i ht hi (c.L id).blk xs.length (c.L id).cap cur e' g1 a ys.length cp vs (by rw [hvl,hsz]) hcells hv1 hroom hfit
      have ha : Adv c (setL c id (c.L id)) S (upd S id (.row k (xs ++ ys))) := Adv.row hs (by simp) (fun _ => rfl)
      have hltq := Rs_lt xs ws fq g5
      have hblk : (c.L id).blk ∈ fp id := by rw [hfp]; exact List.mem_cons_self
      have hsame : ∀ b,b ≠ (c.L id).blk → hp (w.setRow (c.L id).blk (cur.toList.take (xs.length * i.size) ++ vs ++ cur.toList.drop (xs.length * i.size + vs.length)).toArray) b = hp w b := fun b hb => hp_setRow hb
      have hnd := ok.nd id _ hs
      rw [hfp] at hnd
      refine ⟨_,_,setL c id (c.L id),setF fp id ((c.L id).blk :: (fq ++ f)),by rw [hs0,hb]; exact hr,ok.reset hs ha ?_ ?_ ?_ (fun b _ hb => hsame b (fun e => hb (by rw [e]; exact hblk))),ha, ?_,Grew.setRow _ _ _⟩
      · refine ⟨trees_append htx hty,Ls_append hkx hky,.inr ⟨fq ++ f,by simpa [setL] using hb, ?_,by simp [setL]⟩⟩
        refine ⟨(cur.toList.take (xs.length * i.size) ++ vs ++ cur.toList.drop (xs.length * i.size + vs.length)).toArray,e',ws ++ vs, ?_,by simp [setL]; exact hroom,by simpa [setL] using g3, ?_, ?_, ?_⟩
        · simp only [setL,if_true]; exact setRow_heap w _ cur _ e' (0,0) g1
        · simp only [setL,if_true,List.size_toArray,List.length_append,List.length_take,List.length_drop,Array.length_toList]
          rw [← g4]; omega
        · rw [Rs_append]
          refine ⟨ws,vs,fq,f,rfl,rfl,Rs.adv ha xs ws fq (fun b hb' => hsame b ?_) g5,Rs.adv ha ys vs f (fun b hb' => hsame b ?_) r⟩
          · intro e2; exact (List.nodup_cons.1 hnd).1 (e2 ▸ hb')
          · intro e2; exact (hf.2 b hb').2 id _ hs (by rw [e2]; exact hblk)
        · simp only [hsz,g6,List.length_append,Nat.add_mul]
          rw [← hwl,← hvl]
          have : (ws ++ vs ++ List.drop (ws.length + vs.length) cur.toList).take (ws.length + vs.length) = ws ++ vs := by
            rw [List.take_append_of_le_length (by simp),List.take_of_length_le (by simp)]
          simpa using this
      · refine List.nodup_cons.2 ⟨fun h => ?_,List.nodup_append.2 ⟨(List.nodup_cons.1 hnd).2,hf.1,fun p hp1 q hq1 e2 => ?_⟩⟩
        · rcases List.mem_append.1 h with h | h
          · exact (List.nodup_cons.1 hnd).1 h
          · exact (hf.2 _ h).2 id _ hs hblk
        · subst e2
          exact (hf.2 p hq1).2 id _ hs (by rw [hfp]; exact List.mem_cons_of_mem _ hp1)
      · intro b hb'
        rcases List.mem_cons.1 hb' with rfl | hb'
        · exact ⟨ok.nF id _ hs _ hblk,fun id' ob' hne hs' hb'' => ok.dj id' id ob' _ hs' hs hne _ hb'' hblk⟩
        · rcases List.mem_append.1 hb' with hb' | hb'
          · have hm : b ∈ fp id := by rw [hfp]; exact List.mem_cons_of_mem _ hb'
            exact ⟨ok.nF id _ hs b hm,fun id' ob' hne hs' hb'' => ok.dj id' id ob' _ hs' hs hne _ hb'' hm⟩
          · exact ⟨(hf.2 b hb').1,fun id' ob' _ hs' => (hf.2 b hb').2 id' ob' hs'⟩
      · exact ⟨rfl,_,rfl,rfl,by simp [OwnOK,upd,setL,hb]⟩
    · -- a new block
      have hbytes : (xs.length + ys.length) * i.bytes ≤ 140737488355328 := Nat.le_trans (Nat.mul_le_mul hlen hby) (by decide)
      have hfitc := growslice_fits (old := (c.L id).cap) (by omega) hbytes
      obtain ⟨olds,holdl,fq,hRold,holds,hfqs,hfqn⟩ : ∃ olds : List Value,olds.length = xs.length * k ∧ ∃ fq,Rs c S (hp w) xs olds fq ∧ (xs.length = 0 ∨ ∃ b,(c.L id).base = some b ∧ ∀ j v,olds[j]? = some v → w.cell? (b.add j) = some v) ∧ (∀ b ∈ fq,b ∈ fp id) ∧ fq.Nodup := by
        rcases ro with ro | ⟨fq,hb,⟨cur,e',ws,g1,g2,g3,g4,g5,g6⟩,hfp⟩
        · rw [ro.1]; exact ⟨[],by simp,[],⟨rfl,rfl⟩,.inl rfl,fun b hb => (by cases hb),List.nodup_nil⟩
        · have hnd := ok.nd id _ hs
          rw [hfp] at hnd
          refine ⟨ws,(Rs_len hkx g5).1,fq,g5,.inr ⟨_,hb,fun j v hj => ?_⟩,fun b hb' => by rw [hfp]; exact List.mem_cons_of_mem _ hb',(List.nodup_cons.1 hnd).2⟩
          rw [add_off,Nat.zero_add,cell_of_block g1]
          rw [← g6,List.getElem?_take] at hj
          split at hj
          · simpa using hj
          · cases hj
      have hr := run_append_new (P := P) w t ty e i z ht hi hz (c.L id).base xs.length (c.L id).cap olds (by rw [holdl,hsz]) holds a ys.length cp vs (by rw [hvl,hsz]) hcells (by omega) (by omega) hfitc
      have hge := grownCap_ge w (xs.length + ys.length) (c.L id).cap e
      have hcm := grownCap_le_maxLen w (xs.length + ys.length) (c.L id).cap e hmaxl
      have hltq := Rs_lt xs olds fq hRold
      generalize hcap : grownCap w (xs.length + ys.length) (c.L id).cap e = ncap at hr hge hcm
      let l : Loc := ⟨w.heap.size,some ⟨w.heap.size,0,none⟩,ncap⟩
      have hne : ¬ (xs ++ ys).length = xs.length := by simp; intro h; exact hy (by simp [h])
      have ha : Adv c (setL c id l) S (upd S id (.row k (xs ++ ys))) := Adv.row hs (by simp) (fun h => absurd h hne)
      have fb := fresh_block ok
      refine ⟨_,_,setL c id l,setF fp id (w.heap.size :: (fq ++ f)),by rw [hs0]; exact hr,ok.reset hs ha ?_ ?_ ?_ (fun b hb _ => hp_alloc_old (w := w.drew) (Nat.ne_of_lt hb)),ha, ?_,⟨rfl,rfl,rfl,by simp,fun a _ => fz_alloc w.drew _ _ a,Nat.le_succ _⟩⟩
      · refine ⟨trees_append htx hty,Ls_append hkx hky,.inr ⟨fq ++ f,by simp [setL,l], ?_,by simp [setL,l]⟩⟩
        refine ⟨_,e,olds ++ vs,by simp only [setL,if_true,l]; exact hp_alloc_new (w := w.drew),by simpa [setL,l] using hge,by simpa [setL,l] using hcm, ?_, ?_, ?_⟩
        · simp only [setL,if_true,l,Array.size_append,List.size_toArray,zeroCells_size,hzs,holdl,hvl,← Nat.add_mul]
          congr 1; omega
        · rw [Rs_append]
          exact ⟨olds,vs,fq,f,rfl,rfl,Rs.adv ha xs olds fq (fun b hb' => hp_alloc_old (w := w.drew) (Nat.ne_of_lt (hltq b hb'))) hRold,Rs.adv ha ys vs f (fun b hb' => hp_alloc_old (w := w.drew) (Nat.ne_of_lt (hltf b hb'))) r⟩
        · simp only [List.length_append,Nat.add_mul,← holdl,← hvl]
          have : (olds ++ vs ++ (Builtin.zeroCells z.cells (ncap - (xs.length + ys.length))).toList).take (olds.length + vs.length) = olds ++ vs := by
            rw [List.take_append_of_le_length (by simp),List.take_of_length_le (by simp)]
          simpa using this
      · refine List.nodup_cons.2 ⟨fun h => ?_,List.nodup_append.2 ⟨hfqn,hf.1,fun p hp1 q hq1 e2 => ?_⟩⟩
        · rcases List.mem_append.1 h with h | h
          · have := hltq _ h; omega
          · have := hltf _ h; omega
        · subst e2
          exact (hf.2 p hq1).2 id _ hs (hfqs p hp1)
      · intro b hb'
        rcases List.mem_cons.1 hb' with rfl | hb'
        · exact ⟨fb.1,fun id' ob' _ hs' => fb.2 id' ob' hs'⟩
        · rcases List.mem_append.1 hb' with hb' | hb'
          · exact ⟨ok.nF id _ hs b (hfqs b hb'),fun id' ob' hne' hs' hb'' => ok.dj id' id ob' _ hs' hs hne' _ hb'' (hfqs b hb')⟩
          · exact ⟨(hf.2 b hb').1,fun id' ob' _ hs' => (hf.2 b hb').2 id' ob' hs'⟩
      · refine ⟨rfl,_,rfl,rfl, ?_⟩
        simp [OwnOK,upd,setL,l]
end
end Go.Am
end
section
/- Append as a whole; stores. -/
set_option linter.unusedSimpArgs false
set_option linter.unusedVariables false
namespace Go.Am
open Go.RowKit
section
variable {P : Program}
theorem upds_snoc (ws : List (Id × OB)) (id : Id) (ob : OB) (S : Sto) : upds S (ws ++ [(id,ob)]) = upd (upds S ws) id ob := by rw [upds_append]; rfl
theorem upd_upd (S : Sto) (id : Id) (a b : OB) : upd (upd S id a) id b = upd S id b := by
  funext x; unfold upd; by_cases h : x = id <;> simp [h]
theorem src_ok {c : Ctx} {S : Sto} {w : World} {fp : Id → List Nat} {k : Nat} {cons : Bool} {x : PV} {ys : List PV} {ws : List (Id × OB)} {v : Value}
    (ok : StOK c S (hp w) fp) (e : srcOf S k cons x = some (ys,ws)) (r : RVal c S (hp w) x v) :
    ∃ c' fp' vs f,StOK c' (upds S ws) (hp w) fp' ∧ Adv c c' S (upds S ws) ∧ trees ys = true ∧ Ls k ys ∧ Rs c' (upds S ws) (hp w) ys vs f ∧ Free c' (upds S ws) fp' f ∧ SrcAt w vs ys.length v := by
  unfold srcOf at e
  split at e
  · -- nil
    simp only [Option.some.injEq,Prod.mk.injEq] at e
    obtain ⟨rfl,rfl⟩ := e
    obtain ⟨_,A,hv⟩ := r
    have hv : v = .slice A 0 0 := by simpa using hv
    exact ⟨c,fp,[],[],ok,Adv.refl _ _,rfl,fun x hx => (by cases hx),⟨rfl,rfl⟩,Free.nil,A,0,hv,.inl rfl⟩
  · -- a frozen slice
    rename_i k' xs
    split at e
    · rename_i hk
      subst hk
      simp only [Option.some.injEq,Prod.mk.injEq] at e
      obtain ⟨rfl,rfl⟩ := e
      obtain ⟨t,hk,_,A,cp,hv,r⟩ := r
      have hv : v = .slice A xs.length cp := by simpa using hv
      rcases r with r | ⟨g,off,cur,et,fr,vs,h1,hcp,h2,h4,h5⟩
      · subst r
        exact ⟨c,fp,[],[],ok,Adv.refl _ _,rfl,fun x hx => (by cases hx),⟨rfl,rfl⟩,Free.nil,A,cp,hv,.inl rfl⟩
      · refine ⟨c,fp,vs,[],ok,Adv.refl _ _,t,hk,h4,Free.nil,A,cp,hv,.inr ⟨_,h1,fun j u hj => ?_⟩⟩
        rw [add_off,cell_of_block (ok.okF _ _ (.inl h2))]
        rw [← h5,List.getElem?_take] at hj
        split at hj
        · simpa using hj
        · cases hj
    · cases e
  · -- a row
    rename_i id m
    obtain ⟨_,v',hv,_,hv2⟩ := r
    obtain rfl : v = v' := by simpa using hv
    split at e
    · rename_i k' xs hs
      split at e
      · rename_i hmk
        obtain ⟨rfl,rfl⟩ := hmk
        obtain ⟨t,hk,ro⟩ := ok.ob id _ hs
        have hvv := hv2
        simp only [OwnOK,hs] at hvv
        have hvv := hvv.2 trivial
        obtain ⟨vs,fq,hr,hsub,hnd,hat⟩ : ∃ vs fq,Rs c S (hp w) xs vs fq ∧ (∀ b ∈ fq,b ∈ fp id) ∧ fq.Nodup ∧ SrcAt w vs xs.length v := by
          rcases ro with ro | ⟨fq,hb,⟨cur,e',ws',g1,g2,g3,g4,g5,g6⟩,hfp⟩
          · rw [ro.1] at hvv ⊢
            exact ⟨[],[],⟨rfl,rfl⟩,fun b hb => (by cases hb),List.nodup_nil,_,_,hvv,.inl rfl⟩
          · have hn := ok.nd id _ hs
            rw [hfp] at hn
            refine ⟨ws',fq,g5,fun b hb' => by rw [hfp]; exact List.mem_cons_of_mem _ hb',(List.nodup_cons.1 hn).2,_,_,hvv,.inr ⟨_,hb,fun j u hj => ?_⟩⟩
            rw [add_off,Nat.zero_add,cell_of_block g1]
            rw [← g6,List.getElem?_take] at hj
            split at hj
            · simpa using hj
            · cases hj
        split at e
        · -- taken away
          simp only [Option.some.injEq,Prod.mk.injEq] at e
          obtain ⟨rfl,rfl⟩ := e
          obtain ⟨ok',ha⟩ := ok.kill hs
          refine ⟨c,setF fp id [],vs,fq,ok',ha,t,hk,Rs.adv ha xs vs fq (fun _ _ => rfl) hr,⟨hnd,fun b hb => ⟨ok.nF id _ hs b (hsub b hb),fun id' ob' hs' hb' => ?_⟩⟩,hat⟩
          by_cases hid : id' = id
          · subst hid; simp [setF] at hb'
          · simp only [setF,hid,if_false] at hb'
            exact ok.dj id id' _ ob' hs (by simpa [upds,upd,hid] using hs') (Ne.symm hid) b (hsub b hb) hb'
        · split at e
          · rename_i hp
            simp only [Option.some.injEq,Prod.mk.injEq] at e
            obtain ⟨rfl,rfl⟩ := e
            have := plains_fp hp hr
            subst this
            exact ⟨c,fp,vs,[],ok,Adv.refl _ _,t,hk,hr,Free.nil,hat⟩
          · cases e
      · cases e
    · rename_i k' xs hs
      split at e
      · rename_i hmk
        obtain ⟨rfl,rfl⟩ := hmk
        simp only [Option.some.injEq,Prod.mk.injEq] at e
        obtain ⟨rfl,rfl⟩ := e
        obtain ⟨t,hk,_,ro⟩ := ok.ob id _ hs
        simp only [OwnOK,hs] at hv2
        have hv2 := hv2.2 trivial
        rcases ro with ro | ⟨cur,et,vs,h1,hcp,h2,h4,h5⟩
        · rw [ro.1] at hv2 ⊢
          exact ⟨c,fp,[],[],ok,Adv.refl _ _,rfl,fun x hx => (by cases hx),⟨rfl,rfl⟩,Free.nil,_,_,hv2,.inl rfl⟩
        · refine ⟨c,fp,vs,[],ok,Adv.refl _ _,t,hk,h4,Free.nil,_,_,hv2,.inr ⟨_,h1,fun j u hj => ?_⟩⟩
          rw [add_off,Nat.zero_add,cell_of_block (ok.okF _ _ (.inl h2))]
          rw [← h5,List.getElem?_take] at hj
          split at hj
          · simpa using hj
          · cases hj
      · cases e
    · cases e
  · -- a value itself
    rename_i A cp
    simp only [Option.some.injEq,Prod.mk.injEq] at e
    obtain ⟨rfl,rfl⟩ := e
    obtain ⟨_,hv,_⟩ := r
    have hv : v = .slice A 0 cp := by simpa using hv
    exact ⟨c,fp,[],[],ok,Adv.refl _ _,rfl,fun x hx => (by cases hx),⟨rfl,rfl⟩,Free.nil,A,cp,hv,.inl rfl⟩
  · cases e
theorem srcOf_ws {S : Sto} {k cons x ys ws} (e : srcOf S k cons x = some (ys,ws)) : ws = [] ∨ ∃ id k' xs,ws = [(id,.dead)] ∧ S id = some (.row k' xs) := by
  unfold srcOf at e
  repeat' split at e
  all_goals first | (cases e; done) | skip
  all_goals simp only [Option.some.injEq,Prod.mk.injEq] at e
  all_goals obtain ⟨rfl,rfl⟩ := e
  all_goals first | exact .inl rfl | exact .inr ⟨_,_,_,rfl,by assumption⟩
def appOf (P : Program) (t : TypeId) (k : Nat) : Bool :=
  match P.underlying t with
  | some (.slice e) => match P.info? e with
    | some i => match i.zero with
      | some z => decide (i.size = k) && decide (z.cells.size = k) && decide (0 < k) && decide (i.bytes ≤ 32768)
      | none => false
    | none => false
  | _ => false
theorem append_yield {c : Ctx} {S : Sto} {w : World} {fp : Id → List Nat} {t ty : TypeId} {k : Nat} {cons : Bool} {n d : Nat} {s x y : PV} {ws : List (Id × OB)} {v u : Value}
    (ok : StOK c S (hp w) fp) (ht : appOf P t k = true) (hs : RVal c S (hp w) s v) (hx : RVal c S (hp w) x u) (e : core1 n d S (.append k cons) [s,x] = some (y,ws)) :
    Yield P c S w (do pure (.value (← Builtin.append_ #[t,t] ty #[v,u]))) (upds S ws) y := by
  unfold appOf at ht
  split at ht
  · rename_i el hu
    split at ht
    · rename_i i hi
      split at ht
      · rename_i z hz
        simp only [Bool.and_eq_true,decide_eq_true_eq] at ht
        obtain ⟨⟨⟨hsz,hzs⟩,hk0⟩,hby⟩ := ht
        simp only [core1] at e
        split at e
        · cases e
        · rename_i ys ws' hsrc
          obtain ⟨c1,fp1,vs,f,ok1,ha1,hty,hky,hr,hf,hat⟩ := src_ok ok hsrc hx
          split at e
          · -- onto nil
            split at e
            · rename_i hl
              obtain ⟨hl,hn⟩ := hl
              simp only [Option.some.injEq,Prod.mk.injEq] at e
              obtain ⟨rfl,rfl⟩ := e
              have hn : S (n,d) = none := by simpa using hn
              have hn1 : upds S ws' (n,d) = none := by
                rcases srcOf_ws hsrc with rfl | ⟨id,k',xs,rfl,h⟩
                · exact hn
                · have : (n,d) ≠ id := fun e => by rw [e,h] at hn; cases hn
                  simpa [upds,upd,this] using hn
              obtain ⟨_,A,hv⟩ := hs
              have hv : v = .slice A 0 0 := by simpa using hv
              subst hv
              obtain ⟨ok2,ha2,hv2⟩ := norowX (k := k) (A := A) ok1 hn1
              have hv2 := own_of (R_of_RVal rfl (by intro h; cases h) hv2)
              have hf2 : Free (setL c1 (n,d) ⟨0,A,0⟩) (upd (upds S ws') (n,d) (.row k [])) (setF fp1 (n,d) []) f := ⟨hf.1,fun b hb => ?_⟩
              obtain ⟨v',w',c3,fp3,h1,h2,h3,h4,h5⟩ := append_own (P := P) (ty := ty) (id := (n,d)) (xs := []) ok2 hu hi hz hsz hzs hk0 hby (by simp [upd]) hv2 hty hky (Rs.adv ha2 ys vs f (fun _ _ => rfl) hr) hf2 hat (by simpa using hl)
              · rw [upds_snoc]
                simp only [upd_upd,List.nil_append,List.length_nil,Nat.zero_add] at h1 h2 h3 h4
                exact ⟨.value v',v',w',c3,fp3,by simp [h1],.inl rfl,h2,ha1.trans (by simpa [upd_upd] using ha2.trans h3),h4,h5⟩
              · have hf0 := hf.2 b hb
                refine ⟨hf0.1,fun id ob hs hb' => ?_⟩
                by_cases hid : id = (n,d)
                · subst hid; simp [setF] at hb'
                · simp only [setF,hid,if_false] at hb'
                  exact hf0.2 id ob (by simpa [upd,hid] using hs) hb'
            · cases e
          · -- onto a row
            rename_i id m
            split at e
            · rename_i k' xs hs'
              split at e
              · rename_i hl
                obtain ⟨rfl,rfl,hnd,hl⟩ := hl
                simp only [Option.some.injEq,Prod.mk.injEq] at e
                obtain ⟨rfl,rfl⟩ := e
                have hs1 : upds S ws' id = some (.row k' xs) := by
                  rcases srcOf_ws hsrc with rfl | ⟨id',k'',xs',rfl,h⟩
                  · exact hs'
                  · have : id ≠ id' := fun e => by subst e; simp [nodupId] at hnd
                    simpa [upds,upd,this] using hs'
                have hv1 := own_of (R_of_RVal rfl (by intro h; cases h) (hs.adv (h' := hp w) ha1))
                obtain ⟨v',w',c3,fp3,h1,h2,h3,h4,h5⟩ := append_own (P := P) (ty := ty) ok1 hu hi hz hsz hzs hk0 hby hs1 hv1 hty hky hr hf hat hl
                rw [upds_snoc]
                exact ⟨.value v',v',w',c3,fp3,by simp [h1],.inl rfl,h2,ha1.trans h3,h4,h5⟩
              · cases e
            · cases e
          · cases e
      · cases ht
    · cases ht
  · cases ht
end
end Go.Am
end
section
/- Stores. -/
set_option linter.unusedSimpArgs false
set_option linter.unusedVariables false
namespace Go.Am
open Go.RowKit
section
variable {P : Program}
def YieldU (P : Program) (c : Ctx) (S : Sto) (w : World) (m : Sem Unit) (S' : Sto) : Prop :=
  ∃ w' c' fp',m.run P w = .ok () w' ∧ StOK c' S' (hp w') fp' ∧ Adv c c' S S' ∧ Grew w w'
theorem YieldU.toY {c S w m S'} (h : YieldU P c S w m S') : Yield P c S w (do m; pure .skip) S' .undef := by
  obtain ⟨w',c',fp',h1,h2,h3,h4⟩ := h
  exact ⟨.skip,undef,w',c',fp',by simp [h1],.inr ⟨rfl,rfl⟩,h2,h3,trivial,h4⟩
theorem putC_eq : ∀ (ys cs : List PV) (j : Nat),j + ys.length ≤ cs.length → putC cs j ys = cs.take j ++ ys ++ cs.drop (j + ys.length)
  | [],cs,j,_ => by simp [putC]
  | y :: ys,cs,j,h => by
    simp only [List.length_cons] at h
    simp only [putC]
    rw [putC_eq ys (cs.set j y) (j + 1) (by simp; omega)]
    rw [List.set_eq_take_append_cons_drop]
    have hj : j < cs.length := by omega
    simp only [hj,if_true,List.length_cons]
    rw [List.take_append,List.drop_append]
    have h1 : (cs.take j).length = j := by simp; omega
    have e1 : j + 1 - j = 1 := by omega
    have e2 : j + 1 + ys.length - j = ys.length + 1 := by omega
    have e3 : (cs.take j).drop (j + 1 + ys.length) = [] := List.drop_eq_nil_of_le (by omega)
    have e4 : (cs.take j).take (j + 1) = cs.take j := List.take_of_length_le (by omega)
    simp only [h1,e1,e2,e3,e4,List.take_succ_cons,List.take_zero,List.drop_succ_cons,List.drop_drop,List.nil_append,List.append_assoc,List.cons_append]
    congr 4
    omega
theorem putC_length : ∀ (ys cs : List PV) (j : Nat),(putC cs j ys).length = cs.length
  | [],_,_ => rfl
  | y :: ys,cs,j => by simp only [putC]; rw [putC_length ys]; simp
theorem Rs_split {c S h} {xs ys : List PV} {vs : List Value} {fp} (hx : xs.all cellP = true) (r : Rs c S h (xs ++ ys) vs fp) : ∃ f1 f2,fp = f1 ++ f2 ∧ Rs c S h xs (vs.take xs.length) f1 ∧ Rs c S h ys (vs.drop xs.length) f2 := by
  obtain ⟨v1,v2,f1,f2,rfl,rfl,r1,r2⟩ := Rs_append.1 r
  have := (Rs_cells_len hx r1).1
  rw [← this,List.take_left,List.drop_left]
  exact ⟨f1,f2,rfl,r1,r2⟩
theorem Rs_putC {c S h} {cs ys : List PV} {we vs : List Value} {fe f} {j : Nat} (hc : cs.all cellP = true) (hy : ys.all cellP = true) (r : Rs c S h cs we fe) (ry : Rs c S h ys vs f) (hj : j + ys.length ≤ cs.length) :
    ∃ f1 f2 f3,fe = f1 ++ f2 ++ f3 ∧ Rs c S h (putC cs j ys) (we.take j ++ vs ++ we.drop (j + ys.length)) (f1 ++ f ++ f3) := by
  rw [putC_eq ys cs j hj]
  have e : cs = cs.take j ++ ((cs.drop j).take ys.length ++ cs.drop (j + ys.length)) := by
    rw [← List.drop_drop,List.take_append_drop,List.take_append_drop]
  rw [e] at r
  have hc' : ∀ {l : List PV},(∀ x ∈ l,x ∈ cs) → l.all cellP = true := fun h => List.all_eq_true.2 fun x hx => List.all_eq_true.1 hc x (h x hx)
  have l1 : (cs.take j).length = j := by simp; omega
  have l2 : ((cs.drop j).take ys.length).length = ys.length := by simp; omega
  obtain ⟨f1,f23,rfl,r1,r23⟩ := Rs_split (hc' fun x hx => List.mem_of_mem_take hx) r
  obtain ⟨f2,f3,rfl,r2,r3⟩ := Rs_split (hc' fun x hx => List.mem_of_mem_drop (List.mem_of_mem_take hx)) r23
  rw [l1] at r1 r2 r3
  rw [l2] at r3
  rw [List.drop_drop] at r3
  refine ⟨f1,f2,f3,by simp, ?_⟩
  rw [List.append_assoc,List.append_assoc,List.append_assoc]
  exact Rs_append.2 ⟨_,_,f1,f ++ f3,rfl,by simp,r1,Rs_append.2 ⟨_,_,f,f3,rfl,rfl,ry,r3⟩⟩
theorem run_storeAt {w : World} {g o : Nat} {e t : TypeId} {cur : Array Value} {u : Value} {i : TypeInfo} (hg : hp w g = some (.cells cur e (0,0))) (hi : P.info? t = some i) (hsz : i.size = u.cells.size) (hfit : o + u.cells.size ≤ cur.size)
    (h1 : ∀ v ∈ u.cells.toList,v.oneCell' = true) :
    (Instr.storeAt t (.pointer (some ⟨g,o,none⟩)) u).run P w = .ok () (w.setRow g (cur.toList.take o ++ u.cells.toList ++ cur.toList.drop (o + u.cells.size)).toArray) := by
  have hst := run_storeCells_at P g o e u.cells.toList 0 cur w hg (by simpa using hfit) h1
  simp only [Nat.add_zero,Array.length_toList] at hst
  simp [Instr.storeAt,Instr.sureAddr,storeVar,sizeOf,typeInfo,hi,hsz,hst]
theorem upTos_iff {n : Nat} : ∀ {xs : List PV},upTos n xs = true ↔ ∀ x ∈ xs,upTo n x = true
  | [] => by simp [upTos]
  | x :: xs => by simp [upTos,upTos_iff (xs := xs)]
theorem upTos_append {n : Nat} {xs ys : List PV} (h : upTos n xs = true) (k : upTos n ys = true) : upTos n (xs ++ ys) = true := upTos_iff.2 fun x hx => (List.mem_append.1 hx).elim (upTos_iff.1 h x) (upTos_iff.1 k x)
theorem upTos_sub {n : Nat} {xs ys : List PV} (h : upTos n xs = true) (k : ∀ y ∈ ys,y ∈ xs) : upTos n ys = true := upTos_iff.2 fun y hy => upTos_iff.1 h y (k y hy)
theorem StOK.rebox {c : Ctx} {S : Sto} {w : World} {fp : Id → List Nat} {id : Id} {cs ds : List PV} {vs : List Value} (hup : upTos id.1 ds = true) (ok : StOK c S (hp w) fp) (hs : S id = some (.box cs)) (hd : ds.all cellP = true) (r : Rs c S (hp w) ds vs []) :
    StOK c (upd S id (.box ds)) (hp (w.setRow (c.L id).blk vs.toArray)) fp ∧ Adv c c S (upd S id (.box ds)) := by
  have ha : Adv c c S (upd S id (.box ds)) := by
    refine ⟨fun _ _ h => h,rfl,fun x o hx => ?_⟩
    by_cases hxi : x = id
    · subst hxi
      rw [hs] at hx
      simp only [Option.some.injEq] at hx
      subst hx
      exact ⟨.box ds,by simp [upd],rfl⟩
    · exact ⟨o,by simp [upd,hxi,hx],StepOB.rfl' rfl⟩
  obtain ⟨cur,e,h1,h2,h3,h4,h5⟩ := ok.ob id _ hs
  have hne : ∀ b,b ∉ fp id → hp (w.setRow (c.L id).blk vs.toArray) b = hp w b := fun b hb => hp_setRow (fun e => hb (by rw [h4,e]; exact List.mem_singleton.2 rfl))
  refine ⟨ok.step ha (fun x => x = id) ?_ ?_ ?_ ok.dis,ha⟩
  · intro x ob' hx hxi
    have hx' : S x = some ob' := by simpa [upd,hxi] using hx
    exact ⟨hx',rfl,rfl,fun b hb => ⟨hne b (ok.dj x id ob' _ hx' hs hxi b hb),ok.nF x ob' hx' b hb⟩⟩
  · rintro x ob' hx rfl
    have he : ob' = .box ds := by simpa [upd,eq_comm] using hx
    subst he
    refine ⟨⟨vs.toArray,e,setRow_heap w _ cur _ e (0,0) h1,hd,by simpa using Rs.adv ha ds vs [] (fun b hb => by cases hb) r,h4,hup⟩,ok.nd x _ hs,ok.nF x _ hs,fun id' ob'' hid hs' b hb => ok.dj x id' _ ob'' hs (by simpa [upd,hid] using hs') (Ne.symm hid) b hb⟩
  · intro b o hb
    rw [hne b (fun hb' => (ok.nF id _ hs b hb').no hb)]
    exact ok.okF b o hb
theorem Rs_at {c S h k} : ∀ {xs : List PV} {ws fq} {i : Nat} {x : PV},Ls k xs → Rs c S h xs ws fq → xs[i]? = some x →
    ∃ w1 we w2 f1 fe f2,ws = w1 ++ we ++ w2 ∧ w1.length = i * k ∧ we.length = k ∧ fq = f1 ++ fe ++ f2 ∧ R c S h x we fe ∧ ∀ y vy fy,R c S h y vy fy → Rs c S h (xs.set i y) (w1 ++ vy ++ w2) (f1 ++ fy ++ f2)
  | [],_,_,_,_,_,_,e => by simp at e
  | y :: ys,ws,fq,0,x,hk,r,e => by
    obtain ⟨v1,v2,f1,f2,rfl,rfl,r1,r2⟩ := r
    simp only [List.getElem?_cons_zero,Option.some.injEq] at e
    subst e
    obtain ⟨hk1,hk2⟩ := hk y List.mem_cons_self
    exact ⟨[],v1,v2,[],f1,f2,rfl,by simp,by rw [(R_len hk2 r1).1,hk1],rfl,r1,fun z vz fz rz => by rw [List.set_cons_zero]; exact ⟨vz,v2,fz,f2,by simp,by simp,rz,r2⟩⟩
  | y :: ys,ws,fq,i + 1,x,hk,r,e => by
    obtain ⟨v1,v2,f1,f2,rfl,rfl,r1,r2⟩ := r
    simp only [List.getElem?_cons_succ] at e
    obtain ⟨hk1,hk2⟩ := hk y List.mem_cons_self
    obtain ⟨w1,we,w2,g1,ge,g2,e1,e2,e3,e4,e5,e6⟩ := Rs_at (fun x hx => hk x (List.mem_cons_of_mem _ hx)) r2 e
    subst e1 e4
    refine ⟨v1 ++ w1,we,w2,f1 ++ g1,ge,g2,by simp, ?_,e3,by simp,e5,fun z vz fz rz => ?_⟩
    · rw [List.length_append,e2,(R_len hk2 r1).1,hk1,Nat.add_mul]; omega
    · rw [List.set_cons_succ]
      exact ⟨v1,_,f1,_,by simp [List.append_assoc],by simp [List.append_assoc],r1,e6 z vz fz rz⟩
theorem trees_get : ∀ {xs : List PV} {i : Nat} {x : PV},trees xs = true → xs[i]? = some x → tree x = true
  | [],_,_,_,e => by simp at e
  | y :: ys,0,x,t,e => by simp only [trees,Bool.and_eq_true] at t; simp at e; rw [← e]; exact t.1
  | y :: ys,i + 1,x,t,e => by simp only [trees,Bool.and_eq_true] at t; exact trees_get t.2 (by simpa using e)
theorem trees_set : ∀ {xs : List PV} {i : Nat} {x : PV},trees xs = true → tree x = true → trees (xs.set i x) = true
  | [],_,_,_,_ => rfl
  | y :: ys,0,x,t,h => by simp only [trees,Bool.and_eq_true,List.set_cons_zero] at t ⊢; exact ⟨h,t.2⟩
  | y :: ys,i + 1,x,t,h => by simp only [trees,Bool.and_eq_true,List.set_cons_succ] at t ⊢; exact ⟨t.1,trees_set t.2 h⟩
theorem trees_take : ∀ {xs : List PV} (i : Nat),trees xs = true → trees (xs.take i) = true
  | [],_,_ => by simp [trees]
  | y :: ys,0,_ => rfl
  | y :: ys,i + 1,t => by simp only [trees,Bool.and_eq_true,List.take_succ_cons] at t ⊢; exact ⟨t.1,trees_take i t.2⟩
theorem trees_drop : ∀ {xs : List PV} (i : Nat),trees xs = true → trees (xs.drop i) = true
  | [],_,_ => by simp [trees]
  | y :: ys,0,t => t
  | y :: ys,i + 1,t => by simp only [trees,Bool.and_eq_true,List.drop_succ_cons] at t ⊢; exact trees_drop i t.2
theorem tree_cells {x : PV} (hf : flatE x = true) : trees x.cells = tree x := by
  cases x <;> simp [PV.cells,tree,trees,flatE] at *
theorem unAgg_R {c S h} {x : PV} {cs : List PV} {vs : List Value} {f} (hf : flatE x = true) (hl : cs.length = x.cells.length) (hc : cs.all cellP = true) (r : Rs c S h cs vs f) : R c S h (unAgg x cs) vs f ∧ flatE (unAgg x cs) = true ∧ (unAgg x cs).cells = cs := by
  cases x with
  | agg ds => exact ⟨⟨hc,r⟩,by simpa [unAgg,flatE] using hc,rfl⟩
  | tup ds => simp [flatE] at hf
  | bx ds => simp [flatE] at hf
  | _ =>
    simp only [PV.cells,List.length_cons,List.length_nil] at hl
    obtain ⟨y,rfl⟩ : ∃ y,cs = [y] := by
      cases cs with
      | nil => simp at hl
      | cons y ys => cases ys with | nil => exact ⟨y,rfl⟩ | cons _ _ => simp at hl
    simp only [List.all_cons,List.all_nil,Bool.and_true] at hc
    obtain ⟨v1,v2,f1,f2,rfl,rfl,r1,r2⟩ := r
    simp only [Rs] at r2
    obtain ⟨rfl,rfl⟩ := r2
    simp only [unAgg,List.headD_cons,List.append_nil]
    refine ⟨r1, ?_, ?_⟩ <;> cases y <;> simp [cellP,flatE,PV.cells] at hc ⊢
theorem sure_spec {x : PV} (h : sure x = true) : x ≠ .undef ∧ x.cells.all cellP = true := by
  cases x <;> first | (simp [sure] at h; done) | exact ⟨(by intro e; cases e),h⟩
theorem packs_nU {mv S xs ys ws} (e : packs mv S xs = some (ys,ws)) : ∀ x ∈ xs,x ≠ .undef ∧ cellP x = true := by
  induction xs generalizing ys ws with
  | nil => intro x hx; cases hx
  | cons y r ih =>
    simp only [packs] at e
    split at e
    · rename_i y' w' ys' w'' h1 h2
      intro x hx
      rcases List.mem_cons.1 hx with rfl | hx
      · cases x <;> simp [pack1,cellP] at h1 ⊢
      · exact ih h2 x hx
    · cases e
theorem sizeW_of {t : TypeId} {w : Nat} (h : ((P.info? t).map (·.size)) = some w) : ∃ i,P.info? t = some i ∧ i.size = w := by
  obtain ⟨i,h1,h2⟩ := Option.map_eq_some_iff.1 h
  exact ⟨i,h1,h2⟩
theorem store_yield {c : Ctx} {S : Sto} {w : World} {fp : Id → List Nat} {t : TypeId} {wd n d : Nat} {mv : Bool} {p x y : PV} {ws : List (Id × OB)} {v u : Value}
    (ok : StOK c S (hp w) fp) (ht : ((P.info? t).map (·.size)) = some wd) (hs : RVal c S (hp w) p v) (hx : RVal c S (hp w) x u) (e : core1 n d S (.store wd mv) [p,x] = some (y,ws)) :
    YieldU P c S w (Instr.storeAt t v u) (upds S ws) ∧ y = .undef := by
  obtain ⟨i,hi,hsz⟩ := sizeW_of ht
  cases p with
  | ref id m q j =>
    simp only [core1] at e
    obtain ⟨hv1,hv⟩ := one_of_ref hs
    split at e
    · -- into a box
      rename_i cs hs'
      split at e
      · rename_i hc
        obtain ⟨h1,h2,rfl,rfl,h5,h6⟩ := hc
        simp only [Option.some.injEq,Prod.mk.injEq] at e
        obtain ⟨rfl,rfl⟩ := e
        obtain ⟨hu,hxc⟩ := sure_spec h2
        simp only [RefOK,hs'] at hv
        have hv := hv trivial trivial
        subst hv
        obtain ⟨cur,et,g1,g2,g3,g4,g5⟩ := ok.ob id _ hs'
        have hxr := cells_RVal hxc hu hx
        have hlen := Rs_cells_len hxc hxr
        have hlc := (Rs_cells_len g2 g3).1
        have hus : u.cells.size = wd := by rw [← h1,← hlen.1,Array.length_toList]
        have hcs : cur.size = cs.length := by rw [← hlc,Array.length_toList]
        have hrun := run_storeAt (P := P) (t := t) (o := j) (u := u) g1 hi (by omega) (by omega) hlen.2
        obtain ⟨f1,f2,f3,e1,hput⟩ := Rs_putC (j := j) g2 hxc g3 hxr (by omega)
        have e1' : f1 = [] ∧ f3 = [] := by
          have := e1.symm
          simp only [List.append_eq_nil_iff] at this
          exact ⟨this.1.1,this.2⟩
        rw [e1'.1,e1'.2] at hput
        have hd : (putC cs j x.cells).all cellP = true := by
          rw [putC_eq _ _ _ (by omega)]
          simp only [List.all_append,Bool.and_eq_true]
          exact ⟨⟨List.all_eq_true.2 fun z hz => List.all_eq_true.1 g2 z (List.mem_of_mem_take hz),hxc⟩,List.all_eq_true.2 fun z hz => List.all_eq_true.1 g2 z (List.mem_of_mem_drop hz)⟩
        have hul : u.cells.size = x.cells.length := by omega
        rw [hul] at hrun
        obtain ⟨ok',ha⟩ := StOK.rebox (by rw [putC_eq _ _ _ (by omega)]; exact upTos_append (upTos_append (upTos_sub g5 fun z hz => List.mem_of_mem_take hz) h6) (upTos_sub g5 fun z hz => List.mem_of_mem_drop hz)) ok hs' hd hput
        exact ⟨⟨_,c,fp,hrun,ok',ha,Grew.setRow _ _ _⟩,rfl⟩
      · cases e
    · -- into a row
      rename_i k xs hs'
      split at e
      · rename_i hm
        split at e
        · rename_i ys ws' hpk
          split at e
          · rename_i hnd
            split at e
            · rename_i el hel
              split at e
              · rename_i hl
                obtain ⟨hl1,hl2⟩ := hl
                simp only [Option.some.injEq,Prod.mk.injEq] at e
                obtain ⟨rfl,rfl⟩ := e
                simp only [nodupId,Bool.and_eq_true,List.all_eq_true] at hnd
                have hxu := packs_nU hpk
                have hxc : x.cells.all cellP = true := List.all_eq_true.2 fun z hz => (hxu z hz).2
                have hu : x ≠ .undef := by
                  rintro rfl
                  exact (hxu .undef (by simp [PV.cells])).1 rfl
                have hxr := cells_RVal hxc hu hx
                obtain ⟨c1,fp1,f,pk,ry,hty,hyc,hyl⟩ := packs_ok hxc ok hxr hpk hnd.2
                have hs1 : upds S ws' id = some (.row k xs) := by
                  have key : ∀ (ws : List (Id × OB)) (S : Sto),(∀ z ∈ ws,z.1 ≠ id) → upds S ws id = S id := by
                    intro ws
                    induction ws with
                    | nil => intro S _; rfl
                    | cons a r ih =>
                      intro S hz
                      obtain ⟨i',o'⟩ := a
                      simp only [upds]
                      rw [ih _ (fun z hz' => hz z (List.mem_cons_of_mem _ hz'))]
                      have := hz _ List.mem_cons_self
                      simp only at this
                      simp [upd,Ne.symm this]
                  rw [key ws' S (fun z hz => by simpa using hnd.1 z hz)]
                  exact hs'
                have hvx : m = xs.length := hm
                have hv' := hv.adv pk.adv
                simp only [RefOK,hs1] at hv'
                have hv' := hv'.2 hvx
                obtain ⟨htx,hkx,ro⟩ := pk.ok.ob id _ hs1
                have hq : q < xs.length := (List.getElem?_eq_some_iff.1 hel).1
                rcases ro with ro | ⟨fq,hb,⟨cur,et,wsr,g1,g2,g3,g4,g5,g6⟩,hfp⟩
                · rw [ro.1] at hq; simp at hq
                obtain ⟨w1,we,w2,f1,fe,f2,e1,e2,e3,e4,e5,e6⟩ := Rs_at hkx g5 hel
                obtain ⟨hek,hef⟩ := hkx el (List.mem_of_getElem? hel)
                obtain ⟨hec,her⟩ := Rs_cells_of_R hef e5
                obtain ⟨p1,p2,p3,e7,hput⟩ := Rs_putC (j := j) hec hyc her ry (by omega)
                have hyl2 := (Rs_cells_len hyc ry).1
                have hdl : (putC el.cells j ys).length = el.cells.length := putC_length _ _ _
                have hd : (putC el.cells j ys).all cellP = true := by
                  rw [putC_eq _ _ _ (by omega)]
                  simp only [List.all_append,Bool.and_eq_true]
                  exact ⟨⟨List.all_eq_true.2 fun z hz => List.all_eq_true.1 hec z (List.mem_of_mem_take hz),hyc⟩,List.all_eq_true.2 fun z hz => List.all_eq_true.1 hec z (List.mem_of_mem_drop hz)⟩
                obtain ⟨hnew,hnf,hnc⟩ := unAgg_R hef hdl hd hput
                have hset := e6 _ _ _ hnew
                have hus : u.cells.size = wd := by
                  have := (Rs_cells_len hxc hxr).1
                  rw [Array.length_toList] at this
                  omega
                have hone : ∀ z ∈ u.cells.toList,z.oneCell' = true := (Rs_cells_len hyc ry).2
                have hulen : u.cells.toList.length = ys.length := hyl2
                have hmul : q * k + k ≤ xs.length * k := by
                  have := Nat.mul_le_mul_right k (Nat.succ_le_of_lt hq)
                  rw [Nat.succ_mul] at this; exact this
                have hcapk : xs.length * k ≤ (c1.L id).cap * k := Nat.mul_le_mul_right _ g2
                have hfit : q * k + j + u.cells.size ≤ cur.size := by rw [g4]; omega
                have hrun := run_storeAt (P := P) (t := t) (o := q * k + j) (u := u) g1 hi (by omega) hfit hone
                have hblk : (c1.L id).blk ∈ fp1 id := by rw [hfp]; exact List.mem_cons_self
                have hndf := pk.ok.nd id _ hs1
                rw [hfp] at hndf
                let l : Loc := c1.L id
                have ha : Adv c1 (setL c1 id (c1.L id)) (upds S ws') (upd (upds S ws') id (.row k (xs.set q (unAgg el (putC el.cells j ys))))) := Adv.row hs1 (by simp) (fun _ => rfl)
                have hsub : ∀ b,b ∈ p1 ++ p3 → b ∈ fe := fun b hb => by
                  rw [e7]; rcases List.mem_append.1 hb with hb | hb <;> simp [hb]
                have hfqn : fq.Nodup := (List.nodup_cons.1 hndf).2
                have hbq : (c1.L id).blk ∉ fq := (List.nodup_cons.1 hndf).1
                have hff : ∀ b ∈ f,b ∉ fp1 id := fun b hb => (pk.free.2 b hb).2 id _ hs1
                have hfqm : ∀ b ∈ fq,b ∈ fp1 id := fun b hb => by rw [hfp]; exact List.mem_cons_of_mem _ hb
                have hnewf : ∀ b ∈ f1 ++ (p1 ++ f ++ p3) ++ f2,b ∈ fq ∨ b ∈ f := by
                  intro b hb
                  simp only [List.mem_append] at hb
                  rw [e4]
                  rcases hb with (hb | (hb | hb) | hb) | hb
                  · exact .inl (by simp [hb])
                  · exact .inl (by rw [e7]; simp [hb])
                  · exact .inr hb
                  · exact .inl (by rw [e7]; simp [hb])
                  · exact .inl (by simp [hb])
                have hsame : ∀ b,b ∉ fp1 id → hp (w.setRow (c1.L id).blk (cur.toList.take (q * k + j) ++ u.cells.toList ++ cur.toList.drop (q * k + j + u.cells.size)).toArray) b = hp w b := fun b hb => hp_setRow (fun e => hb (by rw [e]; exact hblk))
                refine ⟨⟨_,setL c1 id (c1.L id),setF fp1 id ((c1.L id).blk :: (f1 ++ (p1 ++ f ++ p3) ++ f2)),by rw [hv']; exact hrun, ?_, ?_,Grew.setRow _ _ _⟩,rfl⟩
                · rw [upds_snoc]
                  refine pk.ok.reset hs1 ha ?_ ?_ ?_ (fun b _ hb => hsame b hb)
                  · refine ⟨trees_set htx ?_, ?_,.inr ⟨f1 ++ (p1 ++ f ++ p3) ++ f2,by simpa [setL] using hb, ?_,by simp only [setL,if_true]⟩⟩
                    · rw [← tree_cells hnf,hnc,putC_eq _ _ _ (by omega)]
                      have := trees_get htx hel
                      rw [← tree_cells hef] at this
                      exact trees_append (trees_append (trees_take _ this) hty) (trees_drop _ this)
                    · intro z hz
                      rcases List.mem_or_eq_of_mem_set hz with hz | rfl
                      · exact hkx z hz
                      · exact ⟨by rw [hnc,hdl,hek],hnf⟩
                    · refine ⟨_,et,_,by simp only [setL,if_true]; exact setRow_heap w _ cur _ et (0,0) g1,by simpa [setL] using g2,by simpa [setL] using g3, ?_,Rs.adv ha _ _ _ (fun b hb' => ?_) hset, ?_⟩
                      · simp only [setL,if_true,List.size_toArray,List.length_append,List.length_take,List.length_drop,Array.length_toList]
                        rw [← g4]; omega
                      · refine hp_setRow (fun e' => ?_)
                        rcases hnewf b hb' with h | h
                        · exact hbq (e' ▸ h)
                        · exact hff b h (e' ▸ hblk)
                      · -- the cells
                        have hcur : cur.toList = w1 ++ we ++ w2 ++ cur.toList.drop (xs.length * k) := by rw [← e1,← g6,List.take_append_drop]
                        have hwl : (w1 ++ we ++ w2).length = xs.length * k := by rw [← e1,(Rs_len hkx g5).1]
                        simp only [List.length_append] at hwl
                        have hlset : (xs.set q (unAgg el (putC el.cells j ys))).length = xs.length := by simp
                        rw [hlset]
                        have t1 : cur.toList.take (q * k + j) = w1 ++ we.take j := by
                          rw [hcur,← e2,List.append_assoc,List.append_assoc,List.take_append,List.take_of_length_le (by omega : w1.length ≤ w1.length + j)]
                          congr 1
                          rw [List.take_append_of_le_length (by omega)]
                          congr 1; omega
                        have t2 : cur.toList.drop (q * k + j + u.cells.size) = we.drop (j + ys.length) ++ (w2 ++ cur.toList.drop (xs.length * k)) := by
                          conv => lhs; rw [hcur]
                          rw [← e2,List.append_assoc,List.append_assoc,List.drop_append,List.drop_eq_nil_of_le (by omega : w1.length ≤ w1.length + j + u.cells.size),List.nil_append]
                          have : w1.length + j + u.cells.size - w1.length = j + ys.length := by
                            have : u.cells.size = ys.length := by rw [← hulen,Array.length_toList]
                            omega
                          rw [this,List.drop_append_of_le_length (by omega)]
                        rw [t1,t2,List.toList_toArray]
                        have hlen : xs.length * k = (w1 ++ (we.take j ++ u.cells.toList ++ we.drop (j + ys.length)) ++ w2).length := by
                          simp only [List.length_append,List.length_take,List.length_drop,hulen]
                          omega
                        generalize cur.toList.drop (xs.length * k) = tl
                        rw [hlen]
                        have : (w1 ++ we.take j ++ u.cells.toList ++ (we.drop (j + ys.length) ++ (w2 ++ tl))) = (w1 ++ (we.take j ++ u.cells.toList ++ we.drop (j + ys.length)) ++ w2) ++ tl := by simp [List.append_assoc]
                        rw [this]
                        exact List.take_left
                  · refine List.nodup_cons.2 ⟨fun h => ?_, ?_⟩
                    · rcases hnewf _ h with h | h
                      · exact hbq h
                      · exact hff _ h hblk
                    · rw [e4,e7] at hfqn
                      have d1 : ∀ b ∈ f,b ∉ f1 ++ (p1 ++ p2 ++ p3) ++ f2 := fun b hb h => hff b hb (hfqm b (by rw [e4,e7]; exact h))
                      have hfn := pk.free.1
                      simp only [List.nodup_append,List.mem_append] at hfqn hfn d1 ⊢
                      refine ⟨⟨hfqn.1.1,⟨⟨hfqn.1.2.1.1.1,hfn, ?_⟩,hfqn.1.2.1.2.1, ?_⟩, ?_⟩,hfqn.2.1, ?_⟩
                      · intro a ha1 b hb1 e; subst e; exact d1 a hb1 (.inl (.inr (.inl (.inl ha1))))
                      · intro a ha1 b hb1 e
                        subst e
                        rcases ha1 with ha1 | ha1
                        · exact hfqn.1.2.1.2.2 a (.inl ha1) a hb1 rfl
                        · exact d1 a ha1 (.inl (.inr (.inr hb1)))
                      · intro a ha1 b hb1 e
                        subst e
                        rcases hb1 with (hb1 | hb1) | hb1
                        · exact hfqn.1.2.2 a ha1 a (.inl (.inl hb1)) rfl
                        · exact d1 a hb1 (.inl (.inl ha1))
                        · exact hfqn.1.2.2 a ha1 a (.inr hb1) rfl
                      · intro a ha1 b hb1 e
                        subst e
                        rcases ha1 with ha1 | (ha1 | ha1) | ha1
                        · exact hfqn.2.2 a (.inl ha1) a hb1 rfl
                        · exact hfqn.2.2 a (.inr (.inl (.inl ha1))) a hb1 rfl
                        · exact d1 a ha1 (.inr hb1)
                        · exact hfqn.2.2 a (.inr (.inr ha1)) a hb1 rfl
                  · intro b hb'
                    have hcase : b ∈ fp1 id ∨ b ∈ f := by
                      rcases List.mem_cons.1 hb' with rfl | hb'
                      · exact .inl hblk
                      · exact (hnewf b hb').imp (hfqm b) (fun h => h)
                    rcases hcase with hm' | hm'
                    · exact ⟨pk.ok.nF id _ hs1 b hm',fun id' ob' hne hs2 hb'' => pk.ok.dj id' id ob' _ hs2 hs1 hne _ hb'' hm'⟩
                    · exact ⟨(pk.free.2 b hm').1,fun id' ob' _ hs2 => (pk.free.2 b hm').2 id' ob' hs2⟩
                · rw [upds_snoc]; exact pk.adv.trans ha
              · cases e
            · cases e
          · cases e
        · cases e
      · cases e
    · cases e
  | _ => simp [core1] at e
end
end Go.Am
end
section
/- The remaining operations; each operation of a given form is sound. -/
set_option linter.unusedSimpArgs false
set_option linter.unusedVariables false
namespace Go.Am
open Go.RowKit
section
variable {P : Program} {c : Ctx} {S : Sto} {w : World} {fp : Id → List Nat}
theorem RVals_inv0 {ps : List PV} (r : RVals c S (hp w) ps []) : ps = [] := by
  cases ps with
  | nil => rfl
  | cons x xs => obtain ⟨v,ws,e,_⟩ := r; cases e
theorem RVals_cons_inv {ps : List PV} {v : Value} {vs : List Value} (r : RVals c S (hp w) ps (v :: vs)) : ∃ x xs,ps = x :: xs ∧ RVal c S (hp w) x v ∧ RVals c S (hp w) xs vs := by
  cases ps with
  | nil => simp only [RVals] at r; cases r
  | cons x xs =>
    obtain ⟨v',ws,e,r1,r2⟩ := r
    simp only [List.cons.injEq] at e
    obtain ⟨rfl,rfl⟩ := e
    exact ⟨x,xs,rfl,r1,r2⟩
theorem RVals_inv1 {ps : List PV} {v : Value} (r : RVals c S (hp w) ps [v]) : ∃ x,ps = [x] ∧ RVal c S (hp w) x v := by
  obtain ⟨x,xs,rfl,h1,h2⟩ := RVals_cons_inv r
  rw [RVals_inv0 h2]; exact ⟨x,rfl,h1⟩
theorem RVals_inv2 {ps : List PV} {v u : Value} (r : RVals c S (hp w) ps [v,u]) : ∃ x y,ps = [x,y] ∧ RVal c S (hp w) x v ∧ RVal c S (hp w) y u := by
  obtain ⟨x,xs,rfl,h1,h2⟩ := RVals_cons_inv r
  obtain ⟨y,rfl,h3⟩ := RVals_inv1 h2
  exact ⟨x,y,rfl,h1,h3⟩
theorem RVals_inv3 {ps : List PV} {v u t : Value} (r : RVals c S (hp w) ps [v,u,t]) : ∃ x y z,ps = [x,y,z] ∧ RVal c S (hp w) x v ∧ RVal c S (hp w) y u ∧ RVal c S (hp w) z t := by
  obtain ⟨x,xs,rfl,h1,h2⟩ := RVals_cons_inv r
  obtain ⟨y,z,rfl,h3,h4⟩ := RVals_inv2 h2
  exact ⟨x,y,z,rfl,h1,h3,h4⟩
theorem RVals_cells : ∀ {xs : List PV} {vs : List Value},(∀ x ∈ xs,sure x = true ∧ cellP x = true) → RVals c S (hp w) xs vs → Rs c S (hp w) xs vs [] ∧ xs.all cellP = true
  | [],_,_,r => ⟨⟨r,rfl⟩,rfl⟩
  | x :: xs,_,h,r => by
    obtain ⟨v,ws,rfl,r1,r2⟩ := r
    obtain ⟨h1,h2⟩ := RVals_cells (fun y hy => h y (List.mem_cons_of_mem _ hy)) r2
    obtain ⟨h3,h4⟩ := h x List.mem_cons_self
    exact ⟨⟨[v],ws,[],[],rfl,rfl,R_of_RVal h4 (sure_spec h3).1 r1,h1⟩,by simp [h4,h2]⟩
def zeroCs (P : Program) (t : TypeId) : Option (Array Value) := ((P.info? t).bind (·.zero)).map (·.cells)
def placeF (P : Program) (t : TypeId) : Nat → Option (Nat × Nat) :=
  match P.underlying t with
  | some (.array _ e) => match P.info? e with
    | some i => fun q => some (q * i.size,i.size)
    | none => fun _ => none
  | some (.struct fields) => match fields.toList.mapM (fun f => (P.info? f.type).map fun i => (f.offset,i.size)) with
    | some places => (places.toArray[·]?)
    | none => fun _ => none
  | _ => fun _ => none
def isAgT (P : Program) (t : TypeId) : Bool :=
  match P.underlying t with
  | some (.array _ e) => (P.info? e).isSome
  | some (.struct fields) => (fields.toList.mapM (fun f => (P.info? f.type).map fun i => (f.offset,i.size))).isSome
  | _ => false
def buildOK (P : Program) (t : TypeId) (is : List Nat) (z : List PV) (offs : List (Nat × Nat)) : Bool :=
  isAgT P t && (match zeroCs P t with | some cs => litsOK z cs.toList | none => false) && is.map (placeF P t) == offs.map some
theorem built_of {t : TypeId} {parts : List (Nat × Value)} {zs cells : Array Value} (ha : isAgT P t = true) (hz : zeroCs P t = some zs) (hf : Instr.fill (placeF P t) zs parts = some cells) : P.built t parts = some cells := by
  unfold zeroCs at hz
  obtain ⟨z,hz1,hz2⟩ := Option.map_eq_some_iff.1 hz
  obtain ⟨i,hi,hz3⟩ := Option.bind_eq_some_iff.1 hz1
  unfold isAgT at ha
  unfold placeF at hf
  unfold Program.built
  split at ha
  · rename_i n e hu
    obtain ⟨ie,hie⟩ := Option.isSome_iff_exists.1 ha
    simp only [hi,hu,hz3,hie] at hf ⊢
    rw [hz2]; exact hf
  · rename_i fields hu
    obtain ⟨pl,hpl⟩ := Option.isSome_iff_exists.1 ha
    simp only [hi,hu,hz3,hpl] at hf ⊢
    rw [hz2]; exact hf
  · cases ha
theorem fill_buildC {place : Nat → Option (Nat × Nat)} : ∀ {is : List Nat} {offs : List (Nat × Nat)} {xs : List PV} {vs : List Value} {z z' : List PV} {zs : Array Value},is.map place = offs.map some → RVals c S (hp w) xs vs → z.all cellP = true → Rs c S (hp w) z zs.toList [] →
    buildC z offs xs = some z' → ∃ zs',Instr.fill place zs (is.zip vs) = some zs' ∧ z'.all cellP = true ∧ Rs c S (hp w) z' zs'.toList []
  | [],offs,xs,vs,z,z',zs,hi,r,hc,rz,e => by
    cases offs with
    | cons _ _ => simp at hi
    | nil =>
      cases xs with
      | cons _ _ => simp [buildC] at e
      | nil =>
        simp only [buildC,Option.some.injEq] at e
        subst e
        exact ⟨zs,by simp [Instr.fill],hc,rz⟩
  | i :: is,offs,xs,vs,z,z',zs,hi,r,hc,rz,e => by
    cases offs with
    | nil => simp at hi
    | cons on offs =>
      obtain ⟨o,n⟩ := on
      simp only [List.map_cons,List.cons.injEq] at hi
      cases xs with
      | nil => simp [buildC] at e
      | cons x xs =>
        obtain ⟨v,ws,rfl,r1,r2⟩ := r
        simp only [buildC] at e
        split at e
        · rename_i hx
          obtain ⟨h1,h2,h3⟩ := hx
          obtain ⟨hu,hxc⟩ := sure_spec h3
          have hxr := cells_RVal hxc hu r1
          have hxl := (Rs_cells_len hxc hxr).1
          have hzl := (Rs_cells_len hc rz).1
          simp only [Array.length_toList] at hxl hzl
          obtain ⟨f1,f2,f3,e1,hput⟩ := Rs_putC (j := o) hc hxc rz hxr (by omega)
          have e1' := e1.symm
          simp only [List.append_eq_nil_iff] at e1'
          rw [e1'.1.1,e1'.2] at hput
          have hfold := foldl_put v.cells.toList o zs 0 (by simp; omega)
          have hd : (putC z o x.cells).all cellP = true := by
            rw [putC_eq _ _ _ (by omega)]
            simp only [List.all_append,Bool.and_eq_true]
            exact ⟨⟨List.all_eq_true.2 fun y hy => List.all_eq_true.1 hc y (List.mem_of_mem_take hy),hxc⟩,List.all_eq_true.2 fun y hy => List.all_eq_true.1 hc y (List.mem_of_mem_drop hy)⟩
          simp only [Nat.add_zero,Array.length_toList] at hfold
          rw [← hxl] at hput
          have hput' : Rs c S (hp w) (putC z o x.cells) ((v.cells.toList.zipIdx 0).foldl (fun (cs : Array Value) (x : Value × Nat) => cs.setIfInBounds (o + x.2) x.1) zs).toList [] := by rw [hfold]; exact hput
          obtain ⟨zs',g1,g2,g3⟩ := fill_buildC hi.2 r2 hd hput' e
          refine ⟨zs', ?_,g2,g3⟩
          have hsz : ¬ (v.cells.size ≠ n ∨ o + v.cells.size > zs.size) := by omega
          have hsz2 : ¬ (v.cells.size ≠ n ∨ zs.size < o + v.cells.size) := by omega
          have harr : v.cells.zipIdx.foldl (fun cs x => cs.setIfInBounds (o + x.2) x.1) zs = ((v.cells.toList.zipIdx 0).foldl (fun (cs : Array Value) (x : Value × Nat) => cs.setIfInBounds (o + x.2) x.1) zs) := by
            rw [← Array.foldl_toList]; simp
          simp only [List.zip_cons_cons,Instr.fill,hi.1]
          simp only [bne_iff_ne,ne_eq,Bool.or_eq_true,decide_eq_true_eq,hsz,hsz2,if_false]
          have : (v.cells.zipIdx.foldl (fun cs (x : Value × Nat) => match x with | (c,j) => cs.setIfInBounds (o + j) c) zs) = v.cells.zipIdx.foldl (fun cs x => cs.setIfInBounds (o + x.2) x.1) zs := rfl
          rw [this,harr]
          exact g1
        · cases e
theorem build_yield {t : TypeId} {parts : Array (Nat × Operand)} {ρ : Operand → Value} {xs z z' : List PV} {offs : List (Nat × Nat)} (ok : StOK c S (hp w) fp) (hb : buildOK P t (parts.toList.map (·.1)) z offs = true)
    (r : RVals c S (hp w) xs ((parts.toList.map (·.2)).map ρ)) (e : buildC z offs xs = some z') : Yield P c S w (do pure (.value (← Instr.build t (parts.map fun x => (x.1,ρ x.2))))) S (.agg z') := by
  simp only [buildOK,Bool.and_eq_true] at hb
  obtain ⟨⟨h1,h2⟩,h3⟩ := hb
  split at h2
  · rename_i cs hcs
    obtain ⟨rz,hc,_⟩ := litsOK_R (c := c) (S := S) (h := hp w) h2
    obtain ⟨zs',g1,g2,g3⟩ := fill_buildC (eq_of_beq h3) r hc rz e
    have hz : (parts.map fun x => (x.1,ρ x.2)).toList = (parts.toList.map (·.1)).zip ((parts.toList.map (·.2)).map ρ) := by
      simp only [Array.toList_map,List.map_map]
      rw [List.zip_map']
      simp [Function.comp_def]
    have hrun := run_build (P := P) w t (parts.map fun x => (x.1,ρ x.2)) zs' (built_of h1 hcs (by rw [hz]; exact g1))
    exact yield_pure ok hrun ⟨zs'.toList,by simp,g2,g3⟩
  · cases h2
end
end Go.Am
end
section
/- A slice that a row's cell alone leads to becomes an object of its own: the cell is not looked at any more. -/
set_option linter.unusedSimpArgs false
set_option linter.unusedVariables false
namespace Go.Am
open Go.RowKit
section
variable {P : Program} {c : Ctx} {S : Sto} {w : World} {fp : Id → List Nat}
theorem Ls_one {cs : List PV} (hc : cs.all cellP = true) : Ls 1 cs := fun x hx => by
  have h := List.all_eq_true.1 hc x hx
  cases x <;> first | (simp [cellP] at h; done) | exact ⟨rfl,rfl⟩
theorem take_yield (ok : StOK c S (hp w) fp) {t : TypeId} {id nid : Id} {m i j k k' : Nat} {xs ys : List PV} {e : PV} {v : Value} (hk : kindOf P t = some none) (hs : S id = some (.row k xs)) (hm : m = xs.length) (hel : nth xs i = some e)
    (hcj : nth e.cells j = some (.sl true k' ys)) (hn : S nid = none) (hx : RVal c S (hp w) (.ref id m i j) v) :
    Yield P c S w (do pure (.value (← Instr.loadAt t v))) (upds S [(id,.row k (xs.set i (unAgg e (e.cells.set j .undef)))),(nid,.row k' ys)]) (.own nid ys.length) := by
  unfold nth at hel hcj
  have hne : nid ≠ id := fun h => by rw [h,hs] at hn; cases hn
  obtain ⟨htx,hkx,ro⟩ := ok.ob id _ hs
  have hq : i < xs.length := (List.getElem?_eq_some_iff.1 hel).1
  rcases ro with ro | ⟨fq,hb,⟨cur,et,wsr,g1,g2,g3,g4,g5,g6⟩,hfp⟩
  · rw [ro.1] at hq; simp at hq
  obtain ⟨w1,we,w2,f1,fe,f2,e1,e2,e3,e4,e5,e6⟩ := Rs_at hkx g5 hel
  obtain ⟨hek,hef⟩ := hkx e (List.mem_of_getElem? hel)
  obtain ⟨hec,her⟩ := Rs_cells_of_R hef e5
  obtain ⟨a1,ae,a2,p1,p2,p3,q1,q2,q3,q4,q5,q6⟩ := Rs_at (Ls_one hec) her hcj
  obtain ⟨u,rfl⟩ := List.length_eq_one_iff.1 q3
  have hone : u.oneCell' = true := by
    have := (Rs_cells_len hec her).2
    exact this u (by rw [q1]; simp)
  obtain ⟨hty,hky,A,cp,hu,alt⟩ : trees ys = true ∧ Ls k' ys ∧ ∃ A cp,[u] = [Value.slice A ys.length cp] ∧ ((ys = [] ∧ cp = 0 ∧ p2 = []) ∨ ∃ g cur e ws fq,A = some ⟨g,0,none⟩ ∧ (hp w) g = some (.cells cur e (0,0)) ∧ ys.length ≤ cp ∧ cp ≤ maxLen ∧ cur.size = cp * k' ∧ Rs c S (hp w) ys ws fq ∧ cur.toList.take (ys.length * k') = ws ∧ p2 = g :: fq) := by
    simpa only [R] using q5
  have hu : u = .slice A ys.length cp := by simpa using hu
  have hput := q6 .undef [u] [] ⟨rfl,u,rfl,hone⟩
  have hjl : j < e.cells.length := (List.getElem?_eq_some_iff.1 hcj).1
  have hcall : (e.cells.set j .undef).all cellP = true := List.all_eq_true.2 fun z hz => by
    rcases List.mem_or_eq_of_mem_set hz with h | h
    · exact List.all_eq_true.1 hec z h
    · rw [h]; rfl
  obtain ⟨hnew,hnf,hnc⟩ := unAgg_R hef (by simp) hcall hput
  rw [← q1,List.append_nil] at hnew
  have hset := e6 _ _ _ hnew
  rw [← e1] at hset
  have htree : tree (unAgg e (e.cells.set j .undef)) = true := by
    rw [← tree_cells hnf,hnc]
    have := trees_get htx hel
    rw [← tree_cells hef] at this
    exact trees_set this rfl
  have hls : Ls k (xs.set i (unAgg e (e.cells.set j .undef))) := fun z hz => by
    rcases List.mem_or_eq_of_mem_set hz with hz | rfl
    · exact hkx z hz
    · exact ⟨by rw [hnc,List.length_set,hek],hnf⟩
  -- the new object's place
  obtain ⟨l,hlb,hlc,hl⟩ : ∃ l : Loc,l.base = A ∧ l.cap = cp ∧ ((ys = [] ∧ l.cap = 0 ∧ p2 = []) ∨ ∃ cur e ws fq,l.base = some ⟨l.blk,0,none⟩ ∧ (hp w) l.blk = some (.cells cur e (0,0)) ∧ ys.length ≤ l.cap ∧ l.cap ≤ maxLen ∧ cur.size = l.cap * k' ∧ Rs c S (hp w) ys ws fq ∧ cur.toList.take (ys.length * k') = ws ∧ p2 = l.blk :: fq) := by
    rcases alt with ⟨b1,b2,b3⟩ | ⟨g,cur,e,ws,fq,b1,b2,b3,b4,b5,b6,b7,b8⟩
    · exact ⟨⟨0,A,cp⟩,rfl,rfl,.inl ⟨b1,b2,b3⟩⟩
    · exact ⟨⟨g,A,cp⟩,rfl,rfl,.inr ⟨cur,e,ws,fq,b1,b2,b3,b4,b5,b6,b7,b8⟩⟩
  have hndf := ok.nd id _ hs
  rw [hfp] at hndf
  have hp2 : ∀ b ∈ p2,b ∈ fp id := fun b hb => by rw [hfp,e4,q4]; simp [hb]
  have hrest : ∀ b ∈ (c.L id).blk :: (f1 ++ (p1 ++ p3) ++ f2),b ∈ fp id := fun b hb => by
    rw [hfp,e4,q4]
    simp only [List.mem_cons,List.mem_append] at hb ⊢
    rcases hb with h | (h | h | h) | h <;> simp [h]
  have hperm : ((c.L id).blk :: (f1 ++ (p1 ++ p2 ++ p3) ++ f2)).Nodup := by rw [← q4,← e4]; exact hndf
  have hnd1 : ((c.L id).blk :: (f1 ++ (p1 ++ p3) ++ f2)).Nodup := by
    refine List.Nodup.sublist ?_ hperm
    refine List.Sublist.cons_cons _ ?_
    refine List.Sublist.append (List.Sublist.append (List.Sublist.refl _) ?_) (List.Sublist.refl _)
    exact List.Sublist.append (List.sublist_append_left _ _) (List.Sublist.refl _)
  have hnd2 : p2.Nodup := by
    refine List.Nodup.sublist ?_ hperm
    refine List.Sublist.cons _ ?_
    refine List.Sublist.trans ?_ (List.sublist_append_left _ _)
    refine List.Sublist.trans ?_ (List.sublist_append_right _ _)
    exact List.Sublist.trans (List.sublist_append_right _ _) (List.sublist_append_left _ _)
  have hdis : ∀ b ∈ p2,b ∉ (c.L id).blk :: (f1 ++ (p1 ++ p3) ++ f2) := by
    intro b hb h
    obtain ⟨z1,z2⟩ := List.nodup_cons.1 hperm
    rcases List.mem_cons.1 h with h | h
    · exact z1 (by rw [← h]; simp [hb])
    · obtain ⟨y1,y2,y3⟩ := List.nodup_append.1 z2
      obtain ⟨x1,x2,x3⟩ := List.nodup_append.1 y1
      obtain ⟨v1,v2,v3⟩ := List.nodup_append.1 x2
      obtain ⟨u1,u2,u3⟩ := List.nodup_append.1 v1
      simp only [List.mem_append] at h
      rcases h with (h | h | h) | h
      · exact x3 b h b (by simp [hb]) rfl
      · exact u3 b h b hb rfl
      · exact v3 b (by simp [hb]) b h rfl
      · exact y3 b (by simp [hb]) b h rfl
  have hS1 : upds S [(id,.row k (xs.set i (unAgg e (e.cells.set j .undef)))),(nid,.row k' ys)] id = some (.row k (xs.set i (unAgg e (e.cells.set j .undef)))) := by simp [upds,upd,Ne.symm hne]
  have hS2 : upds S [(id,.row k (xs.set i (unAgg e (e.cells.set j .undef)))),(nid,.row k' ys)] nid = some (.row k' ys) := by simp [upds,upd]
  have hS3 : ∀ x,x ≠ id → x ≠ nid → upds S [(id,.row k (xs.set i (unAgg e (e.cells.set j .undef)))),(nid,.row k' ys)] x = S x := fun x h1 h2 => by simp [upds,upd,h1,h2]
  generalize upds S [(id,.row k (xs.set i (unAgg e (e.cells.set j .undef)))),(nid,.row k' ys)] = S' at *
  have hLid : (setL c nid l).L id = c.L id := by simp [setL,Ne.symm hne]
  have hLn : (setL c nid l).L nid = l := by simp [setL]
  have ha : Adv c (setL c nid l) S S' := by
    refine ⟨fun _ _ h => h,rfl,fun x o hxo => ?_⟩
    by_cases hxi : x = id
    · subst hxi
      rw [hs] at hxo
      simp only [Option.some.injEq] at hxo
      subst hxo
      exact ⟨_,hS1,rfl,by simp,fun _ => hLid⟩
    · have hxn : x ≠ nid := fun h => by rw [h,hn] at hxo; cases hxo
      exact ⟨o,by rw [hS3 x hxi hxn]; exact hxo,StepOB.rfl' (by simp [setL,hxn])⟩
  have hst : StOK (setL c nid l) S' (hp w) (setF (setF fp id ((c.L id).blk :: (f1 ++ (p1 ++ p3) ++ f2))) nid p2) := by
    refine ok.step ha (fun x => x = id ∨ x = nid) ?_ ?_ ok.okF ok.dis
    · intro x ob' hxo hnt
      have h1 : x ≠ id := fun h => hnt (.inl h)
      have h2 : x ≠ nid := fun h => hnt (.inr h)
      rw [hS3 x h1 h2] at hxo
      exact ⟨hxo,by simp [setL,h2],by simp [setF,h1,h2],fun b hb => ⟨rfl,ok.nF x ob' hxo b hb⟩⟩
    · rintro x ob' hxo (rfl | rfl)
      · rw [hS1] at hxo
        simp only [Option.some.injEq] at hxo
        subst hxo
        have hf0 : setF (setF fp x ((c.L x).blk :: (f1 ++ (p1 ++ p3) ++ f2))) nid p2 x = (c.L x).blk :: (f1 ++ (p1 ++ p3) ++ f2) := by simp [setF,Ne.symm hne]
        rw [hf0]
        refine ⟨⟨trees_set htx htree,hls,.inr ⟨f1 ++ (p1 ++ p3) ++ f2,by rw [hLid]; exact hb, ?_,by rw [hLid]⟩⟩,hnd1,fun b hb => ok.nF x _ hs b (hrest b hb),fun id' ob'' hne' hs' b hb => ?_⟩
        · rw [hLid]
          exact ⟨cur,et,wsr,g1,by simpa using g2,g3,g4,Rs.adv ha _ _ _ (fun _ _ => rfl) hset,by simpa using g6⟩
        · by_cases h2 : id' = nid
          · subst h2
            simp only [setF,if_true]
            exact fun h => hdis b h hb
          · rw [hS3 id' hne' h2] at hs'
            simp only [setF,h2,hne',if_false]
            exact fun h => ok.dj x id' _ ob'' hs hs' (Ne.symm hne') b (hrest b hb) h
      · rw [hS2] at hxo
        simp only [Option.some.injEq] at hxo
        subst hxo
        have hf0 : setF (setF fp id ((c.L id).blk :: (f1 ++ (p1 ++ p3) ++ f2))) x p2 x = p2 := by simp [setF]
        rw [hf0]
        refine ⟨⟨hty,hky, ?_⟩,hnd2,fun b hb => ok.nF id _ hs b (hp2 b hb),fun id' ob'' hne' hs' b hbm => ?_⟩
        · rw [hLn]
          rcases hl with b1 | ⟨cur,e,ws,fq,b1,b2,b3,b4,b5,b6,b7,b8⟩
          · exact .inl b1
          · exact .inr ⟨fq,b1,⟨cur,e,ws,b2,b3,b4,b5,Rs.adv ha _ _ _ (fun _ _ => rfl) b6,b7⟩,b8⟩
        · by_cases h2 : id' = id
          · subst h2
            simp only [setF,hne',if_false,if_true]
            exact fun h => hdis b hbm h
          · rw [hS3 id' h2 hne'] at hs'
            simp only [setF,h2,hne',if_false]
            exact fun h => ok.dj id id' _ ob'' hs hs' (Ne.symm h2) b (hp2 b hbm) h
  -- the load
  have hv : v = .pointer (some ⟨(c.L id).blk,i * k + j,none⟩) := by
    have hr := (one_of_ref hx).2
    simp only [RefOK,hs] at hr
    exact hr.2 hm
  have hcell : w.cell? ⟨(c.L id).blk,i * k + j,none⟩ = some u := by
    rw [cell_of_block g1]
    have h1 : wsr[i * k + j]? = some u := by
      rw [e1,q1,← e2,List.append_assoc,List.getElem?_append_right (by omega)]
      have h2 : w1.length + j - w1.length = j := by omega
      have h3 : a1.length = j := by rw [q2]; omega
      rw [h2,List.append_assoc,List.append_assoc,List.getElem?_append_right (by omega),h3]
      simp
    rw [← g6,List.getElem?_take] at h1
    split at h1
    · simpa using h1
    · cases h1
  rw [hv]
  refine ⟨_,u,w,_,_,by simp [Instr.loadAt,Instr.sureAddr,run_loadVar_one hk hcell],.inl rfl,hst,ha, ?_,Grew.refl _⟩
  refine ⟨rfl,u,rfl,hone, ?_⟩
  simp only [OwnOK,hS2]
  exact ⟨Nat.le_refl _,fun _ => by rw [hLn,hlb,hlc]; exact hu⟩
theorem take_nil_yield (ok : StOK c S (hp w) fp) {t : TypeId} {id : Id} {m i j k : Nat} {xs : List PV} {e : PV} {v : Value} (hk : kindOf P t = some none) (hs : S id = some (.row k xs)) (hm : m = xs.length) (hel : nth xs i = some e)
    (hcj : nth e.cells j = some .nils) (hx : RVal c S (hp w) (.ref id m i j) v) :
    Yield P c S w (do pure (.value (← Instr.loadAt t v))) S .nils := by
  unfold nth at hel hcj
  obtain ⟨htx,hkx,ro⟩ := ok.ob id _ hs
  have hq : i < xs.length := (List.getElem?_eq_some_iff.1 hel).1
  rcases ro with ro | ⟨fq,hb,⟨cur,et,wsr,g1,g2,g3,g4,g5,g6⟩,hfp⟩
  · rw [ro.1] at hq; simp at hq
  obtain ⟨w1,we,w2,f1,fe,f2,e1,e2,e3,e4,e5,e6⟩ := Rs_at hkx g5 hel
  obtain ⟨hek,hef⟩ := hkx e (List.mem_of_getElem? hel)
  obtain ⟨hec,her⟩ := Rs_cells_of_R hef e5
  obtain ⟨a1,ae,a2,p1,p2,p3,q1,q2,q3,q4,q5,q6⟩ := Rs_at (Ls_one hec) her hcj
  obtain ⟨u,rfl⟩ := List.length_eq_one_iff.1 q3
  have hjl : j < e.cells.length := (List.getElem?_eq_some_iff.1 hcj).1
  obtain ⟨hp2,A,hu⟩ : p2 = [] ∧ ∃ A,[u] = [Value.slice A 0 0] := q5
  have hv : v = .pointer (some ⟨(c.L id).blk,i * k + j,none⟩) := by
    have hr := (one_of_ref hx).2
    simp only [RefOK,hs] at hr
    exact hr.2 hm
  have hcell : w.cell? ⟨(c.L id).blk,i * k + j,none⟩ = some u := by
    rw [cell_of_block g1]
    have h1 : wsr[i * k + j]? = some u := by
      rw [e1,q1,← e2,List.append_assoc,List.getElem?_append_right (by omega)]
      have h2 : w1.length + j - w1.length = j := by omega
      have h3 : a1.length = j := by rw [q2]; omega
      rw [h2,List.append_assoc,List.append_assoc,List.getElem?_append_right (by omega),h3]
      simp
    rw [← g6,List.getElem?_take] at h1
    split at h1
    · simpa using h1
    · cases h1
  rw [hv]
  refine yield_pure ok (v := u) (by simp [Instr.loadAt,Instr.sureAddr,run_loadVar_one hk hcell]) ?_
  exact ⟨rfl,A,hu⟩
end
end Go.Am
end
