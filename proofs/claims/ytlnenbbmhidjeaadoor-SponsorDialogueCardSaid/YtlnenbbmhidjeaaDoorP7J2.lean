import Derived.Test.YtlnenbbmhidjeaaDoorP7J1
import Derived.Scope
import Derived.ChangeArms
import Derived.OpenShut
import Derived.ChangeShapes
import Derived.Carry
import Derived.ProofKit
import Derived.LaidMore
import Derived.FnData
import Derived.Maps.OwnSet
import Derived.Lib.SlKeysI
import Derived.Shelf.SlIterI.Nil
import Derived.Shelf.SortM.Plain
import Derived.Shelf.SortM.SortNone
import Derived.Test.YtlnenbbmhidjeaaDoorProg
set_option linter.unusedSimpArgs false
set_option linter.unusedVariables false
namespace Go.Proofs.YtlnenbbmhidjeaaDoor.Am
open Go Go.RowKit
open AV renaming view → Zcf
open _root_.Array renaming getElem?_eq_some_iff → Zab
open Bool renaming and_eq_true → Zag
open Go.IntKind renaming wrap → Zad
open List renaming all_eq_true → Zau, getElem?_eq_some_iff → Zaa, getElem?_take → Zak, mem_append → Zax, mem_cons → Zce, mem_iff_getElem? → Zaj, mem_map → Zbd, mem_of_getElem? → Zcu, replicate → Zap
open Nat renaming eq_of_beq_eq_true → Zbk
open Option renaming map_eq_some_iff → Zac
open AV (bad)
set_option linter.unusedVariables false
set_option linter.unusedSimpArgs false
structure CX (β:Type) where
 call:List (Nat×(List AV→(AV→Prop)→Prop))
 scall:List (Nat×(List AV→List Blk→(AV→List Blk→Prop)→Prop))
 wl:Code→List AV→List Blk→β→(Exit→List AV→List Blk→β→Prop)→Prop
 y:YieldT β
 unroll:Bool
def setB (tm:List AV) (x:Operand) (v:Bool):List AV:=
 match x with
 | .tmp t=>tm.set t (.d (.s (.bool v)))
 |_=>tm
def guardC (ops:Array Oper) (o:Oper) (tm:List AV) (A B:List AV→Prop):Prop:=
 match o.guard with
 |none=>A tm
 | some (j,want)=>match (ops[j]?).bind (·.dst) with
   | some t=>match tm.getD t .bad with
     | .d (.s (.bool b))=>BIf b ((if want then A else B) (setB tm (.tmp t) true)) ((if want then B else A) (setB tm (.tmp t) false))
     | .d (.s (.tuple _))=>B tm
     |_=>False
   |none=>False
def condOf (o:Oper):Operand:=
 match o.op with
 | .pick c _ _=>c
 |_=> .const undef
def pickO (tm:List AV) (o:Oper):Option (Bool×AV×AV):=
 match o.op with
 | .pick c a b=>match evalA tm c with
   | .d (.s (.bool t))=>some (t,(evalA tm a).view,(evalA tm b).view)
   |_=>none
 |_=>none
def bodyX (P:Program) (s:RS) (o:Oper):Option RS:=
 match xa P s o with
 |some s'=>some s'
 |none=>match xh P noCall s o with
 |some s'=>some s'
 | none=>match xq P s.hp (evalA s.tm) o with
   |some x=>some {s with tm:=putA s.tm o.dst x,pv:=(pvRead P s o).toList++pvPut s.pv o.dst}
   |none=>none
def restC (P:Program) (s:RS) (o:Oper) (K:RS→Prop):Prop:=
 match bodyX P s o with
 |some s'=>K s'
 |none=>False
def accOf (s:RS) (x:Operand):Option (Loc×TypeId×Nat×List (List Dv)):=
 match x with
 | .tmp t=>match s.pv.lookup t with
   | some loc=>match ownAt s loc with
     |some (e,k,xs)=>some (loc,e,k,xs)
     |none=>none
   |none=>none
 |_=>none
def appendC (P:Program) (s:RS) (o:Oper) (c:Call) (K:RS→Prop):Prop:=
 match c.callee,c.args[0]?,c.args[1]? with
 | .builtin .append,some x,some y=>match appInfo P c.argTypes with
   | some (e',i)=>match srcRows i.size (evalA s.tm y) with
     | some ys=>match accOf s x with
       |some (loc,e,k,xs)=>BIf (decide (e=e')&&decide (k=i.size)&&decide (c.args.size=2)&&decide ((xs.length+ys.length)*i.bytes≤140737488355328))
           (K {tm:=putA (demote s loc).tm o.dst (.own e k (xs++ys)),hp:=(demote s loc).hp,pv:= []}) False
       |none=>BIf (isNilSlice (evalA s.tm x)&&decide (c.args.size=2)) (BIf (decide (ys.length*i.bytes≤140737488355328))
           (K {s with tm:=putA s.tm o.dst (.own e' i.size ys),pv:=(pvRead P s o).toList++pvPut s.pv o.dst}) False) (match evalA s.tm x with
         | .full k xs=>BIf (decide (k=i.size)&&decide (c.args.size=2)) (BIf (decide ((xs.length+ys.length)*i.bytes≤140737488355328)) (BIf ys.isEmpty
           (K {s with tm:=putA s.tm o.dst (.full k xs),pv:=(pvRead P s o).toList++pvPut s.pv o.dst})
           (K {s with tm:=putA s.tm o.dst (.own e' k (xs++ys)),pv:=(pvRead P s o).toList++pvPut s.pv o.dst})) False) (restC P s o K)
         |_=>restC P s o K)
     |none=>restC P s o K
   |none=>restC P s o K
 |_,_,_=>restC P s o K
def copyC (P:Program) (s:RS) (o:Oper) (c:Call) (K:RS→Prop):Prop:=
 match c.args[0]?,c.args[1]? with
 | some x,some y=>match evalA s.tm x,(evalA s.tm y).rows? with
   | .ref g off n cap k,some (k',xs)=>match c.argTypes[0]? with
     | some t=>match P.underlying t with
       | some (.slice e)=>match P.info? e,s.hp[g]? with
         |some i,some blk=>BIf (decide (c.args.size=2)&&decide (c.argTypes.size=2)&&decide (i.size=1)&&decide (k=1)&&decide (k'=1)&& !blk.fro&& !blk.grow&&decide (off+n≤blk.cells.length))
             (shapesC P 400 (Zap n e) fun row=>((xs.take n).map fun r=>AV.d (r.headD (.s undef)))++((blk.cells.drop off).take n).drop (min n xs.length)=row.map AV.d∧BIf ((row.map AV.d).all AV.one)
               (K {tm:=putA s.tm o.dst (.d (.s (goInt (min n xs.length:Nat)))),hp:=s.hp.set g {blk with cells:=blk.cells.take off++row.map AV.d++blk.cells.drop (off+n)},pv:= []}) False) False
         |_,_=>False
       |_=>False
     |none=>False
   |_,_=>restC P s o K
 |_,_=>restC P s o K
def quietKind:Op→Bool
 | .indexAddr .. =>true
 | .sliceToArrayPointer .. =>true
 | .slice .. =>true
 | .binOp .. =>true
 | .index .. =>true
 |_=>false
def bodyC (P:Program) (s:RS) (o:Oper) (K:RS→Prop):Prop:=
 match valG P s.hp s.tm o (fun x=>K {s with tm:=putA s.tm o.dst x,pv:=(pvRead P s o).toList++pvPut s.pv o.dst}) with
 |some p=>p
 |none=>match pickO s.tm o with
 |some (t,x,y)=>BIf t (K {s with tm:=putA (setB s.tm (condOf o) true) o.dst x,pv:=pvPut s.pv o.dst}) (K {s with tm:=putA (setB s.tm (condOf o) false) o.dst y,pv:=pvPut s.pv o.dst})
 | none=>if quietKind o.op then valC P s.hp s.tm o fun x=>K {s with tm:=putA s.tm o.dst x,pv:=(pvRead P s o).toList++pvPut s.pv o.dst}
   else match o.op with
     | .call c=>match c.callee with
       | .builtin .copy=>copyC P s o c K
       |_=>appendC P s o c K
     |_=>restC P s o K
mutual
def sealC (hp:List Blk):AV→(AV→Prop)→Prop
 | .gref g ver n k,K=>match hp[g]? with
   |some blk=>BIf blk.grow (blk.ver=ver∧∃xs:List (List Dv),blk.cells=flatA xs∧xs.length=n∧(∀r∈xs,r.length=k)∧K (.d (.sl k xs))) False
   |none=>False
 | .agg cs,K=>sealCs hp cs fun ys=>K (.agg ys)
 | .tup cs,K=>sealCs hp cs fun ys=>K (.tup ys)
 | .fn f a b,K=>sealCs hp a fun a=>sealCs hp b fun b=>K (.fn f a b)
 | .own _ k xs,K=>K (.d (.sl k xs))
 | .ref g off n cap k,K=>match sealV hp (.ref g off n cap k) with
   |some y=>K y
   |none=>False
 | .ptr g off,K=>match sealV hp (.ptr g off) with
   |some y=>K y
   |none=>False
 | .gptr ..,_=>False
 | .yl,_=>False
 | .d x,K=>K (.d x)
 | .full k xs,K=>K (.full k xs)
 | .rptr cs,K=>K (.rptr cs)
 | .bad,K=>K .bad
def sealCs (hp:List Blk):List AV→(List AV→Prop)→Prop
 | [],K=>K []
 |x::l,K=>sealC hp x fun y=>sealCs hp l fun ys=>K (y::ys)
end
def sealTs (hp:List Blk):List Nat→List AV→(List AV→Prop)→Prop
 | [],tm,K=>K tm
 |t::ts,tm,K=>sealC hp (tm.getD t .bad) fun y=>BIf y.isOwn False (sealTs hp ts (tm.set t y) K)
def leans (tm:List AV) (x:Operand):List Nat:=
 match x with
 | .tmp t=>if (occ (tm.getD t .bad)).isEmpty then [] else [t]
 |_=> []
def needFrz (pc:Nat→Bool) (s:RS) (o:Oper):List Nat:=
 match o.op with
 | .call c=>match c.callee with
   | .value _=>match opCall s.tm o with
     |some (k,args)=>if pc k&& !closeds args then (c.args.toList.flatMap (leans s.tm)).eraseDups else []
     |none=> []
   | .builtin .append=>match c.args[1]? with
     |some y=>leans s.tm y
     |none=> []
   |_=> []
 | .buildSlice _ _ parts=>(parts.toList.flatMap fun p=>leans s.tm p.2).eraseDups
 |_=> []
def frzC (pc:Nat→Bool) (s:RS) (o:Oper) (K:RS→Prop):Prop:=
 match needFrz pc s o with
 | []=>K s
 |t::ts=>sealTs s.hp (t::ts) s.tm fun tm1=>K ⟨tm1,frz s.hp (occs ((t::ts).map fun t=>s.tm.getD t .bad)),s.pv⟩
def constB (x y:Operand):Bool:=
 match x,y with
 | .const _, .const _=>true
 |_,_=>false
def isFull0 (ax:AV) (n:Nat):Bool:=
 match ax with
 | .full k []=>decide (k=n)
 |_=>false
def extC (P:Program) (gt:Nat→Bool) (s:RS) (o:Oper) (K:RS→Prop):Option Prop:=
 match o.op with
 | .call c=>match c.callee,c.args[0]?,c.args[1]? with
   | .builtin .append,some x,some y=>match appInfo P c.argTypes with
     | some (e,i)=>match evalA s.tm x with
       | .gref g ver n k=>match s.hp[g]?,srcRows i.size (evalA s.tm y) with
         |some blk,some ys=>some (BIf (decide (c.args.size=2)&&decide (k=i.size)&&blk.grow&& !blk.fro) (blk.ver=ver∧BIf (decide ((n+ys.length)*i.bytes≤140737488355328))
             (K {tm:=putA s.tm o.dst (.gref g (ver+1) (n+ys.length) i.size),hp:=s.hp.set g ⟨blk.cells++flatA ys,false,true,ver+1⟩,pv:= []}) False) False)
         |_,_=>none
       | ax=>if gt e&&(isNilSlice ax||isFull0 ax i.size) then match srcRows i.size (evalA s.tm y) with
         |some ys=>some (BIf (decide (c.args.size=2)&&decide (ys.length*i.bytes≤140737488355328)) (BIf (decide (0<ys.length))
             (K {tm:=putA s.tm o.dst (.gref s.hp.length 0 ys.length i.size),hp:=s.hp++ [⟨flatA ys,false,true,0⟩],pv:= []})
             (K {tm:=putA s.tm o.dst ax,hp:=s.hp,pv:= []})) False)
         |none=>none
         else none
     | none=>match c.argTypes[0]?,c.argTypes[1]? with
       | some t,some tn=>match P.underlying t,P.underlying tn,evalA s.tm y with
         | some (.slice e),some (.int _), .d (.s (.int _ n))=>match P.info? e with
           | some i=>if gt e&&isNilSlice (evalA s.tm x) then match zrow i with
             |some zr=>some (BIf (decide (c.args.size=2)&&decide (c.argTypes.size=2)&&decide (0<n)&&decide (n*(i.bytes:Int)≤281474976710656)&&decide (n≤9223372036854775807)&&decide (zr.length=i.size)&&decide (0<i.size)&&decide (0<i.bytes)&&(zr.map AV.d).all AV.one)
                 (K {tm:=putA s.tm o.dst (.gref s.hp.length 0 n.toNat i.size),hp:=s.hp++ [⟨flatA (Zap n.toNat zr),false,true,0⟩],pv:= []}) False)
             |none=>none
             else none
           |none=>none
         |_,_,_=>none
       |_,_=>none
   | .builtin .copy,some x,some y=>match evalA s.tm x,c.argTypes[0]? with
     | .gref g ver n k,some t=>match s.hp[g]?,srcRows 1 (evalA s.tm y),P.underlying t with
       | some blk,some ys,some (.slice e)=>match P.info? e with
         |some i=>some (BIf (decide (c.args.size=2)&&decide (c.argTypes.size=2)&&decide (i.size=1)&&decide (k=1)&&blk.grow&& !blk.fro) (blk.ver=ver∧
             K {tm:=putA s.tm o.dst (.d (.s (goInt ((ys.take n).length:Nat)))),hp:=s.hp.set g {blk with cells:=flatA (ys.take n)++blk.cells.drop (ys.take n).length},pv:= []}) False)
         |none=>none
       |_,_,_=>none
     |_,_=>none
   |_,_,_=>none
 | .makeSlice t lo co=>match P.underlying t with
   | some (.slice e)=>if gt e|| !constB lo co then match evalA s.tm lo,evalA s.tm co,P.info? e with
     | .d (.s (.int _ l)), .d (.s (.int _ c)),some i=>match zrow i with
       |some zr=>some (BIf (decide (0≤l)&&decide (l≤c)&&decide ((i.bytes:Int)*c≤281474976710656)&&decide (c≤9223372036854775807)&&decide (zr.length=i.size)&&decide (0<i.size)&&(zr.map AV.d).all AV.one)
           (K {tm:=putA s.tm o.dst (.gref s.hp.length 0 l.toNat i.size),hp:=s.hp++ [⟨flatA (Zap l.toNat zr),false,true,0⟩],pv:= []}) False)
       |none=>none
     |_,_,_=>none
     else none
   |_=>none
 | .slice t x none (some hi) none=>match evalA s.tm x,evalA s.tm hi,P.underlying t with
   | .gref g ver n k, .d (.s (.int _ j)),some (.slice e)=>match P.info? e,s.hp[g]? with
     |some i,some blk=>some (BIf (decide (k=i.size)&&blk.grow&& !blk.fro&&decide (0≤j)&&decide (j≤n)) (blk.ver=ver∧
         K {tm:=putA s.tm o.dst (.gref g (ver+1) j.toNat i.size),hp:=s.hp.set g ⟨blk.cells.take (j.toNat*i.size),false,true,ver+1⟩,pv:= []}) False)
     |_,_=>none
   |_,_,_=>none
 | .store t ax x=>match evalA s.tm ax with
   | .gptr g ver off=>match P.info? t,s.hp[g]?,xCells (evalA s.tm x) with
     |some i,some blk,some xs=>some (BIf (decide (xs.length=i.size)&&blk.grow&& !blk.fro) (blk.ver=ver∧BIf (decide (off+xs.length≤blk.cells.length))
         (K {tm:=putA s.tm o.dst .bad,hp:=s.hp.set g {blk with cells:=blk.cells.take off++xs++blk.cells.drop (off+xs.length)},pv:= []}) False) False)
     |_,_,_=>none
   |_=>none
 |_=>none
def demC (P:Program) (s:RS) (o:Oper) (K:RS→Prop):Option Prop:=
 match o.op with
 | .binOp op t x y _=>if isNilSlice (evalA s.tm y) then match (evalA s.tm x).rows?,op,P.underlying t with
     |some (_,xs), .eql,some (.slice _)=>some (∀t:Bool,(t=true→xs= [])→K {tm:=putA s.tm o.dst (.d (.s (.bool t))),hp:=s.hp,pv:=pvPut s.pv o.dst})
     |some (_,xs), .neq,some (.slice _)=>some (∀t:Bool,(t=true→xs= [])→K {tm:=putA s.tm o.dst (.d (.s (.bool !t))),hp:=s.hp,pv:=pvPut s.pv o.dst})
     |_,_,_=>none
   else none
 |_=>none
section
variable {β:Type}
def opC (P:Program) (X:CX β) (ops:Array Oper) (o:Oper) (s:RS) (b:β) (K:RS→β→Prop):Prop:=
 guardC ops o s.tm
   (fun tm=>frzC (fun k=>(X.call.lookup k).isSome) {s with tm:=tm} o fun s=>match opCall s.tm o with
     | some (k,args)=>match X.call.lookup k with
       |some f=>BIf (closeds args) (f args fun x=>K {tm:=putA s.tm o.dst x.view,hp:=s.hp,pv:=pvPut s.pv o.dst} b) False
       | none=>match X.scall.lookup k with
         |some f=>f args s.hp fun x hp'=>K {tm:=putA s.tm o.dst x.view,hp:=hp',pv:= []} b
         |none=>False
     | none=>match yieldArgs s.tm o with
       |some args=>BIf (closeds args) (X.y b args fun cont b'=>K {tm:=putA s.tm o.dst (.d (.s (.bool cont))),hp:=s.hp,pv:= []} b') False
       | none=>match demC P s o fun s'=>K s' b with
         |some p=>p
         |none=>match extC P (fun e=>(X.scall.lookup (1000000+e)).isSome) s o fun s'=>K s' b with
         |some p=>p
         |none=>bodyC P s o fun s'=>K s' b)
   (fun tm=>K {s with tm:=putA tm o.dst (.d (.s undef)),pv:=pvPut s.pv o.dst} b)
def opsC (P:Program) (X:CX β) (ops:Array Oper):List Oper→RS→β→(RS→β→Prop)→Prop
 | [],s,b,K=>K s b
 |o::l,s,b,K=>opC P X ops o s b fun s b=>opsC P X ops l s b K
abbrev Tbl:=List (Option Nat×Nat×List AV×AV)
def preC (P:Program) (X:CX β) (ops:Array Oper) (hp:List Blk):List Oper→List AV→Tbl→(List AV→Tbl→Prop)→Prop
 | [],tm,tb,K=>K tm tb
 | o ::l,tm,tb,K=>guardC ops o tm
     (fun tm=>match opCall tm o with
       | some (k,args)=>match X.call.lookup k with
         |some f=>BIf (closeds args) (f args fun x=>preC P X ops hp l (putA tm o.dst x.view) ((o.dst,k,args,x)::tb) K) False
         |none=>False
       | none=>match pickO tm o with
         |some (t,x,y)=>BIf t (preC P X ops hp l (putA (setB tm (condOf o) true) o.dst x) tb K) (preC P X ops hp l (putA (setB tm (condOf o) false) o.dst y) tb K)
         |none=>valC P hp tm o fun x=>preC P X ops hp l (putA tm o.dst x) tb K)
     (fun tm=>preC P X ops hp l (putA tm o.dst (.d (.s undef))) tb K)
def leadStores:List Oper→Nat
 | o::l=>match o.op,o.guard,o.dst with
   | .store ..,none,none=>leadStores l+1
   | .alloc ..,none,some _=>leadStores l+1
   |_,_,_=>0
 | []=>0
def findN (ops:Array Oper) (k:Nat):Nat→Option Nat
 |0=>none
 |n+1=>if drawLateOk ops k (n+1) then some (n+1) else findN ops k n
def storeFps (tm:List AV):List Oper→List (Nat×Nat×Nat)
 | []=> []
 | o::l=>match o.op with
   | .store t a x=>match evalA tm a,xCells (evalA tm x) with
     | .ptr g off,some xs=>(g,off,xs.length)::storeFps tm l
     |_,_=>storeFps tm l
   |_=>storeFps tm l
def apartB (fp:List (Nat×Nat×Nat)) (g off n:Nat):Bool:=fp.all fun q=>q.1 !=g||decide (q.2.1+q.2.2≤off)||decide (off+n≤q.2.1)
def lowB (n:Nat) (tm:List AV) (o:Oper):Bool:=o.op.operands.toList.all fun x=>(evalA tm x).low n
def frameB (P:Program) (tm:List AV) (fp:List (Nat×Nat×Nat)) (o:Oper):Bool:=
 match o.op with
 | .load t a=>match evalA tm a with
   | .ptr g off=>match P.info? t with
     |some i=>apartB fp g off (max i.size 1)
     |none=>true
   | .gptr .. =>false
   |_=>true
 | .call c=>match c.callee with
   | .value _=>true
   | .builtin .len=>true
   | .builtin .append=>true
   |_=>false
 |_=>true
def hasAlloc:List Oper→Bool
 | []=>false
 | o::l=>match o.op with
   | .alloc .. =>true
   |_=>hasAlloc l
def AV.hd? :AV→Option Nat
 | .ptr g _| .ref g _ _ _ _| .gref g _ _ _| .gptr g _ _=>some g
 |_=>none
def appGs (tm:List AV):List Oper→List Nat
 | []=> []
 | o::l=>match o.op with
   | .call c=>match c.args[0]? with
     | some x=>match (evalA tm x).hd? with
       |some g=>g::appGs tm l
       |none=>appGs tm l
     |none=>appGs tm l
   |_=>appGs tm l
def avoidB (gs:List Nat) (tm:List AV) (o:Oper):Bool:=gs.isEmpty||match o.op with
 | .move _=>true
 | .call c=>match c.callee with
   | .value _=>true
   | _=>o.op.operands.toList.all fun x=>match (evalA tm x).hd? with
     |some g=> !gs.contains g
     |none=>true
 | _=>o.op.operands.toList.all fun x=>match (evalA tm x).hd? with
   |some g=> !gs.contains g
   |none=>true
def frameAll (P:Program) (n:Nat) (tm tmF:List AV) (pre sts:List Oper):Bool:=(List.range pre.length).all fun j=>match pre[j]? with
 |some o=>frameB P tm (storeFps tmF (sts.filter fun o'=> !(edgesOf o').contains j)) o&&(!hasAlloc sts||lowB n tm o)&&avoidB (appGs tmF sts) tm o
 |none=>true
def preRegC (P:Program) (X:CX β) (ops:Array Oper) (k:Nat) (tm:List AV) (hp:List Blk) (b:β) (K:List AV→List Blk→β→Prop):Prop:=
 if k≤ops.size then preC P X ops hp (ops.toList.take k) tm [] fun tmK tb=>
   if (tb.map (·.1)).Nodup then opsC P X ops (ops.toList.drop k) ⟨tmK,hp,pvAll P hp tmK (ops.toList.take k)⟩ b fun s b=>K s.tm s.hp b else False
 else False
def lateRegC (P:Program) (X:CX β) (ops:Array Oper) (q n:Nat) (tm:List AV) (hp:List Blk) (b:β) (K:List AV→List Blk→β→Prop):Prop:=
 if q+n≤ops.size then preC P X ops hp (ops.toList.take q) tm [] fun tmK tb=>
   if (tb.map (·.1)).Nodup then match xLates P ((ops.toList.drop q).take n) tmK hp with
     | some sts=>match sts[n]? with
       |some st=>latesK P (BIf (frameAll P hp.length tmK st.1 (ops.toList.take q) ((ops.toList.drop q).take n))
           (opsC P X ops (ops.toList.drop (q+n)) ⟨st.1,st.2, []⟩ b fun s b=>K s.tm s.hp b) False) ((ops.toList.drop q).take n) tmK hp
       |none=>False
     |none=>False
   else False
 else False
def late2Ok (ops:Array Oper) (k:Nat):Bool:=
 Nat.ble (k+2) ops.size&&(permOk (addE k (k+1) ops) (swN k ops.size)&&(Nat.beq (posOf (k+1) (swN k ops.size)) k&&(Nat.beq (posOf k (swN k ops.size)) (k+1)&&((List.range k).all (fun j=>Nat.beq (posOf j (swN k ops.size)) j)&&
   ((List.range ops.size).all (fun j=>Nat.ble j (k+1)||Nat.beq (posOf j (swN k ops.size)) j)&&((List.range ops.size).all (fun j=>match ops[j]? with
     |some o=>o.guard.isNone
     |none=>true)&&(drawLateOk (addE (k+1) k ops) k (ops.size - k)&&drawLateOk (permute (swN k ops.size) (addE k (k+1) ops)) k (ops.size - k))))))))
def lateT (n:Nat) (ops:Array Oper) (k:Nat):List Oper:=(ops.toList.drop k).take n
def late2End (P:Program) (ops o1 o2:Array Oper) (k:Nat) (tmK:List AV) (hp:List Blk) (b:β) (K:List AV→List Blk→β→Prop) (st1 st2:List AV×List Blk):Prop:=
 latesK P (latesK P (BIf (frameAll P hp.length tmK st1.1 (o1.toList.take k) (lateT (ops.size - k) o1 k)&&(frameAll P hp.length tmK st2.1 (o2.toList.take k) (lateT (ops.size - k) o2 k)&&(Nat.beq st2.2.length (hp.length+2)&&((st2.2.all fun blk=>lows hp.length blk.cells)&&st2.1.all fun x=>swOk hp.length x))))
   (st2.1.map (swA hp.length)=st1.1∧swL hp.length st2.2=st1.2∧K st1.1 st1.2 b) False) (lateT (ops.size - k) o2 k) tmK hp) (lateT (ops.size - k) o1 k) tmK hp
def late2RegC (P:Program) (X:CX β) (ops:Array Oper) (k:Nat) (tm:List AV) (hp:List Blk) (b:β) (K:List AV→List Blk→β→Prop):Prop:=
 if late2Ok ops k then preC P X (addE (k+1) k ops) hp ((addE (k+1) k ops).toList.take k) tm [] fun tmK tb=>
   if (tb.map (·.1)).Nodup then match xLates P (lateT (ops.size - k) (addE (k+1) k ops) k) tmK hp,xLates P (lateT (ops.size - k) (permute (swN k ops.size) (addE k (k+1) ops)) k) tmK hp with
     | some sts1,some sts2=>match sts1[ops.size - k]?,sts2[ops.size - k]? with
       |some st1,some st2=>late2End P ops (addE (k+1) k ops) (permute (swN k ops.size) (addE k (k+1) ops)) k tmK hp b K st1 st2
       |_,_=>False
     |_,_=>False
   else False
 else False
def growT (tm:List AV) (t:Nat):Bool:=
 match tm.getD t .bad with
 | .gref .. =>true
 |_=>false
def tmpOf:Operand→Option Nat
 | .tmp t=>some t
 |_=>none
def sealsOf (pc:Nat→Bool) (tm:List AV) (l:List Oper):List Nat:=
 let azz:=l.flatMap fun o=>match o.op with
   | .call c=>match c.callee with
     | .value f=>match callArgs tm (evalA tm f) #[] with
       |some (k,_)=>if pc k then c.args.toList.filterMap tmpOf else []
       |none=> []
     |_=> []
   |_=> []
 (l.filterMap fun o=>match o.op,o.dst with
   | .move (.tmp t),some d=>if azz.contains d&&growT tm t then some t else none
   |_,_=>none).eraseDups
def isYl:AV→Bool
 | .yl=>true
 |_=>false
def ylTmps (tm:List AV):List Oper→List Nat
 | []=> []
 | o::l=>match o.op,o.dst with
   | .move (.tmp s),some d=>if isYl (tm.getD s .bad) then d::ylTmps tm l else ylTmps tm l
   |_,_=>ylTmps tm l
def isYield (tm:List AV) (ys:List Nat) (o:Oper):Bool:=
 match o.op with
 | .call c=>match c.callee with
   | .value (.tmp t)=>isYl (tm.getD t .bad)||ys.contains t
   |_=>false
 |_=>false
def yieldAt (tm:List AV) (ys:List Nat):Nat→List Oper→Option Nat
 |_, []=>none
 |n,o::l=>if isYield tm ys o then some n else yieldAt tm ys (n+1) l
def drawC0 (P:Program) (X:CX β) (ops:Array Oper) (tm:List AV) (hp:List Blk) (b:β) (K:List AV→List Blk→β→Prop):Prop:=
 match findK ops (leadPure ops.toList) with
 |some k=>preRegC P X ops k tm hp b K
 | none=>match findN ops (leadPure ops.toList) (leadStores (ops.toList.drop (leadPure ops.toList))) with
   |some n=>lateRegC P X ops (leadPure ops.toList) n tm hp b K
   | none=>match findK ops (leadApp ops.toList) with
     |some k=>preRegC P X ops k tm hp b K
     | none=>match findN ops (leadApp ops.toList) (leadStores (ops.toList.drop (leadApp ops.toList))) with
       |some n=>lateRegC P X ops (leadApp ops.toList) n tm hp b K
       | none=>match findK ops (leadMk ops.toList) with
         |some k=>preRegC P X ops k tm hp b K
         | none=>match findN ops (leadMk ops.toList) (leadStores (ops.toList.drop (leadMk ops.toList))) with
           |some n=>lateRegC P X ops (leadMk ops.toList) n tm hp b K
           |none=>False
def grownAt (tm:List AV) (ops:List Oper) (q:Nat):Bool:=
 match ops[q]? with
 | some o=>match o.op with
   | .call c=>match c.callee,c.args[0]? with
     | .builtin .append,some (Operand.tmp t)=>ops.any fun o'=>match o'.op,o'.dst with
       | .move (.tmp u),some d=>d==t&&growT tm u
       |_,_=>false
     |_,_=>false
   |_=>false
 |none=>false
def drawC (P:Program) (X:CX β) (ops:Array Oper) (tm:List AV) (hp:List Blk) (b:β) (K:List AV→List Blk→β→Prop):Prop:=
 match yieldAt tm (ylTmps tm ops.toList) 0 ops.toList with
 | some q=>match findK ops q with
   |some k=>preRegC P X ops k tm hp b K
   |none=>False
 |none=>if grownAt tm ops.toList (leadPure ops.toList)&&drawLateOk ops (leadPure ops.toList) 1 then lateRegC P X ops (leadPure ops.toList) 1 tm hp b K else drawC0 P X ops tm hp b K
def grownO (tm:List AV) (ops:List Oper) (o:Oper):Bool:=
 match o.op with
 | .call c=>match c.callee,c.args[0]? with
   | .builtin .append,some (Operand.tmp t)=>ops.any fun o'=>match o'.op,o'.dst with
     | .move (.tmp u),some d=>d==t&&growT tm u
     |_,_=>false
   |_,_=>false
 |_=>false
def splitO (tm:List AV) (all:List Oper):Nat→List Oper→List Nat→List Nat→List Nat
 |_, [],pre,post=>pre.reverse++post.reverse
 |i,o::l,pre,post=>if !pureKind o||isMk o||grownO tm all o||(edgesOf o).any (fun j=>post.contains j) then splitO tm all (i+1) l pre (i::post) else splitO tm all (i+1) l (i::pre) post
def drawable (ops:Array Oper) (tm:List AV):Bool:=
 match yieldAt tm (ylTmps tm ops.toList) 0 ops.toList with
 |some q=>true
 | none=>(grownAt tm ops.toList (leadPure ops.toList)&&drawLateOk ops (leadPure ops.toList) 1)||(findK ops (leadPure ops.toList)).isSome||(findN ops (leadPure ops.toList) (leadStores (ops.toList.drop (leadPure ops.toList)))).isSome||
   (findK ops (leadApp ops.toList)).isSome||(findN ops (leadApp ops.toList) (leadStores (ops.toList.drop (leadApp ops.toList)))).isSome||(findK ops (leadMk ops.toList)).isSome||(findN ops (leadMk ops.toList) (leadStores (ops.toList.drop (leadMk ops.toList)))).isSome
def leadLate:List Oper→Nat
 | o::l=>if lateQ o then leadLate l+1 else match o.op,o.guard,o.dst with
   | .store ..,none,none=>leadLate l+1
   | .alloc ..,none,some _=>leadLate l+1
   |_,_,_=>0
 | []=>0
def findL (ops:Array Oper):Nat→Option (Nat×Nat)
 |0=>none
 | k+1=>match findN ops (k+1) (leadLate (ops.toList.drop (k+1))) with
   |some n=>some (k+1,n)
   |none=>findL ops k
def drawQ (P:Program) (X:CX β) (ops:Array Oper) (tm:List AV) (hp:List Blk) (b:β) (K:List AV→List Blk→β→Prop):Prop:=
 if drawable ops tm then drawC P X ops tm hp b K
 else match findL ops (leadPure ops.toList) with
   |some (k,n)=>lateRegC P X ops k n tm hp b K
   |none=>late2RegC P X ops (leadPure ops.toList) tm hp b K
def drawP (P:Program) (X:CX β) (ops:Array Oper) (tm:List AV) (hp:List Blk) (b:β) (K:List AV→List Blk→β→Prop):Prop:=
 if drawable ops tm then drawC P X ops tm hp b K
 else if permOk ops (splitO tm ops.toList 0 ops.toList [] []) then drawQ P X (permute (splitO tm ops.toList 0 ops.toList [] []) ops) tm hp b K else False
def regionC (P:Program) (X:CX β) (ops:Array Oper) (draw:Bool) (tm:List AV) (hp:List Blk) (b:β) (K:List AV→List Blk→β→Prop):Prop:=
 if draw then match sealsOf (fun k=>(X.call.lookup k).isSome) tm (ops.toList.take (leadApp ops.toList)) with
   | [t]=>sealTs hp [t] tm fun tm1=>drawP P X ops tm1 (frz hp (occ (tm.getD t .bad))) b K
   |_=>drawP P X ops tm hp b K
 else opsC P X ops ops.toList ⟨tm,hp, []⟩ b fun s b=>K s.tm s.hp b
def blockK (id:Nat) (K:Exit→List AV→List Blk→β→Prop):Exit→List AV→List Blk→β→Prop
 | .exit id',tm,hp,b=>if id'=id then K .normal tm hp b else K (.exit id') tm hp b
 |e,tm,hp,b=>K e tm hp b
def thenK (K':List AV→List Blk→β→Prop) (K:Exit→List AV→List Blk→β→Prop):Exit→List AV→List Blk→β→Prop
 | .normal,tm,hp,b=>K' tm hp b
 |e,tm,hp,b=>K e tm hp b
def scopeK (K:Exit→List AV→List Blk→β→Prop):Exit→List AV→List Blk→β→Prop
 | .goto _,_,_,_=>False
 |e,tm,hp,b=>K e tm hp b
def rounds (body:List AV→List Blk→β→(Exit→List AV→List Blk→β→Prop)→Prop):Nat→List AV→List Blk→β→(Exit→List AV→List Blk→β→Prop)→Prop
 |0,_,_,_,_=>False
 |m+1,tm,hp,b,K=>body tm hp b (thenK (fun tm hp b=>rounds body m tm hp b K) K)
def wpc (P:Program) (X:CX β):Nat→Code→List AV→List Blk→β→(Exit→List AV→List Blk→β→Prop)→Prop
 |0,_,_,_,_,_=>False
 | n+1,c,tm,hp,b,K=>match c with
   | .skip=>K .normal tm hp b
   | .label _=>K .normal tm hp b
   | .exit id=>K (.exit id) tm hp b
   | .goto l=>K (.goto l) tm hp b
   | .ret=>K .ret tm hp b
   | .region id ops d=>if (X.call.lookup (4000000+id)).isSome then X.wl (.region id ops d) tm hp b K else regionC P X ops d tm hp b (K .normal)
   | .seq x y=>wpc P X n x tm hp b (thenK (fun tm hp b=>wpc P X n y tm hp b K) K)
   | .cond x c c'=>match evalA tm x with
     | .d (.s (.bool t))=>BIf t (wpc P X n c (setB tm x true) hp b K) (wpc P X n c' (setB tm x false) hp b K)
     |_=>False
   | .block id c=>wpc P X n c tm hp b (blockK id K)
   | .loop c=>if X.unroll then rounds (wpc P X n c) 1000 tm hp b K else X.wl (.loop c) tm hp b K
   | .rangeFunc f ps assign body=>X.wl (.rangeFunc f ps assign body) tm hp b K
   | .scope c=>wpc P X n c tm hp b (scopeK K)
   | .refuse _=>False
def fnK (P:Program) (fn:Func) (R:AV→β→Prop):Exit→List AV→List Blk→β→Prop:=fun e tm hp b=>
 BIf (match e with| .ret=>true| .normal=>true|_=>false) (match resAs P hp tm fn.results.toList with
   |some ys=>sealC hp (resV ys) fun y=>R y b
   |none=>False) False
def wpFn (P:Program) (X:CX β) (n:Nat) (fn:Func) (args:List AV) (b:β) (R:AV→β→Prop):Prop:=
 match fn.body with
 |some c=>wpc P X n c (startTm fn args) [] b (fnK P fn R)
 |none=>False
end
structure CX.Ok {P:Program} (Ev:Env P) (X:CX Ev.β):Prop where
 call:∀(k:Nat) f,X.call.lookup k=some f→∀args K,f args K→∃x,PCall P k args x∧K x
 scall:∀(k:Nat) f,X.scall.lookup k=some f→∀args hp K,f args hp K→∃x hp',SCall P k args hp x hp'∧K x hp'
 wl:∀c tm hp b K,X.wl c tm hp b K→W Ev c ⟨tm,hp,b⟩ (fun e s=>K e s.tm s.hp s.b)
 y:X.y=Ev.Y
section
variable {P:Program} {hp hp':List Blk} {tm tm':List AV} {o:Oper} {ops:Array Oper} {Ev:Env P} {X:CX Ev.β} {s:RS} {b:Ev.β}
theorem setB_self {x:Operand} {v:Bool} (h:evalA tm x= .d (.s (.bool v))):setB tm x v=tm:=by
 cases x with
 | tmp t=>
   simp only [evalA,List.getD] at h
   simp only [setB]
   cases ht:tm[t]? with
   |none=>rw [ht] at h;cases h
   |some y=>rw [ht] at h;simp only [Option.getD_some] at h;subst h;exact list_set_self ht
 |_=>rfl
theorem guardC_sound {A B:List AV→Prop} (h:guardC ops o tm A B):(wantedA ops o tm=some true∧A tm)∨(wantedA ops o tm=some false∧B tm):=by
 unfold guardC at h
 unfold wantedA
 split at h
 · rename_i hg;rw [hg];exact .inl ⟨rfl,h⟩
 · rename_i j want hg
   rw [hg]
   split at h
   · rename_i t ht
     split at h
     · rename_i bb hb
       simp only [ht,hb]
       have hs:setB tm (.tmp t) bb=tm:=setB_self hb
       rcases h.elim with ⟨rfl,h⟩|⟨rfl,h⟩<;>rw [hs] at h<;>cases want<;>simp only [Bool.false_eq_true,if_true,if_false] at h
       · exact .inr ⟨rfl,h⟩
       · exact .inl ⟨rfl,h⟩
       · exact .inl ⟨rfl,h⟩
       · exact .inr ⟨rfl,h⟩
     · rename_i vs hb
       simp only [ht,hb]
       exact .inr ⟨trivial,h⟩
     · exact h.elim
   · exact h.elim
theorem pickO_cond {t:Bool} {x y:AV} (h:pickO tm o=some (t,x,y)):setB tm (condOf o) t=tm:=by
 unfold pickO at h
 split at h<;>try (cases h;done)
 rename_i c a b ho
 split at h<;>try (cases h;done)
 rename_i t' hc
 cases h
 simp only [condOf,ho]
 exact setB_self hc
theorem pickO_body {pv:List (Nat×Loc)} {t:Bool} {x y:AV} (h:pickO tm o=some (t,x,y)):bodyX P ⟨tm,hp,pv⟩ o=some ⟨putA tm o.dst (if t then x else y),hp,pvPut pv o.dst⟩:=by
 unfold pickO at h
 split at h<;>try (cases h;done)
 rename_i c a b ho
 split at h<;>try (cases h;done)
 rename_i t' hc
 cases h
 have h1:xa P ⟨tm,hp,pv⟩ o=none:=by simp [xa,ho]
 have h2:xh P noCall ⟨tm,hp,pv⟩ o=none:=by simp [xh,ho]
 have h3:pvRead P ⟨tm,hp,pv⟩ o=none:=by
   unfold pvRead
   rw [ho]
   cases o.dst<;>rfl
 simp only [bodyX,h1,h2,h3]
 simp [xq,ho,hc]
theorem xStep_body (hw:wantedA ops o s.tm=some true):xStep P noCall ops s o=bodyX P s o:=by
 simp only [xStep,hw,bodyX]
 cases xa P s o with
 |some s1=>rfl
 | none=>cases xh P noCall s o with
   |some s1=>rfl
   |none=>cases xq P s.hp (evalA s.tm) o<;>rfl
theorem restC_sound {K:RS→Prop} (h:restC P s o K):∃s',bodyX P s o=some s'∧K s':=by
 unfold restC at h
 split at h
 · rename_i s' hs;exact ⟨s',hs,h⟩
 · exact h.elim
theorem appendC_sound {c:Call} {K:RS→Prop} (ho:o.op= .call c) (h:appendC P s o c K):∃s',bodyX P s o=some s'∧K s':=by
 unfold appendC at h
 split at h
 · rename_i x y hcal hx hy
   split at h
   · rename_i e' i hi
     split at h
     · rename_i ys hys
       split at h
       · rename_i loc e k xs hacc
         obtain ⟨hc,hK⟩:=h.elim'
         simp only [Zag,decide_eq_true_eq] at hc
         obtain ⟨⟨⟨h1,h2⟩,h3⟩,h4⟩:=hc
         refine ⟨_, ?_,hK⟩
         unfold accOf at hacc
         split at hacc<;>try (cases hacc;done)
         rename_i t
         split at hacc<;>try (cases hacc;done)
         rename_i loc' hl
         split at hacc<;>try (cases hacc;done)
         rename_i e1 k1 xs1 hown
         cases hacc
         simp only [bodyX,xa,ho,hcal,hx,hy,h3,hl,hown,hi,hys,if_true]
         rw [if_pos ⟨h1,h2,h4⟩]
       · rename_i hacc
         rcases h.elim with ⟨hc,h⟩|⟨hc,h⟩
         · obtain ⟨h4,hK⟩:=h.elim'
           simp only [Zag,decide_eq_true_eq] at hc h4
           refine ⟨_, ?_,hK⟩
           have hxa:xa P s o=none:=by
             simp only [xa,ho,hcal,hx,hy]
             split<;>try rfl
             rename_i t y' _ e1 e2
             cases e1;cases e2
             split<;>try rfl
             split<;>try rfl
             rename_i loc hl
             split<;>try rfl
             rename_i e k xs e1 i1 hown hi1
             exfalso
             simp only [accOf,hl,hown] at hacc
             cases hacc
           have hxh:xh P noCall s o=none:=by simp [xh,ho,hcal]
           have hxq:xq P s.hp (evalA s.tm) o=some (.own e' i.size ys):=by
             simp only [xq,ho,hcal,hx,hy,hc.2,if_true,xAppendQ,hi,hys,hc.1]
             rw [if_pos h4]
           simp only [bodyX,hxa,hxh,hxq]
         · split at h
           · rename_i k xs hfull
             rcases h.elim with ⟨hc,h⟩|⟨_,h⟩
             · obtain ⟨h4,h⟩:=h.elim'
               simp only [Zag,decide_eq_true_eq] at hc h4
               have hxa:xa P s o=none:=by
                 simp only [xa,ho,hcal,hx,hy]
                 split<;>try rfl
                 rename_i t y' _ e1 e2
                 cases e1;cases e2
                 split<;>try rfl
                 split<;>try rfl
                 rename_i loc hl
                 split<;>try rfl
                 rename_i e k xs e1 i1 hown hi1
                 exfalso
                 simp only [accOf,hl,hown] at hacc
                 cases hacc
               have hxh:xh P noCall s o=none:=by simp [xh,ho,hcal]
               rcases h.elim with ⟨he,hK⟩|⟨he,hK⟩
               · have hxq:xq P s.hp (evalA s.tm) o=some (.full k xs):=by
                   simp only [xq,ho,hcal,hx,hy,hc.2,if_true,xAppendQ,hi,hys,hfull,isNilSlice]
                   rw [if_neg (by simp),if_pos ⟨hc.1,h4⟩,if_pos he]
                 exact ⟨_,by simp only [bodyX,hxa,hxh,hxq],hK⟩
               · have hxq:xq P s.hp (evalA s.tm) o=some (.own e' k (xs++ys)):=by
                   simp only [xq,ho,hcal,hx,hy,hc.2,if_true,xAppendQ,hi,hys,hfull,isNilSlice]
                   rw [if_neg (by simp),if_pos ⟨hc.1,h4⟩,if_neg (by simp [he])]
                 exact ⟨_,by simp only [bodyX,hxa,hxh,hxq],hK⟩
             · exact restC_sound h
           · exact restC_sound h
     · exact restC_sound h
   · exact restC_sound h
 · exact restC_sound h
theorem copyC_sound {c:Call} {K:RS→Prop} (ho:o.op= .call c) (hc:c.callee= .builtin .copy) (h:copyC P s o c K):∃s',bodyX P s o=some s'∧K s':=by
 unfold copyC at h
 split at h
 · rename_i x y hx hy
   split at h
   · rename_i g off n cap k k' xs hd hs
     split at h
     · rename_i t ht
       split at h
       · rename_i e hu
         split at h
         · rename_i i blk hi hblk
           obtain ⟨hcond,h⟩:=h.elim'
           simp only [Zag,decide_eq_true_eq,Bool.not_eq_true'] at hcond
           obtain ⟨⟨⟨⟨⟨⟨⟨h1,h2⟩,h3⟩,h4⟩,h5⟩,h6⟩,h7⟩,h8⟩:=hcond
           obtain ⟨row,hrow,h⟩:=(shape_sound P 400).2 _ _ h
           obtain ⟨hone,hK⟩:=h.elim'
           refine ⟨_, ?_,hK⟩
           have hxa:xa P s o=none:=by simp [xa,ho,hc]
           have hsrc:srcCells s.hp (evalA s.tm y)=some (xs.map fun r=>AV.d (r.headD (.s undef))):=by
             have hr:=hs
             unfold srcCells
             have hnil:isNilSlice (evalA s.tm y)=false:=by
               unfold isNilSlice
               split
               · rename_i he;rw [he] at hr;cases hr
               · rfl
             rw [hnil]
             simp only [Bool.false_eq_true,if_false]
             split
             · rename_i he;rw [he] at hr;cases hr
             · rw [hs];simp only [h5,if_true]
           have htake:(xs.map fun r=>AV.d (r.headD (.s undef))).take n=(xs.take n).map fun r=>AV.d (r.headD (.s undef)):=by rw [List.map_take]
           have hlen:((xs.take n).map fun r=>AV.d (r.headD (.s undef))).length=min n xs.length:=by simp
           have hall:(((xs.map fun r=>AV.d (r.headD (.s undef))).take n).all AV.one)=true:=by
             rw [htake]
             rw [←hrow,List.all_append,Zag] at hone
             exact hone.1
           have hcopy:xCopy P s.hp c.argTypes (evalA s.tm x) (evalA s.tm y)=some (.d (.s (goInt (min n xs.length:Nat))),s.hp.set g {blk with cells:=blk.cells.take off++row.map AV.d++blk.cells.drop (off+n)}):=by
             unfold xCopy
             simp only [ht,hu,hi,hd,hsrc,hblk]
             rw [if_pos ⟨h2,h3,h4,h6,h7,hall,h8⟩,htake,hlen]
             congr 4
             rw [←hrow,List.append_assoc,List.append_assoc,List.append_assoc]
             congr 2
             have e1:blk.cells.drop (off+min n xs.length)=(blk.cells.drop off).drop (min n xs.length):=by rw [List.drop_drop]
             have e2:blk.cells.drop (off+n)=(blk.cells.drop off).drop n:=by rw [List.drop_drop]
             rw [e1,e2]
             conv=>lhs;rw [←List.take_append_drop n (blk.cells.drop off)]
             rw [List.drop_append_of_le_length]
             simp only [List.length_take,List.length_drop]
             omega
           have hxh:xh P noCall s o=some {tm:=putA s.tm o.dst (.d (.s (goInt (min n xs.length:Nat)))),hp:=s.hp.set g {blk with cells:=blk.cells.take off++row.map AV.d++blk.cells.drop (off+n)},pv:= []}:=by
             simp only [xh,ho,hc,hx,hy,h1,if_true,hcopy]
           simp only [bodyX,hxa,hxh]
         · exact h.elim
       · exact h.elim
     · exact h.elim
   · exact restC_sound h
 · exact restC_sound h
theorem valG_xa {K:AV→Prop} {p:Prop} (h:valG P s.hp s.tm o K=some p):xa P s o=none∧xh P noCall s o=none:=by
 unfold valG at h
 split at h
 · rename_i ho;exact ⟨by simp [xa,ho],by simp [xh,ho]⟩
 · rename_i ho;exact ⟨by simp [xa,ho],by simp [xh,ho]⟩
 · rename_i ho;exact ⟨by simp [xa,ho],by simp [xh,ho]⟩
 · rename_i c ho
   split at h<;>try (cases h;done)
   · rename_i x hc hx0
     exact ⟨by simp [xa,ho,hc],by simp [xh,ho,hc]⟩
   · rename_i x hc hx0
     exact ⟨by simp [xa,ho,hc],by simp [xh,ho,hc]⟩
 · cases h
theorem bodyC_sound {K:RS→Prop} (h:bodyC P s o K):∃s',bodyX P s o=some s'∧K s':=by
 unfold bodyC at h
 split at h
 · rename_i p hv
   obtain ⟨x,hx,hK⟩:=valG_sound hv h
   obtain ⟨h1,h2⟩:=valG_xa hv
   exact ⟨_,by simp only [bodyX,h1,h2,hx],hK⟩
 split at h
 · rename_i t x y hp'
   have hs:=pickO_cond hp'
   rcases h.elim with ⟨rfl,hK⟩|⟨rfl,hK⟩
   · rw [hs] at hK;exact ⟨_,pickO_body hp',hK⟩
   · rw [hs] at hK;exact ⟨_,pickO_body hp',hK⟩
 · split at h
   · rename_i hq
     obtain ⟨x,hx,hK⟩:=valC_sound h
     refine ⟨_, ?_,hK⟩
     have hxa:xa P s o=none:=by
       unfold xa
       split<;>try rfl
       rename_i c ho;rw [ho] at hq;cases hq
     have hxh:xh P noCall s o=none:=by
       unfold xh
       split<;>first|rfl|(rename_i ho;rw [ho] at hq;cases hq)
     simp only [bodyX,hxa,hxh,hx]
   · split at h
     · rename_i c ho
       split at h
       · rename_i hc;exact copyC_sound ho hc h
       · exact appendC_sound ho h
     · exact restC_sound h
mutual
theorem sealC_sound:∀ {x:AV} {K:AV→Prop},sealC hp x K→∃y,SealR hp x y∧K y
 | .gref g ver n k,K,h=>by
   simp only [sealC] at h
   split at h
   · rename_i blk hb
     obtain ⟨hg,hv,xs,h1,h2,h3,hK⟩:=h.elim'
     exact ⟨_, .gref hb hg hv h1 h2 h3,hK⟩
   · exact h.elim
 | .agg cs,K,h=>by
   simp only [sealC] at h
   obtain ⟨ys,hl,hs,hK⟩:=sealCs_sound h
   exact ⟨_, .agg hl hs,hK⟩
 | .tup cs,K,h=>by
   simp only [sealC] at h
   obtain ⟨ys,hl,hs,hK⟩:=sealCs_sound h
   exact ⟨_, .tup hl hs,hK⟩
 | .fn f a b,K,h=>by
   simp only [sealC] at h
   obtain ⟨ys,hl,hs,h2⟩:=sealCs_sound h
   obtain ⟨zs,hl',hs',hK⟩:=sealCs_sound h2
   exact ⟨_, .fn hl hl' hs hs',hK⟩
 | .own e k xs,K,h=>⟨.d (.sl k xs), .v (by simp [sealV]),by simpa only [sealC] using h⟩
 | .ref g off n cap k,K,h=>by
   simp only [sealC] at h
   split at h
   · rename_i y hy;exact ⟨y, .v hy,h⟩
   · exact h.elim
 | .ptr g off,K,h=>by
   simp only [sealC] at h
   split at h
   · rename_i y hy;exact ⟨y, .v hy,h⟩
   · exact h.elim
 | .gptr ..,K,h=>by simp only [sealC] at h
 | .yl,K,h=>by simp only [sealC] at h
 | .d x,K,h=>⟨.d x, .v (by simp [sealV]),by simpa only [sealC] using h⟩
 | .full k xs,K,h=>⟨.full k xs, .v (by simp [sealV]),by simpa only [sealC] using h⟩
 | .rptr cs,K,h=>⟨.rptr cs, .v (by simp [sealV]),by simpa only [sealC] using h⟩
 | .bad,K,h=>⟨.bad, .v (by simp [sealV]),by simpa only [sealC] using h⟩
theorem sealCs_sound:∀ {cs:List AV} {K:List AV→Prop},sealCs hp cs K→∃ys,cs.length=ys.length∧(∀(i:Nat) (c y:AV),cs[i]? =some c→ys[i]? =some y→SealR hp c y)∧K ys
 | [],K,h=>⟨[],rfl,fun i c y h=>by simp at h,by simpa only [sealCs] using h⟩
 | x::l,K,h=>by
   simp only [sealCs] at h
   obtain ⟨y,hy,h2⟩:=sealC_sound h
   obtain ⟨ys,hl,hs,hK⟩:=sealCs_sound h2
   refine ⟨y::ys,by simp [hl],fun i c z h3 h4=> ?_,hK⟩
   cases i with
   |zero=>simp at h3 h4;subst h3;subst h4;exact hy
   |succ i=>exact hs i c z (by simpa using h3) (by simpa using h4)
end
theorem frzTm_refl (gs:List Nat):∀l:List AV,FrzTm hp gs l l
 | []=>trivial
 |x::l=>⟨.inl rfl,frzTm_refl gs l⟩
theorem sealTs_sound {gs:List Nat} {tm0:List AV}:∀ {ts:List Nat} {tm:List AV} {K:List AV→Prop},sealTs hp ts tm K→ts.Nodup→FrzTm hp gs tm0 tm→(∀t∈ts,tm.getD t .bad=tm0.getD t .bad)→(∀t∈ts,∀g∈occ (tm0.getD t .bad),g∈gs)→
   ∃tm1,FrzTm hp gs tm0 tm1∧K tm1
 | [],tm,K,h,_,hf,_,_=>⟨tm,hf,h⟩
 | t::ts,tm,K,h,hnd,hf,hsame,hocc=>by
   simp only [sealTs] at h
   obtain ⟨y,hy,h⟩:=sealC_sound h
   rcases h.elim with ⟨_,h⟩|⟨ho,h⟩
   · exact h.elim
   obtain ⟨hn1,hn2⟩:=List.nodup_cons.1 hnd
   have hset:FrzTm hp gs tm0 (tm.set t y):=by
     have key:∀(l l':List AV) (t:Nat),FrzTm hp gs l l'→(t<l.length→SealR hp (l.getD t .bad) y∧∀g∈occ (l.getD t .bad),g∈gs)→FrzTm hp gs l (l'.set t y):=by
       intro l
       induction l with
       | nil=>
         intro l' t h _
         cases l' with
         |nil=>exact trivial
         |cons _ _=>exact h.elim
       | cons x l ih=>
         intro l' t h hs
         cases l' with
         |nil=>exact h.elim
         | cons z l'=>
           cases t with
           | zero=>
             have:=hs (by simp)
             exact ⟨.inr ⟨by simpa using this.1,by simpa using this.2,ho⟩,h.2⟩
           |succ t=>exact ⟨h.1,ih l' t h.2 fun ht=>by simpa using hs (by simpa using ht)⟩
     refine key tm0 tm t hf fun ht=>⟨?_,hocc t (List.mem_cons_self ..)⟩
     rw [←hsame t (List.mem_cons_self ..)];exact hy
   refine sealTs_sound h hn2 hset (fun t' ht'=> ?_) fun t' ht'=>hocc t' (List.mem_cons_of_mem _ ht')
   have hne:t≠t':=fun he=>hn1 (he▸ht')
   rw [←hsame t' (List.mem_cons_of_mem _ ht')]
   simp [List.getD,List.getElem?_set_ne hne]
theorem FrzTm.at {gs:List Nat}:∀ {l l':List AV} {t:Nat} {x:Dv},FrzTm hp gs l l'→l.getD t .bad= .d x→l'.getD t .bad= .d x
 | [], [],_,_,_,h=>h
 | [],_::_,_,_,h,_=>h.elim
 |_::_, [],_,_,h,_=>h.elim
 | y::l,z::l',0,x,h,hx=>by
   simp only [List.getD_cons_zero] at hx ⊢
   subst hx
   rcases h.1 with rfl|⟨h1,_⟩
   · rfl
   · cases h1 with
     |v h1=>simp only [sealV,Option.some.injEq] at h1;exact h1.symm
 | y::l,z::l',t+1,x,h,hx=>by
   simp only [List.getD_cons_succ] at hx ⊢
   exact FrzTm.at h.2 hx
theorem wantedA_frz {gs:List Nat} {tm tm':List AV} {v:Bool} (h:FrzTm hp gs tm tm') (hw:wantedA ops o tm=some v):wantedA ops o tm'=some v:=by
 unfold wantedA at hw ⊢
 split at hw
 · exact hw
 · rename_i j want hg
   split at hw<;>try (cases hw;done)
   rename_i t ht
   split at hw<;>try (cases hw;done)
   · rename_i b hb
     simp only [h.at hb];exact hw
   · rename_i b hb
     simp only [h.at hb];exact hw
theorem frzC_sound {pc:Nat→Bool} {K:RS→Prop} (h:frzC pc s o K) (hnd:(needFrz pc s o).Nodup):∃s0,FrzOk s s0∧(∀v,wantedA ops o s.tm=some v→wantedA ops o s0.tm=some v)∧K s0:=by
 unfold frzC at h
 split at h
 · exact ⟨s, .rfl,fun _ h=>h,h⟩
 · rename_i t ts hn
   rw [hn] at hnd
   obtain ⟨tm1,hf,hK⟩:=sealTs_sound (gs:=occs ((t::ts).map fun t=>s.tm.getD t .bad)) (tm0:=s.tm) h hnd (frzTm_refl _ _) (fun _ _=>rfl) fun t' ht' g hg=>by
     obtain ⟨j,hj⟩:=Zaj.1 ht'
     exact occs_get (i:=j) (by rw [List.getElem?_map,hj];rfl) g hg
   exact ⟨_,frz_ok hf,fun v hw=>wantedA_frz hf hw,hK⟩
theorem nodup_eraseDups (l:List Nat):l.eraseDups.Nodup:=by
 have key:∀(n:Nat) (l:List Nat),l.length≤n→l.eraseDups.Nodup:=by
   intro n
   induction n with
   |zero=>intro l h;have:l= []:=List.length_eq_zero_iff.1 (by omega);subst this;simp
   | succ n ih=>
     intro l h
     cases l with
     |nil=>simp
     | cons a l=>
       rw [List.eraseDups_cons]
       refine List.nodup_cons.2 ⟨?_,ih _ ?_⟩
       · rw [List.mem_eraseDups];simp
       · have:=List.length_filter_le (fun b=> !b==a) l
         simp only [List.length_cons] at h;omega
 exact key l.length l (Nat.le_refl _)
theorem needFrz_nodup (pc:Nat→Bool) (s:RS) (o:Oper):(needFrz pc s o).Nodup:=by
 unfold needFrz
 split
 · split
   · split
     · split
       · exact nodup_eraseDups _
       · simp
     · simp
   · split
     · unfold leans
       split
       · split<;>simp
       · simp
     · simp
   · simp
 · exact nodup_eraseDups _
 · simp
theorem extC_sound {gt:Nat→Bool} {K:RS→Prop} {p:Prop} (h:extC P gt s o K=some p) (hp0:p):∃s',ExtOk P o s s'∧K s':=by
 unfold extC at h
 split at h
 · rename_i c ho
   split at h<;>try (cases h;done)
   · rename_i x y hc h0 h1
     split at h
     rotate_left
     · split at h<;>try (cases h;done)
       rename_i t tn ht htn
       split at h<;>try (cases h;done)
       rename_i e kn k n hu hun hy
       split at h<;>try (cases h;done)
       rename_i i hi
       split at h<;>try (cases h;done)
       rename_i hgt
       split at h<;>try (cases h;done)
       rename_i zr hz
       cases h
       obtain ⟨hcc,hK⟩:=hp0.elim'
       simp only [Zag,decide_eq_true_eq] at hcc hgt
       obtain ⟨⟨⟨⟨⟨⟨⟨⟨a1,a2⟩,a3⟩,a4⟩,a5⟩,a6⟩,a7⟩,a8⟩,a9⟩:=hcc
       exact ⟨_,ext_zeros ho hc a1 h0 h1 a2 ht htn hu hun hi hgt.2 hy hz a3 a4 a5 a6 a7 a8 a9,hK⟩
     rename_i e i hinf
     split at h
     · rename_i g ver n k hx
       split at h<;>try (cases h;done)
       rename_i blk ys hg hys
       cases h
       obtain ⟨hcc,hv,h2⟩:=hp0.elim'
       obtain ⟨hfit,hK⟩:=h2.elim'
       simp only [Zag,decide_eq_true_eq,Bool.not_eq_true'] at hcc hfit
       obtain ⟨⟨⟨hsz,rfl⟩,hgr⟩,hf⟩:=hcc
       exact ⟨_,ext_append ho hc hsz h0 h1 hinf hx hys hg hgr hv hf hfit,hK⟩
     · split at h<;>try (cases h;done)
       rename_i hgt
       split at h<;>try (cases h;done)
       rename_i ys hys
       cases h
       obtain ⟨hcc,h2⟩:=hp0.elim'
       simp only [Zag,decide_eq_true_eq,Bool.or_eq_true] at hcc hgt
       have hbase:isNilSlice (evalA s.tm x)=true∨evalA s.tm x= .full i.size []:=by
         rcases hgt.2 with h3|h3
         · exact .inl h3
         · right
           unfold isFull0 at h3
           split at h3
           · rename_i k hk;rw [hk];simp only [decide_eq_true_eq] at h3;rw [h3]
           · cases h3
       rcases h2.elim with ⟨hpos,hK⟩|⟨hpos,hK⟩
       · have hpos:0<ys.length:=by simpa using hpos
         exact ⟨_,ext_first ho hc hcc.1 h0 h1 hinf hbase hys (List.length_pos_iff.1 hpos) hcc.2,hK⟩
       · have hpos:ys= []:=by
           have:¬0<ys.length:=by simpa using hpos
           exact List.length_eq_zero_iff.1 (by omega)
         subst hpos
         exact ⟨_,ext_zero ho hc hcc.1 h0 h1 hinf hbase hys,hK⟩
   · rename_i x y hc h0 h1
     split at h<;>try (cases h;done)
     rename_i g ver n k t hx ht
     split at h<;>try (cases h;done)
     rename_i blk ys e hg hys hu
     split at h<;>try (cases h;done)
     rename_i i hi
     cases h
     obtain ⟨hcc,hv,hK⟩:=hp0.elim'
     simp only [Zag,decide_eq_true_eq,Bool.not_eq_true'] at hcc
     obtain ⟨⟨⟨⟨⟨a1,a2⟩,a3⟩,rfl⟩,a5⟩,a6⟩:=hcc
     exact ⟨_,ext_copy ho hc a1 h0 h1 a2 ht hu hi a3 hx hys hg a5 hv a6,hK⟩
 · rename_i t lo co ho
   split at h<;>try (cases h;done)
   rename_i e hu
   split at h<;>try (cases h;done)
   split at h<;>try (cases h;done)
   rename_i kl l kc c i hl hc hi
   split at h<;>try (cases h;done)
   rename_i zr hz
   cases h
   obtain ⟨hcc,hK⟩:=hp0.elim'
   simp only [Zag,decide_eq_true_eq] at hcc
   obtain ⟨⟨⟨⟨⟨⟨a1,a2⟩,a3⟩,a4⟩,a5⟩,a6⟩,a7⟩:=hcc
   exact ⟨_,ext_make ho hu hi hl hc hz a1 a2 a3 a4 a5 a6 a7,hK⟩
 · rename_i t x hi ho
   split at h<;>try (cases h;done)
   rename_i g ver n k kk j e hx hj hu
   split at h<;>try (cases h;done)
   rename_i i blk hi' hg
   cases h
   obtain ⟨hcc,hv,hK⟩:=hp0.elim'
   simp only [Zag,decide_eq_true_eq,Bool.not_eq_true'] at hcc
   obtain ⟨⟨⟨⟨rfl,a2⟩,a3⟩,a4⟩,a5⟩:=hcc
   exact ⟨_,ext_cut ho hu hi' hx hj hg a2 hv a3 a4 a5,hK⟩
 · rename_i t ax x ho
   split at h<;>try (cases h;done)
   rename_i g ver off hax
   split at h<;>try (cases h;done)
   rename_i i blk xs hi hg hxs
   cases h
   obtain ⟨hcc,hv,h2⟩:=hp0.elim'
   obtain ⟨hoff,hK⟩:=h2.elim'
   simp only [Zag,decide_eq_true_eq,Bool.not_eq_true'] at hcc hoff
   exact ⟨_,ext_store ho hi hax hxs hg hcc.1.1 hcc.1.2 hv hcc.2 hoff,hK⟩
 · cases h
theorem demC_sound {K:RS→Prop} {p:Prop} (h:demC P s o K=some p) (hp0:p):∃T:RS→Prop,DemOk P o s T∧∀s',T s'→K s':=by
 unfold demC at h
 split at h<;>try (cases h;done)
 rename_i op t x y ty ho
 split at h<;>try (cases h;done)
 rename_i hn
 split at h<;>try (cases h;done)
 all_goals
   rename_i k xs e hrows hu
   cases h
 · refine ⟨fun s'=>∃t:Bool,(t=true→xs= [])∧s'= {tm:=putA s.tm o.dst (.d (.s (.bool t))),hp:=s.hp,pv:=pvPut s.pv o.dst}, ?_, ?_⟩
   · intro r S X yv w m B hv a K' Q hr hK
     have h1:=rows?_spec hrows (evalA_sound hr x)
     have h2:=isNilSlice_spec hn (evalA_sound hr y)
     obtain ⟨hl,hr',hpv⟩:=hr
     obtain ⟨base,n,cap,hv1,hbb⟩:∃base n cap,a.eval x= .slice base n cap∧(base.isNone=true→xs= []):=by
       generalize a.eval x=v at h1
       cases h1 with
       |nil=>exact ⟨_,_,_,rfl,fun _=>rfl⟩
       |sl=>exact ⟨_,_,_,rfl,fun h=>by cases h⟩
     obtain ⟨q1,q2,q3,q4⟩:=eql_nil_run hu base n cap x y w
     have hexec:(execOp a.eval o).run P w= .ok (.value (.bool base.isNone)) w:=by
       unfold execOp;rw [ho];simp only [hv1,h2,Sem.run_bind];simp only [Sem.run_bind] at q1;rw [q1];rfl
     refine wpIn_value (by simp [ho]) hexec (.inl rfl) ?_
     exact Nx.of (hK _ ⟨base.isNone,hbb,rfl⟩) (Gs.refl S X none w m) hl (hr'.cons (x:= .d (.s (.bool base.isNone))) (v:= .bool base.isNone) (.d (.s _)) rfl) (pvPut_ok hpv _ _)
   · rintro _ ⟨t,ht,rfl⟩;exact hp0 t ht
 · refine ⟨fun s'=>∃t:Bool,(t=true→xs= [])∧s'= {tm:=putA s.tm o.dst (.d (.s (.bool !t))),hp:=s.hp,pv:=pvPut s.pv o.dst}, ?_, ?_⟩
   · intro r S X yv w m B hv a K' Q hr hK
     have h1:=rows?_spec hrows (evalA_sound hr x)
     have h2:=isNilSlice_spec hn (evalA_sound hr y)
     obtain ⟨hl,hr',hpv⟩:=hr
     obtain ⟨base,n,cap,hv1,hbb⟩:∃base n cap,a.eval x= .slice base n cap∧(base.isNone=true→xs= []):=by
       generalize a.eval x=v at h1
       cases h1 with
       |nil=>exact ⟨_,_,_,rfl,fun _=>rfl⟩
       |sl=>exact ⟨_,_,_,rfl,fun h=>by cases h⟩
     obtain ⟨q1,q2,q3,q4⟩:=eql_nil_run hu base n cap x y w
     have hexec:(execOp a.eval o).run P w= .ok (.value (.bool !base.isNone)) w:=by
       unfold execOp;rw [ho];simp only [hv1,h2,Sem.run_bind];simp only [Sem.run_bind] at q2;rw [q2];rfl
     refine wpIn_value (by simp [ho]) hexec (.inl rfl) ?_
     exact Nx.of (hK _ ⟨base.isNone,hbb,rfl⟩) (Gs.refl S X none w m) hl (hr'.cons (x:= .d (.s (.bool !base.isNone))) (v:= .bool !base.isNone) (.d (.s _)) rfl) (pvPut_ok hpv _ _)
   · rintro _ ⟨t,ht,rfl⟩;exact hp0 t ht
theorem opC_sound {K:RS→Ev.β→Prop} {R:RS→Ev.β→Prop} {l:List Oper} (hX:X.Ok) (h:opC P X ops o s b K) (hK:∀s' b',K s' b'→wOps Ev ops l s' b' R):wOps Ev ops (o::l) s b R:=by
 unfold opC at h
 rcases guardC_sound h with ⟨hw0,h⟩|⟨hw,h⟩
 · obtain ⟨s0,hfz,hgd,h⟩:=frzC_sound h (needFrz_nodup _ _ _)
   have hw:wantedA ops o s0.tm=some true:=hgd _ hw0
   refine ⟨s0,hfz, ?_⟩
   split at h
   · rename_i k args hc
     split at h
     · rename_i f hf
       obtain ⟨hcl,h⟩:=h.elim'
       obtain ⟨x,hp,h⟩:=hX.call k f hf args _ h
       exact .inr (.inl ⟨hw,k,args,hc, .inl ⟨hcl,x,hp,hK _ _ h⟩⟩)
     · split at h
       · rename_i f hf
         obtain ⟨x,hp',hp,h⟩:=hX.scall k f hf args _ _ h
         exact .inr (.inl ⟨hw,k,args,hc, .inr ⟨x,hp',hp,hK _ _ h⟩⟩)
       · exact h.elim
   · split at h
     · rename_i args hy
       obtain ⟨hcl,h⟩:=h.elim'
       rw [hX.y] at h
       exact .inr (.inr (.inl ⟨hw,args,hy,hcl,Ev.Ymono h fun _ _ h=>hK _ _ h⟩))
     · split at h
       · rename_i p hpx
         obtain ⟨T,he,h⟩:=demC_sound hpx h
         exact .inr (.inr (.inr ⟨hw, .inl ⟨T,he,fun s' hs=>hK _ _ (h s' hs)⟩⟩))
       split at h
       · rename_i p hpx
         obtain ⟨s',he,h⟩:=extC_sound hpx h
         exact .inr (.inr (.inr ⟨hw, .inl ⟨_,he.dem,fun s'' hs=>by subst hs;exact hK _ _ h⟩⟩))
       · obtain ⟨s',hs,h⟩:=bodyC_sound h
         exact .inl ⟨s',by rw [xStep_body hw];exact hs,hK _ _ h⟩
 · exact ⟨s, .rfl, .inl ⟨_,by simp only [xStep,hw],hK _ _ h⟩⟩
theorem opsC_sound (hX:X.Ok) {R:RS→Ev.β→Prop}:∀ {l:List Oper} {s:RS} {b:Ev.β} {K:RS→Ev.β→Prop},opsC P X ops l s b K→(∀s' b',K s' b'→R s' b')→wOps Ev ops l s b R
 | [],s,b,K,h,hK=>hK _ _ h
 |o::l,s,b,K,h,hK=>opC_sound hX h fun s' b' h=>opsC_sound hX h hK
open Classical in
noncomputable def tblD (tb:Tbl):CallT:=
 ⟨fun d k args=>match tb.find? (fun t=>t.1==d) with
   |some t=>if t.2.1=k∧t.2.2.1=args then some t.2.2.2 else none
   |none=>none,fun _ _ _=>none⟩
theorem tblD_ok {tb:Tbl} (h:∀t∈tb,PCall P t.2.1 t.2.2.1 t.2.2.2):CallOk P (tblD tb):=by
 refine ⟨fun d f args r hr=> ?_,fun _ _ _ _ _ h=>by cases h⟩
 simp only [tblD] at hr
 split at hr<;>try (cases hr;done)
 rename_i t ht
 split at hr<;>try (cases hr;done)
 rename_i hc
 cases hr
 have:=h t (List.mem_of_find?_eq_some ht)
 rw [hc.1,hc.2] at this;exact this
theorem xp_other {call:CallT} {x:AV} (hw:wantedA ops o tm=some true) (hx:xq P hp (evalA tm) o=some x):xp P call ops hp tm o=some x:=by
 unfold xp
 rw [hw]
 simp only
 split
 · rename_i c ho
   split
   · rename_i f hc
     simp [xq,ho,hc] at hx
   · exact hx
 · exact hx
theorem find_of_nodup:∀ {T:Tbl},(T.map (·.1)).Nodup→∀t∈T,T.find? (fun e=>e.1==t.1)=some t
 | [],_,t,h=>by cases h
 | e::T,hn,t,h=>by
   simp only [List.map_cons,List.nodup_cons] at hn
   rcases Zce.1 h with rfl|h
   · simp
   · have hne:¬e.1=t.1:=fun he=>hn.1 (he▸Zbd.2 ⟨t,h,rfl⟩)
     rw [List.find?_cons_of_neg (by simpa using hne)]
     exact find_of_nodup hn.2 t h
theorem preC_sound (hX:X.Ok):∀ {l:List Oper} {tm:List AV} {tb:Tbl} {K:List AV→Tbl→Prop},preC P X ops hp l tm tb K→
   ∃tmK tb',K tmK tb'∧(∀t∈tb,t∈tb')∧((∀t∈tb,PCall P t.2.1 t.2.2.1 t.2.2.2)→∀t∈tb',PCall P t.2.1 t.2.2.1 t.2.2.2)∧∀T:Tbl,(∀t∈tb',T.find? (fun e=>e.1==t.1)=some t)→xPre P (tblD T) ops hp l tm=some tmK
 | [],tm,tb,K,h=>⟨tm,tb,h,fun _ h=>h,fun h=>h,fun _ _=>rfl⟩
 | o::l,tm,tb,K,h=>by
   simp only [preC] at h
   rcases guardC_sound h with ⟨hw,h⟩|⟨hw,h⟩
   · split at h
     · rename_i k args hc
       split at h
       · rename_i f hf
         obtain ⟨hcl,h⟩:=h.elim'
         obtain ⟨x,hpc,h⟩:=hX.call k f hf args _ h
         obtain ⟨tmK,tb',h1,h2,h3,h4⟩:=preC_sound hX h
         refine ⟨tmK,tb',h1,fun t ht=>h2 t (List.mem_cons_of_mem _ ht),fun hall=>h3 fun t ht=> ?_,fun T hT=> ?_⟩
         · rcases Zce.1 ht with rfl|ht
           · exact hpc
           · exact hall t ht
         · have hf':=hT _ (h2 _ (List.mem_cons_self ..))
           have hxp:xp P (tblD T) ops hp tm o=some x.view:=by
             unfold opCall at hc
             split at hc<;>try (cases hc;done)
             rename_i c ho
             split at hc<;>try (cases hc;done)
             rename_i f hcc
             unfold xp
             simp only [hw,ho,hcc,hc,hcl,if_true]
             simp only at hf'
             simp [tblD,hf']
           simp only [xPre,hxp];exact h4 T hT
       · exact h.elim
     · split at h
       · rename_i t x y hpick
         have hxq:xq P hp (evalA tm) o=some (if t then x else y):=by
           unfold pickO at hpick
           split at hpick<;>try (cases hpick;done)
           rename_i c a b ho
           split at hpick<;>try (cases hpick;done)
           rename_i t'' hc
           cases hpick
           simp [xq,ho,hc]
         have hs:=pickO_cond hpick
         rcases h.elim with ⟨rfl,h⟩|⟨rfl,h⟩<;>rw [hs] at h
         · obtain ⟨tmK,tb',h1,h2,h3,h4⟩:=preC_sound hX h
           exact ⟨tmK,tb',h1,h2,h3,fun T hT=>by simp only [xPre,xp_other hw hxq];exact h4 T hT⟩
         · obtain ⟨tmK,tb',h1,h2,h3,h4⟩:=preC_sound hX h
           exact ⟨tmK,tb',h1,h2,h3,fun T hT=>by simp only [xPre,xp_other hw hxq];exact h4 T hT⟩
       · obtain ⟨x,hxq,h⟩:=valC_sound h
         obtain ⟨tmK,tb',h1,h2,h3,h4⟩:=preC_sound hX h
         exact ⟨tmK,tb',h1,h2,h3,fun T hT=>by simp only [xPre,xp_other hw hxq];exact h4 T hT⟩
   · obtain ⟨tmK,tb',h1,h2,h3,h4⟩:=preC_sound hX h
     refine ⟨tmK,tb',h1,h2,h3,fun T hT=> ?_⟩
     have:xp P (tblD T) ops hp tm o=some (.d (.s undef)):=by unfold xp;rw [hw]
     simp only [xPre,this];exact h4 T hT
def hdr (blk:Blk):Bool×Nat×Nat:=(blk.grow,blk.ver,blk.cells.length)
structure Sim (fp:List (Nat×Nat×Nat)) (ex:List Nat) (h h':List Blk):Prop where
 hd:∀g,g<h.length→g∉ex→(h'[g]?).map hdr=(h[g]?).map hdr
 ln:h.length≤h'.length
 same:∀(g:Nat) (blk blk':Blk) (i:Nat),g∉ex→h[g]? =some blk→h'[g]? =some blk'→apartB fp g i 1=true→blk'.cells[i]? =blk.cells[i]?
theorem Sim.refl (fp:List (Nat×Nat×Nat)) (ex:List Nat) (h:List Blk):Sim fp ex h h:=⟨fun _ _ _=>rfl,Nat.le_refl _,fun g blk blk' i _ h1 h2 _=>by rw [h1] at h2;cases h2;rfl⟩
theorem Sim.widen {fp fp1:List (Nat×Nat×Nat)} {ex:List Nat} {h h':List Blk} (hs:Sim fp ex h h'):Sim (fp++fp1) ex h h':=
 ⟨hs.hd,hs.ln,fun g blk blk' i h0 h1 h2 h3=>hs.same g blk blk' i h0 h1 h2 (by simp only [apartB,List.all_append,Zag] at h3;exact h3.1)⟩
theorem storeFps_skip {tm:List AV} {o:Oper} {l:List Oper} (h:∀t a x,o.op≠ .store t a x):storeFps tm (o::l)=storeFps tm l:=by
 simp only [storeFps]
theorem xLates_sim {ex:List Nat} {l:List Oper} {tmF:List AV}:∀ {tm:List AV} {h0 h:List Blk} {sts:List (List AV×List Blk)},xLates P l tm h=some sts→(∀g∈appGs tmF l,g∈ex)→
   (∀(i:Nat) (o:Oper) (t:List AV) (hh:List Blk),l[i]? =some o→sts[i]? =some (t,hh)→∀y∈o.op.operands,evalA t y=evalA tmF y)→
   ∀fp0,Sim fp0 ex h0 h→∀st∈sts,Sim (fp0++storeFps tmF l) ex h0 st.2∧(hasAlloc l=false→st.2.length=h.length):=by
 induction l with
 | nil=>
   intro tm h0 h sts hx _ _ fp0 hs st hh
   simp only [xLates,Option.some.injEq] at hx
   subst hx
   rw [List.mem_singleton.1 hh]
   exact ⟨by simpa [storeFps] using hs,fun _=>rfl⟩
 | cons o l ih=>
   intro tm h0 h sts hx hex hev fp0 hs st hh
   simp only [xLates] at hx
   split at hx<;>try (cases hx;done)
   rename_i xr h1 hl
   simp only [Zac] at hx
   obtain ⟨sts',hx,rfl⟩:=hx
   have hev':∀(i:Nat) (o:Oper) (t:List AV) (hh:List Blk),l[i]? =some o→sts'[i]? =some (t,hh)→∀y∈o.op.operands,evalA t y=evalA tmF y:=
     fun i o' t hh e1 e2=>hev (i+1) o' t hh (by simpa using e1) (by simpa using e2)
   have hex':∀g∈appGs tmF l,g∈ex:=fun g hg=>hex g (by
     unfold appGs
     split<;>try exact hg
     split<;>try exact hg
     split<;>try exact hg
     exact List.mem_cons_of_mem _ hg)
   unfold xLate at hl
   split at hl<;>try (cases hl;done)
   · rename_i t a x ho hg hd
     have ea:=hev 0 o tm h rfl rfl a (by simp [ho,Op.operands])
     have ex':=hev 0 o tm h rfl rfl x (by simp [ho,Op.operands])
     split at hl<;>try (cases hl;done)
     rename_i hown
     split at hl<;>try (cases hl;done)
     rename_i xs hxs
     simp only [Zac,Prod.mk.injEq] at hl
     obtain ⟨h2,hl,rfl,rfl⟩:=hl
     unfold xStore at hl
     split at hl<;>try (cases hl;done)
     rename_i i g off hi ha
     split at hl<;>try (cases hl;done)
     rename_i blk hblk
     split at hl<;>try (cases hl;done)
     rename_i hc
     cases hl
     have e:storeFps tmF (o::l)=(g,off,xs.length)::storeFps tmF l:=by simp only [storeFps,ho,←ea,←ex',ha,hxs]
     have hal:hasAlloc (o::l)=hasAlloc l:=by simp only [hasAlloc,ho]
     rw [e,hal]
     have hgl:g<h.length:=(Zaa.1 hblk).1
     have hs1:Sim (fp0++ [(g,off,xs.length)]) ex h0 (h.set g {blk with cells:=blk.cells.take off++xs++blk.cells.drop (off+xs.length)}):=by
       refine ⟨fun g' hg' hge=> ?_,by rw [List.length_set];exact hs.ln,fun g' b0 b1 j hge e1 e2 e3=> ?_⟩
       · rw [←hs.hd g' hg' hge]
         by_cases hgg:g'=g
         · subst hgg
           rw [List.getElem?_set_self hgl,hblk]
           have hlen:(blk.cells.take off++xs++blk.cells.drop (off+xs.length)).length=blk.cells.length:=by
             simp only [List.length_append,List.length_take,List.length_drop];have:=hc.2.2.2;omega
           simp only [Option.map_some,hdr,hlen]
         · rw [List.getElem?_set_ne (Ne.symm hgg)]
       · simp only [apartB,List.all_append,Zag] at e3
         obtain ⟨e3,e4⟩:=e3
         by_cases hgg:g'=g
         · subst hgg
           rw [List.getElem?_set_self hgl] at e2
           cases e2
           simp only [List.all_cons,List.all_nil,Bool.and_true,bne_self_eq_false,Bool.false_or,Bool.or_eq_true,decide_eq_true_eq] at e4
           rw [←hs.same g' b0 blk j hge e1 hblk e3]
           simp only
           rcases e4 with e4|e4
           · rw [List.getElem?_append_right (by simp;omega),List.getElem?_drop]
             congr 1
             simp only [List.length_append,List.length_take];have:=hc.2.2.2;omega
           · rw [List.append_assoc,List.getElem?_append_left (by simp;have:=hc.2.2.2;omega),Zak,if_pos (by omega)]
         · rw [List.getElem?_set_ne (Ne.symm hgg)] at e2
           exact hs.same g' b0 b1 j hge e1 e2 e3
     rcases Zce.1 hh with rfl|hh
     · exact ⟨hs.widen,fun _=>rfl⟩
     · obtain ⟨h3,h4⟩:=ih hx hex' hev' _ hs1 st hh
       exact ⟨by simpa using h3,fun ha=>by rw [h4 ha,List.length_set]⟩
   · rename_i t d ho hg hd
     split at hl<;>try (cases hl;done)
     rename_i xs hxs
     simp only [Option.some.injEq,Prod.mk.injEq] at hl
     obtain ⟨rfl,rfl⟩:=hl
     have hal:hasAlloc (o::l)=true:=by simp only [hasAlloc,ho]
     rw [storeFps_skip (fun t a x h=>by rw [ho] at h;cases h),hal]
     rcases Zce.1 hh with rfl|hh
     · exact ⟨hs.widen,fun h=>by cases h⟩
     · have hs1:Sim fp0 ex h0 (h++ [⟨xs,false,false,0⟩]):=by
         have hln:=hs.ln
         refine ⟨fun g hg hge=> ?_,by simp;omega,fun g b0 b1 j hge e1 e2 e3=> ?_⟩
         · rw [List.getElem?_append_left (by omega)];exact hs.hd g hg hge
         · have hg:=(Zaa.1 e1).1
           rw [List.getElem?_append_left (by omega)] at e2
           exact hs.same g b0 b1 j hge e1 e2 e3
       exact ⟨(ih hx hex' hev' _ hs1 st hh).1,fun h=>by cases h⟩
   · rename_i c d ho hg hd
     have hal:hasAlloc (o::l)=hasAlloc l:=by simp only [hasAlloc,ho]
     rw [storeFps_skip (fun t a x h=>by rw [ho] at h;cases h),hal]
     unfold xLateA at hl
     split at hl<;>try (cases hl;done)
     rename_i x y hc h0' h1'
     split at hl<;>try (cases hl;done)
     split at hl<;>try (cases hl;done)
     rename_i g ver n k hxg
     split at hl<;>try (cases hl;done)
     rename_i blk ys hblk hys
     split at hl<;>try (cases hl;done)
     cases hl
     have hxm:x∈o.op.operands:=by
       rw [ho]
       show x∈c.operands
       unfold Call.operands
       exact Array.mem_append_right _ (Array.mem_of_getElem? h0')
     have hge:g∈ex:=by
       refine hex g ?_
       unfold appGs
       simp only [ho,h0',←hev 0 o tm h rfl rfl x hxm,hxg,AV.hd?]
       exact List.mem_cons_self
     have hgl:g<h.length:=(Zaa.1 hblk).1
     have hs1:Sim fp0 ex h0 (h.set g ⟨blk.cells++flatA ys,false,true,ver+1⟩):=by
       refine ⟨fun g' hg' hne=> ?_,by rw [List.length_set];exact hs.ln,fun g' b0 b1 j hne e1 e2 e3=> ?_⟩
       · have hgg:¬g'=g:=fun e=>hne (e▸hge)
         rw [List.getElem?_set_ne (Ne.symm hgg)]
         exact hs.hd g' hg' hne
       · have hgg:¬g'=g:=fun e=>hne (e▸hge)
         rw [List.getElem?_set_ne (Ne.symm hgg)] at e2
         exact hs.same g' b0 b1 j hne e1 e2 e3
     rcases Zce.1 hh with rfl|hh
     · exact ⟨hs.widen,fun _=>rfl⟩
     · obtain ⟨h3,h4⟩:=ih hx hex' hev' _ hs1 st hh
       exact ⟨h3,fun ha=>by rw [h4 ha,List.length_set]⟩
   · split at hl<;>try (cases hl;done)
     rename_i hq
     simp only [Zac,Prod.mk.injEq] at hl
     obtain ⟨x',_,rfl,rfl⟩:=hl
     have hal:hasAlloc (o::l)=hasAlloc l:=by
       unfold lateQ at hq
       split at hq<;>first|exact absurd hq Bool.false_ne_true|(rename_i ho hg;simp only [hasAlloc,ho])
     have hns:∀t a x,o.op≠ .store t a x:=by
       intro t a x he
       unfold lateQ at hq
       rw [he] at hq
       cases hq
     rw [storeFps_skip hns,hal]
     rcases Zce.1 hh with rfl|hh
     · exact ⟨hs.widen,fun _=>rfl⟩
     · exact ih hx hex' hev' _ hs st hh
end
section
variable {P:Program} {h h':List Blk} {tm:List AV} {o:Oper} {ops:Array Oper} {fp:List (Nat×Nat×Nat)} {ex:List Nat}
theorem Sim.cases (hs:Sim fp ex h h') (g:Nat) (hg:g<h.length∨h'.length=h.length) (hge:g∉ex):(h[g]? =none∧h'[g]? =none)∨∃b b',h[g]? =some b∧h'[g]? =some b'∧b'.grow=b.grow∧b'.ver=b.ver∧b'.cells.length=b.cells.length:=by
 cases h1:h[g]? with
 | none=>
   have h2:h.length≤g:=List.getElem?_eq_none_iff.1 h1
   exact .inl ⟨rfl,List.getElem?_eq_none (by omega)⟩
 | some b=>
   have:=hs.hd g (Zaa.1 h1).1 hge
   rw [h1] at this
   simp only [Option.map_some,Zac] at this
   obtain ⟨b',h2,h3⟩:=this
   simp only [hdr,Prod.mk.injEq] at h3
   exact .inr ⟨b,b',rfl,h2,h3⟩
def LowIn (ex:List Nat) (h h':List Blk) (a:AV):Prop:=(a.low h.length=true∨h'.length=h.length)∧∀g,a.hd? =some g→g∉ex
theorem cellsAt_d (h h':List Blk) (x:Dv):cellsAt h' (.d x)=cellsAt h (.d x):=by
 cases x with
 | s v=>
   cases v<;>try rfl
   rename_i oa
   cases oa<;>rfl
 |sl k xs=>rfl
 |pt cs=>rfl
theorem shiftPtr_d (h h':List Blk) (x:Dv) (n:Nat):shiftPtr h' (.d x) n=shiftPtr h (.d x) n:=by
 cases x with
 | s v=>
   cases v<;>try rfl
   rename_i oa
   cases oa<;>rfl
 |sl k xs=>rfl
 |pt cs=>rfl
theorem shiftPtr_sim (hs:Sim fp ex h h') (a:AV) (ha:LowIn ex h h' a) (n:Nat):shiftPtr h' a n=shiftPtr h a n:=by
 cases a<;>first|exact shiftPtr_d _ _ _ _|simp only [shiftPtr]
 · rename_i g off
   rcases hs.cases g (ha.1.imp (fun h=>by simpa [AV.low] using h) id) (ha.2 g rfl) with ⟨h1,h2⟩|⟨b,b',h1,h2,h3,h4,h5⟩
   · simp only [h1,h2]
   · simp only [h1,h2,h3]
 · rename_i g v off
   rcases hs.cases g (ha.1.imp (fun h=>by simpa [AV.low] using h) id) (ha.2 g rfl) with ⟨h1,h2⟩|⟨b,b',h1,h2,h3,h4,h5⟩
   · simp only [h1,h2]
   · simp only [h1,h2,h3,h4]
theorem fieldAddr_sim (hs:Sim fp ex h h') (t:TypeId) (a:AV) (ha:LowIn ex h h' a) (f:Nat):xFieldAddr P h' t a f=xFieldAddr P h t a f:=by
 unfold xFieldAddr
 simp only [shiftPtr_sim hs a ha]
theorem indexAddr_sim (hs:Sim fp ex h h') (t:TypeId) (a ix:AV) (ha:LowIn ex h h' a):xIndexAddr P h' t a ix=xIndexAddr P h t a ix:=by
 unfold xIndexAddr
 simp only [shiftPtr_sim hs a ha]
 split<;>try rfl
 split<;>try rfl
 cases a<;>try rfl
 rename_i g v l k
 simp only
 rcases hs.cases g (ha.1.imp (fun h=>by simpa [AV.low] using h) id) (ha.2 g rfl) with ⟨h1,h2⟩|⟨b,b',h1,h2,h3,h4,h5⟩
 · simp only [h1,h2]
 · simp only [h1,h2,h3,h4]
theorem len_sim (hs:Sim fp ex h h') (a:AV) (ha:LowIn ex h h' a):a.len? h'=a.len? h:=by
 cases a
 case gref g v l k=>
   simp only [AV.len?]
   rcases hs.cases g (ha.1.imp (fun h=>by simpa [AV.low] using h) id) (ha.2 g rfl) with ⟨h1,h2⟩|⟨b,b',h1,h2,h3,h4,h5⟩
   · simp only [h1,h2]
   · simp only [h1,h2,h3,h4]
 all_goals first|rfl|(rename_i x;cases x<;>rfl)
theorem slice_sim (hs:Sim fp ex h h') (t:TypeId) (x:AV) (ha:LowIn ex h h' x) (lo hi mx:Option AV):xSlice P h' t x lo hi mx=xSlice P h t x lo hi mx:=by
 unfold xSlice
 split<;>try rfl
 split<;>try rfl
 cases x<;>try rfl
 rename_i g off
 simp only
 rcases hs.cases g (ha.1.imp (fun h=>by simpa [AV.low] using h) id) (ha.2 g rfl) with ⟨h1,h2⟩|⟨b,b',h1,h2,h3,h4,h5⟩
 · simp only [h1,h2]
 · simp only [h1,h2,h3,h5]
theorem load_sim (hs:Sim fp ex h h') (t:TypeId) (a:AV) (ha0:LowIn ex h h' a) (hf:∀g off,a= .ptr g off→∀i,P.info? t=some i→apartB fp g off (max i.size 1)=true) (hg:∀g v off,a≠ .gptr g v off):xLoad P h' t a=xLoad P h t a:=by
 unfold xLoad
 cases a<;>try rfl
 · rw [cellsAt_d h h']
 · rename_i g off
   simp only [cellsAt]
   rcases hs.cases g (ha0.1.imp (fun h=>by simpa [AV.low] using h) id) (ha0.2 g rfl) with ⟨h1,h2⟩|⟨b,b',h1,h2,h3,h4,h5⟩
   · simp only [h1,h2]
   · simp only [h1,h2,h3]
     cases hgr:b.grow
     · simp only [Bool.false_eq_true,if_false]
       unfold takeCs
       cases hi:P.info? t with
       |none=>rfl
       | some i=>
         simp only
         have ha:=hf g off rfl i hi
         have hcell:∀j,j<max i.size 1→(b'.cells.drop off)[j]? =(b.cells.drop off)[j]? :=by
           intro j hj
           simp only [List.getElem?_drop]
           refine hs.same g b b' (off+j) (ha0.2 g rfl) h1 h2 ?_
           simp only [apartB,Zau,Bool.or_eq_true,bne_iff_ne,decide_eq_true_eq] at ha ⊢
           intro q hq
           rcases ha q hq with (h6|h6)|h6
           · exact .inl (.inl h6)
           · exact .inl (.inr (by omega))
           · exact .inr (by omega)
         have hlen:(b'.cells.drop off).length=(b.cells.drop off).length:=by simp [h5]
         have htake:(b'.cells.drop off).take i.size=(b.cells.drop off).take i.size:=by
           apply List.ext_getElem?
           intro j
           simp only [Zak]
           split
           · exact hcell j (by omega)
           · rfl
         rw [hlen,htake,hcell 0 (by omega)]
     · simp only [if_true]
 · exact absurd rfl (hg _ _ _)
theorem xq_sim (hs:Sim fp ex h h') (hl:lowB h.length tm o=true∨h'.length=h.length) (hf:frameB P tm fp o=true) (hav:avoidB ex tm o=true):xq P h' (evalA tm) o=xq P h (evalA tm) o:=by
 have hlo:∀x∈o.op.operands,(ex.isEmpty=true∨∀x∈o.op.operands.toList,(match (evalA tm x).hd? with|some g=> !ex.contains g|none=>true)=true)→LowIn ex h h' (evalA tm x):=fun x hx hv=>⟨hl.imp (fun h=>by
     unfold lowB at h
     exact Zau.1 h x (by simpa using hx)) id,fun g hg hge=>by
   rcases hv with hv|hv
   · rw [List.isEmpty_iff.1 hv] at hge;cases hge
   · have:=hv x (by simpa using hx)
     rw [hg] at this
     simp only [Bool.not_eq_true'] at this
     rw [List.contains_iff_mem.2 hge] at this
     cases this⟩
 unfold frameB at hf
 unfold avoidB at hav
 unfold xq
 split<;>try rfl
 · rename_i t a ho
   simp only [ho,Bool.or_eq_true,Zau] at hf hav
   refine load_sim hs t _ (hlo a (by simp [ho,Op.operands]) (by rw [ho];exact hav)) (fun g off he i hi=> ?_) (fun g v off he=> ?_)
   · rw [he] at hf;simp only [hi] at hf;exact hf
   · rw [he] at hf;cases hf
 · rename_i t x lo hi mx ho
   simp only [ho,Bool.or_eq_true,Zau] at hav
   simp only [slice_sim hs t _ (hlo x (by simp [ho,Op.operands]) (by rw [ho];exact hav))]
 · rename_i t x f ho
   simp only [ho,Bool.or_eq_true,Zau] at hav
   simp only [fieldAddr_sim hs t _ (hlo x (by simp [ho,Op.operands]) (by rw [ho];exact hav))]
 · rename_i t x ix ho
   simp only [ho,Bool.or_eq_true,Zau] at hav
   simp only [indexAddr_sim hs t _ _ (hlo x (by simp [ho,Op.operands]) (by rw [ho];exact hav))]
 · rename_i c ho
   split<;>try rfl
   rename_i hcb
   split<;>try rfl
   rename_i x hx
   split<;>try rfl
   simp only [ho,hcb,Bool.or_eq_true,Zau] at hav
   have hmem:x∈o.op.operands:=by
     rw [ho]
     have:=Array.mem_of_getElem? hx
     show x∈c.operands
     unfold Call.operands
     exact Array.mem_append_right _ this
   simp only [xLen,len_sim hs _ (hlo x hmem (by rw [ho];exact hav))]
theorem xp_sim {call:CallT} (hs:Sim fp ex h h') (hl:lowB h.length tm o=true∨h'.length=h.length) (hf:frameB P tm fp o=true) (hav:avoidB ex tm o=true):xp P call ops h' tm o=xp P call ops h tm o:=by
 unfold xp
 simp only [xq_sim hs hl hf hav]
theorem xLates_take:∀ {l:List Oper} {tm:List AV} {h:List Blk} {sts:List (List AV×List Blk)} (i:Nat),xLates P l tm h=some sts→xLates P (l.take i) tm h=some (sts.take (i+1))
 | [],tm,h,sts,i,hx=>by simp only [xLates,Option.some.injEq] at hx;subst hx;simp [xLates]
 | o::l,tm,h,sts,i,hx=>by
   simp only [xLates] at hx
   split at hx<;>try (cases hx;done)
   rename_i x h1 hl
   simp only [Zac] at hx
   obtain ⟨sts',hx,rfl⟩:=hx
   cases i with
   |zero=>simp [xLates]
   |succ i=>simp only [List.take_succ_cons,xLates,hl,xLates_take i hx,Option.map_some]
theorem storeFps_cons (tm:List AV) (o:Oper) (l:List Oper):storeFps tm (o::l)=storeFps tm [o]++storeFps tm l:=by
 simp only [storeFps]
 split
 · split<;>rfl
 · rfl
theorem storeFps_mem {tm:List AV} {o:Oper} {q:Nat×Nat×Nat} (hq:q∈storeFps tm [o]):∀ {l:List Oper},o∈l→q∈storeFps tm l
 | [],h=>by cases h
 | x::l,h=>by
   rw [storeFps_cons]
   rcases Zce.1 h with rfl|h
   · exact List.mem_append_left _ hq
   · exact List.mem_append_right _ (storeFps_mem hq h)
theorem storeFps_sub {tm:List AV} {l':List Oper}:∀ {l:List Oper},(∀o∈l,o∈l')→∀q∈storeFps tm l,q∈storeFps tm l'
 | [],h,q,hq=>by simp [storeFps] at hq
 | x::l,h,q,hq=>by
   rw [storeFps_cons] at hq
   rcases Zax.1 hq with hq|hq
   · exact storeFps_mem hq (h x List.mem_cons_self)
   · exact storeFps_sub (fun o ho=>h o (List.mem_cons_of_mem _ ho)) q hq
theorem appGs_take (tm:List AV):∀(l:List Oper) (i g:Nat),g∈appGs tm (l.take i)→g∈appGs tm l
 | [],i,g,h=>by simpa using h
 |o::l,0,g,h=>by simp [appGs] at h
 | o::l,i+1,g,h=>by
   rw [List.take_succ_cons] at h
   unfold appGs at h ⊢
   split at h
   · split at h
     · split at h
       · rcases Zce.1 h with rfl|h
         · exact List.mem_cons_self
         · exact List.mem_cons_of_mem _ (appGs_take tm l i g h)
       · exact appGs_take tm l i g h
     · exact appGs_take tm l i g h
   · exact appGs_take tm l i g h
theorem Sim.sub {fp fp':List (Nat×Nat×Nat)} {h h':List Blk} (hs:Sim fp ex h h') (hf:∀q∈fp,q∈fp'):Sim fp' ex h h':=
 ⟨hs.hd,hs.ln,fun g blk blk' i h0 h1 h2 h3=>hs.same g blk blk' i h0 h1 h2 (Zau.2 fun q hq=>Zau.1 h3 q (hf q hq))⟩
theorem findN_spec {k:Nat}:∀ {m n:Nat},findN ops k m=some n→drawLateOk ops k n=true
 |0,n,h=>by simp [findN] at h
 | m+1,n,h=>by
   simp only [findN] at h
   split at h
   · rename_i h1;cases h;exact h1
   · exact findN_spec h
end
section
variable {P:Program} {hp hp':List Blk} {tm tm':List AV} {ops:Array Oper} {Ev:Env P} {X:CX Ev.β} {b:Ev.β}
theorem preRegC_sound {k:Nat} (hX:X.Ok) (hk:drawOk ops k=true) {K:List AV→List Blk→Ev.β→Prop} {Q:Exit→St Ev.β→Prop} (h:preRegC P X ops k tm hp b K) (hq:∀tm' hp' b',K tm' hp' b'→Q .normal ⟨tm',hp',b'⟩):
   WA Ev ops ⟨tm,hp,b⟩ Q:=by
 unfold preRegC at h
 split at h
 · rename_i hks
   obtain ⟨tmK,tb,h1,h2,h3,h4⟩:=preC_sound hX h
   split at h1
   · rename_i hnd
     exact WA.draw (s:=⟨tm,hp,b⟩) k (tblD tb) (tblD_ok (h3 (by simp))) hk hks (h4 tb (find_of_nodup hnd)) (opsC_sound hX h1 fun s' b' h=>hq _ _ _ h)
   · exact h1.elim
 · exact h.elim
theorem appOk (P:Program):AppOk P:=by
 intro o c tm hp hp' x ho hk h
 unfold xLateA at h
 split at h<;>try (cases h;done)
 rename_i x' y hc h0 h1
 split at h<;>try (cases h;done)
 rename_i e i hinf
 split at h<;>try (cases h;done)
 rename_i g ver n k hx
 split at h<;>try (cases h;done)
 rename_i blk ys hg hys
 split at h<;>try (cases h;done)
 rename_i hcc
 cases h
 simp only [Zag,decide_eq_true_eq,Bool.not_eq_true'] at hcc
 obtain ⟨⟨⟨hsz,rfl⟩,hgr⟩,hf⟩:=hcc
 unfold lateK at hk
 simp only [ho,h0,h1,hinf,hx,hg,hys] at hk
 exact ext_append (s:=⟨tm,hp, []⟩) ho hc hsz h0 h1 hinf hx hys hg hgr hk.1 hf hk.2.1
theorem frame_late {q n:Nat} {call:CallT} {tmK tmF:List AV} {hpn:List Blk} {sts:List (List AV×List Blk)} (hn:drawLateOk ops q n=true) (hks:q+n≤ops.size) (hlates:xLates P ((ops.toList.drop q).take n) tmK hp=some sts) (hlast:sts[n]? =some (tmF,hpn))
   (hfr:frameAll P hp.length tmK tmF (ops.toList.take q) ((ops.toList.drop q).take n)=true) (i:Nat) (t:List AV) (h':List Blk) (hh:sts[i]? =some (t,h')) (j:Nat) (o:Oper) (hj:j<q) (ho:ops[j]? =some o) (hne:∀(i':Nat) (o':Oper),i'<i→ops[q+i']? =some o'→j∉edgesOf o'):
   xp P call ops h' tmK o=xp P call ops hp tmK o:=by
 obtain ⟨sl1,sl2,sl3⟩:=xLates_get hlates
 obtain ⟨L1,L2⟩:=lates_tm hn hks hlates hlast
 have hedges:∀(i:Nat) (o:Oper),ops[i]? =some o→(∀j∈edgesOf o,j<i):=fun i o ho=>(late_at hn ho).1
 have hev:∀(i:Nat) (o:Oper) (t:List AV) (hh:List Blk),((ops.toList.drop q).take n)[i]? =some o→sts[i]? =some (t,hh)→∀y∈o.op.operands,evalA t y=evalA tmF y:=by
   intro i o t hh e1 e2
   rw [Zak] at e1
   split at e1<;>try (cases e1;done)
   rename_i hin
   rw [List.getElem?_drop] at e1
   have ho:ops[q+i]? =some o:=by simpa using e1
   exact evalA_congr (o:=o) (ops:=ops) (tm:=t) (tm':=tmF) fun x hx=>getD_of (L2 i t hh e2 (by omega) x fun j' o' hj' hjn ho' hd'=>by
     have h3:=(late_at hn ho).2.1 (by omega) x hx (q+j') o' (by omega) ho' hd'
     have:=hedges _ o ho _ h3
     omega)
 have hin:i≤n:=by
   have h1:=(Zaa.1 hh).1
   have h2:((ops.toList.drop q).take n).length≤n:=List.length_take_le _ _
   omega
 have ho':(ops.toList.take q)[j]? =some o:=by rw [Zak,if_pos hj];simpa using ho
 have hfj:=Zau.1 hfr j (List.mem_range.2 (Zaa.1 ho').1)
 rw [ho'] at hfj
 simp only [Zag,Bool.or_eq_true,Bool.not_eq_true'] at hfj
 have hsimA:=xLates_sim (ex:=appGs tmF ((ops.toList.drop q).take n)) hlates (fun _ h=>h) hev [] (Sim.refl _ _ _) (t,h') (Zcu hh)
 have hsim:=xLates_sim (ex:=appGs tmF ((ops.toList.drop q).take n)) (xLates_take i hlates) (fun g hg=>appGs_take _ _ _ _ hg) (fun i' o t hh e1 e2=>by
   rw [Zak] at e1 e2
   split at e1<;>try (cases e1;done)
   split at e2<;>try (cases e2;done)
   exact hev i' o t hh e1 e2) [] (Sim.refl _ _ _) (t,h') (Zcu (i:=i) (by rw [Zak,if_pos (by omega)];exact hh))
 simp only [List.nil_append] at hsim
 refine xp_sim (hsim.1.sub (storeFps_sub fun o' ho'=> ?_)) ?_ hfj.1.1 hfj.2
 · obtain ⟨i',hi'⟩:=Zaj.1 ho'
   rw [Zak] at hi'
   split at hi'<;>try (cases hi';done)
   rename_i hlt
   refine List.mem_filter.2 ⟨Zcu hi', ?_⟩
   rw [Zak] at hi'
   split at hi'<;>try (cases hi';done)
   rw [List.getElem?_drop] at hi'
   have:=hne i' o' hlt (by simpa using hi')
   simpa using this
 · rcases hfj.1.2 with h5|h5
   · exact .inr (hsimA.2 h5)
   · exact .inl h5
theorem late2RegC_sound {k:Nat} (hX:X.Ok) {K:List AV→List Blk→Ev.β→Prop} {Q:Exit→St Ev.β→Prop} (h:late2RegC P X ops k tm hp b K) (hq:∀tm' hp' b',K tm' hp' b'→Q .normal ⟨tm',hp',b'⟩):
   WA Ev ops ⟨tm,hp,b⟩ Q:=by
 unfold late2RegC at h
 split at h
 · rename_i hok
   simp only [late2Ok,Zag,Zau,List.mem_range,Bool.or_eq_true] at hok
   obtain ⟨c1,c2,c3,c4,c5,c6,c7,c8,c9⟩:=hok
   have c1:=Nat.le_of_ble_eq_true c1
   have c2:=permOk_spec c2
   have hgd:∀(j:Nat) (o:Oper),ops[j]? =some o→o.guard=none:=fun j o ho=>by
     have:=c7 j (Zab.1 ho).1
     rw [ho] at this
     simpa using this
   have sz2:(permute (swN k ops.size) (addE k (k+1) ops)).size=ops.size:=by rw [permute_size,c2.len,addE_size]
   obtain ⟨tmK,tb,h1,h2,h3,h4⟩:=preC_sound hX h
   split at h1
   · rename_i hnd
     split at h1
     · rename_i sts1 sts2 hls1 hls2
       split at h1
       · rename_i st1 st2 hlast1 hlast2
         obtain ⟨h1,hlk1⟩:=latesK_spec hls1 h1
         obtain ⟨h1,hlk2⟩:=latesK_spec hls2 h1
         obtain ⟨hb,etm,ehp,hK⟩:=h1.elim'
         obtain ⟨tmF1,hpn1⟩:=st1
         obtain ⟨tmF2,hpn2⟩:=st2
         simp only [Zag] at hb
         obtain ⟨b1,b2,b3,b4,b5⟩:=hb
         have hx1:=h4 tb (find_of_nodup hnd)
         have etake:(permute (swN k ops.size) (addE k (k+1) ops)).toList.take k=((addE (k+1) k ops).toList.take k).map (renum (swN k ops.size)):=by
           apply List.ext_getElem?
           intro j
           rw [List.getElem?_map,Zak,Zak]
           split
           · rename_i hj
             have hjl:j<ops.size:=by omega
             have e1:(permute (swN k ops.size) (addE k (k+1) ops))[posOf j (swN k ops.size)]? =some (renum (swN k ops.size) ops[j]):=c2.get (by rw [addE_ne (by omega)];simp [hjl])
             rw [Zbk (c5 j hj)] at e1
             have e2:(addE (k+1) k ops)[j]? =some ops[j]:=by rw [addE_ne (by omega)];simp [hjl]
             simp only [Array.getElem?_toList]
             rw [e1,e2];rfl
           · rfl
         have hx2:xPre P (tblD tb) (permute (swN k ops.size) (addE k (k+1) ops)) hp ((permute (swN k ops.size) (addE k (k+1) ops)).toList.take k) tm=some tmK:=by
           rw [etake,xPre_renum (ops:=addE (k+1) k ops)]
           · exact hx1
           · intro o ho
             obtain ⟨j,hj⟩:=Zaj.1 (List.mem_of_mem_take ho)
             simp only [Array.getElem?_toList] at hj
             obtain ⟨o0,ho0,rfl⟩:=addE_inv hj
             have:=hgd j o0 ho0
             split<;>exact this
         exact WA.late2 (s:=⟨tm,hp,b⟩) (k:=k) (n:=ops.size - k) (tblD tb) (appOk P) (tblD_ok (h3 (by simp))) c2 (Zbk c3) (Zbk c4) (fun j hj=>Zbk (c5 j hj))
           (fun j h1 h2=>by
             rcases c6 j h2 with h|h
             · have:=Nat.le_of_ble_eq_true h;omega
             · exact Zbk h) hgd (by omega) (by omega) c8 c9 hls1 hls2 hlk1 hlk2 hx1 hx2
           (fun i t h' hh j o hj ho hne=>frame_late c8 (by rw [addE_size];omega) hls1 hlast1 b1 i t h' hh j o hj ho hne)
           (fun i t h' hh j o hj ho hne=>frame_late c9 (by rw [sz2];omega) hls2 hlast2 b2 i t h' hh j o hj ho hne)
           hlast1 hlast2 (Zbk b3) b4 b5 etm ehp (hq _ _ _ hK)
       · exact h1.elim
     · exact h1.elim
   · exact h1.elim
 · exact h.elim
theorem lateRegC_sound {q n:Nat} (hX:X.Ok) (hn:drawLateOk ops q n=true) {K:List AV→List Blk→Ev.β→Prop} {Q:Exit→St Ev.β→Prop} (h:lateRegC P X ops q n tm hp b K) (hq:∀tm' hp' b',K tm' hp' b'→Q .normal ⟨tm',hp',b'⟩):
   WA Ev ops ⟨tm,hp,b⟩ Q:=by
 unfold lateRegC at h
 split at h
 · rename_i hks
   obtain ⟨tmK,tb,h1,h2,h3,h4⟩:=preC_sound hX h
   split at h1
   · rename_i hnd
     split at h1
     · rename_i sts hlates
       split at h1
       · rename_i st hlast
         obtain ⟨h1,hlk⟩:=latesK_spec hlates h1
         obtain ⟨hfr,h1⟩:=h1.elim'
         obtain ⟨tmF,hpn⟩:=st
         obtain ⟨sl1,sl2,sl3⟩:=xLates_get hlates
         obtain ⟨L1,L2⟩:=lates_tm hn hks hlates hlast
         have hedges:∀(i:Nat) (o:Oper),ops[i]? =some o→(∀j∈edgesOf o,j<i):=fun i o ho=>(late_at hn ho).1
         have hev:∀(i:Nat) (o:Oper) (t:List AV) (hh:List Blk),((ops.toList.drop q).take n)[i]? =some o→sts[i]? =some (t,hh)→∀y∈o.op.operands,evalA t y=evalA tmF y:=by
           intro i o t hh e1 e2
           rw [Zak] at e1
           split at e1<;>try (cases e1;done)
           rename_i hin
           rw [List.getElem?_drop] at e1
           have ho:ops[q+i]? =some o:=by simpa using e1
           exact evalA_congr (o:=o) (ops:=ops) (tm:=t) (tm':=tmF) fun x hx=>getD_of (L2 i t hh e2 (by omega) x fun j' o' hj' hjn ho' hd'=>by
             have h3:=(late_at hn ho).2.1 (by omega) x hx (q+j') o' (by omega) ho' hd'
             have:=hedges _ o ho _ h3
             omega)
         refine WA.late (s:=⟨tm,hp,b⟩) q n (tblD tb) (appOk P) (tblD_ok (h3 (by simp))) hn hks hlates hlk (h4 tb (find_of_nodup hnd)) (fun i t h' hh j o hj ho hne=> ?_) hlast (opsC_sound hX h1 fun s' b' h=>hq _ _ _ h)
         have ho':(ops.toList.take q)[j]? =some o:=by rw [Zak,if_pos hj];simpa using ho
         have hfj:=Zau.1 hfr j (List.mem_range.2 (Zaa.1 ho').1)
         rw [ho'] at hfj
         simp only [Zag,Bool.or_eq_true,Bool.not_eq_true'] at hfj
         have hsimA:=xLates_sim (ex:=appGs tmF ((ops.toList.drop q).take n)) hlates (fun _ h=>h) hev [] (Sim.refl _ _ _) (t,h') (Zcu hh)
         have hsim:=xLates_sim (ex:=appGs tmF ((ops.toList.drop q).take n)) (xLates_take i hlates) (fun g hg=>appGs_take _ _ _ _ hg) (fun i' o t hh e1 e2=>by
           rw [Zak] at e1 e2
           split at e1<;>try (cases e1;done)
           split at e2<;>try (cases e2;done)
           exact hev i' o t hh e1 e2) [] (Sim.refl _ _ _) (t,h') (Zcu (i:=i) (by rw [Zak,if_pos (by omega)];exact hh))
         simp only [List.nil_append] at hsim
         refine xp_sim (hsim.1.sub (storeFps_sub fun o' ho'=> ?_)) ?_ hfj.1.1 hfj.2
         · obtain ⟨i',hi'⟩:=Zaj.1 ho'
           rw [Zak] at hi'
           split at hi'<;>try (cases hi';done)
           rename_i hlt
           refine List.mem_filter.2 ⟨Zcu hi', ?_⟩
           rw [Zak] at hi'
           split at hi'<;>try (cases hi';done)
           rw [List.getElem?_drop] at hi'
           have:=hne i' o' hlt (by simpa using hi')
           simpa using this
         · rcases hfj.1.2 with h5|h5
           · exact .inr (hsimA.2 h5)
           · exact .inl h5
       · exact h1.elim
     · exact h1.elim
   · exact h1.elim
 · exact h.elim
theorem drawC0_sound (hX:X.Ok) {K:List AV→List Blk→Ev.β→Prop} {Q:Exit→St Ev.β→Prop} (h:drawC0 P X ops tm hp b K) (hq:∀tm' hp' b',K tm' hp' b'→Q .normal ⟨tm',hp',b'⟩):
   WA Ev ops ⟨tm,hp,b⟩ Q:=by
 unfold drawC0 at h
 split at h
 · rename_i k hk
   exact preRegC_sound hX (findK_spec hk) h hq
 · split at h
   · rename_i n hn
     exact lateRegC_sound hX (findN_spec hn) h hq
   · split at h
     · rename_i k hk
       exact preRegC_sound hX (findK_spec hk) h hq
     · split at h
       · rename_i n hn
         exact lateRegC_sound hX (findN_spec hn) h hq
       · split at h
         · rename_i k hk
           exact preRegC_sound hX (findK_spec hk) h hq
         · split at h
           · rename_i n hn
             exact lateRegC_sound hX (findN_spec hn) h hq
           · exact h.elim
theorem drawC_sound (hX:X.Ok) {K:List AV→List Blk→Ev.β→Prop} {Q:Exit→St Ev.β→Prop} (h:drawC P X ops tm hp b K) (hq:∀tm' hp' b',K tm' hp' b'→Q .normal ⟨tm',hp',b'⟩):
   WA Ev ops ⟨tm,hp,b⟩ Q:=by
 unfold drawC at h
 split at h
 · split at h
   · rename_i k hk
     exact preRegC_sound hX (findK_spec hk) h hq
   · exact h.elim
 · split at h
   · rename_i hg
     simp only [Zag] at hg
     exact lateRegC_sound hX hg.2 h hq
   · exact drawC0_sound hX h hq
theorem findL_spec {ops:Array Oper}:∀ {m k n:Nat},findL ops m=some (k,n)→drawLateOk ops k n=true
 |0,k,n,h=>by simp [findL] at h
 | m+1,k,n,h=>by
   simp only [findL] at h
   split at h
   · rename_i n' hn;cases h;exact findN_spec hn
   · exact findL_spec h
theorem drawQ_sound (hX:X.Ok) {K:List AV→List Blk→Ev.β→Prop} {Q:Exit→St Ev.β→Prop} (h:drawQ P X ops tm hp b K) (hq:∀tm' hp' b',K tm' hp' b'→Q .normal ⟨tm',hp',b'⟩):
   WA Ev ops ⟨tm,hp,b⟩ Q:=by
 unfold drawQ at h
 split at h
 · exact drawC_sound hX h hq
 · split at h
   · rename_i k n hk
     exact lateRegC_sound hX (findL_spec hk) h hq
   · exact late2RegC_sound hX h hq
theorem drawP_sound (hX:X.Ok) {K:List AV→List Blk→Ev.β→Prop} {Q:Exit→St Ev.β→Prop} (h:drawP P X ops tm hp b K) (hq:∀tm' hp' b',K tm' hp' b'→Q .normal ⟨tm',hp',b'⟩):
   WA Ev ops ⟨tm,hp,b⟩ Q:=by
 unfold drawP at h
 split at h
 · exact drawC_sound hX h hq
 · split at h
   · rename_i hp
     exact WA.perm hp (drawQ_sound hX h hq)
   · exact h.elim
theorem W.ofFrz {P:Program} {Ev:Env P} {c:Code} {b:Ev.β} {Q:Exit→St Ev.β→Prop} {tm tm1:List AV} {hp hp1:List Blk} (hf:FrzOk ⟨tm,hp, []⟩ ⟨tm1,hp1, []⟩) (h:W Ev c ⟨tm1,hp1,b⟩ Q):W Ev c ⟨tm,hp,b⟩ Q:=by
 intro lo r S X V w m B hv a ht
 obtain ⟨S',hg,hr⟩:=hf S X Ev.yl w m B hv a ht.rel
 have ht':=ht.step hg hr rfl
 refine wpIn_mono (h lo r S' X V w m B hv a ht') ?_
 rintro e a' w' ⟨s',S'',X',V',m',hv',hq,⟨hw,hm⟩,h3⟩
 exact ⟨s',S'',X',V',m',hv',hq,⟨(hg.went hr.slt).trans hw,hm⟩,h3⟩
theorem W.sealed {P:Program} {Ev:Env P} {c:Code} {b:Ev.β} {Q:Exit→St Ev.β→Prop} {tm:List AV} {hp:List Blk} {t:Nat} {K:List AV→Prop} (h:sealTs hp [t] tm K) (hK:∀tm1,K tm1→W Ev c ⟨tm1,frz hp (occ (tm.getD t .bad)),b⟩ Q):W Ev c ⟨tm,hp,b⟩ Q:=by
 obtain ⟨tm1,hf,h1⟩:=sealTs_sound (gs:=occ (tm.getD t .bad)) (tm0:=tm) h (by simp) (frzTm_refl _ _) (fun _ _=>rfl) fun t' ht' g hg=>by
   simp at ht';subst ht';exact hg
 exact W.ofFrz (frz_ok (s:=⟨tm,hp, []⟩) hf) (hK _ h1)
theorem regionC_sound {id:Nat} {d:Bool} (hm:P.follows .mixedOrders=true) (hX:X.Ok) {K:List AV→List Blk→Ev.β→Prop} {Q:Exit→St Ev.β→Prop} (h:regionC P X ops d tm hp b K) (hq:∀tm' hp' b',K tm' hp' b'→Q .normal ⟨tm',hp',b'⟩):
   W Ev (.region id ops d) ⟨tm,hp,b⟩ Q:=by
 unfold regionC at h
 cases d with
 | false=>
   simp only [Bool.false_eq_true,if_false] at h
   exact W.region (s:=⟨tm,hp,b⟩) (opsC_sound hX h fun s' b' h=>hq _ _ _ h)
 | true=>
   simp only [if_true] at h
   split at h
   · exact W.sealed h fun tm1 h1=>W.ofWA hm (drawP_sound hX h1 hq)
   · exact W.ofWA hm (drawP_sound hX h hq)
theorem stepR_scope {c:Code} {fr:Frame} {a:Act} {k:List Item} {cs:List Frame} {w:World}:step P (lone (fr.atR a (.code (.scope c)::k)) cs w)= .next (lone (fr.atR a (.code c:: .inScope c::k)) cs w):=
 step_lone_go (by simp [stepG,stepG.exec,Frame.atR])
theorem stepR_inScope {c:Code} {fr:Frame} {a:Act} {k:List Item} {cs:List Frame} {w:World}:step P (lone (fr.atR a (.inScope c::k)) cs w)= .next (lone (fr.atR a k) cs w):=
 step_lone_go (by simp [stepG,stepG.exec,Frame.atR])
def noGoto {α:Type} (Q:Exit→α→Prop):Exit→α→Prop
 | .goto _,_=>False
 |e,s=>Q e s
theorem wpIn_scope {F:Fence} {n:Nat} {c:Code} {Q:Exit→Act→World→Prop} {a:Act} {w:World} (h:c.wpIn F n P (Exit.noGoto Q) a w):(Code.scope c).wpIn F n P Q a w:=by
 intro b k cs hro hb hr
 have h0:(lone (b.atR a (.code (.scope c)::k)) cs w).fenced P F:=fenced_calm hb hr rfl
 obtain ⟨e,a₁,w₁,hq,harr⟩:=h b (.inScope c::k) cs hro hb hr
 cases e with
 |normal=>exact ⟨.normal,a₁,w₁,hq, .head h0 stepR_scope (StepsIn.trans harr (.one (fenced_calm hb hr rfl) stepR_inScope))⟩
 | exit id=>
   have hx:exitTo id (.inScope c::k)=exitTo id k:=by simp [exitTo]
   exact ⟨.exit id,a₁,w₁,hq,fun k' hk=> .head h0 stepR_scope (harr.1 k' (by rw [hx];exact hk)),
       fun hr' hk=>let ⟨k₁,h1,h2⟩:=harr.2 hr' (by rw [hx];exact hk);⟨k₁,h1, .head h0 stepR_scope h2⟩⟩
 |goto l=>exact hq.elim
 |ret=>exact ⟨_,a₁,w₁,hq, .of_steps (.one h0 stepR_scope) harr⟩
 |panic ch=>exact ⟨_,a₁,w₁,hq, .of_steps (.one h0 stepR_scope) harr⟩
 |outgrown=>exact ⟨_,a₁,w₁,hq, .of_steps (.one h0 stepR_scope) harr⟩
theorem W.scope {c:Code} {s:St Ev.β} {Q:Exit→St Ev.β→Prop} (h:W Ev c s (noGoto Q)):W Ev (.scope c) s Q:=by
 intro lo r S X V w m B hv a ht
 refine wpIn_scope (wpIn_mono (h lo r S X V w m B hv a ht) fun e a' w' ⟨s',S',X',V',m',hv',h1,h2,h3⟩=> ?_)
 cases e with
 |goto l=>exact h1.elim
 |normal=>exact ⟨s',S',X',V',m',hv',h1,h2,h3⟩
 |exit id=>exact ⟨s',S',X',V',m',hv',h1,h2,h3⟩
 |ret=>exact ⟨s',S',X',V',m',hv',h1,h2,h3⟩
 |panic ch=>exact ⟨s',S',X',V',m',hv',h1,h2,h3⟩
 |outgrown=>exact ⟨s',S',X',V',m',hv',h1,h2,h3⟩
def WR (Ev:Env P) (c:Code):Nat→St Ev.β→(Exit→St Ev.β→Prop)→Prop
 |0,_,_=>False
 |m+1,s,Q=>W Ev c s (thenW (fun s'=>WR Ev c m s' Q) Q)
theorem W.rounds {c:Code} {Q:Exit→St Ev.β→Prop} {m:Nat} {s:St Ev.β} (h:WR Ev c m s Q):W Ev (.loop c) s Q:=by
 intro lo r S X V w m0 B hv a ht
 have key:∀(n:Nat) (s:St Ev.β) (S0 X0 V0:Pr) (w0:World) (m1:List MB) (hv:List (List Value)) (a:Act),WR Ev c n s Q→(Went Ev.L S X V w S0 X0 V0 w0∧MStep m0 m1)→Tie Ev lo r S0 X0 V0 w0 m1 B hv s.rs s.b a→
     Code.roundsIn (Fn r) 0 P c (Beh Ev lo r S X V w m0 B Q) n a w0:=by
   intro n
   induction n with
   |zero=>intro s S0 X0 V0 w0 m1 hv a h;exact h.elim
   | succ n ih=>
     intro s S0 X0 V0 w0 m1 hv a h hm ht
     rw [roundsIn_succ]
     refine wpIn_mono (h lo r S0 X0 V0 w0 m1 B hv a ht) fun e a' w' ⟨s',S',X',V',m',hv',h1,h2,h3⟩=> ?_
     cases e with
     |normal=>exact ih s' S' X' V' w' m' hv' a' h1 ⟨hm.1.trans h2.1,hm.2.trans h2.2⟩ h3
     |exit id=>exact Beh.from hm ⟨s',S',X',V',m',hv',h1,h2,h3⟩
     |goto l=>exact Beh.from hm ⟨s',S',X',V',m',hv',h1,h2,h3⟩
     |ret=>exact Beh.from hm ⟨s',S',X',V',m',hv',h1,h2,h3⟩
     |panic ch=>exact Beh.from hm ⟨s',S',X',V',m',hv',h1,h2,h3⟩
     |outgrown=>exact Beh.from hm ⟨s',S',X',V',m',hv',h1,h2,h3⟩
 exact wpIn_loop_rounds m (key m s S X V w m0 hv a h ⟨Went.refl ht.rel.slt,MStep.refl m0⟩ ht)
theorem rounds_sound {c:Code} {n:Nat} (ih:∀ {tm:List AV} {hp:List Blk} {b:Ev.β} {K:Exit→List AV→List Blk→Ev.β→Prop} {Q:Exit→St Ev.β→Prop},wpc P X n c tm hp b K→(∀e tm hp b,K e tm hp b→Q e ⟨tm,hp,b⟩)→W Ev c ⟨tm,hp,b⟩ Q):
   ∀ {m:Nat} {tm:List AV} {hp:List Blk} {b:Ev.β} {K:Exit→List AV→List Blk→Ev.β→Prop} {Q:Exit→St Ev.β→Prop},rounds (wpc P X n c) m tm hp b K→(∀e tm hp b,K e tm hp b→Q e ⟨tm,hp,b⟩)→WR Ev c m ⟨tm,hp,b⟩ Q
 |0,tm,hp,b,K,Q,h,hq=>h.elim
 | m+1,tm,hp,b,K,Q,h,hq=>by
   simp only [rounds] at h
   refine ih h fun e tm' hp' b' hK=> ?_
   cases e with
   |normal=>exact rounds_sound ih (m:=m) hK hq
   |exit id=>exact hq _ _ _ _ hK
   |goto l=>exact hq _ _ _ _ hK
   |ret=>exact hq _ _ _ _ hK
   |panic ch=>exact hq _ _ _ _ hK
   |outgrown=>exact hq _ _ _ _ hK
theorem wpc_sound (hm:P.follows .mixedOrders=true) (hX:X.Ok):∀ {n:Nat} {c:Code} {tm:List AV} {hp:List Blk} {b:Ev.β} {K:Exit→List AV→List Blk→Ev.β→Prop} {Q:Exit→St Ev.β→Prop},
   wpc P X n c tm hp b K→(∀e tm hp b,K e tm hp b→Q e ⟨tm,hp,b⟩)→W Ev c ⟨tm,hp,b⟩ Q
 |0,c,tm,hp,b,K,Q,h,hq=>h.elim
 | n+1,c,tm,hp,b,K,Q,h,hq=>by
   cases c with
   |skip=>exact W.skip (hq _ _ _ _ h)
   |label l=>exact W.label (hq _ _ _ _ h)
   |exit id=>exact W.exit (hq _ _ _ _ h)
   |goto l=>exact W.goto (hq _ _ _ _ h)
   |ret=>exact W.ret (hq _ _ _ _ h)
   | region id ops d=>
     simp only [wpc] at h
     split at h
     · exact W.mono (hX.wl _ _ _ _ _ h) fun e s h=>hq _ _ _ _ h
     · exact regionC_sound hm hX h fun _ _ _ h=>hq _ _ _ _ h
   | seq x y=>
     simp only [wpc] at h
     refine W.seq (wpc_sound hm hX h fun e tm' hp' b' hK=> ?_)
     cases e with
     |normal=>exact wpc_sound hm hX hK hq
     |exit id=>exact hq _ _ _ _ hK
     |goto l=>exact hq _ _ _ _ hK
     |ret=>exact hq _ _ _ _ hK
     |panic ch=>exact hq _ _ _ _ hK
     |outgrown=>exact hq _ _ _ _ hK
   | cond x c c'=>
     simp only [wpc] at h
     split at h
     · rename_i t hx
       have hs:=setB_self hx
       rcases h.elim with ⟨rfl,h⟩|⟨rfl,h⟩<;>rw [hs] at h
       · exact W.cond (t:=true) hx (wpc_sound hm hX h hq)
       · exact W.cond (t:=false) hx (wpc_sound hm hX h hq)
     · exact h.elim
   | block id c=>
     simp only [wpc] at h
     refine W.block (wpc_sound hm hX h fun e tm' hp' b' hK=> ?_)
     cases e with
     | exit id'=>
       simp only [blockK] at hK
       simp only [catchExit]
       split at hK
       · rename_i he;rw [if_pos he];exact hq _ _ _ _ hK
       · rename_i he;rw [if_neg he];exact hq _ _ _ _ hK
     |normal=>exact hq _ _ _ _ hK
     |goto l=>exact hq _ _ _ _ hK
     |ret=>exact hq _ _ _ _ hK
     |panic ch=>exact hq _ _ _ _ hK
     |outgrown=>exact hq _ _ _ _ hK
   | loop c=>
     simp only [wpc] at h
     split at h
     · exact W.rounds (rounds_sound (fun h hq=>wpc_sound hm hX h hq) h hq)
     · exact W.mono (hX.wl _ _ _ _ _ h) fun e s h=>hq _ _ _ _ h
   |rangeFunc f ps assign body=>exact W.mono (hX.wl _ _ _ _ _ h) fun e s h=>hq _ _ _ _ h
   | scope body=>
     simp only [wpc] at h
     refine W.scope (wpc_sound hm hX h fun e tm' hp' b' hK=> ?_)
     cases e with
     |goto l=>exact hK.elim
     |normal=>exact hq _ _ _ _ hK
     |exit id=>exact hq _ _ _ _ hK
     |ret=>exact hq _ _ _ _ hK
     |panic ch=>exact hq _ _ _ _ hK
     |outgrown=>exact hq _ _ _ _ hK
   |refuse why=>exact h.elim
theorem fnK_sound {fn:Func} {R:AV→Ev.β→Prop} {e:Exit} {tm:List AV} {hp:List Blk} {b:Ev.β} (h:fnK P fn R e tm hp b):FnPost P fn (fun y hp b=>∃z,SealR hp y z∧R z b) e ⟨tm,hp,b⟩:=by
 unfold fnK at h
 obtain ⟨he,h⟩:=h.elim'
 split at h
 · rename_i ys hys
   obtain ⟨z,hz,h⟩:=sealC_sound h
   refine ⟨?_,ys,hys,z,hz,h⟩
   cases e<;>simp at he ⊢
 · exact h.elim
def wlW (Ev:Env P):Code→List AV→List Blk→Ev.β→(Exit→List AV→List Blk→Ev.β→Prop)→Prop:=fun c tm hp b K=>W Ev c ⟨tm,hp,b⟩ fun e s=>K e s.tm s.hp s.b
def CallsOk (P:Program) (T:List (Nat×(List AV→(AV→Prop)→Prop))):Prop:=∀(k:Nat) f,T.lookup k=some f→∀args K,f args K→∃x,PCall P k args x∧K x
def SCallsOk (P:Program) (T:List (Nat×(List AV→List Blk→(AV→List Blk→Prop)→Prop))):Prop:=∀(k:Nat) f,T.lookup k=some f→∀args hp K,f args hp K→∃x hp',SCall P k args hp x hp'∧K x hp'
theorem CallsOk.nil:CallsOk P []:=fun _ _ h=>by cases h
theorem SCallsOk.nil:SCallsOk P []:=fun _ _ h=>by cases h
theorem CallsOk.cons {T:List (Nat×(List AV→(AV→Prop)→Prop))} {k:Nat} {f:List AV→(AV→Prop)→Prop} (h:∀args K,f args K→∃x,PCall P k args x∧K x) (hT:CallsOk P T):CallsOk P ((k,f)::T):=by
 intro k' f' hl
 rw [List.lookup_cons] at hl
 split at hl
 · rename_i he
   cases hl
   rw [eq_of_beq he];exact h
 · exact hT k' f' hl
theorem CX.Ok.of {Ev:Env P} {T:List (Nat×(List AV→(AV→Prop)→Prop))} {S:List (Nat×(List AV→List Blk→(AV→List Blk→Prop)→Prop))} {u:Bool} (hT:CallsOk P T) (hS:SCallsOk P S):CX.Ok Ev ⟨T,S,wlW Ev,Ev.Y,u⟩:=
 ⟨hT,hS,fun _ _ _ _ _ h=>h,rfl⟩
theorem PCall.ofWp {f n:Nat} {fn:Func} {c:Code} {args:List AV} {x:AV} {T:List (Nat×(List AV→(AV→Prop)→Prop))} {S:List (Nat×(List AV→List Blk→(AV→List Blk→Prop)→Prop))} {u:Bool} (hm:P.follows .mixedOrders=true)
   (hT:CallsOk P T) (hS:SCallsOk P S) (hf:P.funcs[f]? =some fn) (hb:fn.body=some c) (hn:(fn.name== "runtime.NumGoroutine")=false) (hargs:args.map Zcf=args)
   (h:∀(Ev:Env P) (b:Ev.β),wpc P ⟨T,S,wlW Ev,Ev.Y,u⟩ n c (startTm fn args) [] b (fnK P fn fun y _=>y=x)):PCall P f args x:=by
 refine PCall.ofWS hf hb hn hargs fun Ev b=>wpc_sound hm (CX.Ok.of hT hS) (h Ev b) fun e tm hp b hK=> ?_
 obtain ⟨h1,ys,h2,z,h3,rfl⟩:=fnK_sound hK
 exact ⟨h1,ys,h2,h3⟩
end
def i64 (x:Int):Dv:= .s (.int .i64 x)
def u64 (x:Int):Dv:= .s (.int .u64 x)
def u8 (x:Int):Dv:= .s (.int .u8 x)
def bo (x:Bool):Dv:= .s (.bool x)
noncomputable def code (fn:Func):Code:=fn.body.getD .skip
def firstOf:Code→Code
 | .seq x _=>x
 |c=>c
def inBlock:Code→Code
 | .block _ c=>c
 |c=>c
def inLoop:Code→Code
 | .loop c=>c
 |c=>c
def assignOf:Code→Code
 | .rangeFunc _ _ a _=>a
 |c=>c
def bodyOf:Code→Code
 | .rangeFunc _ _ _ b=>b
 |c=>c
def cidO:Code→Nat
 | .region id _ _=>id+1
 | .seq x y=>match cidO x with
   |0=>cidO y
   |n=>n
 | .block _ c=>cidO c
 | .loop c=>cidO c
 | .scope c=>cidO c
 | .cond _ x _=>cidO x
 | .rangeFunc _ _ a b=>match cidO a with
   |0=>cidO b
   |n=>n
 |_=>0
abbrev WLT (β:Type):=Code→List AV→List Blk→β→(Exit→List AV→List Blk→β→Prop)→Prop
def sub:List Nat→Code→Code
 | [],c=>c
 | n::p,c=>match n,c with
   |0, .seq x _=>sub p x
   |1, .seq _ y=>sub p y
   |2, .block _ c=>sub p c
   |3, .loop c=>sub p c
   |4, .cond _ x _=>sub p x
   |5, .cond _ _ y=>sub p y
   |6, .rangeFunc _ _ a _=>sub p a
   |7, .rangeFunc _ _ _ b=>sub p b
   |8, .scope c=>sub p c
   |_,_=> .skip
def nth (p:List Int) (i:Nat):Int:=p.getD i 0
def LeA (x y:AV):Prop:=x=y∨y= .bad∨(isNilSlice x=true∧∃k,(y= .d (.sl k [])∨∃e,y= .own e k []))∨y=x.view
theorem LeA.rfl {x:AV}:LeA x x:= .inl (Eq.refl x)
theorem LeA.bad {x:AV}:LeA x .bad:= .inr (.inl (Eq.refl _))
theorem LeA.nilOwn {x:AV} {e k:Nat} (h:isNilSlice x=true):LeA x (.own e k []):= .inr (.inr (.inl ⟨h,k, .inr ⟨e,Eq.refl _⟩⟩))
theorem LeA.nilSl {x:AV} {k:Nat} (h:isNilSlice x=true):LeA x (.d (.sl k [])):= .inr (.inr (.inl ⟨h,k, .inl (Eq.refl _)⟩))
inductive LeL:List AV→List AV→Prop
 |nil:LeL [] []
 |cons {x y:AV} {xs ys:List AV} (h:LeA x y) (hs:LeL xs ys):LeL (x::xs) (y::ys)
theorem LeL.refl:∀(l:List AV),LeL l l
 | []=> .nil
 |_::l=> .cons .rfl (LeL.refl l)
theorem LeL.len {xs ys:List AV} (h:LeL xs ys):ys.length=xs.length:=by
 induction h with
 |nil=>rfl
 |cons _ _ ih=>simp [ih]
inductive LeH:List Blk→List Blk→Prop
 |nil:LeH [] []
 |cons {p q:List AV} {f g:Bool} {v:Nat} {ps qs:List Blk} (h:LeL p q) (hs:LeH ps qs):LeH (⟨p,f,g,v⟩::ps) (⟨q,f,g,v⟩::qs)
theorem LeH.refl:∀(l:List Blk),LeH l l
 | []=> .nil
 |⟨_,_,_,_⟩::l=> .cons (.refl _) (LeH.refl l)
theorem LeH.len {xs ys:List Blk} (h:LeH xs ys):ys.length=xs.length:=by
 induction h with
 |nil=>rfl
 |cons _ _ ih=>simp [ih]
section
variable {P:Program} {S S' X X' V V':Pr} {r:Option Nat} {lo:Nat} {yv:Option Nat} {w w':World} {m m':List MB} {A A' B C:List (AV×Value)} {hp hp':List Blk} {tm tm':List AV} {hv hv':List (List Value)} {a a':Act} {Ev:Env P} {s s':St Ev.β} {b:Ev.β} {Q:Exit→St Ev.β→Prop} {c:Code}
theorem LeA.rv {x y:AV} {v:Value} (h:LeA x y) (hr:RV S w m yv x v):RV S w m yv y v:=by
 rcases h with rfl|rfl|⟨h,k,h1⟩|rfl
 · exact hr
 · exact .bad
 · have hv:=isNilSlice_spec h hr
   subst hv
   rcases h1 with rfl|⟨e,rfl⟩
   · exact .d (.nil k)
   · exact .ownNil
 · exact hr.view
theorem LeA.own {x y:AV} {v:Value} (h:LeA x y) (hr:RV S w m yv x v):x=y∨ownB (y,v)=none:=by
 rcases h with rfl|rfl|⟨h,k,h1⟩|rfl
 · exact .inl (Eq.refl _)
 · exact .inr (Eq.refl _)
 · have hv:=isNilSlice_spec h hr
   subst hv
   rcases h1 with rfl|⟨e,rfl⟩
   · exact .inr (Eq.refl _)
   · exact .inr (Eq.refl _)
 · exact .inr (ownB_view _ _)
inductive LP:List (AV×Value)→List (AV×Value)→Prop
 |nil:LP [] []
 |cons {x y:AV} {v:Value} {A A':List (AV×Value)} (h:LeA x y) (hs:LP A A'):LP ((x,v)::A) ((y,v)::A')
theorem LP.refl:∀(l:List (AV×Value)),LP l l
 | []=> .nil
 |(_,_)::l=> .cons .rfl (LP.refl l)
theorem LP.append {A A' B B':List (AV×Value)} (h:LP A A') (h':LP B B'):LP (A++B) (A'++B'):=by
 induction h with
 |nil=>exact h'
 |cons h _ ih=>exact .cons h ih
theorem LeL.zip {xs ys:List AV} (h:LeL xs ys):∀(vs:List Value),LP (xs.zip vs) (ys.zip vs):=by
 induction h with
 |nil=>intro vs;exact .nil
 | cons h _ ih=>
   intro vs
   cases vs with
   |nil=>exact .nil
   |cons v vs=>exact .cons h (ih vs)
theorem LeH.pairs {ps qs:List Blk} (h:LeH ps qs):∀(hv:List (List Value)),LP (cellPairs ps hv) (cellPairs qs hv):=by
 induction h with
 |nil=>intro hv;exact .nil
 | cons h _ ih=>
   intro hv
   cases hv with
   |nil=>exact .nil
   | cons v hv=>
     simp only [cellPairs,List.zip_cons_cons,List.flatMap_cons]
     exact (h.zip v).append (ih hv)
theorem Rel.lp (h:LP A A'):∀ {C:List (AV×Value)},Rel S X yv w m (A++C) hp hv→Rel S X yv w m (A'++C) hp hv:=by
 induction h with
 |nil=>intro C h;exact h
 | @cons x y v A1 A2 h1 _ ih=>
   intro C h
   have h2:Rel S X yv w m (A1++((x,v)::C)) hp hv:=h.perm (by simpa using (List.perm_middle (a:=(x,v)) (l₁:=A1) (l₂:=C)).symm)
   have h3:=ih h2
   have h4:Rel S X yv w m ((x,v)::(A2++C)) hp hv:=h3.perm List.perm_middle
   have hr:RV S w m yv x v:=h4.rv _ (List.mem_cons_self ..)
   rcases h1.own hr with rfl|hn
   · exact h4
   · exact (h4.sub (List.sublist_cons_self _ _)).cons (h1.rv hr) hn
theorem LeH.get {ps qs:List Blk} (h:LeH ps qs):∀(g:Nat) (q:Blk),qs[g]? =some q→∃p,ps[g]? =some p∧q.fro=p.fro∧q.grow=p.grow∧q.ver=p.ver∧q.cells.length=p.cells.length:=by
 induction h with
 |nil=>intro g q hq;simp at hq
 | cons h _ ih=>
   intro g q hq
   cases g with
   |zero=>simp at hq;subst hq;exact ⟨_,rfl,rfl,rfl,rfl,h.len⟩
   |succ g=>simp at hq;simpa using ih g q hq
theorem Rel.leH (h:LeH hp hp') (hr:Rel S X yv w m A hp hv):Rel S X yv w m A hp' hv:=by
 refine ⟨hr.lt,hr.rv,hr.pw,hr.nm,hr.sp,hr.mnd,hr.ml.trans h.len.symm,hr.hl.trans h.len.symm,fun g blk p vs h1 h2 h3=> ?_,hr.gl⟩
 obtain ⟨blk0,e1,e2,e3,e4,e5⟩:=h.get g blk h1
 obtain ⟨a1,a2,a3,a4,a5,a6,a9,a10⟩:=hr.bl g blk0 p vs e1 h2 h3
 exact ⟨a1.trans e5.symm,a2.trans e3.symm,a3.trans e4.symm,a4,a5,a6,by rw [e2];exact a9,by rw [e2];exact a10⟩
theorem Tie.le {pv:List (Nat×Loc)} (h1:LeL tm tm') (h2:LeH hp hp') (ht:Tie Ev lo r S X V w m B hv ⟨tm,hp,pv⟩ b a):Tie Ev lo r S X V w m B hv ⟨tm',hp', []⟩ b a:=by
 refine ⟨⟨h1.len.trans ht.rel.1, ?_,by intro p hp;cases hp⟩,ht.sub,ht.env,ht.round,ht.marks,ht.base⟩
 refine Rel.leH h2 ?_
 have:=Rel.lp ((h1.zip a.tmps.toList).append ((LP.refl B).append (h2.pairs hv))) (C:= []) (by simpa using ht.rel.2.1)
 simpa using this
theorem W.cast (h1:LeL tm tm') (h2:LeH hp hp') (h:W Ev c ⟨tm',hp',b⟩ Q):W Ev c ⟨tm,hp,b⟩ Q:=
 fun lo r S X V w m B hv a ht=>h lo r S X V w m B hv a (ht.le h1 h2)
theorem W.castPost (h:W Ev c s fun e s'=>∃tm' hp',LeL s'.tm tm'∧LeH s'.hp hp'∧Q e ⟨tm',hp',s'.b⟩):W Ev c s Q:=by
 intro lo r S X V w m B hv a ht
 refine wpIn_mono (h lo r S X V w m B hv a ht) ?_
 rintro e a' w' ⟨s',S',X',V',m',hv',⟨tm',hp',h1,h2,hq⟩,h3,ht'⟩
 exact ⟨_,S',X',V',m',hv',hq,h3,ht'.le h1 h2⟩
def maskTm (keep:List Nat):Nat→List AV→List AV
 |_, []=> []
 |i,x::l=>(if keep.contains i then x else .bad)::maskTm keep (i+1) l
theorem maskTm_le (keep:List Nat):∀(l:List AV) (i:Nat),LeL l (maskTm keep i l)
 | [],_=> .nil
 |x::l,i=> .cons (by split;exact .rfl;exact .bad) (maskTm_le keep l (i+1))
def maskK {β:Type} (n:Nat) (keep:List Nat) (K:Exit→List AV→List Blk→β→Prop):Exit→List AV→List Blk→β→Prop:=fun e tm hp b=>BIf (lowHp n hp) (K e (maskTm keep 0 (lowTm n tm)) (hp.take n) b) False
theorem W.ofMask {X:CX Ev.β} {k:Nat} {keep:List Nat} {K:Exit→List AV→List Blk→Ev.β→Prop} (hm:P.follows .mixedOrders=true) (hX:X.Ok) (h:wpc P X k c tm hp b (maskK hp.length keep K)) (hq:∀e tm hp b,K e tm hp b→Q e ⟨tm,hp,b⟩):W Ev c ⟨tm,hp,b⟩ Q:=by
 refine W.castPost (W.scratch (wpc_sound hm hX h fun e tm' hp' b' hK=> ?_))
 obtain ⟨h1,h2⟩:=hK.elim'
 exact ⟨h1,_,_,maskTm_le keep _ 0,LeH.refl _,hq _ _ _ _ h2⟩
theorem WR.ofMask {X:CX Ev.β} {n k:Nat} (keep:List Nat) (hm:P.follows .mixedOrders=true) (hX:X.Ok) (h:wpc P X k c tm hp b (maskK hp.length keep (thenK (fun tm hp b=>WR Ev c n ⟨tm,hp,b⟩ Q) fun e tm hp b=>Q e ⟨tm,hp,b⟩))):WR Ev c (n+1) ⟨tm,hp,b⟩ Q:=
 W.ofMask hm hX h fun e tm hp b hK=>by cases e<;>exact hK
def maskT {β:Type} (keep:List Nat) (K:Exit→List AV→List Blk→β→Prop):Exit→List AV→List Blk→β→Prop:=fun e tm hp b=>K e (maskTm keep 0 tm) hp b
theorem WR.ofMaskT {X:CX Ev.β} {n k:Nat} (keep:List Nat) (hm:P.follows .mixedOrders=true) (hX:X.Ok) (h:wpc P X k c tm hp b (maskT keep (thenK (fun tm hp b=>WR Ev c n ⟨tm,hp,b⟩ Q) fun e tm hp b=>Q e ⟨tm,hp,b⟩))):WR Ev c (n+1) ⟨tm,hp,b⟩ Q:=
 W.castPost (wpc_sound hm hX h fun e tm hp b hK=>⟨maskTm keep 0 tm,hp,maskTm_le _ tm 0,LeH.refl _,by cases e<;>exact hK⟩)
def rangeC (Ev:Env P) (tm:List AV) (Q:Exit→St Ev.β→Prop) (K:List Blk→Ev.β→Prop):Exit→List Blk→Ev.β→Prop
 | .normal,hp,b=>K hp b
 | .ret,hp,b=>Q .ret ⟨tm,hp,b⟩
 | .exit id,hp,b=>Q (.exit id) ⟨tm,hp,b⟩
 | .goto t,hp,b=>Q (.goto t) ⟨tm,hp,b⟩
 |_,_,_=>False
def takeK {β:Type} (n:Nat) (K:Exit→List Blk→β→Prop):Exit→List AV→List Blk→β→Prop:=fun e _ hp b=>BIf (lowHp n hp) (K e (hp.take n) b) False
def wpcY {β:Type} (P:Program) (X:CX β) (k:Nat) (ps:Array Tmp) (assign body:Code) (tm:List AV) (args:List AV) (hp:List Blk) (b:β) (K:Exit→List AV→List Blk→β→Prop):Prop:=
 wpc P X k assign (setParams (tm.map Zcf) ps (args.map Zcf)) hp b fun e tm' hp' b'=>BIf (match e with| .normal=>true|_=>false) (wpc P X k body tm' hp' b' K) False
theorem YBody.ofWp {X:CX Ev.β} {k n:Nat} {ps:Array Tmp} {assign body:Code} {args:List AV} {Qy:Bool→List Blk×Ev.β×Option Exit→Prop} {K:Exit→List AV→List Blk→Ev.β→Prop} (hm:P.follows .mixedOrders=true) (hX:X.Ok) (hl:args.length=ps.size)
   (h:wpcY P X k ps assign body tm args hp b K) (hK:∀e tm' hp' b',K e tm' hp' b'→lowHp n hp'=true∧match e with
     | .normal=>Qy true (hp'.take n,b',none)
     | .ret=>Qy false (hp'.take n,b',some .ret)
     | .exit id=>Qy false (hp'.take n,b',some (.exit id))
     | .goto t=>Qy false (hp'.take n,b',some (.goto t))
     |_=>False):YBody Ev tm ps assign body n (hp,b,none) args Qy:=by
 refine ⟨rfl,hl,wpc_sound hm hX h fun e tm' hp' b' h1=> ?_⟩
 obtain ⟨he,h1⟩:=h1.elim'
 refine ⟨by cases e<;>simp at he ⊢,wpc_sound hm hX h1 fun e tm' hp' b' h2=>hK e tm' hp' b' h2⟩
theorem PCall.ofFn {f n:Nat} {fn:Func} {args:List AV} {x:AV} {T:List (Nat×(List AV→(AV→Prop)→Prop))} {U:List (Nat×(List AV→List Blk→(AV→List Blk→Prop)→Prop))} {u:Bool} (hm:P.follows .mixedOrders=true)
   (hT:CallsOk P T) (hS:SCallsOk P U) (hf:P.funcs[f]? =some fn) (hn:(fn.name== "runtime.NumGoroutine")=false) (hargs:args.map Zcf=args)
   (h:∀(Ev:Env P) (b:Ev.β),wpFn P ⟨T,U,wlW Ev,Ev.Y,u⟩ n fn args b (fun y _=>y=x)):PCall P f args x:=by
 cases hb:fn.body with
 |some c=>exact PCall.ofWp hm hT hS hf hb hn hargs fun Ev b=>by have:=h Ev b;unfold wpFn at this;rw [hb] at this;exact this
 | none=>
   have:=h (Env.none P none) ()
   unfold wpFn at this
   rw [hb] at this
   exact this.elim
inductive LeT:AV→AV→Prop
 |base {x y:AV} (h:LeA x y):LeT x y
 |tup {xs ys:List AV} (h:LeL xs ys):LeT (.tup xs) (.tup ys)
 |agg {xs ys:List AV} (h:LeL xs ys):LeT (.agg xs) (.agg ys)
theorem LeL.rvs {xs ys:List AV} (h:LeL xs ys):∀(vs:List Value),xs.length=vs.length→(∀(i:Nat) (c:AV) (v:Value),xs[i]? =some c→vs[i]? =some v→RV S w m yv c v)→∀(i:Nat) (c:AV) (v:Value),ys[i]? =some c→vs[i]? =some v→RV S w m yv c v:=by
 induction h with
 |nil=>intro vs _ _ i c v hc;simp at hc
 | cons h _ ih=>
   intro vs hl hr i c v hc hv
   cases vs with
   |nil=>simp at hl
   | cons v0 vs=>
     cases i with
     |zero=>simp at hc hv;subst hc;subst hv;exact h.rv (hr 0 _ _ rfl rfl)
     |succ i=>simp at hc hv;exact ih vs (by simpa using hl) (fun i c v h1 h2=>hr (i+1) c v (by simpa using h1) (by simpa using h2)) i c v hc hv
theorem LeT.rv {x y:AV} {v:Value} (h:LeT x y) (hr:RV S w m yv x v):RV S w m yv y v:=by
 cases h with
 |base h=>exact h.rv hr
 | tup h=>
   cases hr with
   |tup hl hr=>exact .tup (h.len.trans hl) fun i c v h1 h2=>h.rvs _ (by rw [Array.length_toList];exact hl) (fun i c v h1 h2=>hr i c v h1 (by simpa using h2)) i c v h1 (by simpa using h2)
 | agg h=>
   cases hr with
   |agg hl hr=>exact .agg (h.len.trans hl) fun i c v h1 h2=>h.rvs _ (by rw [Array.length_toList];exact hl) (fun i c v h1 h2=>hr i c v h1 (by simpa using h2)) i c v h1 (by simpa using h2)
theorem PCall.ofWL {f:Nat} {fn:Func} {c:Code} {args:List AV} {x:AV} (hf:P.funcs[f]? =some fn) (hb:fn.body=some c) (hn:(fn.name== "runtime.NumGoroutine")=false) (hargs:args.map Zcf=args)
   (hW:∀(Ev:Env P) (b:Ev.β),W Ev c ⟨startTm fn args, [],b⟩ (FnPost P fn fun y hp _=>∃z,SealR hp y z∧LeT z x)):PCall P f args x:=by
 refine ⟨enter_ok hf hb hn,fun S w vs hl hvs hlt hgl=> ?_⟩
 have hrel:Rel S (fun b _=>b<w.heap.size) none w [] (args.zip vs++([]++cellPairs [] [])) [] []:=by
   have h0:Rel S (fun b _=>b<w.heap.size) none w [] [] [] []:=⟨fun b i h=>h.elim (hlt b i) id,by simp,List.Pairwise.nil,by simp,by simp,by simp,rfl,rfl,by simp,hgl⟩
   have:=h0.pushAll (args.zip vs) (fun p hp=>by
     obtain ⟨j,hj⟩:=Zaj.1 hp
     rw [List.getElem?_zip_eq_some] at hj
     refine ⟨hvs j p.1 p.2 hj.1 hj.2, ?_⟩
     have hp1:p.1.view=p.1:=by
       have h1:(args.map Zcf)[j]? =some p.1.view:=by simp [hj.1]
       rw [hargs,hj.1] at h1;exact (Option.some.inj h1).symm
     obtain ⟨p1,p2⟩:=p
     simp only at hp1
     rw [←hp1];exact ownB_view _ _)
   simpa [cellPairs] using this
 refine calls_of_W (Ev:=Env.none P none) (V:=fun _ _=>False) (b:=(():Unit)) hf hb hl (hW (Env.none P _) (():Unit)) hrel (fun _ _ h=>h.elim) trivial (Nat.zero_le _) ?_
 intro y S' X' V' w' m' hv' hp' v b' hyz htr0 hxs hm hr _ hyv
 obtain ⟨z,hy,hz⟩:=hyz
 have htr:Tr (fun b i=>¬b<w.heap.size) (fun _=>False) S w S' w':=htr0.mono (fun b i h=>h.resolve_right id) (fun _ h=>h)
 refine ⟨v,withBlocks S' m',rfl,below_of_tr htr (fun b i hb hz=>hz hb) (fun _ h=>h),fun b i hs=> .inl (htr.up b i hs),fun b i hs=> ?_,(hz.rv (sealR_sound (B:= []) (T:=withBlocks S' m') (by simpa using hr) (fun _ _ h=> .inl h) hy (fun g _ p hp i hi=> .inr ⟨g,p,hp,rfl,hi⟩) hyv)).view⟩
 rcases hs with hs|⟨g,p,hg,rfl,hi⟩
 · rcases htr.new b i hs with h1|h1|h1
   · exact .inl h1
   · exact .inr ⟨Nat.le_of_not_lt h1,htr.lt b i hs⟩
   · exact .inr ⟨h1,htr.lt b i hs⟩
 · have hr':Rel S' X' none w' m' (([]:List (AV×Value))++cellPairs hp' hv') hp' hv':=hr
   obtain ⟨blk,us,cur,e,g1,g2,g3,g4,g5,g6,g7,g8,g9,g10,g11,g12⟩:=hr'.block hg
   have hlt':p.b<w'.heap.size:=(Zab.1 g8).1
   cases hfr:blk.fro with
   | true=>
     have hs:=g12 hfr i hi
     rcases htr.new _ _ hs with h1|h1|h1
     · exact .inl h1
     · exact .inr ⟨Nat.le_of_not_lt h1,hlt'⟩
     · exact .inr ⟨h1,hlt'⟩
   | false=>
     refine .inr ⟨Nat.le_of_not_lt fun hb=> ?_,hlt'⟩
     exact (g11 hfr i).2 (hxs _ _ hb)
theorem CX.Ok.ofWl {Ev:Env P} {T:List (Nat×(List AV→(AV→Prop)→Prop))} {U:List (Nat×(List AV→List Blk→(AV→List Blk→Prop)→Prop))} {u:Bool} {wl:WLT Ev.β} (hT:CallsOk P T) (hS:SCallsOk P U)
   (hwl:∀c tm hp b K,wl c tm hp b K→W Ev c ⟨tm,hp,b⟩ (fun e s=>K e s.tm s.hp s.b)):CX.Ok Ev ⟨T,U,wl,Ev.Y,u⟩:=⟨hT,hS,hwl,rfl⟩
theorem PCall.ofFnW {f n:Nat} {fn:Func} {args:List AV} {x:AV} {T:List (Nat×(List AV→(AV→Prop)→Prop))} {U:List (Nat×(List AV→List Blk→(AV→List Blk→Prop)→Prop))} {u:Bool} (wl:∀β:Type,WLT β) (hm:P.follows .mixedOrders=true)
   (hT:CallsOk P T) (hS:SCallsOk P U) (hwl:∀(Ev:Env P) c tm hp b K,wl Ev.β c tm hp b K→W Ev c ⟨tm,hp,b⟩ (fun e s=>K e s.tm s.hp s.b)) (hf:P.funcs[f]? =some fn) (hn:(fn.name== "runtime.NumGoroutine")=false) (hargs:args.map Zcf=args)
   (h:∀(Ev:Env P) (b:Ev.β),wpFn P ⟨T,U,wl Ev.β,Ev.Y,u⟩ n fn args b (fun y _=>y=x)):PCall P f args x:=by
 cases hb:fn.body with
 | some c=>
   refine PCall.ofWS hf hb hn hargs fun Ev b=> ?_
   have h1:=h Ev b
   unfold wpFn at h1
   rw [hb] at h1
   refine wpc_sound hm (CX.Ok.ofWl hT hS (hwl Ev)) h1 fun e tm hp b hK=> ?_
   obtain ⟨g1,ys,g2,z,g3,rfl⟩:=fnK_sound hK
   exact ⟨g1,ys,g2,g3⟩
 | none=>
   have:=h (Env.none P none) ()
   unfold wpFn at this
   rw [hb] at this
   exact this.elim
theorem PCall.ofFnL {f n:Nat} {fn:Func} {args:List AV} {x:AV} {T:List (Nat×(List AV→(AV→Prop)→Prop))} {U:List (Nat×(List AV→List Blk→(AV→List Blk→Prop)→Prop))} {u:Bool} (wl:∀β:Type,WLT β) (hm:P.follows .mixedOrders=true)
   (hT:CallsOk P T) (hS:SCallsOk P U) (hwl:∀(Ev:Env P) c tm hp b K,wl Ev.β c tm hp b K→W Ev c ⟨tm,hp,b⟩ (fun e s=>K e s.tm s.hp s.b)) (hf:P.funcs[f]? =some fn) (hn:(fn.name== "runtime.NumGoroutine")=false) (hargs:args.map Zcf=args)
   (h:∀(Ev:Env P) (b:Ev.β),wpFn P ⟨T,U,wl Ev.β,Ev.Y,u⟩ n fn args b (fun y _=>LeT y x)):PCall P f args x:=by
 cases hb:fn.body with
 | some c=>
   refine PCall.ofWL hf hb hn hargs fun Ev b=> ?_
   have h1:=h Ev b
   unfold wpFn at h1
   rw [hb] at h1
   refine wpc_sound hm (CX.Ok.ofWl hT hS (hwl Ev)) h1 fun e tm hp b hK=> ?_
   exact fnK_sound hK
 | none=>
   have:=h (Env.none P none) ()
   unfold wpFn at this
   rw [hb] at this
   exact this.elim
def fnKS {β:Type} (P:Program) (fn:Func) (R:AV→List Blk→β→Prop):Exit→List AV→List Blk→β→Prop:=fun e tm hp b=>
 BIf (match e with| .ret=>true| .normal=>true|_=>false) (match resAs P hp tm fn.results.toList with
   |some ys=>R (resV ys) hp b
   |none=>False) False
def wpFnS {β:Type} (P:Program) (X:CX β) (n:Nat) (fn:Func) (args:List AV) (b:β) (R:AV→List Blk→β→Prop):Prop:=
 match fn.body with
 |some c=>wpc P X n c (startTm fn args) [] b (fnKS P fn R)
 |none=>False
theorem fnKS_sound {fn:Func} {R:AV→List Blk→Ev.β→Prop} {e:Exit} {tm:List AV} {hp:List Blk} {b:Ev.β} (h:fnKS P fn R e tm hp b):FnPost P fn R e ⟨tm,hp,b⟩:=by
 unfold fnKS at h
 obtain ⟨he,h⟩:=h.elim'
 split at h
 · rename_i ys hys
   refine ⟨?_,ys,hys,h⟩
   cases e<;>simp at he ⊢
 · exact h.elim
theorem FCall.ofFnW {f n:Nat} {fn:Func} {args:List AV} {x:AV} {hp1:List Blk} {T:List (Nat×(List AV→(AV→Prop)→Prop))} {U:List (Nat×(List AV→List Blk→(AV→List Blk→Prop)→Prop))} {u:Bool} (wl:∀β:Type,WLT β) (hm:P.follows .mixedOrders=true)
   (hT:CallsOk P T) (hS:SCallsOk P U) (hwl:∀Ev:Env P,∀c tm hp b K,wl Ev.β c tm hp b K→W Ev c ⟨tm,hp,b⟩ (fun e s=>K e s.tm s.hp s.b)) (hf:P.funcs[f]? =some fn) (hn:(fn.name== "runtime.NumGoroutine")=false) (hargs:args.map Zcf=args) (hfro:hp1.all (fun b=> !b.fro)=true)
   (h:∀(Ev:Env P) (b:Ev.β),wpFnS P ⟨T,U,wl Ev.β,Ev.Y,u⟩ n fn args b fun y hp _=>y=x∧hp=hp1):FCall P f args x hp1:=by
 cases hb:fn.body with
 | none=>
   have:=h (Env.none P none) (():Unit)
   simp only [wpFnS,hb] at this
 | some c=>
   refine FCall.ofW hf hb hn hargs hfro fun Ev b=> ?_
   have h1:=h Ev b
   simp only [wpFnS,hb] at h1
   exact wpc_sound hm (CX.Ok.ofWl hT hS (hwl Ev)) h1 fun e tm hp b hK=>fnKS_sound hK
inductive LeX:AV→AV→Prop where
 |le {x y:AV} (h:LeT x y):LeX x y
 |full (k:Nat) (xs:List (List Dv)):LeX (.full k xs) (.d (.sl k xs))
theorem LeX.rv {S:Pr} {w:World} {m:List MB} {yv:Option Nat} {x y:AV} {v:Value} (h:LeX x y) (hr:RV S w m yv x v):RV S w m yv y v:=by
 cases h with
 |le h=>exact h.rv hr
 | full=>cases hr with
   |full h=>exact .d h
def wlNo (β:Type):WLT β:=fun _ _ _ _ _=>False
theorem wlNo_ok (Ev:Env P):∀c tm hp b K,wlNo Ev.β c tm hp b K→W Ev c ⟨tm,hp,b⟩ (fun e s=>K e s.tm s.hp s.b):=fun _ _ _ _ _ h=>h.elim
end
inductive Ty where
 |int (k:IntKind)
 |bool
 |str
 |sl (r:List Ty)
mutual
inductive HasTy:Ty→Dv→Prop
 |int (k:IntKind) (n:Int) (h:(Lit.int k n).wf=true):HasTy (.int k) (.s (.int k n))
 |bool (b:Bool):HasTy .bool (.s (.bool b))
 |str (s:ByteArray) (h:s.size≤maxLen):HasTy .str (.s (.string s))
 |sl (r:List Ty) (xs:List (List Dv)) (hl:xs.length≤maxLen) (h:∀row,row∈xs→HasTys r row):HasTy (.sl r) (.sl r.length xs)
inductive HasTys:List Ty→List Dv→Prop
 |nil:HasTys [] []
 |cons {t:Ty} {x:Dv} {ts:List Ty} {xs:List Dv} (h:HasTy t x) (hs:HasTys ts xs):HasTys (t::ts) (x::xs)
end
def flatFs (P:Program) (g:TypeId→Option (List Ty)):List Field→Nat→Option (List Ty)
 | [],_=>some []
 | f ::fs,off=>if f.offset=off then match g f.type with
     |some r=>if P.cellsOf f.type=r.length then (flatFs P g fs (off+r.length)).map (r++ ·) else none
     |none=>none
   else none
def flat (P:Program):Nat→TypeId→Option (List Ty)
 |0,_=>none
 | n+1,t=>match P.underlying t with
   |some .bool=>some [.bool]
   |some (.int k)=>some [.int k]
   |some .string=>some [.str]
   | some (.slice e)=>match flat P n e with
     |some r=>if P.cellsOf e=r.length then some [.sl r] else none
     |none=>none
   | some (.struct fs)=>match flatFs P (flat P n) fs.toList 0 with
     |some r=>if P.cellsOf t=r.length then some r else none
     |none=>none
   | some (.array k e)=>match flat P n e with
     |some r=>if P.cellsOf e=r.length∧P.cellsOf t=k*r.length then some (Zap k r).flatten else none
     |none=>none
   |_=>none
inductive Rw (S:Pr) (w:World):List Ty→List Dv→List Value→Prop
 |nil:Rw S w [] [] []
 |cons {t:Ty} {x:Dv} {v:Value} {ts:List Ty} {xs:List Dv} {vs:List Value} (h:HasTy t x) (hr:DR S w x v) (h1:v.oneCell'=true) (hs:Rw S w ts xs vs):Rw S w (t::ts) (x::xs) (v::vs)
section
variable {S:Pr} {w:World}
theorem Rw.tys {ts:List Ty} {xs:List Dv} {vs:List Value} (h:Rw S w ts xs vs):HasTys ts xs:=by
 induction h with
 |nil=>exact .nil
 |cons h _ _ _ ih=>exact .cons h ih
theorem Rw.len {ts:List Ty} {xs:List Dv} {vs:List Value} (h:Rw S w ts xs vs):xs.length=ts.length∧vs.length=ts.length:=by
 induction h with
 |nil=>exact ⟨rfl,rfl⟩
 |cons _ _ _ _ ih=>simp [ih.1,ih.2]
theorem Rw.append {ts ts':List Ty} {xs xs':List Dv} {vs vs':List Value} (h:Rw S w ts xs vs) (h':Rw S w ts' xs' vs'):Rw S w (ts++ts') (xs++xs') (vs++vs'):=by
 induction h with
 |nil=>exact h'
 |cons h hr h1 _ ih=>exact .cons h hr h1 ih
theorem Rw.at {ts:List Ty} {xs:List Dv} {vs:List Value} (h:Rw S w ts xs vs):∀(j:Nat) (c:Dv),xs[j]? =some c→∃v,vs[j]? =some v∧DR S w c v∧v.oneCell'=true:=by
 induction h with
 |nil=>intro j c h;simp at h
 | cons h hr h1 _ ih=>
   intro j c hc
   cases j with
   |zero=>simp at hc;subst hc;exact ⟨_,rfl,hr,h1⟩
   |succ j=>simpa using ih j c (by simpa using hc)
end
theorem pickRows {α:Type} {Q:Nat→α→Prop}:∀(n:Nat),(∀i,i<n→∃x,Q i x)→∃xs:List α,xs.length=n∧∀(i:Nat) (x:α),xs[i]? =some x→Q i x
 |0,_=>⟨[],rfl,fun i x h=>by simp at h⟩
 | n+1,h=>by
   obtain ⟨xs,h1,h2⟩:=pickRows n fun i hi=>h i (by omega)
   obtain ⟨x,hx⟩:=h n (by omega)
   refine ⟨xs++ [x],by simp [h1],fun i y hy=> ?_⟩
   rcases Nat.lt_or_ge i n with hi|hi
   · rw [List.getElem?_append_left (by omega)] at hy;exact h2 i y hy
   · rw [List.getElem?_append_right (by omega)] at hy
     cases hk:i - xs.length with
     | zero=>
       rw [hk] at hy;simp at hy;subst hy
       have:i=n:=by omega
       subst this;exact hx
     |succ k=>rw [hk] at hy;simp at hy
theorem cell_block {w:World} {a:Addr} {v:Value} (h:w.cell? a=some v):a.block<w.heap.size:=by
 unfold World.cell? at h
 cases hh:w.heap[a.block]? with
 |none=>rw [hh] at h;cases h
 |some o=>exact (Zab.1 hh).1
section
variable {H:Type} {enc:TypeId×Value→H} {P:Program} {w:World} {spare:Nat→Bool} {held:Bool}
theorem read_flatFs {g:TypeId→Option (List Ty)} {fuel:Nat} (ih:∀(t:TypeId) (cs:List Value) (x:DataW H×List MemPlace) (tys:List Ty),g t=some tys→DataW.trod enc P w 0 spare held fuel t cs=some x→∃row,Rw (fun b _=>b<w.heap.size) w tys row cs):
   ∀(fs:List Field) (off:Nat) (cs:List Value) (tys:List Ty),flatFs P g fs off=some tys→
   (∀f,f∈fs→∃x,DataW.trod enc P w 0 spare held fuel f.type ((cs.drop f.offset).take (P.cellsOf f.type))=some x)→cs.length=off+tys.length→
   ∃row,Rw (fun b _=>b<w.heap.size) w tys row (cs.drop off)
 | [],off,cs,tys,h,_,hl=>by
   rw [flatFs] at h;cases h
   rw [List.drop_eq_nil_of_le (by simp at hl;omega)]
   exact ⟨[], .nil⟩
 | f::fs,off,cs,tys,h,hf,hl=>by
   rw [flatFs] at h
   split at h<;>try (cases h;done)
   rename_i ho
   split at h<;>try (cases h;done)
   rename_i r hr
   split at h<;>try (cases h;done)
   rename_i hc
   simp only [Zac] at h
   obtain ⟨tys',h1,rfl⟩:=h
   obtain ⟨x,hx⟩:=hf f (List.mem_cons_self ..)
   obtain ⟨row,h2⟩:=ih f.type _ _ r hr hx
   obtain ⟨row',h3⟩:=read_flatFs ih fs (off+r.length) cs tys' h1 (fun f hm=>hf f (List.mem_cons_of_mem _ hm)) (by simp at hl;omega)
   refine ⟨row++row', ?_⟩
   have e:cs.drop off=(cs.drop off).take r.length++cs.drop (off+r.length):=by
     rw [←List.drop_drop,List.take_append_drop]
   rw [e]
   rw [ho,hc] at h2
   exact h2.append h3
theorem read_flat:∀(n fuel:Nat) (t:TypeId) (cs:List Value) (x:DataW H×List MemPlace) (tys:List Ty),flat P n t=some tys→DataW.trod enc P w 0 spare held fuel t cs=some x→
   ∃row,Rw (fun b _=>b<w.heap.size) w tys row cs
 |0,_,_,_,_,_,h,_=>by simp [flat] at h
 | n+1,fuel,t,cs,x,tys,h,ht=>by
   rw [flat] at h
   split at h
   · rename_i hu
     cases h
     obtain ⟨b,rfl,rfl⟩:=DataW.trod_bool hu ht
     exact ⟨_, .cons (.bool b) (.s _) rfl .nil⟩
   · rename_i k hu
     cases h
     obtain ⟨m,rfl,rfl,hw⟩:=DataW.trod_int hu ht
     exact ⟨_, .cons (.int k m hw) (.s _) rfl .nil⟩
   · rename_i hu
     cases h
     obtain ⟨s,rfl,rfl,hw⟩:=DataW.trod_string hu ht
     exact ⟨_, .cons (.str s hw) (.s _) rfl .nil⟩
   · rename_i e hu
     split at h<;>try (cases h;done)
     rename_i r hr
     split at h<;>try (cases h;done)
     rename_i hc
     cases h
     rcases DataW.trod_slice hu ht with ⟨rfl,rfl⟩|⟨a,len,cap,elems,rest,m,rfl,rfl,rfl,_,hlc,hcm,hel,hes,_,_⟩
     · exact ⟨[.sl r.length []], .cons (.sl r [] (Nat.zero_le _) (fun row hr=>by cases hr)) (.nil _) rfl .nil⟩
     · have hrow:∀i,i<len→∃row,∃cs':List Value,(∀j,j<r.length→w.cell? ((a.add (i*r.length)).add j)=cs'[j]?)∧cs'.length=r.length∧Rw (fun b _=>b<w.heap.size) w r row cs':=by
         intro i hi
         have h1:=hes i hi
         have h2:∃y,elems[i]? =some y:=⟨elems[i]'(by omega),by simp⟩
         obtain ⟨y,hy⟩:=h2
         rw [hy,hc] at h1
         simp only [Option.bind_eq_some_iff] at h1
         obtain ⟨cs',h3,h4⟩:=h1
         obtain ⟨row,h5⟩:=read_flat n m e cs' y r hr h4
         have h6:=World.cells?_some h3
         exact ⟨row,cs',h6.2.2,h6.2.1,h5⟩
       obtain ⟨xs,hxl,hxs⟩:=pickRows len hrow
       refine ⟨[.sl r.length xs], .cons (.sl r xs (by omega) fun row hm=> ?_) ?_ rfl .nil⟩
       · obtain ⟨i,hi⟩:=Zaj.1 hm
         obtain ⟨_,_,_,h⟩:=hxs i row hi
         exact h.tys
       · subst hxl
         have key:∀(i:Nat) (row:List Dv) (j:Nat) (c:Dv),xs[i]? =some row→row[j]? =some c→a.spot=none∧∃v,w.cell? ⟨a.block,a.off+(i*r.length+j),none⟩=some v∧DR (fun b _=>b<w.heap.size) w c v∧v.oneCell'=true:=by
           intro i row j c hi hj
           have hil:i<xs.length:=(Zaa.1 hi).1
           obtain ⟨cs',g1,g2,g3⟩:=hxs i row hi
           obtain ⟨v,g4,g5,g6⟩:=g3.at j c hj
           have hjl:j<r.length:=by
             have:=(Zaa.1 hj).1
             have:=g3.len.1;omega
           have g7:=g1 j hjl
           rw [g4] at g7
           have hsp:a.spot=none:=by
             cases hx0:xs[0]? with
             |none=>rw [List.getElem?_eq_none_iff] at hx0;omega
             | some row0=>
               obtain ⟨cs0,e1,e2,e3⟩:=hxs 0 row0 hx0
               have e4:=e1 0 (by omega)
               have e5:∃v0,cs0[0]? =some v0:=⟨cs0[0]'(by omega),by simp⟩
               obtain ⟨v0,e5⟩:=e5
               rw [e5] at e4
               have:=World.cell?_spot e4
               simpa [Addr.add] using this
           refine ⟨hsp,v, ?_,g5,g6⟩
           obtain ⟨ab,ao,ar⟩:=a
           simp only at hsp
           subst hsp
           rw [WideShapes.add_plain,WideShapes.add_plain] at g7
           rw [←g7,Nat.add_assoc]
         refine .sl r.length xs a cap (fun i j=>(w.cell? ⟨a.block,a.off+(i*r.length+j),none⟩).getD default) ?_ ?_ ?_ ?_ ?_ hlc ?_
         · intro i row hi
           obtain ⟨_,_,_,h⟩:=hxs i row hi
           exact h.len.1
         · intro i row j c hi hj
           obtain ⟨_,v,hv,_⟩:=key i row j c hi hj
           exact cell_block (a:=⟨a.block,a.off+(i*r.length+j),none⟩) hv
         · intro i row j c hi hj
           obtain ⟨_,v,hv,_⟩:=key i row j c hi hj
           rw [hv];rfl
         · intro i row j c hi hj
           obtain ⟨_,v,hv,h,_⟩:=key i row j c hi hj
           rw [hv];exact h
         · intro i row j c hi hj
           obtain ⟨_,v,hv,_,h⟩:=key i row j c hi hj
           rw [hv];exact h
         · cases hx:xs with
           |nil=>exact .inr (.inr rfl)
           | cons row0 xs0=>
             cases hrl:r with
             |nil=>exact .inr (.inl rfl)
             | cons r0 rs=>
               left
               have h0:xs[0]? =some row0:=by rw [hx];rfl
               obtain ⟨_,_,_,h⟩:=hxs 0 row0 h0
               have hl:=h.len.1
               have:∃c,row0[0]? =some c:=⟨row0[0]'(by rw [hl,hrl];simp),by simp⟩
               obtain ⟨c,hc'⟩:=this
               exact (key 0 row0 0 c h0 hc').1
   · rename_i fs hu
     split at h<;>try (cases h;done)
     rename_i r hr
     split at h<;>try (cases h;done)
     rename_i hc
     cases h
     obtain ⟨xs,m,rfl,rfl,hl,hxl,hf⟩:=DataW.trod_struct hu ht
     have:=read_flatFs (fun t cs x tys h1 h2=>read_flat n m t cs x tys h1 h2) fs.toList 0 cs tys hr (fun f hm=>by
       obtain ⟨i,hi⟩:=Zaj.1 hm
       have h1:=hf i f (by simpa using hi)
       have hil:i<fs.size:=by
         have:=(Zaa.1 hi).1
         simpa using this
       exact ⟨xs[i]'(by omega),by rw [h1];simp⟩) (by omega)
     simpa using this
   · rename_i k e hu
     split at h<;>try (cases h;done)
     rename_i r hr
     split at h<;>try (cases h;done)
     rename_i hc
     cases h
     obtain ⟨xs,m,rfl,rfl,hl,hxl,hf⟩:=DataW.trod_array hu ht
     have key:∀k',k'≤k→∃row,Rw (fun b _=>b<w.heap.size) w (Zap k' r).flatten row (cs.take (k'*r.length)):=by
       intro k'
       induction k' with
       |zero=>intro _;exact ⟨[],by simpa using Rw.nil⟩
       | succ k' ih=>
         intro hk
         obtain ⟨row,h1⟩:=ih (by omega)
         have h2:=hf k' (by omega)
         rw [hc.1] at h2
         have h3:xs[k']? =some (xs[k']'(by omega)):=by simp
         rw [h3] at h2
         obtain ⟨row2,h4⟩:=read_flat n m e _ _ r hr h2
         refine ⟨row++row2, ?_⟩
         have e1:(Zap (k'+1) r).flatten=(Zap k' r).flatten++r:=by
           rw [List.replicate_succ'];simp
         have e2:cs.take ((k'+1)*r.length)=cs.take (k'*r.length)++(cs.drop (k'*r.length)).take r.length:=by
           rw [Nat.succ_mul,List.take_add]
         rw [e1,e2]
         exact h1.append h4
     obtain ⟨row,h1⟩:=key k (Nat.le_refl _)
     refine ⟨row, ?_⟩
     rwa [List.take_of_length_le (by omega)] at h1
   · cases h
end
end Go.Proofs.YtlnenbbmhidjeaaDoor.Am
namespace Go.Proofs.YtlnenbbmhidjeaaDoor.Am
open Go Go.RowKit Go.WideShapes Go.ChangeShapes
open AV renaming view → Zcf
open _root_.Array renaming getElem?_eq_some_iff → Zab
open Bool renaming and_eq_true → Zag
open Go.IntKind renaming wrap → Zad
open List renaming all_eq_true → Zau, getElem?_eq_some_iff → Zaa, getElem?_take → Zak, mem_append → Zax, mem_cons → Zce, mem_iff_getElem? → Zaj, mem_map → Zbd, mem_of_getElem? → Zcu, replicate → Zap
open Nat renaming eq_of_beq_eq_true → Zbk
open Option renaming map_eq_some_iff → Zac
open AV (bad)
set_option linter.unusedVariables false
section
variable {H:Type} {enc:TypeId×Value→H} {P:Program}
theorem trodAll_stays (hl:laidOutB P=true) {W W':World} {sp:Nat→Bool} (hb:Below W.heap.size W W'):∀ {ts:List TypeId} {vs:List Value} {ds:List (DataW H)} {ps:List MemPlace},
   (ts.all fun t=>P.readableRec t&&decide (t<P.types.size))=true→DataW.TrodAll enc P W 0 (fun _=>true) true ts vs ds ps→(∀x∈ps,x.block<W.heap.size)→(∀x∈ps,sp x.block=true)→
   DataW.TrodAll enc P W' 0 sp true ts vs ds ps
 | [], [], [],ps,_,h,_,_=>h
 | t::ts,v::vs,d::ds,ps,hr,h,hlt,hsp=>by
   obtain ⟨p,q,h1,h2,rfl⟩:=h
   simp only [List.all_cons,Zag,decide_eq_true_eq] at hr
   exact ⟨p,q,WideElems.Trod_stays hl hr.1.1 hr.1.2 h1 (fun x hx=>hb.same (hlt x (by simp [hx]))) (fun x hx=>hsp x (by simp [hx])),
     trodAll_stays hl hb hr.2 h2 (fun x hx=>hlt x (by simp [hx])) (fun x hx=>hsp x (by simp [hx])),rfl⟩
theorem trodAll_len {W:World} {b:Nat} {sp:Nat→Bool} {hd:Bool}:∀ {ts:List TypeId} {vs:List Value} {ds:List (DataW H)} {ps:List MemPlace},DataW.TrodAll enc P W b sp hd ts vs ds ps→ds.length=ts.length
 | [], [], [],_,_=>rfl
 | t::ts,v::vs,d::ds,_,h=>by
   obtain ⟨p,q,_,h2,_⟩:=h
   simp [trodAll_len h2]
theorem law_post {f:Func} {s:ChangeSpec} {apart fresh handsOn again:Bool} {W W':World} {args:Array Value} {ds gs:List (DataW H)} {before:List MemPlace} {tb:TypeId}
   (hl:laidOutB P=true) (hvars:s.vars= []) (hres:f.resultTypes=#[tb]) (htb:P.underlying tb=some .bool)
   (hread:(f.params.toList.all fun t=>P.readableRec t&&decide (t<P.types.size))=true)
   (hfn:∀ds:List (DataW H),ds.length=f.params.size→s.fn H ds= {results:= [.lit (.bool true)],args:=ds})
   (hW:DataW.Whole enc P f.params.toList s.vars apart W args.toList ds gs before) (hb:Below W.heap.size W W'):
   s.post enc P f apart fresh handsOn again W args (.bool true) W':=by
 have hlt:∀p∈before,p.block<W.heap.size:=fun p hp=>hW.lt p hp
 have hold:∀p∈before,(fun b=>decide (b<W.heap.size)) p.block=true:=fun p hp=>by simpa using hlt p hp
 have hW0:=hW
 obtain ⟨p,q,hA,hV,rfl,hz,hn⟩:=hW0
 rw [hvars] at hV
 obtain ⟨rfl,rfl⟩:=trodVars_none hV
 have hlen:ds.length=f.params.size:=by
   have:=trodAll_len hA
   simpa using this
 have hspec:=hfn ds hlen
 simp only [List.append_nil] at*
 have hargs:∀sp:Nat→Bool,(∀x∈p,sp x.block=true)→DataW.TrodAll enc P W' 0 sp true f.params.toList args.toList ds p:=
   fun sp hsp=>trodAll_stays hl hb hread hA hlt hsp
 have hr:∀(b:Nat) (sp:Nat→Bool) (hd:Bool),DataW.TrodAll enc P W' b sp hd f.resultTypes.toList ((Value.bool true).resultList f.resultTypes.size) [DataW.lit (.bool true)] []:=by
   intro b sp hd
   rw [hres]
   exact trodAll_cons_mk (shut_bool htb _) trodAll_mk0
 refine ⟨ds, [],p, [],p, [],by simpa using hW, ?_, ?_, ?_, ?_,fun _=> ?_⟩
 · simp only [List.append_nil,hspec];exact hr _ _ _
 · simp only [List.append_nil,hspec];exact hargs _ hold
 · simp only [List.append_nil,hspec,hvars];exact rfl
 · exact World.keptBut_mono (fun x hx=>⟨hx, .inr (.inl hx)⟩) (hb.frame (· ∈p))
 · refine ⟨ok_one hres rfl (okWide_bool_mk htb _), [DataW.lit (.bool true)]++ds, [],p,⟨p, [], ?_, ?_,by simp, ?_, ?_⟩,fun x hx _=>hx⟩
   · have:=trodAll_append (hargs (fun _=>true) (fun _ _=>rfl)) (hr 0 (fun _=>true) true)
     simpa using this
   · rw [hvars];rfl
   · intro b off hp
     rw [hb.frozen (hlt _ hp)]
     exact hz b off hp
   · intro ha;exact hn ha
inductive ArgsR (S:Pr) (w:World):List AV→List Value→Prop
 |nil:ArgsR S w [] []
 |cons {x:AV} {v:Value} {xs:List AV} {vs:List Value} (h:RV S w [] none x v) (hs:ArgsR S w xs vs):ArgsR S w (x::xs) (v::vs)
theorem ArgsR.at {S:Pr} {w:World} {xs:List AV} {vs:List Value} (h:ArgsR S w xs vs):xs.length=vs.length∧∀(i:Nat) (x:AV) (v:Value),xs[i]? =some x→vs[i]? =some v→RV S w [] none x v:=by
 induction h with
 |nil=>exact ⟨rfl,fun i x v h=>by simp at h⟩
 | cons h _ ih=>
   refine ⟨by simp [ih.1],fun i x v h1 h2=> ?_⟩
   cases i with
   |zero=>simp at h1 h2;subst h1;subst h2;exact h
   |succ i=>exact ih.2 i x v (by simpa using h1) (by simpa using h2)
abbrev AllOf (w:World):Pr:=fun b _=>b<w.heap.size
theorem law_calls {fid:Nat} {f:Func} {s:ChangeSpec} {apart fresh handsOn again:Bool} {W:World} {args:Array Value} {ds gs:List (DataW H)} {before:List MemPlace} {tb:TypeId}
   (hl:laidOutB P=true) (hvars:s.vars= []) (hres:f.resultTypes=#[tb]) (htb:P.underlying tb=some .bool)
   (hread:(f.params.toList.all fun t=>P.readableRec t&&decide (t<P.types.size))=true)
   (hfn:∀ds:List (DataW H),ds.length=f.params.size→s.fn H ds= {results:= [.lit (.bool true)],args:=ds})
   (hW:DataW.Whole enc P f.params.toList s.vars apart W args.toList ds gs before)
   (avs:List AV) (ha:ArgsR (AllOf W) W avs args.toList) (hp:PCall P fid avs (.d (.s (.bool true)))) (hgl:Glob (AllOf W) W):
   Calls P fid args W fun e W'=>∃v,e= .returned v∧s.post enc P f apart fresh handsOn again W args v W':=by
 obtain ⟨h1,h2⟩:=ha.at
 have:=callsIn_wide.1 (hp.2 (AllOf W) W args.toList h1 h2 (fun b i h=>h) hgl)
 refine Calls.mono this ?_
 rintro e W' ⟨v,S',rfl,hb,_,_,hr⟩
 refine ⟨v,rfl, ?_⟩
 have hv:v= .bool true:=by
   have:Zcf (.d (.s (.bool true)))= .d (.s (.bool true)):=rfl
   rw [this] at hr
   cases hr with
   |d h=>cases h;rfl
 subst hv
 exact law_post hl hvars hres htb hread hfn hW hb
theorem arg_slice {W:World} {b0 n:Nat} {r:Reach} {sp:Nat→Bool} {hd:Bool} {t e:TypeId} {v:Value} {d:DataW H} {ps:List MemPlace} {ty:Ty} (hu:P.underlying t=some (.slice e)) (hf:flat P n t=some [ty])
   (hval:Value.okWide P W r b0 t v) (h:DataW.Trod enc P W 0 sp hd t v d ps):∃x,HasTy ty x∧RV (AllOf W) W [] none (.d x) v:=by
 obtain ⟨fuel,h⟩:=h
 obtain ⟨a,len,cap,rfl⟩:=okWide_slice hu hval
 obtain ⟨row,hr⟩:=read_flat n fuel t _ _ _ hf h
 cases hr with
 |cons h hr h1 hs=>exact ⟨_,h, .d hr⟩
theorem arg_int {W:World} {b0:Nat} {r:Reach} {sp:Nat→Bool} {hd:Bool} {t:TypeId} {k:IntKind} {v:Value} {d:DataW H} {ps:List MemPlace} (hu:P.underlying t=some (.int k))
   (hval:Value.okWide P W r b0 t v) (h:DataW.Trod enc P W 0 sp hd t v d ps):∃x,(Lit.int k x).wf=true∧RV (AllOf W) W [] none (.d (.s (.int k x))) v:=by
 obtain ⟨x,rfl,_,_,hw⟩:=open_int hu hval h
 exact ⟨x,hw, .d (.s _)⟩
end
end Go.Proofs.YtlnenbbmhidjeaaDoor.Am
namespace Go.Proofs.YtlnenbbmhidjeaaDoor.Am
open Go Go.RowKit Go.Proofs Go.ChangeShapes Go.WideShapes Go.ChangeAt
open AV renaming view → Zcf
open _root_.Array renaming getElem?_eq_some_iff → Zab
open Bool renaming and_eq_true → Zag
open Go.IntKind renaming wrap → Zad
open List renaming all_eq_true → Zau, getElem?_eq_some_iff → Zaa, getElem?_take → Zak, mem_append → Zax, mem_cons → Zce, mem_iff_getElem? → Zaj, mem_map → Zbd, mem_of_getElem? → Zcu, replicate → Zap
open Nat renaming eq_of_beq_eq_true → Zbk
open Option renaming map_eq_some_iff → Zac
open AV (bad)
set_option linter.unusedVariables false
def litsF {H:Type}:Nat→DataW H→Option (List Value)
 |0,_=>none
 |_+1, .lit (.int k m)=>some [.int k m]
 |_+1, .lit (.bool b)=>some [.bool b]
 |n+1, .agg ds=>ds.foldr (fun d acc=>match litsF n d,acc with|some a,some b=>some (a++b)|_,_=>none) (some [])
 |_,_=>none
def litsL {H:Type} (n:Nat) (ds:List (DataW H)):Option (List Value):=ds.foldr (fun d acc=>match litsF n d,acc with|some a,some b=>some (a++b)|_,_=>none) (some [])
theorem litsL_cons {H:Type} {n:Nat} {d:DataW H} {ds:List (DataW H)} {vs:List Value} (h:litsL n (d::ds)=some vs):∃a b,litsF n d=some a∧litsL n ds=some b∧vs=a++b:=by
 unfold litsL at h
 rw [List.foldr_cons] at h
 split at h
 · rename_i a b h1 h2;cases h;exact ⟨a,b,h1,h2,rfl⟩
 · cases h
section
variable {H:Type} {enc:TypeId×Value→H} {P:Program} {w:World} {spare:Nat→Bool} {held:Bool}
theorem lits_segs {k c:Nat}:∀(xs:List (DataW H×List MemPlace)) (cs:List Value) (vs:List Value),cs.length=xs.length*c→
   (∀(i:Nat) (y:DataW H×List MemPlace),xs[i]? =some y→∀ws,litsF k y.1=some ws→(cs.drop (i*c)).take c=ws)→litsL k (xs.map (·.1))=some vs→cs=vs
 | [],cs,vs,hl,_,h=>by
   have:cs= []:=List.length_eq_zero_iff.1 (by simpa using hl)
   subst this
   simp [litsL] at h;exact h.symm
 | y::ys,cs,vs,hl,hx,h=>by
   rw [List.map_cons] at h
   obtain ⟨a,b,h1,h2,rfl⟩:=litsL_cons h
   have h3:=hx 0 y rfl a h1
   rw [List.length_cons,Nat.add_mul,Nat.one_mul] at hl
   have h4:=lits_segs (c:=c) ys (cs.drop c) b (by simp;omega) (fun i y hy ws hw=>by
     have:=hx (i+1) y (by simpa using hy) ws hw
     rw [List.drop_drop]
     rw [←this];congr 2;rw [Nat.add_mul,Nat.one_mul];omega) h2
   rw [←List.take_append_drop c cs,←h4,←h3];simp
theorem lits_fields {k:Nat} {g:TypeId→Option (List Ty)} {fuel:Nat} (ih:∀(t:TypeId) (cs:List Value) (x:DataW H×List MemPlace) (tys:List Ty) (vs:List Value),g t=some tys→DataW.trod enc P w 0 spare held fuel t cs=some x→litsF k x.1=some vs→cs=vs):
   ∀(fs:List Field) (xs:List (DataW H×List MemPlace)) (off:Nat) (cs:List Value) (tys:List Ty) (vs:List Value),flatFs P g fs off=some tys→fs.length=xs.length→
   (∀(i:Nat) (f:Field),fs[i]? =some f→DataW.trod enc P w 0 spare held fuel f.type ((cs.drop f.offset).take (P.cellsOf f.type))=xs[i]?)→cs.length=off+tys.length→litsL k (xs.map (·.1))=some vs→cs.drop off=vs
 | [], [],off,cs,tys,vs,h,_,_,hl,hv=>by
   rw [flatFs] at h;cases h
   simp [litsL] at hv
   rw [hv,List.drop_eq_nil_of_le (by simp at hl;omega)]
 | [],_::_,_,_,_,_,_,hn,_,_,_=>by simp at hn
 |_::_, [],_,_,_,_,_,hn,_,_,_=>by simp at hn
 | f::fs,y::xs,off,cs,tys,vs,h,hn,hf,hl,hv=>by
   rw [flatFs] at h
   split at h<;>try (cases h;done)
   rename_i ho
   split at h<;>try (cases h;done)
   rename_i r hr
   split at h<;>try (cases h;done)
   rename_i hc
   simp only [Zac] at h
   obtain ⟨tys',h1,rfl⟩:=h
   rw [List.map_cons] at hv
   obtain ⟨a,b,h2,h3,rfl⟩:=litsL_cons hv
   have h4:=hf 0 f rfl
   have h5:=ih f.type _ y r a hr (by simpa using h4) h2
   have h6:=lits_fields ih fs xs (off+r.length) cs tys' b h1 (by simpa using hn) (fun i f hi=>by simpa using hf (i+1) f (by simpa using hi)) (by simp at hl;omega) h3
   rw [ho,hc] at h5
   rw [←h5,←h6,←List.drop_drop,List.take_append_drop]
theorem lits_flat:∀(n fuel k:Nat) (t:TypeId) (cs:List Value) (x:DataW H×List MemPlace) (tys:List Ty) (vs:List Value),flat P n t=some tys→DataW.trod enc P w 0 spare held fuel t cs=some x→litsF k x.1=some vs→cs=vs
 |0,_,_,_,_,_,_,_,h,_,_=>by simp [flat] at h
 |n+1,fuel,0,t,cs,x,tys,vs,h,ht,hv=>by simp [litsF] at hv
 | n+1,fuel,k+1,t,cs,x,tys,vs,h,ht,hv=>by
   rw [flat] at h
   split at h
   · rename_i hu
     obtain ⟨b,rfl,rfl⟩:=DataW.trod_bool hu ht
     simp [litsF] at hv;exact hv
   · rename_i kk hu
     obtain ⟨m,rfl,rfl,hw⟩:=DataW.trod_int hu ht
     simp [litsF] at hv;exact hv
   · rename_i hu
     obtain ⟨s,rfl,rfl,hw⟩:=DataW.trod_string hu ht
     simp [litsF] at hv
   · rename_i e hu
     rcases DataW.trod_slice hu ht with ⟨rfl,rfl⟩|⟨a,len,cap,elems,rest,m,rfl,rfl,rfl,_⟩
     · simp [litsF] at hv
     · simp [litsF] at hv
   · rename_i fs hu
     split at h<;>try (cases h;done)
     rename_i r hr
     split at h<;>try (cases h;done)
     rename_i hc
     cases h
     obtain ⟨xs,m,rfl,rfl,hl,hxl,hf⟩:=DataW.trod_struct hu ht
     have hv:litsL k (xs.map (·.1))=some vs:=hv
     have:=lits_fields (k:=k) (fun t cs x tys vs h1 h2 h3=>lits_flat n m k t cs x tys vs h1 h2 h3) fs.toList xs 0 cs tys vs hr (by simp [hxl]) (fun i f hi=>hf i f (by simpa using hi)) (by rw [hl,hc];omega) hv
     simpa using this
   · rename_i kk e hu
     split at h<;>try (cases h;done)
     rename_i r hr
     split at h<;>try (cases h;done)
     rename_i hc
     cases h
     obtain ⟨xs,m,rfl,rfl,hl,hxl,hf⟩:=DataW.trod_array hu ht
     have hv:litsL k (xs.map (·.1))=some vs:=hv
     refine lits_segs (k:=k) (c:=P.cellsOf e) xs cs vs (by rw [hl,hc.2,hxl,hc.1]) (fun i y hy ws hw=> ?_) hv
     have hi:i<kk:=by rw [←hxl];exact (Zaa.1 hy).1
     have h1:=hf i hi
     rw [hy] at h1
     exact lits_flat n m k e _ y r ws hr h1 hw
   · cases h
end
def VarAt (P:Program) (W:World) (g:Nat) (vs:List Value):Prop:=∀(j:Nat) (v:Value),vs[j]? =some v→W.cell? ⟨g,j,none⟩=some v
theorem var_at {P:Program} {W:World} {n:String} {g t:Nat} {cs:Array Value} {d:DataW Unit} {p:List MemPlace} {fuel nn k:Nat} {tys:List Ty} {vs:List Value} (hg:P.globalNamed n=some g) (hv:W.var? P n=some cs)
   (ht:DataW.trod (fun _=>()) P W 0 (fun _=>true) false fuel t cs.toList=some (d,p)) (hf:flat P nn t=some tys) (hl:litsF k d=some vs):VarAt P W g vs:=by
 have:=lits_flat nn fuel k t cs.toList (d,p) tys vs hf ht hl
 intro j v hj
 rw [World.var?_cell hg hv j,←hj,←this];simp
theorem glob_of {W:World} (h:∀g,laidTable g≠ []→∀(j:Nat) (v:Value),(laidTable g)[j]? =some v→W.cell? ⟨g,j,none⟩=some v∧v.oneCell'=true):Glob (AllOf W) W:=by
 intro g j v hv
 have h1:laidTable g≠ []:=fun he=>by rw [he] at hv;simp at hv
 obtain ⟨h2,h3⟩:=h g h1 j v hv
 exact ⟨cell_block (a:=⟨g,j,none⟩) h2,h2,h3⟩
end Go.Proofs.YtlnenbbmhidjeaaDoor.Am
namespace Go.Proofs.YtlnenbbmhidjeaaDoor.Am
open Go Go.RowKit
open AV renaming view → Zcf
open _root_.Array renaming getElem?_eq_some_iff → Zab
open Bool renaming and_eq_true → Zag
open Go.IntKind renaming wrap → Zad
open List renaming all_eq_true → Zau, getElem?_eq_some_iff → Zaa, getElem?_take → Zak, mem_append → Zax, mem_cons → Zce, mem_iff_getElem? → Zaj, mem_map → Zbd, mem_of_getElem? → Zcu, replicate → Zap
open Nat renaming eq_of_beq_eq_true → Zbk
open Option renaming map_eq_some_iff → Zac
open AV (bad)
set_option linter.unusedVariables false
set_option linter.unusedSimpArgs false
def ICallB (P:Program) (f:Nat) (args:List AV) (blk:Blk) (Sp:SpT):Prop:=
 (∀(ar:Array Value) (w:World),(callFunc f ar).run P w= .ok (.enter f ar) w)∧
 ∀ (Ev:Env P) (b:Ev.β) (Q:Ev.β→Prop),Sp Ev.Y b Q→∀(S X V:Pr) (w:World) (m:List MB) (hv:List (List Value)) (vs:List Value),args.length=vs.length→
   Rel S X Ev.yl w m (args.zip vs++([]++cellPairs [blk] hv)) [blk] hv→(∀b i,V b i→X b i)→Ev.E b S V w→Ev.N≤w.heap.size→
   CallsIn Fence.wide 0 P f vs.toArray w fun e w'=>∃v b' S' V',e= .returned v∧Q b'∧Ev.E b' S' V' w'
def Beh0 {P:Program} (Ev:Env P) (lo:Nat) (r:Option Nat) (S X V:Pr) (w:World) (Q:Exit→St Ev.β→Prop) (e:Exit) (a':Act) (w':World):Prop:=
 ∃s' S' X' V' m' hv',Q e s'∧Went Ev.L S X V w S' X' V' w'∧Tie Ev lo r S' X' V' w' m' [] hv' s'.rs s'.b a'
def W0 {P:Program} (Ev:Env P) (c:Code) (s:St Ev.β) (Q:Exit→St Ev.β→Prop):Prop:=
 ∀ (lo:Nat) (r:Option Nat) (S X V:Pr) (w:World) (m:List MB) (hv:List (List Value)) (a:Act),Tie Ev lo r S X V w m [] hv s.rs s.b a→
   c.wpIn (Fn r) 0 P (Beh0 Ev lo r S X V w Q) a w
section
variable {P:Program} {S S' X X' V V':Pr} {L:Nat→Prop} {r:Option Nat} {lo:Nat} {w w' w'':World} {m m' m'':List MB} {B:List (AV×Value)} {hp hp':List Blk} {hv hv':List (List Value)} {a a':Act} {Ev:Env P} {s:St Ev.β} {Q:Exit→St Ev.β→Prop} {c c':Code}
theorem Beh0.from {e:Exit} (hm:Went Ev.L S X V w S' X' V' w') (h:Beh0 Ev lo r S' X' V' w' Q e a w''):Beh0 Ev lo r S X V w Q e a w'':=by
 obtain ⟨s',S',X',V',m'',hv',h1,h2,h3⟩:=h
 exact ⟨s',S',X',V',m'',hv',h1,hm.trans h2,h3⟩
theorem W0.of (h:W Ev c s Q):W0 Ev c s Q:=fun lo r S X V w m hv a ht=>
 wpIn_mono (h lo r S X V w m [] hv a ht) fun e a' w' ⟨s',S',X',V',m',hv',h1,h2,h3⟩=>⟨s',S',X',V',m',hv',h1,h2.1,h3⟩
theorem W0.seq (h:W0 Ev c s (thenW (fun s'=>W0 Ev c' s' Q) Q)):W0 Ev (.seq c c') s Q:=by
 intro lo r S X V w m hv a ht
 refine wpIn_seq (wpIn_mono (h lo r S X V w m hv a ht) fun e a' w' ⟨s',S',X',V',m',hv',h1,h2,h3⟩=> ?_)
 cases e with
 |normal=>exact wpIn_mono (h1 lo r S' X' V' w' m' hv' a' h3) fun e a'' w'' hb=>hb.from h2
 |exit id=>exact ⟨s',S',X',V',m',hv',h1,h2,h3⟩
 |goto l=>exact ⟨s',S',X',V',m',hv',h1,h2,h3⟩
 |ret=>exact ⟨s',S',X',V',m',hv',h1,h2,h3⟩
 |panic ch=>exact ⟨s',S',X',V',m',hv',h1,h2,h3⟩
 |outgrown=>exact ⟨s',S',X',V',m',hv',h1,h2,h3⟩
theorem W0.block {id:Nat} (h:W0 Ev c s (catchExit id Q)):W0 Ev (.block id c) s Q:=by
 intro lo r S X V w m hv a ht
 refine wpIn_block (wpIn_mono (h lo r S X V w m hv a ht) fun e a' w' ⟨s',S',X',V',m',hv',h1,h2,h3⟩=> ?_)
 cases e with
 | exit id'=>
   simp only [Exit.inBlock,catchExit] at h1 ⊢
   split at h1
   · rename_i hid;rw [if_pos hid];exact ⟨s',S',X',V',m',hv',h1,h2,h3⟩
   · rename_i hid;rw [if_neg hid];exact ⟨s',S',X',V',m',hv',h1,h2,h3⟩
 |normal=>exact ⟨s',S',X',V',m',hv',h1,h2,h3⟩
 |goto l=>exact ⟨s',S',X',V',m',hv',h1,h2,h3⟩
 |ret=>exact ⟨s',S',X',V',m',hv',h1,h2,h3⟩
 |panic ch=>exact ⟨s',S',X',V',m',hv',h1,h2,h3⟩
 |outgrown=>exact ⟨s',S',X',V',m',hv',h1,h2,h3⟩
theorem W0.range {g:Operand} {ps:Array Tmp} {assign body:Code} {k:Nat} {hp0:List Blk} {blk:Blk} {Sp:SpT} (hs:s.hp=hp0++ [blk]) (hfro:blk.fro=false) (hgrow:blk.grow=false) (hlow:lowHp hp0.length s.hp=true)
   (hcl:closeds blk.cells=true) (hvw:blk.cells.map Zcf=blk.cells) (hg:evalA s.tm g= .fn (.func k) [] [.ptr hp0.length 0])
   (hI:ICallB P k [.yl, .ptr 0 0] blk Sp) (h:Sp (YBody Ev (lowTm hp0.length s.tm) ps assign body hp0.length) (hp0,s.b,none) (rangeQ (lowTm hp0.length s.tm) Q)):W0 Ev (.rangeFunc g ps assign body) s Q:=by
 intro lo r S X V w m hv a ht
 refine wpIn_rangeFunc fun fn _=> ?_
 obtain ⟨l,bs,w1,D,e1,e2,e3,e4,e5,e6⟩:=enter_loop (P:=P) fn a.tmps ps assign body ht.round
 
 have hfv:=evalA_sound ht.rel g
 rw [hg] at hfv
 generalize hfe:a.eval g=fv at hfv
 cases hfv with
 | fn hne hl1 hl2 h1 h2=>
   rename_i fs cs
   have hfs:fs=#[]:=by simpa using hl1.symm
   subst hfs
   obtain ⟨cv,rfl⟩:∃cv,cs=#[cv]:=by
     have:cs.size=1:=by simpa using hl2.symm
     refine ⟨cs[0],Array.ext (by simp [this]) fun i hi hi'=> ?_⟩
     have:i=0:=by omega
     subst this;rfl
   have hcv:=h2 0 _ cv rfl rfl
   generalize hcve:cv=cv0 at hcv
   cases hcv with
   |ptr hm=>
   rename_i pb plen pver
   subst hcve
   have hgs:=Gs.below ht.rel.2.1 e3 (S':=S) ⟨fun _ _ h=>h,fun _ _ h=> .inl h⟩
   have hlt1:∀b i,S b i→b<w1.heap.size:=fun b i hs=>Nat.lt_of_lt_of_le (ht.rel.slt b i hs) e3.size
   have htr:=hgs.tr hlt1
   have hrel1:Rel S X Ev.yl w1 m (s.tm.zip a.tmps.toList++cellPairs s.hp hv) s.hp hv:=by
     simpa using ht.rel.2.1.below e3 (fun _ _ h=>h) (fun _ _ h=> .inl h)
   have hrelL:Rel S X Ev.yl w1 m ((lowTm hp0.length s.tm).zip a.tmps.toList++cellPairs s.hp hv) s.hp hv:=Rel.lowered hp0.length hrel1
   have hnT:∀p∈(lowTm hp0.length s.tm).zip a.tmps.toList,RV S w1 (m.take hp0.length) Ev.yl p.1 p.2:=by
     intro p hp
     refine (hrelL.rv p (List.mem_append_left _ hp)).low ?_
     have:=(List.of_mem_zip hp).1
     simp only [lowTm,Zbd] at this
     obtain ⟨x,_,h3⟩:=this
     rw [←h3]
     split
     · assumption
     · rfl
   have hrelT:=hrelL.trunc hnT hlow
   have hp0t:s.hp.take hp0.length=hp0:=by rw [hs];simp
   rw [hp0t] at hrelT
   have hsl:s.hp.length=hp0.length+1:=by rw [hs];simp
   have hgb:s.hp[hp0.length]? =some blk:=by rw [hs];simp
   have hvn:hp0.length<hv.length:=by rw [hrel1.hl,hsl];omega
   obtain ⟨a1,a2,a3,a4,a5,a6,a9,a10⟩:=hrel1.bl hp0.length blk ⟨pb,plen,false,pver⟩ hv[hp0.length] hgb hm (by simp [hvn])
   have hpbl:pb<w1.heap.size:=by
     obtain ⟨cur,e,h3,_⟩:=a6
     exact (Zab.1 h3).1
   have hSn:∀i,¬S pb i∧¬X pb i:=a9 hfro
   have hl1w:l<w1.heap.size:=(Zab.1 e2).1
   obtain ⟨bs0,m1,m2,m3⟩:=ht.marks
   have hbs0:∀b∈bs0,b<w.heap.size:=fun b hb=>(Zab.1 (m3 b hb).2).1
   have hr0:∀l0,r=some l0→l0<w.heap.size:=fun l0 hl0=>by
     obtain ⟨rc,h3⟩:=ht.round l0 hl0
     exact (Zab.1 h3).1
   have hm0:(m.take hp0.length).length≤hp0.length:=by simp;omega
   have hbsN:∀b∈bs++bs0,b<w1.heap.size:=fun b hb=>(Zax.1 hb).elim (fun h=>(e6 b h).2.1) (fun h=>Nat.lt_of_lt_of_le (hbs0 b h) e3.size)
   have html:(lowTm hp0.length s.tm).length=a.tmps.size:=by simpa [lowTm] using ht.rel.1
   let Er:=rangeEnv Ev r S X V w (m.take hp0.length) (lowTm hp0.length s.tm) a [] hp0.length (bs++bs0) l {state:= .ready,pending:=none,fn,tmps:=a.tmps,params:=ps,assign,body,defers:=D} w1.heap.size html rfl
     (Nat.le_trans ht.base.1 ht.base.2) e4 hm0 hl1w hbsN (fun l0 hl0=>Nat.lt_of_lt_of_le (hr0 l0 hl0) e3.size)
   have hrelB:Rel S (fun b _=>b<w1.heap.size∧b≠pb) (some l) w1 [⟨pb,plen,false,pver⟩] (([AV.yl,AV.ptr 0 0]).zip [Value.func (.yield l) #[] #[],Value.pointer (some ⟨pb,0,none⟩)]++([]++cellPairs [blk] [hv[hp0.length]])) [blk] [hv[hp0.length]]:=by
     have hcp:∀p∈cellPairs [blk] [hv[hp0.length]],RV S w1 [⟨pb,plen,false,pver⟩] (some l) p.1 p.2∧ownB p=none:=by
       intro p hp
       simp only [cellPairs,List.zip_cons_cons,List.zip_nil_right,List.flatMap_cons,List.flatMap_nil,List.append_nil] at hp
       have hpm:p∈cellPairs s.hp hv:=by
         simp only [cellPairs,List.mem_flatMap]
         refine ⟨(blk,hv[hp0.length]),Zaj.2 ⟨hp0.length, ?_⟩,hp⟩
         rw [List.getElem?_zip_eq_some];exact ⟨hgb,by simp [hvn]⟩
       have hc1:=(List.of_mem_zip hp).1
       obtain ⟨j,hj⟩:=Zaj.1 hc1
       refine ⟨((hrel1.rv p (List.mem_append_right _ hpm)).closed (closeds_get hcl j _ hj)).opened, ?_⟩
       have h3:(blk.cells.map Zcf)[j]? =some p.1.view:=by simp [hj]
       rw [hvw,hj] at h3
       obtain ⟨p1,p2⟩:=p
       simp only [Option.some.injEq] at h3
       rw [h3];exact ownB_view _ _
     have h0:Rel S (fun b _=>b<w1.heap.size∧b≠pb) (some l) w1 [⟨pb,plen,false,pver⟩] [] [blk] [hv[hp0.length]]:=by
       refine ⟨fun b i h=>h.elim (hlt1 b i) (fun h=>h.1),by simp,List.Pairwise.nil,by simp,by simp,by simp,rfl,rfl,fun g blk' p vs q1 q2 q3=> ?_,hrel1.gl⟩
       cases g with
       |succ g=>simp at q1
       | zero=>
         simp only [List.getElem?_cons_zero,Option.some.injEq] at q1 q2 q3
         subst q1 q2 q3
         exact ⟨a1,a2,a3,a4,a5,a6,fun _ i=>⟨(hSn i).1,fun h=>h.2 rfl⟩,fun hf=>by rw [hfro] at hf;cases hf⟩
     have h3:=h0.pushAll _ hcp
     have h4:=h3.pushAll [(AV.yl,Value.func (.yield l) #[] #[]),(AV.ptr 0 0,Value.pointer (some ⟨pb,0,none⟩))] (by
       intro p hp
       simp only [Zce,List.not_mem_nil,or_false] at hp
       rcases hp with rfl|rfl
       · exact ⟨.yl rfl,rfl⟩
       · exact ⟨.ptr (len:=plen) (ver:=pver) rfl,rfl⟩)
     simpa using h4
   have hE:Er.E (hp0,s.b,none) S (fun b _=>b<w1.heap.size∧b≠pb) w1:=by
     refine ⟨X,V,m.take hp0.length,hv.take hp0.length,rfl,by simpa using hrelT,ht.sub,Ev.stable ht.env (htr.mono (fun b i hx hv=>hx (ht.sub b i hv)) (fun _ h=>h)),MStep.refl _,ht.round.tr htr,fun b hb=> ?_,fun c hc i=> ?_,fun b i hv=> ?_,fun b i h=>h.1,fun b i hx=>⟨hrel1.lt b i (.inr hx),fun he=>(hSn i).2 (he▸hx)⟩,e2,hgs.went hlt1⟩
     · rcases Zax.1 hb with h3|h3
       · exact (e6 b h3).2.2
       · rw [e3.block b (hbs0 b h3)];exact (m3 b h3).2
     · have hc':Owned hp0 (m.take hp0.length) ((lowTm hp0.length s.tm).zip a.tmps.toList++cellPairs hp0 (hv.take hp0.length)) c:=by simpa using hc
       refine ⟨hrelT.ownedLt hc', ?_⟩
       rintro rfl
       rcases hc' with ⟨g,blk',p,q1,q2,q3,q4⟩|⟨p,q1,q2⟩
       · have hgl:g<hp0.length:=(Zaa.1 q1).1
         have q5:m[g]? =some p:=by rw [Zak,if_pos hgl] at q2;exact q2
         have hnd:=hrel1.mnd
         have q6:(m.map (·.b))[g]? =some c:=by simp [q5,q4]
         have q7:(m.map (·.b))[hp0.length]? =some c:=by simp [hm]
         have:=(List.getElem?_inj (by simp;exact (Zaa.1 q5).1) hnd).1 (q6.trans q7.symm)
         omega
       · have q3:p∈(lowTm hp0.length s.tm).zip a.tmps.toList++cellPairs s.hp hv:=by
           rcases Zax.1 q1 with q3|q3
           · exact List.mem_append_left _ q3
           · refine List.mem_append_right _ ?_
             simp only [cellPairs,List.mem_flatMap] at q3 ⊢
             obtain ⟨q,q4,q5⟩:=q3
             refine ⟨q, ?_,q5⟩
             have q6:hp0.zip (hv.take hp0.length)=(s.hp.zip hv).take hp0.length:=by
               have q7:(s.hp.zip hv).take hp0.length=(s.hp.take hp0.length).zip (hv.take hp0.length):=by simp [List.zip,List.take_zipWith]
               rw [q7,hp0t]
             rw [q6] at q4
             exact List.mem_of_mem_take q4
         exact hrelL.nm p q3 c q2 _ (Zcu hm) rfl
     · have:=ht.sub b i hv
       exact ⟨hrel1.lt b i (.inr this),fun he=>(hSn i).2 (he▸this)⟩
   have hcalls:=hI.2 Er (hp0,s.b,none) (rangeQ (lowTm hp0.length s.tm) Q) h S _ (fun b _=>b<w1.heap.size∧b≠pb) w1 _ _ [Value.func (.yield l) #[] #[],Value.pointer (some ⟨pb,0,none⟩)] rfl hrelB (fun _ _ h=>h) hE (Nat.le_refl _)
   refine ⟨l,bs.map fun b=> {target:= .collected b,args:=#[]},w1, {target:= .fn (.func k) #[Value.pointer (some ⟨pb,0,none⟩)],args:=#[]++#[Value.func (.yield l) #[] #[]]},w1,k,#[]++#[Value.func (.yield l) #[] #[]]++#[Value.pointer (some ⟨pb,0,none⟩)],w1,e1, ?_,fun _ _=>trivial, ?_,fun hd=>(by cases hd), ?_⟩
   · have hm:Array.map a.eval #[Operand.const (Value.func (Fn.yield l) #[] #[])]=#[a.eval (Operand.const (Value.func (Fn.yield l) #[] #[]))]:=by simp
     simp only [resolve,hfe,Deferred.ofValue,hm];rfl
   · simp only [invoke];exact hI.1 _ _
   · refine (CallsIn.mono hcalls ?_:CallsIn Fence.wide 0 P k _ w1 _)
     rintro e w3 ⟨v,⟨hpE,bE,stE⟩,S',V',rfl,hQ,hE'⟩
     obtain ⟨Xc,Vc,mC,hvC,g0,g1,g2,g3,g4,g5,g6,g7,g8,g9,gXV,g10,g11⟩:=hE'
     simp only at g0 g1 g3 g10
     refine ⟨_,_,run_endLoop g10 (by cases stE<;>simp), ?_⟩
     have hlN:Ev.N≤l:=Nat.le_trans (Nat.le_trans ht.base.1 ht.base.2) e4
     have hbeh:∀e,Q e ⟨lowTm hp0.length s.tm,hpE,bE⟩→Beh0 Ev lo r S X V w Q e {a with defers:=(bs.map fun b=> {target:= .collected b,args:=#[]})++a.defers}
         (w3.putObj l (.loop {state:= .exhausted,pending:=stE.map codeOf,fn,tmps:=a.tmps,params:=ps,assign,body,defers:=D})):=by
       intro e hQe
       refine ⟨⟨lowTm hp0.length s.tm,hpE,bE⟩,S',Xc,Vc,mC,hvC,hQe,g11.putObj e4 g10,⟨⟨html, ?_,by intro p hp;cases hp⟩,g2,Ev.stableO _ g3 hlN g10 rfl rfl,fun l0 hl0=> ?_, ?_,ht.base.1, ?_⟩⟩
       · simpa using g1.putObj (o':= .loop {state:= .exhausted,pending:=stE.map codeOf,fn,tmps:=a.tmps,params:=ps,assign,body,defers:=D}) g10 rfl
       · obtain ⟨rc,h3⟩:=g5 l0 hl0
         exact ⟨rc,putObj_other h3 (by have:=hr0 l0 hl0;omega)⟩
       · refine ⟨bs++bs0,by simp [m1], ?_,fun b hb=>⟨?_,putObj_other (g6 b hb) ?_⟩⟩
         · rw [List.nodup_append]
           refine ⟨e5,m2,fun x hx y hy hxy=> ?_⟩
           have:=(e6 x hx).1;have:=hbs0 y hy;omega
         · rcases Zax.1 hb with h3|h3
           · exact Nat.le_trans ht.base.2 (e6 b h3).1
           · exact (m3 b h3).1
         · rintro rfl
           have:=g6 _ hb
           rw [g10] at this;cases this
       · simpa using Nat.le_trans ht.base.2 g11.tr.size
     cases stE with
     |none=>exact hbeh .normal hQ
     | some e=>
       cases e with
       |exit id=>exact wpIn_exit (hbeh (.exit id) hQ)
       |goto t=>exact wpIn_goto (hbeh (.goto t) hQ)
       |ret=>exact wpIn_ret (hbeh .ret hQ)
       |normal=>exact wpIn_ret (hbeh .ret hQ)
       |panic ch=>exact wpIn_ret (hbeh .ret hQ)
       |outgrown=>exact wpIn_ret (hbeh .ret hQ)
theorem ICallB.ofW {f:Nat} {fn:Func} {args:List AV} {blk:Blk} {Sp:SpT} (hf:P.funcs[f]? =some fn) (hb:fn.body=some c) (hn:(fn.name== "runtime.NumGoroutine")=false)
   (hW:∀(Ev:Env P) (b:Ev.β) (Q:Ev.β→Prop),Sp Ev.Y b Q→W Ev c ⟨startTm fn args, [blk],b⟩ (FnPost P fn fun _ _ b'=>Q b')):ICallB P f args blk Sp:=by
 refine ⟨enter_ok hf hb hn,fun Ev b Q hSp S X V w m hv vs hl hrel hV hE hN=> ?_⟩
 refine calls_of_W (Ev:=Ev) (V:=V) (B:= []) hf hb hl (hW Ev b Q hSp) hrel hV hE hN ?_
 intro y S' X' V' w' m' hv' hp' v b' hq _ _ _ _ hE' _
 exact ⟨v,b',S',V',rfl,hq,hE'⟩
theorem calls_of_W0 {f:Nat} {fn:Func} {c:Code} {args:List AV} {vs:List Value} {b:Ev.β} {R:AV→List Blk→Ev.β→Prop} {RR:Ending→World→Prop} (hf:P.funcs[f]? =some fn) (hb:fn.body=some c) (hl:args.length=vs.length)
   (hW:W0 Ev c ⟨startTm fn args,hp,b⟩ (FnPost P fn R)) (hr:Rel S X Ev.yl w m (args.zip vs++([]++cellPairs hp hv)) hp hv) (hV:∀b i,V b i→X b i) (hE:Ev.E b S V w) (hN:Ev.N≤w.heap.size)
   (hR:∀ {x S' X' V' w' m' hv' hp' v b'},R x hp' b'→Tr (fun b i=>¬X b i∨V b i) Ev.L S w S' w'→(∀b i,X b i→X' b i)→Rel S' X' Ev.yl w' m' ([]++cellPairs hp' hv') hp' hv'→Ev.E b' S' V' w'→RV S' w' m' Ev.yl x v→RR (.returned v) w'):
   CallsIn Fence.wide 0 P f vs.toArray w RR:=by
 refine callsIn_of_wp_marks (F:=Fn none) hf hb trivial ?_
 obtain ⟨h1,h2⟩:=start_rel (fn:=fn) rfl hl hr
 refine wpIn_mono (hW w.heap.size none S X V w m hv _ ⟨⟨h1,h2,by intro p hp;cases hp⟩,hV,hE,(fun l hl=>by cases hl),⟨[],rfl,List.nodup_nil,by simp⟩,hN,Nat.le_refl _⟩) fun e a' w' ⟨s',S',X',V',m',hv',hq,hm,ht⟩=> ?_
 obtain ⟨he,ys,hys,hRy⟩:=hq
 have hleave:LeavesInM (Fn none) 0 P fn a'.tmps RR a'.defers .returning w':=by
   refine leaves_of (lo:=w.heap.size) (K:=fun w'=>RelS S' X' Ev.yl w' m' [] hv' s'.rs a'∧Ev.E s'.b S' V' w'∧Tr (fun b i=>¬X b i∨V b i) Ev.L S w S' w') (fun w' d ⟨k1,k2,k3⟩ hd hdef=> ?_) (fun w' ⟨k1,k2,k3⟩=> ?_) ht.marks ⟨ht.rel,ht.env,hm.tr⟩
   · exact ⟨⟨k1.1,k1.2.1.putObj hdef rfl,k1.2.2⟩,Ev.stableO _ k2 (Nat.le_trans hN hd) hdef rfl rfl,k3.putObj hd hdef⟩
   · obtain ⟨v,h3,h4⟩:=results_sound (P:=P) (fn:=fn) k1 hys
     exact ⟨v,h3,hR hRy k3 hm.xs (k1.2.1.sub (List.sublist_append_right _ _)) k2 h4⟩
 rcases he with rfl|rfl
 · exact hleave
 · exact hleave
theorem PCall.ofW0 {x0:Dv} {f:Nat} {fn:Func} {c:Code} {args:List AV} {x:AV} (hf:P.funcs[f]? =some fn) (hb:fn.body=some c) (hn:(fn.name== "runtime.NumGoroutine")=false) (hargs:args.map Zcf=args)
   (hW:∀(Ev:Env P) (b:Ev.β),W0 Ev c ⟨startTm fn args, [],b⟩ (FnPost P fn fun y hp _=>y= .d x0∧x= .d x0)):PCall P f args x:=by
 refine ⟨enter_ok hf hb hn,fun S w vs hl hvs hlt hgl=> ?_⟩
 have hrel:Rel S (fun b _=>b<w.heap.size) none w [] (args.zip vs++([]++cellPairs [] [])) [] []:=by
   have h0:Rel S (fun b _=>b<w.heap.size) none w [] [] [] []:=⟨fun b i h=>h.elim (hlt b i) id,by simp,List.Pairwise.nil,by simp,by simp,by simp,rfl,rfl,by simp,hgl⟩
   have:=h0.pushAll (args.zip vs) (fun p hp=>by
     obtain ⟨j,hj⟩:=Zaj.1 hp
     rw [List.getElem?_zip_eq_some] at hj
     refine ⟨hvs j p.1 p.2 hj.1 hj.2, ?_⟩
     have hp1:p.1.view=p.1:=by
       have h1:(args.map Zcf)[j]? =some p.1.view:=by simp [hj.1]
       rw [hargs,hj.1] at h1;exact (Option.some.inj h1).symm
     obtain ⟨p1,p2⟩:=p
     simp only at hp1
     rw [←hp1];exact ownB_view _ _)
   simpa [cellPairs] using this
 refine calls_of_W0 (Ev:=Env.none P none) (V:=fun _ _=>False) (b:=(():Unit)) hf hb hl (hW (Env.none P _) (():Unit)) hrel (fun _ _ h=>h.elim) trivial (Nat.zero_le _) ?_
 intro y S' X' V' w' m' hv' hp' v b' hy htr0 hxs hr _ hyv
 obtain ⟨rfl,rfl⟩:=hy
 have htr:Tr (fun b i=>¬b<w.heap.size) (fun _=>False) S w S' w':=htr0.mono (fun b i h=>h.resolve_right id) (fun _ h=>h)
 refine ⟨v,S',rfl,below_of_tr htr (fun b i hb hz=>hz hb) (fun _ h=>h),fun b i hs=>htr.up b i hs,fun b i hs=> ?_, ?_⟩
 · rcases htr.new b i hs with h1|h1|h1
   · exact .inl h1
   · exact .inr ⟨Nat.le_of_not_lt h1,htr.lt b i hs⟩
   · exact .inr ⟨h1,htr.lt b i hs⟩
 · cases hyv with
   |d h=>exact .d h
end
inductive LeV:AV→AV→Prop
 |rfl {x:AV}:LeV x x
 |bad {x:AV}:LeV x .bad
 |nil {x:AV} {k:Nat} (h:isNilSlice x=true):LeV x (.d (.sl k []))
 |full {k:Nat} {xs:List (List Dv)}:LeV (.full k xs) (.d (.sl k xs))
 |agg {xs ys:List AV} (hl:xs.length=ys.length) (h:∀(i:Nat) (x y:AV),xs[i]? =some x→ys[i]? =some y→LeV x y):LeV (.agg xs) (.agg ys)
 |tup {xs ys:List AV} (hl:xs.length=ys.length) (h:∀(i:Nat) (x y:AV),xs[i]? =some x→ys[i]? =some y→LeV x y):LeV (.tup xs) (.tup ys)
inductive LeVs:List AV→List AV→Prop
 |nil:LeVs [] []
 |cons {x y:AV} {xs ys:List AV} (h:LeV x y) (hs:LeVs xs ys):LeVs (x::xs) (y::ys)
theorem LeVs.len {xs ys:List AV} (h:LeVs xs ys):xs.length=ys.length:=by
 induction h with
 |nil=>rfl
 |cons _ _ ih=>simp [ih]
theorem LeVs.at {xs ys:List AV} (h:LeVs xs ys):∀(i:Nat) (x y:AV),xs[i]? =some x→ys[i]? =some y→LeV x y:=by
 induction h with
 |nil=>intro i x y h;simp at h
 | cons h _ ih=>
   intro i x y h1 h2
   cases i with
   |zero=>simp at h1 h2;subst h1;subst h2;exact h
   |succ i=>exact ih i x y (by simpa using h1) (by simpa using h2)
theorem LeV.rv {S:Pr} {w:World} {m:List MB} {yv:Option Nat} {x y:AV} (h:LeV x y):∀ {v:Value},RV S w m yv x v→RV S w m yv y v:=by
 induction h with
 |rfl=>exact fun h=>h
 |bad=>exact fun _=> .bad
 |nil h=>exact fun hr=>(LeA.nilSl h).rv hr
 |full=>exact fun hr=>(LeX.full _ _).rv hr
 | agg hl h ih=>
   intro v hr
   cases hr with
   | agg hl' hr=>
     refine .agg (hl.symm.trans hl') fun i c v h1 h2=> ?_
     have hi:=(Zaa.1 h1).1
     exact ih i _ c (List.getElem?_eq_getElem (by omega)) h1 (hr i _ v (List.getElem?_eq_getElem (by omega)) h2)
 | tup hl h ih=>
   intro v hr
   cases hr with
   | tup hl' hr=>
     refine .tup (hl.symm.trans hl') fun i c v h1 h2=> ?_
     have hi:=(Zaa.1 h1).1
     exact ih i _ c (List.getElem?_eq_getElem (by omega)) h1 (hr i _ v (List.getElem?_eq_getElem (by omega)) h2)
section
variable {P:Program}
theorem PCall.leArgsV {f:Nat} {args args':List AV} {x:AV} (h:LeVs args args') (hp:PCall P f args' x):PCall P f args x:=by
 refine ⟨hp.1,fun S w vs hl hvs hlt hgl=>hp.2 S w vs (h.len▸hl) (fun i y v h1 h2=> ?_) hlt hgl⟩
 have hi:=(Zaa.1 h1).1
 have hi':i<args.length:=h.len▸hi
 exact (h.at i _ y (List.getElem?_eq_getElem hi') h1).rv (hvs i _ v (List.getElem?_eq_getElem hi') h2)
end
section
end
end Go.Proofs.YtlnenbbmhidjeaaDoor.Am
namespace Go.Proofs.YtlnenbbmhidjeaaDoor.Am
open Go Go.RowKit Go.Proofs
open AV renaming view → Zcf
open _root_.Array renaming getElem?_eq_some_iff → Zab
open Bool renaming and_eq_true → Zag
open Go.IntKind renaming wrap → Zad
open List renaming all_eq_true → Zau, getElem?_eq_some_iff → Zaa, getElem?_take → Zak, mem_append → Zax, mem_cons → Zce, mem_iff_getElem? → Zaj, mem_map → Zbd, mem_of_getElem? → Zcu, replicate → Zap
open Nat renaming eq_of_beq_eq_true → Zbk
open Option renaming map_eq_some_iff → Zac
open AV (bad)
set_option linter.unusedVariables false
def bytesR (b:List Int):List (List Dv):=b.map fun x=> [u8 x]
theorem wrap_i64 {x:Int} (h0: -9223372036854775808≤x) (h1:x<9223372036854775808):Zad .i64 x=x:=by
 simp only [Zad];simp [IntKind.signed,IntKind.bits];omega
theorem wrap_u64_range (x:Int):0≤Zad .u64 x∧Zad .u64 x<18446744073709551616:=by
 simp only [Zad];simp [IntKind.signed,IntKind.bits];omega
theorem wrap_succ {n k:Nat} (h:k<n) (hn:n≤9223372036854775807):Zad .i64 ((k:Int)+1)=((k+1:Nat):Int):=by
 rw [wrap_i64 (by omega) (by omega)];simp
theorem drop_cons {α:Type} {l rest:List α} {r:α} {k:Nat} (hd:l.drop k=r::rest):k<l.length∧l[k]? =some r∧l.drop (k+1)=rest:=by
 refine ⟨?_, ?_, ?_⟩
 · rcases Nat.lt_or_ge k l.length with h|h
   · exact h
   · rw [List.drop_eq_nil_of_le h] at hd;cases hd
 · have:=congrArg (fun x=>x[0]?) hd
   simpa using this
 · have:=congrArg List.tail hd
   simpa using this
theorem drop_nil {α:Type} {l:List α} {k:Nat} (hd:l.drop k= []):l.length≤k:=List.drop_eq_nil_iff.1 hd
theorem bif_f {t:Bool} {A B:Prop} (h:BIf t A B) (ht:t=false):B:=by subst ht;exact h
theorem bif_t {t:Bool} {A B:Prop} (h:BIf t A B) (ht:t=true):A:=by subst ht;exact h
theorem LeL.at {x y:AV} (pre post:List AV) (h:LeA x y):LeL (pre++x::post) (pre++y::post):=by
 induction pre with
 |nil=>exact .cons h (LeL.refl _)
 |cons a pre ih=>exact .cons .rfl ih
end Go.Proofs.YtlnenbbmhidjeaaDoor.Am
namespace Go.Proofs.YtlnenbbmhidjeaaDoor.Am
open Go Go.RowKit
open AV renaming view → Zcf
open _root_.Array renaming getElem?_eq_some_iff → Zab
open Bool renaming and_eq_true → Zag
open Go.IntKind renaming wrap → Zad
open List renaming all_eq_true → Zau, getElem?_eq_some_iff → Zaa, getElem?_take → Zak, mem_append → Zax, mem_cons → Zce, mem_iff_getElem? → Zaj, mem_map → Zbd, mem_of_getElem? → Zcu, replicate → Zap
open Nat renaming eq_of_beq_eq_true → Zbk
open Option renaming map_eq_some_iff → Zac
open AV (bad)
set_option linter.unusedVariables false
inductive LeF:AV→AV→Prop
 |v {x y:AV} (h:LeV x y):LeF x y
 |nilFull {x:AV} {k:Nat} (h:isNilSlice x=true):LeF x (.full k [])
theorem LeF.rfl {x:AV}:LeF x x:= .v .rfl
section
variable {P:Program} {S S' T V:Pr} {yv:Option Nat} {w w':World} {m m':List MB} {hp hp' hp1:List Blk} {hv':List (List Value)}
theorem LeF.rv {x y:AV} {v:Value} (h:LeF x y) (hr:RV S w m yv x v):RV S w m yv y v:=by
 cases h with
 |v h=>exact h.rv hr
 | nilFull h=>
   have:=isNilSlice_spec h hr
   subst this
   exact RV.full (xs:= []) (.nil _)
theorem FCall.ofWF {f:Nat} {fn:Func} {c:Code} {args:List AV} {x:AV} (hf:P.funcs[f]? =some fn) (hb:fn.body=some c) (hn:(fn.name== "runtime.NumGoroutine")=false) (hargs:args.map Zcf=args) (hfro:hp1.all (fun b=> !b.fro)=true)
   (hW:∀(Ev:Env P) (b:Ev.β),W Ev c ⟨startTm fn args, [],b⟩ (FnPost P fn fun y hp _=>LeF y x∧hp=hp1)):FCall P f args x hp1:=by
 refine ⟨enter_ok hf hb hn,fun S w vs hl hvs hlt hgl=> ?_⟩
 have hrel:Rel S (fun b _=>b<w.heap.size) none w [] (args.zip vs++([]++cellPairs [] [])) [] []:=by
   have h0:Rel S (fun b _=>b<w.heap.size) none w [] [] [] []:=⟨fun b i h=>h.elim (hlt b i) id,by simp,List.Pairwise.nil,by simp,by simp,by simp,rfl,rfl,by simp,hgl⟩
   have:=h0.pushAll (args.zip vs) (fun p hp=>by
     obtain ⟨j,hj⟩:=Zaj.1 hp
     rw [List.getElem?_zip_eq_some] at hj
     refine ⟨hvs j p.1 p.2 hj.1 hj.2, ?_⟩
     have hp1:p.1.view=p.1:=by
       have h1:(args.map Zcf)[j]? =some p.1.view:=by simp [hj.1]
       rw [hargs,hj.1] at h1;exact (Option.some.inj h1).symm
     obtain ⟨p1,p2⟩:=p
     simp only at hp1
     rw [←hp1];exact ownB_view _ _)
   simpa [cellPairs] using this
 refine calls_of_W (Ev:=Env.none P none) (V:=fun _ _=>False) (b:=(():Unit)) hf hb hl (hW (Env.none P _) (():Unit)) hrel (fun _ _ h=>h.elim) trivial (Nat.zero_le _) ?_
 intro y S' X' V' w' m' hv' hp' v b' hy htr0 hxs hm hr _ hyv
 obtain ⟨hle,rfl⟩:=hy
 have htr:Tr (fun b i=>¬b<w.heap.size) (fun _=>False) S w S' w':=htr0.mono (fun b i h=>h.resolve_right id) (fun _ h=>h)
 have hr':Rel S' X' none w' m' (cellPairs hp' hv') hp' hv':=by
   have h0:=hr
   simp only [List.nil_append] at h0
   exact h0
 refine ⟨v,S',m',hv',rfl,below_of_tr htr (fun b i hb hz=>hz hb) (fun _ h=>h),htr.up,fun b i hs=> ?_,fun p hp=> ?_,(hr'.lessX hxs).cons (hle.rv hyv).view (ownB_view _ _)⟩
 · rcases htr.new b i hs with h1|h1|h1
   · exact .inl h1
   · exact .inr ⟨Nat.le_of_not_lt h1,htr.lt b i hs⟩
   · exact .inr ⟨h1,htr.lt b i hs⟩
 · obtain ⟨g,hg⟩:=Zaj.1 hp
   have hr2:Rel S' X' none w' m' (([]:List (AV×Value))++cellPairs hp' hv') hp' hv':=hr'
   obtain ⟨blk,us,cur,e,g1,g2,g3,g4,g5,g6,g7,g8,g9,g10,g11,g12⟩:=hr2.block hg
   have hfr:blk.fro=false:=by
     have:=Zau.1 hfro blk (Zcu g1)
     simpa using this
   exact Nat.le_of_not_lt fun hb=>(g11 hfr 0).2 (hxs _ _ hb)
theorem FCall.ofFnF {f n:Nat} {fn:Func} {args:List AV} {x:AV} {hp1:List Blk} {T:List (Nat×(List AV→(AV→Prop)→Prop))} {U:List (Nat×(List AV→List Blk→(AV→List Blk→Prop)→Prop))} {u:Bool} (wl:∀β:Type,WLT β) (hm:P.follows .mixedOrders=true)
   (hT:CallsOk P T) (hS:SCallsOk P U) (hwl:∀Ev:Env P,∀c tm hp b K,wl Ev.β c tm hp b K→W Ev c ⟨tm,hp,b⟩ (fun e s=>K e s.tm s.hp s.b)) (hf:P.funcs[f]? =some fn) (hn:(fn.name== "runtime.NumGoroutine")=false) (hargs:args.map Zcf=args) (hfro:hp1.all (fun b=> !b.fro)=true)
   (h:∀(Ev:Env P) (b:Ev.β),wpFnS P ⟨T,U,wl Ev.β,Ev.Y,u⟩ n fn args b fun y hp _=>LeF y x∧hp=hp1):FCall P f args x hp1:=by
 cases hb:fn.body with
 | none=>
   have:=h (Env.none P none) (():Unit)
   simp only [wpFnS,hb] at this
 | some c=>
   refine FCall.ofWF hf hb hn hargs hfro fun Ev b=> ?_
   have h1:=h Ev b
   simp only [wpFnS,hb] at h1
   exact wpc_sound hm (CX.Ok.ofWl hT hS (hwl Ev)) h1 fun e tm hp b hK=>fnKS_sound hK
theorem SCallsOk.cons {P:Program} {k:Nat} {f:List AV→List Blk→(AV→List Blk→Prop)→Prop} {T:List (Nat×(List AV→List Blk→(AV→List Blk→Prop)→Prop))} (h:∀args hp K,f args hp K→∃x hp',SCall P k args hp x hp'∧K x hp') (hT:SCallsOk P T):SCallsOk P ((k,f)::T):=by
 intro j g hj
 simp only [List.lookup] at hj
 split at hj
 · rename_i he
   have:j=k:=by simpa using he
   subst this
   cases hj;exact h
 · exact hT j g hj
end
def blkG (cs:List AV) (v:Nat):Blk:=⟨cs,false,true,v⟩
def CloneF (P:Program) (f k:Nat):Prop:=∀xs:List (List Dv),xs.length≤1000000→FCall P f [.d (.sl k xs)] (if xs.isEmpty then .full k [] else .gref 0 0 xs.length k) (if xs.isEmpty then [] else [blkG (flatA xs) 0])
def plain1:AV→Bool
 | .d (.s _)=>true
 |_=>false
def plainA:AV→Bool
 | .d (.s _)=>true
 | .tup cs=>cs.all plain1
 |_=>false
section
variable {P:Program} {S S' X:Pr} {yv yv':Option Nat} {w w':World} {m m':List MB} {B:List (AV×Value)} {hp:List Blk} {hv:List (List Value)}
theorem RV.plain1 {x:AV} {v:Value} (hx:plain1 x=true) (h:RV S w m yv x v):RV S' w' m' yv' x v:=by
 cases h with
 | d h=>cases h with
   |s v=>exact .d (.s v)
   |sl=>cases hx
   |nil=>cases hx
   |pt=>cases hx
 |_=>cases hx
theorem RV.plain {x:AV} {v:Value} (hx:plainA x=true) (h:RV S w m yv x v):RV S' w' m' yv' x v:=by
 cases h with
 | d h=>cases h with
   |s v=>exact .d (.s v)
   |sl=>cases hx
   |nil=>cases hx
   |pt=>cases hx
 | tup hl h=>
   rename_i cs vs
   simp only [plainA,Zau] at hx
   exact .tup hl fun i c v h1 h2=>(h i c v h1 h2).plain1 (hx c (Zcu h1))
 |_=>cases hx
theorem ownB_plain {x:AV} {v:Value} (hx:plainA x=true):ownB (x,v)=none:=by
 cases x<;>first|rfl|cases hx
theorem view_plain {x:AV} (hx:plainA x=true):x.view=x:=by
 cases x<;>first|rfl|cases hx
theorem PCall.borrow {f:Nat} {args args':List AV} {r:AV} (h:PCall P f args' r) (hr:plainA r=true) (hl':args.length=args'.length)
   (hs:∀(i:Nat) (c y:AV),args[i]? =some c→args'[i]? =some y→SealR hp c y):SCall P f args hp r hp:=by
 refine ⟨h.1,fun S X yv w m B hv vs hl hrel=> ?_⟩
 have hr0:Rel S X yv w m (B++cellPairs hp hv) hp hv:=hrel.sub (List.sublist_append_right _ _)
 have hargs:∀(i:Nat) (x:AV) (v:Value),args'[i]? =some x→vs[i]? =some v→RV (withBlocks S m) w [] none x v:=by
   intro i x v h1 h2
   have hi:i<args.length:=by rw [hl'];exact (Zaa.1 h1).1
   have h3:args[i]? =some args[i]:=by simp [hi]
   have hm:(args[i],v)∈args.zip vs:=Zaj.2 ⟨i,by rw [List.getElem?_zip_eq_some];exact ⟨h3,h2⟩⟩
   exact sealR_sound (B:=B) hr0 (fun _ _ h=> .inl h) (hs i _ _ h3 h1) (fun g _ p hp i hi=> .inr ⟨g,p,hp,rfl,hi⟩) (hrel.rv _ (List.mem_append_left _ hm))
 have hlt:∀b i,withBlocks S m b i→b<w.heap.size:=by
   rintro b i (hb|⟨g,p,hg,rfl,hi⟩)
   · exact hrel.lt b i (.inl hb)
   · exact hrel.mLt p (Zcu hg)
 have hgl:Glob (withBlocks S m) w:=fun g j v hv=>by
   obtain ⟨h1,h2,h3⟩:=hrel.gl g j v hv
   exact ⟨.inl h1,h2,h3⟩
 refine CallsIn.mono (h.2 (withBlocks S m) w vs (by rw [←hl',hl]) hargs hlt hgl) ?_
 rintro e w' ⟨v,S',rfl,hb,h1,h2,h3⟩
 refine ⟨v,S,m,hv,rfl,Gs.below hrel hb ⟨fun _ _ h=>h,fun _ _ h=> .inl h⟩, ?_⟩
 rw [view_plain hr] at h3 ⊢
 exact (hr0.below hb (fun _ _ h=>h) (fun _ _ h=> .inl h)).cons (h3.plain hr) (ownB_plain hr)
end
theorem SCall.ofWp {P:Program} {f n:Nat} {fn:Func} {c:Code} {args:List AV} {x:AV} {hp hp':List Blk} {T:List (Nat×(List AV→(AV→Prop)→Prop))} {U:List (Nat×(List AV→List Blk→(AV→List Blk→Prop)→Prop))} {u:Bool} (hm:P.follows .mixedOrders=true)
   (hT:CallsOk P T) (hS:SCallsOk P U) (hf:P.funcs[f]? =some fn) (hb:fn.body=some c) (hn:(fn.name== "runtime.NumGoroutine")=false)
   (h:∀(Ev:Env P) (b:Ev.β),wpc P ⟨T,U,wlW Ev,Ev.Y,u⟩ n c (startTm fn args) hp b (fnKS P fn fun y hp1 _=>y=x∧hp1=hp')):SCall P f args hp x hp':=
 SCall.ofW hf hb hn fun Ev b=>wpc_sound hm (CX.Ok.of hT hS) (h Ev b) fun e tm hp b hK=>fnKS_sound hK
def lendC (c:List AV→(AV→Prop)→Prop) (args:List AV) (hp:List Blk) (K:AV→List Blk→Prop):Prop:=
 sealCs hp args fun args'=>c args' fun x=>BIf (plainA x) (K x hp) False
theorem lendC_ok {P:Program} {f:Nat} {c:List AV→(AV→Prop)→Prop} (hc:∀args K,c args K→∃x,PCall P f args x∧K x):
   ∀args hp K,lendC c args hp K→∃x hp',SCall P f args hp x hp'∧K x hp':=by
 intro args hp K h
 obtain ⟨ys,hl,hs,h1⟩:=sealCs_sound h
 obtain ⟨x,hx,h2⟩:=hc _ _ h1
 obtain ⟨hpl,hK⟩:=h2.elim'
 exact ⟨x,hp,hx.borrow hpl hl hs,hK⟩
open Go.Maps (Keyed)
open Go.WideElems (Fit rd rg pl)
open Go.ChangeMaps (setBlock)
abbrev MC:=List (Lit×AV)
structure MapC where
 b:Nat
 k:TypeId
 es:MC
def heldR (v:Value):Option (DataW Value×List MemPlace):=some (.held v, [])
inductive Ents (S:Pr) (w:World):MC→List (Lit×DataW Value)→Prop
 |nil:Ents S w [] []
 |cons {k:Lit} {x:AV} {v:Value} {es:MC} {L:List (Lit×DataW Value)} (h:RV S w [] none x v) (hc:x.closed=true) (hr:Ents S w es L):Ents S w ((k,x)::es) ((k, .held v)::L)
def insK (x:Lit×AV):MC→MC
 | []=> [x]
 |y::r=>if x.1.before y.1 then x::y::r else y::insK x r
def delK (k:Lit) (es:MC):MC:=es.filter fun p=> !p.1.sameKey k
def putK (k:Lit) (x:AV) (es:MC):MC:=insK (k,x) (delK k es)
def atK (k:Lit) (z:AV) (es:MC):AV:=match es.find? fun p=>p.1.sameKey k with|some p=>p.2|none=>z
def hasK (k:Lit) (es:MC):Bool:=es.any fun p=>p.1.sameKey k
section
variable {P:Program} {S S':Pr} {w w' w0:World} {es:MC} {L:List (Lit×DataW Value)}
theorem Ents.length (h:Ents S w es L):L.length=es.length:=by
 induction h with
 |nil=>rfl
 |cons _ _ _ ih=>simp [ih]
theorem Ents.mono (h:Ents S w es L) (hv:∀x v,RV S w [] none x v→RV S' w' [] none x v):Ents S' w' es L:=by
 induction h with
 |nil=>exact .nil
 |cons h hc _ ih=>exact .cons (hv _ _ h) hc ih
theorem Ents.ins (h:Ents S w es L) {k:Lit} {x:AV} {v:Value} (hx:RV S w [] none x v) (hc:x.closed=true):Ents S w (insK (k,x) es) (DataW.insert (k, .held v) L):=by
 induction h with
 |nil=>exact .cons hx hc .nil
 | cons h hc' hr ih=>
   simp only [insK,DataW.insert]
   split
   · exact .cons hx hc (.cons h hc' hr)
   · exact .cons h hc' ih
theorem Ents.del (h:Ents S w es L) (k:Lit):Ents S w (delK k es) (L.filter fun p=> !p.1.sameKey k):=by
 induction h with
 |nil=>exact .nil
 | cons h hc hr ih=>
   simp only [delK,List.filter_cons] at ih ⊢
   split
   · exact .cons h hc ih
   · exact ih
theorem Ents.at (h:Ents S w es L) (k:Lit) {z:AV} {zv:Value} (hz:RV S w [] none z zv):∃v,(DataW.map L).atKey k (.held zv)= .held v∧RV S w [] none (atK k z es) v:=by
 induction h with
 |nil=>exact ⟨zv,rfl,hz⟩
 | @cons k' x v es L h hc hr ih=>
   simp only [DataW.atKey,atK,List.find?_cons] at ih ⊢
   cases k'.sameKey k
   · exact ih
   · exact ⟨v,rfl,h⟩
theorem Ents.has (h:Ents S w es L) (k:Lit):Maps.has (DataW.map L) k=hasK k es:=by
 induction h with
 |nil=>rfl
 |cons h hc hr ih=>simp only [Maps.has,hasK,List.any_cons] at ih ⊢;rw [ih]
def MapIs (P:Program) (S:Pr) (w:World) (c:MapC):Prop:=∃L,w.ownsMap P c.k heldR c.b c.es.length (DataW.map L)∧Ents S w c.es L
theorem MapIs.obj {c:MapC} (h:MapIs P S w c):∃es cl,w.heap[c.b]? =some (Obj.map es cl):=by
 obtain ⟨L,⟨es,cl,h1,_⟩,_⟩:=h
 exact ⟨es,cl,h1⟩
theorem MapIs.lt {c:MapC} (h:MapIs P S w c):c.b<w.heap.size:=by
 obtain ⟨es,cl,h1⟩:=h.obj
 exact (Zab.1 h1).1
theorem MapIs.mono {c:MapC} (h:MapIs P S w c) (ho:∀es cl,w.heap[c.b]? =some (Obj.map es cl)→w'.heap[c.b]? =some (Obj.map es cl)) (hv:∀x v,RV S w [] none x v→RV S' w' [] none x v):MapIs P S' w' c:=by
 obtain ⟨L,⟨es,cl,h1,h2,h3,h4⟩,h5⟩:=h
 exact ⟨L,⟨es,cl,ho _ _ h1,h2,h3,h4⟩,h5.mono hv⟩
theorem ownsMap_tight {k:TypeId} {b n:Nat} (h:w.ownsMap P k heldR b n (DataW.map L)):w.ownsMap P k heldR b L.length (DataW.map L):=by
 obtain ⟨es,cl,h1,h2,h3,h4⟩:=h
 cases h4
 exact ⟨es,cl,h1,h2,by rw [Go.length_sorted];simp,rfl⟩
structure MapsE (P:Program) (N:Nat) (w0:World) (lent:List Nat) (β:List MapC) (S:Pr) (w:World):Prop where
 is:∀c∈β,MapIs P S w c
 nd:(β.map MapC.b).Nodup
 mine:∀c∈β,N≤c.b∨c.b∈lent
 kept:∀b o,b<N→b∉lent→mapObj o=true→w0.heap[b]? =some o→w.heap[b]? =some o
 lt:∀b i,S b i→b<w.heap.size
theorem MapsE.tr {N:Nat} {lent:List Nat} {β:List MapC} {Z:Pr} (h:MapsE P N w0 lent β S w) (ht:Tr Z (fun _=>False) S w S' w'):MapsE P N w0 lent β S' w':=by
 have ho:∀b o,mapObj o=true→w.heap[b]? =some o→w'.heap[b]? =some o:=fun b o hm h1=>(ht.objs b _ h1 (mapObj_cells hm)).resolve_right fun h=>h.elim (fun h=>h.1) fun h=>h.1
 exact ⟨fun c hc=>(h.is c hc).mono (fun es cl h=>ho c.b _ rfl h) fun x v hx=>hx.tr ht,h.nd,h.mine,fun b o h1 h2 hm h3=>ho b o hm (h.kept b o h1 h2 hm h3),ht.lt⟩
theorem RV.putObj {x:AV} {v:Value} {d:Nat} {o o':Obj} (h:RV S w [] none x v) (hd:w.heap[d]? =some o) (ho:o.isCells=false) (hS:∀b i,S b i→b<w.heap.size):RV S (w.putObj d o') [] none x v:=
 h.tr0 (Z:=fun _ _=>False) (tr0_putObj hd ho hS)
theorem MapsE.putObj {N:Nat} {lent:List Nat} {β:List MapC} (h:MapsE P N w0 lent β S w) {d:Nat} {o:Obj} (o':Obj) (hd:w.heap[d]? =some o) (ho:o.isCells=false) (hm:mapObj o=false):MapsE P N w0 lent β S (w.putObj d o'):=by
 have hk:∀b o1,mapObj o1=true→w.heap[b]? =some o1→(w.putObj d o').heap[b]? =some o1:=fun b o1 hm1 h1=>by
   have hne:b≠d:=by rintro rfl;rw [hd] at h1;cases h1;rw [hm] at hm1;cases hm1
   rw [World.putObj_heap_other hne];exact h1
 exact ⟨fun c hc=>(h.is c hc).mono (fun es cl h=>hk c.b _ rfl h) fun x v hx=>hx.putObj hd ho h.lt,h.nd,h.mine,fun b o1 h1 h2 hm1 h3=>hk b o1 hm1 (h.kept b o1 h1 h2 hm1 h3),fun b i h1=>by simpa using h.lt b i h1⟩
def Env.mapped (P:Program) (yl:Option Nat) (N:Nat) (w0:World) (lent:List Nat) {γ:Type} (f:γ→List MapC):Env P:=
 { β:=γ,N:=N,yl:=yl,L:=fun x=>x=0,E:=fun g S _ w=>MapsE P N w0 lent (f g) S w,Y:=fun _ _ _=>False,Llt:=fun h=>by omega,Ymono:=fun h _=>h,
   stable:=fun h ht=>h.tr ht,stableO:=fun o' h _ hd ho hm=>h.putObj o' hd ho hm,yok:=fun h=>h.elim}
end
section
variable {P:Program} {S X V:Pr} {w w' w0:World} {Ev:Env P} {lo:Nat} {r:Option Nat} {m:List MB} {B:List (AV×Value)} {hv:List (List Value)} {s:RS} {a:Act} {yl:Option Nat} {N:Nat} {lent:List Nat} {γ:Type} {f:γ→List MapC} {o:Oper}
theorem Tie.putQ {b:Ev.β} (h:Tie Ev lo r S X V w m B hv s b a) (d:Option Tmp) {x:AV} {v:Value} (hx:RV S w [] none x v):Tie Ev lo r S X V w m B hv {tm:=putA s.tm d x.view,hp:=s.hp,pv:=pvPut s.pv d} b (a.put d v):=
 ⟨⟨by rw [putA_length,put_size];exact h.rel.1,(h.rel.2.1.cons hx.opened.view (ownB_view _ _)).putTmp h.rel.1 d,pvPut_ok h.rel.2.2 d v⟩,h.sub,h.env,h.round,by rw [put_defers];exact h.marks,h.base⟩
theorem tr_putMap (hS:∀b i,S b i→b<w.heap.size) {d:Nat} {es es':Array MapEntry} {cl cl':Nat} (hd:w.heap[d]? =some (Obj.map es cl)):Tr X (fun x=>x=0) S w S (w.putObj d (.map es' cl')):=by
 have h:=tr0_putObj (Z:=X) (o':= .map es' cl') hd rfl hS
 refine ⟨rfl,rfl,rfl,h.size,h.cells,fun b o hb ho=> ?_,h.same,h.up,h.new,h.lt⟩
 by_cases hbd:b=d
 · subst hbd
   rw [hd] at hb;cases hb
   exact .inr (.inr ⟨rfl,_,World.putObj_heap_same (Zab.1 hd).1, .map es cl es' cl'⟩)
 · rw [World.putObj_heap_other hbd];exact .inl hb
theorem Tie.putMap {b b':γ} (h:Tie (Env.mapped P yl N w0 lent f) lo r S X V w m B hv s b a) {d:Nat} {es es':Array MapEntry} {cl cl':Nat} (hd:w.heap[d]? =some (Obj.map es cl))
   (hE:MapsE P N w0 lent (f b') S (w.putObj d (.map es' cl'))):Tie (Env.mapped P yl N w0 lent f) lo r S X V (w.putObj d (.map es' cl')) m B hv s b' a:=by
 refine ⟨⟨h.rel.1,h.rel.2.1.putObj hd rfl,h.rel.2.2⟩,h.sub,hE,fun l0 hl0=> ?_, ?_,h.base.1,by simpa using h.base.2⟩
 · obtain ⟨rc,h1⟩:=h.round l0 hl0
   exact ⟨rc,putObj_other h1 (by rintro rfl;rw [hd] at h1;cases h1)⟩
 · obtain ⟨bs,h1,h2,h3⟩:=h.marks
   refine ⟨bs,h1,h2,fun b hb=>⟨(h3 b hb).1,putObj_other (h3 b hb).2 ?_⟩⟩
   rintro rfl
   have h4:=(h3 _ hb).2
   rw [hd] at h4;cases h4
theorem lookup_env {g:γ} {c:MapC} {t e:TypeId} {mo xo:Operand} {ok:Bool} (hop:o.op= .lookup t mo xo ok) (hc:c∈f g) (hm:evalA s.tm mo= .d (.s (.map (some c.b)))) {key:Value} (hx:(evalA s.tm xo).toVal? =some key)
   (K:Keyed P c.k) (ht:P.underlying t=some (.map c.k e)) {kl:Lit} (hk:keyOf P c.k key=some kl) {z:AV} {zv:Value} (hz:∀w,(zeroValue e).run P w= .ok zv w) (hzv:∀S w,RV S w [] none z zv) (hzc:z.closed=true):
   EnvOk (Env.mapped P yl N w0 lent f) o s g fun s' g'=>s'= {tm:=putA s.tm o.dst (if ok then .tup [atK kl z c.es, .d (.s (.bool (hasK kl c.es)))] else atK kl z c.es).view,hp:=s.hp,pv:=pvPut s.pv o.dst}∧g'=g:=by
 intro lo r S X V w m B hv a K' Q h hK
 obtain ⟨Ld,hown,hent⟩:=h.env.is c hc
 have hev:=evalA_sound h.rel
 have hme:=toVal?_spec (x:=evalA s.tm mo) (by rw [hm];rfl) (hev mo)
 have hxe:=toVal?_spec hx (hev xo)
 obtain ⟨v,h1,h2⟩:=hent.at kl (hzv S w)
 have key':∃v,(Instr.lookup t (.map (some c.b)) key ok).run P w= .ok v w∧RV S w [] none (if ok then .tup [atK kl z c.es, .d (.s (.bool (hasK kl c.es)))] else atK kl z c.es) v:=by
   cases ok with
   | false=>
     obtain ⟨v',ps,h3,h4⟩:=hown.lookup K ht (hz w) (zd:= .held zv) (zp:= []) rfl hk
     rw [h1] at h4
     cases h4
     exact ⟨v,h3,h2⟩
   | true=>
     obtain ⟨v',ps,h3,h4⟩:=hown.look_ok K ht (hz w) (zd:= .held zv) (zp:= []) rfl hk
     rw [h1] at h4
     cases h4
     rw [hent.has] at h3
     refine ⟨_,h3, .tup rfl fun i c' v' h5 h6=> ?_⟩
     match i with
     |0=>simp at h5 h6;subst h5 h6;exact h2
     |1=>simp at h5 h6;subst h5 h6;exact .d (.s _)
     |i+2=>simp at h5
 obtain ⟨v,h3,h4⟩:=key'
 refine wpIn_value (w':=w) (v:=v) (nx:= .value v) (by rw [hop];intro _ h;cases h) ?_ (.inl rfl) ?_
 · unfold execOp
   simp only [hop,hme,hxe]
   simp [h3,Result.andThen]
 · exact hK _ _ ⟨rfl,rfl⟩ S X V w m hv _ (Went.refl h.rel.slt) (MStep.refl m) (h.putQ o.dst h4)
theorem MapsE.turned {l1 l2:List MapC} {c c':MapC} (h:MapsE P N w0 lent (l1++c::l2) S w) (hb:c'.b=c.b) {es es':Array MapEntry} {cl cl':Nat} (hd:w.heap[c.b]? =some (Obj.map es cl))
   (hc:MapIs P S (w.putObj c.b (.map es' cl')) c'):MapsE P N w0 lent (l1++c'::l2) S (w.putObj c.b (.map es' cl')):=by
 have hnd:=h.nd
 simp only [List.map_append,List.map_cons,List.nodup_append,List.nodup_cons,Zbd,Zce] at hnd
 obtain ⟨n1,⟨n2,n3⟩,n4⟩:=hnd
 have ho:∀c1∈l1++c::l2,c1.b≠c.b→MapIs P S (w.putObj c.b (.map es' cl')) c1:=fun c1 h1 h2=>
   (h.is c1 h1).mono (fun es cl h3=>by rw [World.putObj_heap_other h2];exact h3) fun x v hx=>hx.putObj hd rfl h.lt
 refine ⟨fun c1 h1=> ?_, ?_,fun c1 h1=> ?_,fun b o1 h1 h2 hm1 h3=> ?_,fun b i h1=>by simpa using h.lt b i h1⟩
 · simp only [Zax,Zce] at h1
   rcases h1 with h1|rfl|h1
   · exact ho c1 (by simp [h1]) fun h2=>n4 c1.b ⟨c1,h1,rfl⟩ c.b (.inl rfl) h2
   · exact hc
   · exact ho c1 (by simp [h1]) fun h2=>n2 ⟨c1,h1,h2⟩
 · have:=h.nd
   simpa [hb] using this
 · simp only [Zax,Zce] at h1
   rcases h1 with h1|rfl|h1
   · exact h.mine c1 (by simp [h1])
   · rw [hb];exact h.mine c (by simp)
   · exact h.mine c1 (by simp [h1])
 · have hne:b≠c.b:=by
     rintro rfl
     rcases h.mine c (by simp) with h4|h4
     · omega
     · exact h2 h4
   rw [World.putObj_heap_other hne];exact h.kept b o1 h1 h2 hm1 h3
theorem mapUpdate_env {g g':γ} {l1 l2:List MapC} {c:MapC} {t e:TypeId} {mo xo vo:Operand} (hop:o.op= .mapUpdate t mo xo vo) (hg:f g=l1++c::l2) (hm:evalA s.tm mo= .d (.s (.map (some c.b)))) {key:Value} (hx:(evalA s.tm xo).toVal? =some key)
   (K:Keyed P c.k) (ht:P.underlying t=some (.map c.k e)) {kl:Lit} (hk:keyOf P c.k key=some kl) (hn:c.es.length<maxLen) (hcl:(evalA s.tm vo).view.closed=true) (hg':f g'=l1++ {c with es:=putK kl (evalA s.tm vo).view c.es}::l2):
   EnvOk (Env.mapped P yl N w0 lent f) o s g fun s' g''=>s'= {tm:=putA s.tm o.dst (.d (.s undef)),hp:=s.hp,pv:=pvPut s.pv o.dst}∧g''=g':=by
 intro lo r S X V w m B hv a K' Q h hK
 have hE:MapsE P N w0 lent (l1++c::l2) S w:=hg▸h.env
 obtain ⟨Ld,hown,hent⟩:=hE.is c (by simp)
 have hev:=evalA_sound h.rel
 have hme:=toVal?_spec (x:=evalA s.tm mo) (by rw [hm];rfl) (hev mo)
 have hxe:=toVal?_spec hx (hev xo)
 have hve:RV S w [] none (evalA s.tm vo).view (a.eval vo):=(RV.view (hev vo)).closed hcl
 obtain ⟨w',hrun,hown',es,cl,es',cl',hd,rfl⟩:=hown.store K ht hn hk (val:=a.eval vo) (d:= .held (a.eval vo)) (ps:= []) rfl
 have hput:setBlock w c.b (.map es' cl')=w.putObj c.b (.map es' cl'):=rfl
 rw [hput] at hrun hown'
 have hmi:MapIs P S (w.putObj c.b (.map es' cl')) {c with es:=putK kl (evalA s.tm vo).view c.es}:=by
   have hent':Ents S (w.putObj c.b (.map es' cl')) (putK kl (evalA s.tm vo).view c.es) (DataW.insert (kl, .held (a.eval vo)) (Ld.filter fun p=> !p.1.sameKey kl)):=
     ((hent.del kl).ins hve hcl).mono fun x v hx=>hx.putObj hd rfl hE.lt
   refine ⟨_, ?_,hent'⟩
   have:=ownsMap_tight hown'
   rwa [hent'.length] at this
 have hE':MapsE P N w0 lent (f g') S (w.putObj c.b (.map es' cl')):=hg'▸hE.turned (c':= {c with es:=putK kl (evalA s.tm vo).view c.es}) rfl hd hmi
 refine wpIn_value (w':=w.putObj c.b (.map es' cl')) (v:=undef) (nx:= .skip) (by rw [hop];intro _ h;cases h) ?_ (.inr ⟨rfl,rfl⟩) ?_
 · unfold execOp
   simp only [hop,hme,hxe]
   simp [hrun,Result.andThen]
 · have hlt:=h.rel.slt
   have htr:Tr (fun b i=>¬X b i∨V b i) (fun x=>x=0) S w S (w.putObj c.b (.map es' cl')):=tr_putMap hlt hd
   exact hK _ _ ⟨rfl,rfl⟩ S X V _ m hv _ ⟨htr,fun _ _ h=>h,fun _ _ h=> .inl h⟩ (MStep.refl m) ((h.putMap hd hE').putQ o.dst (x:= .d (.s undef)) (.d (.s _)))
theorem makeMap_env {g:γ} {mk:Nat→γ} {t k:TypeId} (hop:o.op= .makeMap t none) (hmk:∀d,f (mk d)=⟨d,k, []⟩::f g):
   EnvOk (Env.mapped P yl N w0 lent f) o s g fun s' g'=>∃d,s'= {tm:=putA s.tm o.dst (.d (.s (.map (some d)))),hp:=s.hp,pv:=pvPut s.pv o.dst}∧g'=mk d:=by
 intro lo r S X V w m B hv a K' Q h hK
 have hb:Below w.heap.size w (w.alloc (.map #[] 0)):=(Below.refl _ _).alloc (Nat.le_refl _) _
 have hG:=Gs.below h.rel.2.1 hb ⟨fun _ _ h=>h,fun _ _ h=> .inl h⟩
 have hrel:=h.rel.2.1.below hb (fun _ _ h=>h) (fun _ _ h=> .inl h)
 have h1:Tie (Env.mapped P yl N w0 lent f) lo r S X V (w.alloc (.map #[] 0)) m B hv s g a:=h.step hG ⟨h.rel.1,hrel,h.rel.2.2⟩ rfl
 have hE:MapsE P N w0 lent (f g) S (w.alloc (.map #[] 0)):=h1.env
 have hE0:MapsE P N w0 lent (f g) S w:=h.env
 have hE':MapsE P N w0 lent (f (mk w.heap.size)) S (w.alloc (.map #[] 0)):=by
   rw [hmk]
   refine ⟨fun c hc=> ?_, ?_,fun c hc=> ?_,hE.kept,hE.lt⟩
   · simp only [Zce] at hc
     rcases hc with rfl|hc
     · exact ⟨[],World.ownsMap_made w P k heldR, .nil⟩
     · exact hE.is c hc
   · simp only [List.map_cons,List.nodup_cons,Zbd]
     refine ⟨fun ⟨c,h2,h3⟩=> ?_,hE.nd⟩
     have:=(hE0.is c h2).lt
     omega
   · simp only [Zce] at hc
     rcases hc with rfl|hc
     · exact .inl (Nat.le_trans h.base.1 h.base.2)
     · exact hE.mine c hc
 have h2:Tie (Env.mapped P yl N w0 lent f) lo r S X V (w.alloc (.map #[] 0)) m B hv s (mk w.heap.size) a:=⟨h1.rel,h1.sub,hE',h1.round,h1.marks,h1.base⟩
 refine wpIn_value (w':=w.alloc (.map #[] 0)) (v:= .map (some w.heap.size)) (nx:= .value (.map (some w.heap.size))) (by rw [hop];intro _ h;cases h) ?_ (.inl rfl) ?_
 · unfold execOp
   simp only [hop]
   rfl
 · exact hK _ _ ⟨w.heap.size,rfl,rfl⟩ S X V _ m hv _ (hG.went h1.rel.slt) (MStep.refl m) (h2.putQ o.dst (x:= .d (.s (.map (some w.heap.size)))) (.d (.s _)))
theorem lenMap_env {g:γ} {c:MapC} {t e:TypeId} {mo:Operand} (hop:o.op= .call {callee:= .builtin .len,args:=#[mo],argTypes:=#[t]}) (hc:c∈f g) (hm:evalA s.tm mo= .d (.s (.map (some c.b)))) (ht:P.underlying t=some (.map c.k e)):
   EnvOk (Env.mapped P yl N w0 lent f) o s g fun s' g'=>s'= {tm:=putA s.tm o.dst (.d (.s (.int .i64 c.es.length))),hp:=s.hp,pv:=pvPut s.pv o.dst}∧g'=g:=by
 intro lo r S X V w m B hv a K' Q h hK
 obtain ⟨Ld,hown,hent⟩:=h.env.is c hc
 have hme:=toVal?_spec (x:=evalA s.tm mo) (by rw [hm];rfl) (evalA_sound h.rel mo)
 have hl:=hown.len ht o.type
 rw [Maps.size_eq,hent.length] at hl
 refine wpIn_value (w':=w) (v:= .int .i64 c.es.length) (nx:= .value (.int .i64 c.es.length)) (by rw [hop];intro _ h;cases h) ?_ (.inl rfl) ?_
 · unfold execOp
   simp [hop,resolve,invoke,builtin,hme,hl,Result.andThen]
 · exact hK _ _ ⟨rfl,rfl⟩ S X V w m hv _ (Went.refl h.rel.slt) (MStep.refl m) (h.putQ o.dst (x:= .d (.s (.int .i64 c.es.length))) (.d (.s _)))
end
abbrev MHook (γ:Type):=Oper→RS→γ→(RS→γ→Prop)→Option Prop
section
variable {β:Type}
def opM (P:Program) (X:CX β) (M:MHook β) (ops:Array Oper) (o:Oper) (s:RS) (b:β) (K:RS→β→Prop):Prop:=
 guardC ops o s.tm
   (fun tm=>match M o {s with tm:=tm} b K with
     |some p=>p
     |none=>opC P X ops o {s with tm:=tm} b K)
   (fun tm=>K {s with tm:=putA tm o.dst (.d (.s undef)),pv:=pvPut s.pv o.dst} b)
def opsM (P:Program) (X:CX β) (M:MHook β) (ops:Array Oper):List Oper→RS→β→(RS→β→Prop)→Prop
 | [],s,b,K=>K s b
 |o::l,s,b,K=>opM P X M ops o s b fun s b=>opsM P X M ops l s b K
def preRegM (P:Program) (X:CX β) (M:MHook β) (ops:Array Oper) (k:Nat) (tm:List AV) (hp:List Blk) (b:β) (K:List AV→List Blk→β→Prop):Prop:=
 if k≤ops.size then preC P X ops hp (ops.toList.take k) tm [] fun tmK tb=>
   if (tb.map (·.1)).Nodup then opsM P X M ops (ops.toList.drop k) ⟨tmK,hp,pvAll P hp tmK (ops.toList.take k)⟩ b fun s b=>K s.tm s.hp b else False
 else False
def mapOp (o:Oper):Bool:=
 match o.op with
 | .lookup .. | .mapUpdate .. | .makeMap .. =>true
 |_=>false
def regionM (P:Program) (X:CX β) (M:MHook β) (ops:Array Oper) (draw:Bool) (tm:List AV) (hp:List Blk) (b:β) (K:List AV→List Blk→β→Prop):Prop:=
 if draw then match findK ops (leadPure (ops.toList.takeWhile fun o=> !mapOp o)) with
   |some k=>preRegM P X M ops k tm hp b K
   |none=>False
 else opsM P X M ops ops.toList ⟨tm,hp, []⟩ b fun s b=>K s.tm s.hp b
def wlM (P:Program) (X:CX β) (M:MHook β) (wl:Code→List AV→List Blk→β→(Exit→List AV→List Blk→β→Prop)→Prop):Code→List AV→List Blk→β→(Exit→List AV→List Blk→β→Prop)→Prop
 | .region id ops d,tm,hp,b,K=>regionM P X M ops d tm hp b (K .normal)
 |c,tm,hp,b,K=>wl c tm hp b K
end
def MOk {P:Program} (Ev:Env P) (M:MHook Ev.β):Prop:=∀o s b (K:RS→Ev.β→Prop) p,M o s b K=some p→p→∃T:RS→Ev.β→Prop,EnvOk Ev o s b T∧∀s' b',T s' b'→K s' b'
section
variable {P:Program} {hp hp':List Blk} {tm tm':List AV} {o:Oper} {ops:Array Oper} {Ev:Env P} {X:CX Ev.β} {M:MHook Ev.β} {s:RS} {b:Ev.β}
theorem opM_sound {K:RS→Ev.β→Prop} {R:RS→Ev.β→Prop} {l:List Oper} (hX:X.Ok) (hM:MOk Ev M) (h:opM P X M ops o s b K) (hK:∀s' b',K s' b'→wOps Ev ops l s' b' R):wOps Ev ops (o::l) s b R:=by
 unfold opM at h
 rcases guardC_sound h with ⟨hw,h⟩|⟨hw,h⟩
 · split at h
   · rename_i p hp
     obtain ⟨T,he,h2⟩:=hM _ _ _ _ _ hp h
     exact ⟨s, .rfl, .inr (.inr (.inr ⟨hw, .inr ⟨T,he,fun s' b' h=>hK _ _ (h2 s' b' h)⟩⟩))⟩
   · exact opC_sound hX h hK
 · exact ⟨s, .rfl, .inl ⟨_,by simp only [xStep,hw],hK _ _ h⟩⟩
theorem opsM_sound (hX:X.Ok) (hM:MOk Ev M) {R:RS→Ev.β→Prop}:∀ {l:List Oper} {s:RS} {b:Ev.β} {K:RS→Ev.β→Prop},opsM P X M ops l s b K→(∀s' b',K s' b'→R s' b')→wOps Ev ops l s b R
 | [],s,b,K,h,hK=>hK _ _ h
 |o::l,s,b,K,h,hK=>opM_sound hX hM h fun s' b' h=>opsM_sound hX hM h hK
theorem regionM_sound {id:Nat} {d:Bool} (hm:P.follows .mixedOrders=true) (hX:X.Ok) (hM:MOk Ev M) {K:List AV→List Blk→Ev.β→Prop} {Q:Exit→St Ev.β→Prop} (h:regionM P X M ops d tm hp b K) (hq:∀tm' hp' b',K tm' hp' b'→Q .normal ⟨tm',hp',b'⟩):
   W Ev (.region id ops d) ⟨tm,hp,b⟩ Q:=by
 unfold regionM at h
 cases d with
 |false=>exact W.region (opsM_sound hX hM h fun _ _ h=>hq _ _ _ h)
 | true=>
   simp only [if_true] at h
   split at h
   · rename_i k hk
     unfold preRegM at h
     split at h
     · rename_i hks
       obtain ⟨tmK,tb,h1,h2,h3,h4⟩:=preC_sound hX h
       split at h1
       · rename_i hnd
         exact W.draw (s:=⟨tm,hp,b⟩) k (tblD tb) hm (tblD_ok (h3 (by simp))) (findK_spec hk) hks (h4 tb (find_of_nodup hnd)) (opsM_sound hX hM h1 fun s' b' h=>hq _ _ _ h)
       · exact h1.elim
     · exact h.elim
   · exact h.elim
theorem wlM_ok (hm:P.follows .mixedOrders=true) (hX:X.Ok) (hM:MOk Ev M) {wl:Code→List AV→List Blk→Ev.β→(Exit→List AV→List Blk→Ev.β→Prop)→Prop}
   (hwl:∀c tm hp b K,wl c tm hp b K→W Ev c ⟨tm,hp,b⟩ (fun e s=>K e s.tm s.hp s.b)):∀c tm hp b K,wlM P X M wl c tm hp b K→W Ev c ⟨tm,hp,b⟩ (fun e s=>K e s.tm s.hp s.b):=by
 intro c tm hp b K h
 cases c with
 |region id ops d=>exact regionM_sound hm hX hM h fun _ _ _ h=>h
 |_=>exact hwl _ _ _ _ _ h
end
def MCall (P:Program) {γ:Type} (f:γ→List MapC) (k:Nat) (args:List AV) (g:γ) (R:AV→γ→Prop):Prop:=
 (∀(azz:Array Value) (w:World),(callFunc k azz).run P w= .ok (.enter k azz) w)∧
 ∀ (S:Pr) (w:World) (vs:List Value),args.length=vs.length→(∀(i:Nat) (x:AV) (v:Value),args[i]? =some x→vs[i]? =some v→RV S w [] none x v)→(∀b i,S b i→b<w.heap.size)→Glob S w→
   (∀c∈f g,MapIs P S w c)→((f g).map MapC.b).Nodup→
   CallsIn Fence.wide 0 P k vs.toArray w fun e w'=>∃v S' x g',e= .returned v∧R x g'∧Tr (fun b _=>¬b<w.heap.size) (fun x=>x=0) S w S' w'∧
     MapsE P w.heap.size w ((f g).map MapC.b) (f g') S' w'∧RV S' w' [] none x.view v
section
variable {P:Program} {S S' X V:Pr} {w w' w0:World} {lo:Nat} {r:Option Nat} {m:List MB} {B:List (AV×Value)} {hv:List (List Value)} {s:RS} {a:Act} {yl:Option Nat} {N:Nat} {lent:List Nat} {γ γ':Type} {f:γ→List MapC} {f':γ'→List MapC} {o:Oper}
theorem view_view (x:AV):x.view.view=x.view:=by cases x<;>rfl
theorem opCall_exec {yv:Option Nat} {k:Nat} {args:List AV} (h:RelS S X yv w m B hv s a) (hc:opCall s.tm o=some (k,args)):
   ∃ vs:List Value,args.length=vs.length∧(∀(i:Nat) (x:AV) (v:Value),args[i]? =some x→vs[i]? =some v→RV S w m yv x v)∧(∀c,o.op≠ .defer c)∧
     ((∀(azz:Array Value) (w:World),(callFunc k azz).run P w= .ok (.enter k azz) w)→(execOp a.eval o).run P w= .ok (.enter k vs.toArray) w):=by
 have hev:=evalA_sound h
 unfold opCall at hc
 split at hc<;>try (cases hc;done)
 rename_i c ho
 split at hc<;>try (cases hc;done)
 rename_i fo hcal
 have hfv:=hev fo
 unfold callArgs at hc
 split at hc<;>try (cases hc;done)
 rename_i k' first caps hf
 simp only [Option.some.injEq,Prod.mk.injEq] at hc
 obtain ⟨rfl,rfl⟩:=hc
 rw [hf] at hfv
 generalize hfe:a.eval fo=fv at hfv
 cases hfv with
 | fn hne hl1 hl2 h1 h2=>
   rename_i fs cs
   have e0:(fs.toList++(c.args.map a.eval).toList++cs.toList).toArray=fs++c.args.map a.eval++cs:=by apply Array.ext';simp
   refine ⟨fs.toList++(c.args.map a.eval).toList++cs.toList,by simp [hl1,hl2],fun j x u hj1 hj2=> ?_,by simp [ho],fun hent=> ?_⟩
   · simp only [List.getElem?_map,Zac] at hj1
     obtain ⟨y,hj1,rfl⟩:=hj1
     refine RV.view ?_
     by_cases c1:j<first.length
     · rw [List.append_assoc,List.getElem?_append_left c1] at hj1
       rw [List.append_assoc,List.getElem?_append_left (by simpa [←hl1] using c1)] at hj2
       exact h1 j y u hj1 (by simpa using hj2)
     · by_cases c2:j<first.length+c.args.size
       · rw [List.getElem?_append_left (by simpa using c2),List.getElem?_append_right (by omega)] at hj1
         rw [List.getElem?_append_left (by simpa [←hl1] using c2),List.getElem?_append_right (by simp [←hl1];omega)] at hj2
         simp only [Array.length_toList,←hl1,List.getElem?_map,Zac,Array.getElem?_toList,Array.getElem?_map] at hj1 hj2
         obtain ⟨y1,hy1,rfl⟩:=hj1
         obtain ⟨y2,hy2,rfl⟩:=hj2
         rw [hy1] at hy2;cases hy2
         exact hev y1
       · rw [List.getElem?_append_right (by simp;omega)] at hj1
         rw [List.getElem?_append_right (by simp [←hl1];omega)] at hj2
         simp only [List.length_append,List.length_map,Array.length_toList,Array.size_map,←hl1] at hj1 hj2
         exact h2 _ y u hj1 (by simpa using hj2)
   · rw [e0]
     unfold execOp
     rw [ho]
     simp [resolve,hcal,hfe,Deferred.ofValue,invoke,hent]
theorem MapsE.back {l1 l2 c0 c1:List MapC} {Z:Pr} (h:MapsE P N w0 lent (l1++c0++l2) S w) (hN:N≤w.heap.size) (hc:MapsE P w.heap.size w (c0.map MapC.b) c1 S' w') (ht:Tr Z (fun x=>x=0) S w S' w'):MapsE P N w0 lent (l1++c1++l2) S' w':=by
 have hnd:=h.nd
 simp only [List.map_append,List.nodup_append,Zax,Zbd] at hnd
 obtain ⟨⟨n1,n2,n3⟩,n4,n5⟩:=hnd
 have hlt:∀c∈l1++c0++l2,c.b<w.heap.size:=fun c h1=>(h.is c h1).lt
 have hfar:∀c∈l1++l2,c.b∉c0.map MapC.b:=by
   intro c h1 h2
   obtain ⟨d,h3,h4⟩:=Zbd.1 h2
   rcases Zax.1 h1 with h1|h1
   · exact n3 c.b ⟨c,h1,rfl⟩ d.b ⟨d,h3,rfl⟩ h4.symm
   · exact n5 d.b (.inr ⟨d,h3,rfl⟩) c.b ⟨c,h1,rfl⟩ h4
 have hst:∀c∈l1++l2,MapIs P S' w' c:=fun c h1=>(h.is c (by simp only [Zax] at h1 ⊢;exact h1.elim (fun h=> .inl (.inl h)) .inr)).mono
   (fun es cl h2=>hc.kept c.b _ (hlt c (by simp only [Zax] at h1 ⊢;exact h1.elim (fun h=> .inl (.inl h)) .inr)) (hfar c h1) rfl h2) fun x v hx=>hx.tr ht
 have hdis:∀c∈l1++l2,∀d∈c1,c.b≠d.b:=by
   intro c h1 d h2 h3
   rcases hc.mine d h2 with h4|h4
   · have:=hlt c (by simp only [Zax] at h1 ⊢;exact h1.elim (fun h=> .inl (.inl h)) .inr)
     omega
   · exact hfar c h1 (h3▸h4)
 refine ⟨fun c h1=> ?_, ?_,fun c h1=> ?_,fun b o1 h1 h2 hm1 h3=> ?_,hc.lt⟩
 · simp only [Zax] at h1
   rcases h1 with (h1|h1)|h1
   · exact hst c (by simp [h1])
   · exact hc.is c h1
   · exact hst c (by simp [h1])
 · simp only [List.map_append,List.nodup_append,Zax,Zbd]
   refine ⟨⟨n1,hc.nd, ?_⟩,n4, ?_⟩
   · rintro x ⟨c,h1,rfl⟩ y ⟨d,h2,rfl⟩
     exact hdis c (by simp [h1]) d h2
   · rintro x (⟨c,h1,rfl⟩|⟨c,h1,rfl⟩) y ⟨d,h2,rfl⟩
     · exact n5 c.b (.inl ⟨c,h1,rfl⟩) d.b ⟨d,h2,rfl⟩
     · exact fun he=>hdis d (by simp [h2]) c h1 he.symm
 · simp only [Zax] at h1
   rcases h1 with (h1|h1)|h1
   · exact h.mine c (by simp [h1])
   · rcases hc.mine c h1 with h2|h2
     · exact .inl (Nat.le_trans hN h2)
     · obtain ⟨d,h3,h4⟩:=Zbd.1 h2
       rw [←h4];exact h.mine d (by simp [h3])
   · exact h.mine c (by simp [h1])
 · refine hc.kept b o1 (Zab.1 (h.kept b o1 h1 h2 hm1 h3)).1 (fun h4=> ?_) hm1 (h.kept b o1 h1 h2 hm1 h3)
   obtain ⟨d,h5,h6⟩:=Zbd.1 h4
   rcases h.mine d (by simp [h5]) with h7|h7
   · omega
   · exact h2 (h6▸h7)
theorem mcall_env {g:γ} {g0:γ'} {up:γ'→γ} {l1 l2:List MapC} {k:Nat} {args:List AV} {R:AV→γ'→Prop} (hc:opCall s.tm o=some (k,args)) (hcl:closeds args=true) (hf:f g=l1++f' g0++l2) (hup:∀g',f (up g')=l1++f' g'++l2) (hcall:MCall P f' k args g0 R):
   EnvOk (Env.mapped P yl N w0 lent f) o s g fun s' g'=>∃x g1,R x g1∧s'= {tm:=putA s.tm o.dst x.view,hp:=s.hp,pv:=pvPut s.pv o.dst}∧g'=up g1:=by
 intro lo r S X V w m B hv a K' Q h hK
 have hE:MapsE P N w0 lent (l1++f' g0++l2) S w:=hf▸h.env
 obtain ⟨vs,h1,h2,h3,h4⟩:=opCall_exec (P:=P) h.rel hc
 obtain ⟨hent,hcontract⟩:=hcall
 refine ⟨fun f' _=>trivial, ?_⟩
 rw [Oper.semAt_eq _ _ _ h3,h4 hent]
 refine ⟨fun hd=>(by cases hd), ?_⟩
 have hnd:((f' g0).map MapC.b).Nodup:=by
   have:=hE.nd
   simp only [List.map_append,List.nodup_append] at this
   exact this.1.2.1
 refine (CallsIn.mono (hcontract S w vs h1 (fun j x u hj1 hj2=>(h2 j x u hj1 hj2).closed (closeds_get hcl j x hj1)) h.rel.slt h.rel.2.1.gl (fun c hc=>hE.is c (by simp [hc])) hnd) ?_:CallsIn Fence.wide 0 P k _ w _)
 rintro e w' ⟨v,S',x,g1,rfl,hR,ht,hE1,hxv⟩
 have hE':MapsE P N w0 lent (f (up g1)) S' w':=by rw [hup];exact hE.back (Nat.le_trans h.base.1 h.base.2) hE1 ht
 have hrel:Rel S' X yl w' m (s.tm.zip a.tmps.toList++(B++cellPairs s.hp hv)) s.hp hv:=by
   refine h.rel.2.1.still ht (fun g blk p h1 h2 hfr i hz=> ?_) (fun p hp b hb i hz=> ?_) (fun _ _ h=> .inl h)
   · have hb:=h.rel.2.1.block h2
     obtain ⟨_,_,cur,e,_,_,_,_,_,_,_,g8,_⟩:=hb
     exact hz (Zab.1 g8).1
   · exact hz (own_lt (h.rel.2.1.rv p hp) (x:=p.1) (v:=p.2) hb)
 have htr:Tr (fun b i=>¬X b i∨V b i) (fun x=>x=0) S w S' w':=ht.mono' (fun b i hb hz=>absurd hb hz) (fun _ h=>h)
 have htie:Tie (Env.mapped P yl N w0 lent f) lo r S' X V w' m B hv s (up g1) a:=
   ⟨⟨h.rel.1,hrel,h.rel.2.2⟩,h.sub,hE',h.round.tr ht,h.marks.tr ht,h.base.1,Nat.le_trans h.base.2 ht.size⟩
 exact hK _ _ ⟨x,g1,hR,rfl,rfl⟩ S' X V w' m hv _ ⟨htr,fun _ _ h=>h,fun _ _ h=> .inl h⟩ (MStep.refl m) (by have:=htie.putQ o.dst hxv;rwa [view_view] at this)
end
section
variable {P:Program} {S S' X' V V':Pr} {w w' w0:World} {N:Nat} {lent:List Nat} {γ:Type} {f:γ→List MapC}
theorem MapsE.more {β:List MapC} (h:MapsE P N w0 lent β S w) (hS:∀b i,S b i→S' b i) (hlt:∀b i,S' b i→b<w.heap.size):MapsE P N w0 lent β S' w:=
 ⟨fun c hc=>(h.is c hc).mono (fun _ _ h=>h) fun x v hx=>hx.ext hS (Agree.refl _ _ _),h.nd,h.mine,h.kept,hlt⟩
theorem MCall.ofW {k:Nat} {fn:Func} {c:Code} {args:List AV} {g:γ} {R:AV→γ→Prop} (hf:P.funcs[k]? =some fn) (hb:fn.body=some c) (hn:(fn.name== "runtime.NumGoroutine")=false) (hargs:args.map Zcf=args)
   (hW:∀(N:Nat) (w0:World),W (Env.mapped P none N w0 ((f g).map MapC.b) f) c ⟨startTm fn args, [],g⟩ (FnPost P fn fun y hp g'=>∃x,SealR hp y x∧R x g')):MCall P f k args g R:=by
 refine ⟨enter_ok hf hb hn,fun S w vs hl hvs hlt hgl hmaps hnd=> ?_⟩
 have hrel:Rel S (fun b _=>b<w.heap.size) none w [] (args.zip vs++([]++cellPairs [] [])) [] []:=by
   have h0:Rel S (fun b _=>b<w.heap.size) none w [] [] [] []:=⟨fun b i h=>h.elim (hlt b i) id,by simp,List.Pairwise.nil,by simp,by simp,by simp,rfl,rfl,by simp,hgl⟩
   have:=h0.pushAll (args.zip vs) (fun p hp=>by
     obtain ⟨j,hj⟩:=Zaj.1 hp
     rw [List.getElem?_zip_eq_some] at hj
     refine ⟨hvs j p.1 p.2 hj.1 hj.2, ?_⟩
     have hp1:p.1.view=p.1:=by
       have h1:(args.map Zcf)[j]? =some p.1.view:=by simp [hj.1]
       rw [hargs,hj.1] at h1;exact (Option.some.inj h1).symm
     obtain ⟨p1,p2⟩:=p
     simp only at hp1
     rw [←hp1];exact ownB_view _ _)
   simpa [cellPairs] using this
 have hE0:MapsE P w.heap.size w ((f g).map MapC.b) (f g) S w:=⟨hmaps,hnd,fun c hc=> .inr (Zbd.2 ⟨c,hc,rfl⟩),fun _ _ _ _ _ h=>h,hlt⟩
 refine calls_of_W (Ev:=Env.mapped P none w.heap.size w ((f g).map MapC.b) f) (V:=fun _ _=>False) (b:=g) hf hb hl (hW w.heap.size w) hrel (fun _ _ h=>h.elim) hE0 (Nat.le_refl _) ?_
 intro y S' X' V' w' m' hv' hp' v g' hy htr0 hxs hm hr hE hyv
 obtain ⟨x,hx,hR⟩:=hy
 have htr:Tr (fun b i=>¬b<w.heap.size) (fun x=>x=0) S w S' w':=htr0.mono (fun b i h=>h.resolve_right id) (fun _ h=>h)
 have hnew:∀b i,withBlocks S' m' b i→S b i∨(w.heap.size≤b∧b<w'.heap.size):=by
   intro b i hs
   rcases hs with hs|⟨g,p,hg,rfl,hi⟩
   · rcases htr.new b i hs with h1|h1|h1
     · exact .inl h1
     · exact .inr ⟨Nat.le_of_not_lt h1,htr.lt b i hs⟩
     · exact .inr ⟨h1,htr.lt b i hs⟩
   · have hr':Rel S' X' none w' m' (([]:List (AV×Value))++cellPairs hp' hv') hp' hv':=hr
     obtain ⟨blk,us,cur,e,g1,g2,g3,g4,g5,g6,g7,g8,g9,g10,g11,g12⟩:=hr'.block hg
     have hlt':p.b<w'.heap.size:=(Zab.1 g8).1
     cases hfr:blk.fro with
     | true=>
       have hs:=g12 hfr i hi
       rcases htr.new _ _ hs with h1|h1|h1
       · exact .inl h1
       · exact .inr ⟨Nat.le_of_not_lt h1,hlt'⟩
       · exact .inr ⟨h1,hlt'⟩
     | false=>
       refine .inr ⟨Nat.le_of_not_lt fun hb=> ?_,hlt'⟩
       exact (g11 hfr i).2 (hxs _ _ hb)
 have hlt2:∀b i,withBlocks S' m' b i→b<w'.heap.size:=fun b i hs=>(hnew b i hs).elim (fun h=>Nat.lt_of_lt_of_le (hlt b i h) htr.size) fun h=>h.2
 refine ⟨v,withBlocks S' m',x,g',rfl,hR,⟨htr.os,htr.tape,htr.output,htr.size,htr.cells,htr.objs,htr.same,fun b i hs=> .inl (htr.up b i hs),fun b i hs=>(hnew b i hs).imp id fun h=> .inr h.1,hlt2⟩, ?_,(sealR_sound (B:= []) (T:=withBlocks S' m') (by simpa using hr) (fun _ _ h=> .inl h) hx (fun g _ p hp i hi=> .inr ⟨g,p,hp,rfl,hi⟩) hyv).view⟩
 exact MapsE.more hE (fun b i hs=> .inl hs) hlt2
theorem MCall.ofFn {k n:Nat} {fn:Func} {args:List AV} {g:γ} {R:AV→γ→Prop} {T:List (Nat×(List AV→(AV→Prop)→Prop))} {U:List (Nat×(List AV→List Blk→(AV→List Blk→Prop)→Prop))} {u:Bool} (wl:WLT γ) (hm:P.follows .mixedOrders=true)
   (hT:CallsOk P T) (hS:SCallsOk P U) (hwl:∀(N:Nat) (w0:World) c tm hp b K,wl c tm hp b K→W (Env.mapped P none N w0 ((f g).map MapC.b) f) c ⟨tm,hp,b⟩ (fun e s=>K e s.tm s.hp s.b)) (hf:P.funcs[k]? =some fn) (hn:(fn.name== "runtime.NumGoroutine")=false) (hargs:args.map Zcf=args)
   (h:wpFn P ⟨T,U,wl,fun _ _ _=>False,u⟩ n fn args g R):MCall P f k args g R:=by
 cases hb:fn.body with
 | some c=>
   unfold wpFn at h
   rw [hb] at h
   refine MCall.ofW hf hb hn hargs fun N w0=> ?_
   exact wpc_sound hm (CX.Ok.ofWl (Ev:=Env.mapped P none N w0 ((f g).map MapC.b) f) hT hS (hwl N w0)) h fun e tm hp b hK=>fnK_sound hK
 | none=>
   unfold wpFn at h
   rw [hb] at h
   exact h.elim
theorem MCall.toP {k:Nat} {args:List AV} {g:γ} {x:AV} (hg:f g= []) (h:MCall P f k args g fun y _=>y=x):PCall P k args x:=by
 refine ⟨h.1,fun S w vs hl hvs hlt hgl=> ?_⟩
 refine (CallsIn.mono (h.2 S w vs hl hvs hlt hgl (by simp [hg]) (by simp [hg])) ?_:CallsIn Fence.wide 0 P k _ w _)
 rintro e w' ⟨v,S',y,g',rfl,rfl,ht,hE,hv⟩
 refine ⟨v,S',rfl,⟨ht.os,ht.tape,ht.output,ht.size,fun k hk=> ?_⟩,ht.up,fun b i hs=> ?_,hv⟩
 · have hk1:w.heap[k]? =some w.heap[k]:=by simp [hk]
   cases ho:w.heap[k] with
   | cells c e f=>
     rw [ho] at hk1
     obtain ⟨c',h1,h2⟩:=ht.cells k c e f hk1
     rw [hk1,h1]
     congr 2
     apply Array.ext h2
     intro i hi hi'
     have h3:w.cell? ⟨k,i,none⟩=some c[i]:=by simp [World.cell?,hk1,hi']
     have h4:=ht.same k i _ (.inr (fun h=>h hk)) h3
     simp only [World.cell?,h1] at h4
     simpa [hi] using h4
   | map es cl=>
     rw [ho] at hk1
     rw [hk1]
     exact hE.kept k _ hk (by simp [hg]) rfl hk1
   | mapIter _ _ _ _=>
     rw [ho] at hk1
     rw [hk1]
     exact hE.kept k _ hk (by simp [hg]) rfl hk1
   | _=>
     rw [ho] at hk1
     rcases ht.objs k _ hk1 rfl with h1|⟨h1,_⟩|⟨_,o',_,h1⟩
     · rw [hk1,h1]
     · exact absurd h1 (by omega)
     · cases h1
 · rcases ht.new b i hs with h1|h1|h1
   · exact .inl h1
   · exact .inr ⟨Nat.le_of_not_lt h1,ht.lt b i hs⟩
   · exact .inr ⟨h1,ht.lt b i hs⟩
end
def SortedKeys (P:Program) (kS kK:Nat) (kt:TypeId):Prop:=
 (∀(azz:Array Value) (w:World),(callFunc kS azz).run P w= .ok (.enter kS azz) w)∧
 ∀ (Bm d n:Nat) (L:List (Lit×DataW Value)) (w:World),Bm<w.heap.size→w.cell? ⟨Bm,0,none⟩=some (.map (some d))→w.ownsMap P kt heldR d n (DataW.map L)→L.length≤1000000→
   CallsIn Fence.wide 0 P kS #[.func (.func kK) #[] #[.pointer (some ⟨Bm,0,none⟩)]] w fun e w'=>∃(v:Value) (ss:List Int),e= .returned v∧ss.Perm (intKeys (DataW.map L))∧
     w'.ownsRow w.heap.size kt 1 v ss.length ((ss.mergeSort leI).map encZ)∧Below w.heap.size w w'
def sortK (es:MC):List Int:=(es.map fun p=>Go.intOf p.1).mergeSort leI
def rowsI (ks:List Int):List (List Dv):=ks.map fun k=> [.s (.int .i64 k)]
section
variable {P:Program} {S S' X V:Pr} {w w' w0:World} {lo:Nat} {r:Option Nat} {m:List MB} {B:List (AV×Value)} {hv:List (List Value)} {s:RS} {a:Act} {yl:Option Nat} {N:Nat} {lent:List Nat} {γ:Type} {f:γ→List MapC} {o:Oper} {es:MC} {L:List (Lit×DataW Value)}
theorem Ents.keys (h:Ents S w es L):intKeys (DataW.map L)=es.map fun p=>Go.intOf p.1:=by
 induction h with
 |nil=>rfl
 |cons h hc hr ih=>simp only [intKeys,List.map_cons] at ih ⊢;rw [ih]
theorem dr_ownsRow {base kt:Nat} {v:Value} {ks:List Int} (h:w.ownsRow base kt 1 v ks.length (ks.map encZ)):DR (fun b _=>base≤b∧b<w.heap.size) w (.sl 1 (rowsI ks)) v:=by
 obtain ⟨h1,⟨rfl,h2⟩|⟨g,cap,cur,rfl,h2,h3,h4,h5,h6,h7⟩⟩:=h
 · obtain rfl:ks= []:=List.eq_nil_of_length_eq_zero h2
   exact .nil 1
 · have hl:(rowsI ks).length=ks.length:=by simp [rowsI]
   have:=DR.ofFlat (S:=fun b _=>base≤b∧b<w.heap.size) (w:=w) (k:=1) (xs:=rowsI ks) (us:=ks.map encZ) (a:=⟨g,0,none⟩) (cap:=cap)
     ⟨by simp [rowsI],fun i r hr=> ?_,fun i r j c u hr hc hu=> ?_,fun u hu=> ?_⟩ (fun j u hu=> ?_) (by rw [hl];exact h4) (.inl rfl)
   · rwa [hl] at this
   · simp only [rowsI,List.getElem?_map,Zac] at hr
     obtain ⟨k,_,rfl⟩:=hr;rfl
   · simp only [rowsI,List.getElem?_map,Zac] at hr
     obtain ⟨k,hk,rfl⟩:=hr
     match j with
     | 0=>
       simp at hc;subst hc
       simp [List.getElem?_map,hk] at hu;subst hu
       exact .s _
     |j+1=>simp at hc
   · obtain ⟨k,_,rfl⟩:=Zbd.1 hu;rfl
   · have hju:(cur.toList.take (ks.length*1))[j]? =some u:=by rw [h7];exact hu
     have hjl:j<ks.length:=by have:=(Zaa.1 hu).1;simpa using this
     rw [Zak,if_pos (by omega)] at hju
     refine ⟨?_,h2,(Zab.1 h3).1⟩
     simp only [World.cell?,h3,Nat.zero_add]
     simpa using hju
theorem sortedKeys_env {g:γ} {c:MapC} {kS kK q:Nat} (hsk:SortedKeys P kS kK c.k) (hcall:opCall s.tm o=some (kS, [.fn (.func kK) [] [.ptr q 0]])) {blk:Blk} (hq:s.hp[q]? =some blk) (h0:blk.cells[0]? =some (.d (.s (.map (some c.b))))) (hc:c∈f g) (hn:c.es.length≤1000000):
   EnvOk (Env.mapped P yl N w0 lent f) o s g fun s' g'=>s'= {tm:=putA s.tm o.dst (.d (.sl 1 (rowsI (sortK c.es)))),hp:=s.hp,pv:=pvPut s.pv o.dst}∧g'=g:=by
 intro lo r S X V w m B hv a K' Q h hK
 obtain ⟨Ld,hown,hent⟩:=h.env.is c hc
 obtain ⟨vs,h1,h2,h3,h4⟩:=opCall_exec (P:=P) h.rel hcall
 obtain ⟨hent0,hcon⟩:=hsk
 have key:∃(b len ver:Nat),m[q]? =some ⟨b,len,false,ver⟩∧vs= [.func (.func kK) #[] #[.pointer (some ⟨b,0,none⟩)]]:=by
   match vs,h1,h2 with
   | [v],h1,h2=>
     have:=h2 0 _ v rfl rfl
     cases this with
     | fn hf hl hl' h5 h6=>
       rename_i fs cs
       obtain rfl:fs=#[]:=by apply Array.ext';exact List.eq_nil_of_length_eq_zero (by simpa using hl.symm)
       obtain ⟨u,hu⟩:∃u,cs=#[u]:=by
         obtain ⟨l⟩:=cs
         match l,hl' with
         | [u],_=>exact ⟨u,rfl⟩
       subst hu
       have:=h6 0 _ u rfl rfl
       cases this with
       |ptr h7=>exact ⟨_,_,_,h7,rfl⟩
 obtain ⟨b,len,ver,hmq,rfl⟩:=key
 obtain ⟨blk',us,cur,e,g1,g2,g3,g4,g5,g6,g7,g8,g9,g10,g11,g12⟩:=h.rel.2.1.block hmq
 rw [hq] at g1;cases g1
 have hlt:b<w.heap.size:=(Zab.1 g8).1
 have hcell:w.cell? ⟨b,0,none⟩=some (.map (some c.b)):=by
   have h0l:0<blk.cells.length:=(Zaa.1 h0).1
   obtain ⟨u,hu⟩:∃u,us[0]? =some u:=⟨us[0]'(by have e1:us.length=len:=g6;have e2:len=blk.cells.length:=g3;omega),by simp⟩
   have hrv:=h.rel.2.1.rv _ (List.mem_append_right _ (List.mem_append_right _ (mem_cellPairs (hp:=s.hp) (hv:=hv) hq g2 h0 hu)))
   have hu':=toVal?_spec (x:= .d (.s (.map (some c.b)))) rfl hrv
   simp only at hu'
   subst hu'
   exact (cells_of_take g8 g9) 0 _ hu
 refine ⟨fun f' _=>trivial, ?_⟩
 rw [Oper.semAt_eq _ _ _ h3,h4 hent0]
 refine ⟨fun hd=>(by cases hd), ?_⟩
 refine (CallsIn.mono (hcon b c.b c.es.length Ld w hlt hcell hown (by rw [hent.length];exact hn)) ?_:CallsIn Fence.wide 0 P kS _ w _)
 rintro e w' ⟨v,ss,rfl,hperm,hrow,hb⟩
 rw [mergeSort_of_perm_i hperm,hent.keys] at hrow
 have hss:ss.length=(sortK c.es).length:=by rw [sortK,←hent.keys,List.length_mergeSort];exact hperm.length_eq
 rw [hss] at hrow
 have hdr:=dr_ownsRow hrow
 have hS:∀b i,S b i→(S b i∨(w.heap.size≤b∧b<w'.heap.size)):=fun _ _ h=> .inl h
 have hG:=Gs.below (S':=fun b i=>S b i∨(w.heap.size≤b∧b<w'.heap.size)) h.rel.2.1 hb ⟨hS,fun _ _ h=>h⟩
 have hrel:=h.rel.2.1.below hb hS (fun _ _ h=>h)
 have ht1:Tie (Env.mapped P yl N w0 lent f) lo r _ X V w' m B hv s g a:=h.step hG ⟨h.rel.1,hrel,h.rel.2.2⟩ rfl
 exact hK _ _ ⟨rfl,rfl⟩ _ X V w' m hv _ (hG.went ht1.rel.slt) (MStep.refl m) (ht1.putQ o.dst (x:= .d (.sl 1 (rowsI (sortK c.es)))) (.d (hdr.ext (fun b i h=> .inr h) fun _ _ _ _ h=>h)))
end
section
variable {P:Program} {S S' X:Pr} {w w':World} {m:List MB} {B:List (AV×Value)} {hv:List (List Value)} {s:RS} {a:Act} {o:Oper}
theorem DemOk.env {Ev:Env P} {b:Ev.β} {T:RS→Prop} (h:DemOk P o s T):EnvOk Ev o s b fun s' b'=>T s'∧b'=b:=
 fun lo r S X V w m B hv a K Q ht hK=>h r S X Ev.yl w m B hv a K Q ht.rel fun s' hs=>Goes.nx ht (hK s' b ⟨hs,rfl⟩)
def methOf (P:Program) (t:TypeId) (v:Value) (name:String):Option (Nat×Value):=runPure P (method (P.types.size+Made.depth) t v name)
theorem invoke_dem {c:Call} {ro:Operand} {name:String} {t:TypeId} {v rv:Value} {k:Nat} {x:AV} (ho:o.op= .call c) (hc:c.callee= .invoke ro name) (hr:(evalA s.tm ro).toVal? =some (.iface t v)) (hm:methOf P t v name=some (k,rv))
   (hcl:closeds (ofVal rv::(c.args.toList.map (evalA s.tm)).map Zcf)=true) (hcall:PCall P k (ofVal rv::(c.args.toList.map (evalA s.tm)).map Zcf) x):
   DemOk P o s fun s'=>s'= {tm:=putA s.tm o.dst x.view,hp:=s.hp,pv:=pvPut s.pv o.dst}:=by
 intro r S X yv w m B hv a K Q h hK
 have hev:=evalA_sound h
 have hre:=toVal?_spec hr (hev ro)
 have hmr:=fun w=>runPure_run P _ _ hm w
 obtain ⟨hent,hcon⟩:=hcall
 have hexec:(execOp a.eval o).run P w= .ok (.enter k (rv::c.args.toList.map a.eval).toArray) w:=by
   have e0:(rv::c.args.toList.map a.eval).toArray=#[rv]++c.args.map a.eval:=by apply Array.ext';simp
   have e1:(#[Value.iface t v]++c.args.map a.eval)[0]? =some (Value.iface t v):=by simp [Array.getElem?_append]
   have e2:(#[Value.iface t v]++c.args.map a.eval).extract 1 (#[Value.iface t v]++c.args.map a.eval).size=c.args.map a.eval:=by apply Array.ext';simp;exact List.take_of_length_le (by simp)
   rw [e0]
   unfold execOp
   rw [ho]
   simp only [resolve,hc,hre]
   show (invoke (.fn (.method name) #[]) (#[Value.iface t v]++c.args.map a.eval)).run P w=_
   unfold invoke
   simp only [e1,e2]
   unfold callMethod
   simp [hmr,hent]
 have hdef:∀c',o.op≠ .defer c':=by simp [ho]
 refine ⟨fun f' _=>trivial, ?_⟩
 rw [Oper.semAt_eq _ _ _ hdef,hexec]
 refine ⟨fun hd=>(by cases hd), ?_⟩
 refine (CallsIn.mono (hcon S w (rv::c.args.toList.map a.eval) (by simp) (fun i y u h1 h2=> ?_) h.slt h.2.1.gl) ?_:CallsIn Fence.wide 0 P k _ w _)
 · refine RV.closed (m:=m) (yv:=yv) ?_ (closeds_get hcl i y h1)
   cases i with
   | zero=>
     simp only [List.getElem?_cons_zero,Option.some.injEq] at h1 h2
     subst h1 h2
     exact RV.ofVal rv
   | succ i=>
     simp only [List.getElem?_cons_succ,List.getElem?_map,Zac] at h1 h2
     obtain ⟨z,⟨q,h1,rfl⟩,rfl⟩:=h1
     obtain ⟨q',h2,rfl⟩:=h2
     rw [h1] at h2;cases h2
     exact (hev q).view
 · rintro e w' ⟨v',S',rfl,hb,h1,h2,hx⟩
   have hrel:=h.2.1.below hb h1 h2
   exact hK _ rfl S' w' m hv _ (Gs.below h.2.1 hb ⟨h1,h2⟩) ⟨by rw [putA_length,put_size];exact h.1,(by have:=(hrel.cons hx.opened.view (ownB_view _ _)).putTmp h.1 o.dst;rwa [view_view] at this),pvPut_ok h.2.2 o.dst v'⟩ (put_defers _ _ _) (put_size _ _ _)
end
def invH {γ:Type} (P:Program) (I:List (Nat×(List AV→(AV→Prop)→Prop))):MHook γ:=fun o s g K=>match o.op with
 | .call c=>match c.callee with
   | .invoke r name=>match (evalA s.tm r).toVal? with
     | some (.iface t v)=>match methOf P t v name with
       | some (k,rv)=>match I.lookup k with
         |some f=>some (closeds (ofVal rv::(c.args.toList.map (evalA s.tm)).map Zcf)=true∧f (ofVal rv::(c.args.toList.map (evalA s.tm)).map Zcf) fun x=>K {tm:=putA s.tm o.dst x.view,hp:=s.hp,pv:=pvPut s.pv o.dst} g)
         |none=>none
       |none=>none
     |_=>none
   |_=>none
 |_=>none
theorem invH_ok {P:Program} {Ev:Env P} {I:List (Nat×(List AV→(AV→Prop)→Prop))} (hI:CallsOk P I):MOk Ev (invH P I):=by
 intro o s b K p hp h
 unfold invH at hp
 split at hp<;>try (cases hp;done)
 rename_i c ho
 split at hp<;>try (cases hp;done)
 rename_i r name hc
 split at hp<;>try (cases hp;done)
 rename_i t v hr
 split at hp<;>try (cases hp;done)
 rename_i k rv hm
 split at hp<;>try (cases hp;done)
 rename_i f hf
 cases hp
 obtain ⟨hcl,h⟩:=h
 obtain ⟨x,hx,hK⟩:=hI k f hf _ _ h
 refine ⟨_,(invoke_dem ho hc hr hm hcl hx).env, ?_⟩
 rintro s' b' ⟨rfl,rfl⟩
 exact hK
def wlI {β:Type} (P:Program) (T:List (Nat×(List AV→(AV→Prop)→Prop))) (I:List (Nat×(List AV→(AV→Prop)→Prop))) (y:YieldT β) (wl:WLT β):WLT β:=wlM P ⟨T, [],fun _ _ _ _ _=>False,y,false⟩ (invH P I) wl
theorem wlI_ok {P:Program} {Ev:Env P} {T I:List (Nat×(List AV→(AV→Prop)→Prop))} {wl:WLT Ev.β} (hm:P.follows .mixedOrders=true) (hT:CallsOk P T) (hI:CallsOk P I)
   (hwl:∀c tm hp b K,wl c tm hp b K→W Ev c ⟨tm,hp,b⟩ (fun e s=>K e s.tm s.hp s.b)):∀c tm hp b K,wlI P T I Ev.Y wl c tm hp b K→W Ev c ⟨tm,hp,b⟩ (fun e s=>K e s.tm s.hp s.b):=
 wlM_ok hm (CX.Ok.ofWl hT SCallsOk.nil fun _ _ _ _ _ h=>h.elim) (invH_ok hI) hwl
theorem PCall.ofFnE {P:Program} {f n:Nat} {fn:Func} {args:List AV} {x:AV} {T:List (Nat×(List AV→(AV→Prop)→Prop))} {U:List (Nat×(List AV→List Blk→(AV→List Blk→Prop)→Prop))} {u:Bool} (wl:∀Ev:Env P,WLT Ev.β) (hm:P.follows .mixedOrders=true)
   (hT:CallsOk P T) (hS:SCallsOk P U) (hwl:∀(Ev:Env P) c tm hp b K,wl Ev c tm hp b K→W Ev c ⟨tm,hp,b⟩ (fun e s=>K e s.tm s.hp s.b)) (hf:P.funcs[f]? =some fn) (hn:(fn.name== "runtime.NumGoroutine")=false) (hargs:args.map Zcf=args)
   (h:∀(Ev:Env P) (b:Ev.β),wpFn P ⟨T,U,wl Ev,Ev.Y,u⟩ n fn args b (fun y _=>y=x)):PCall P f args x:=by
 cases hb:fn.body with
 | some c=>
   refine PCall.ofWS hf hb hn hargs fun Ev b=> ?_
   have h1:=h Ev b
   unfold wpFn at h1
   rw [hb] at h1
   refine wpc_sound hm (CX.Ok.ofWl hT hS (hwl Ev)) h1 fun e tm hp b hK=> ?_
   obtain ⟨g1,ys,g2,z,g3,rfl⟩:=fnK_sound hK
   exact ⟨g1,ys,g2,g3⟩
 | none=>
   have:=h (Env.none P none) ()
   unfold wpFn at this
   rw [hb] at this
   exact this.elim
theorem MCall.leT {P:Program} {γ:Type} {f:γ→List MapC} {k:Nat} {args:List AV} {g:γ} {x:AV} (h:MCall P f k args g fun y _=>LeT y x∧y.view=y):MCall P f k args g fun y _=>y=x:=by
 refine ⟨h.1,fun S w vs hl hvs hlt hgl hm hnd=> ?_⟩
 refine (CallsIn.mono (h.2 S w vs hl hvs hlt hgl hm hnd) ?_:CallsIn Fence.wide 0 P k _ w _)
 rintro e w' ⟨v,S',y,g',rfl,⟨hle,hy⟩,h1,h2,h3⟩
 rw [hy] at h3
 exact ⟨v,S',x,g',rfl,rfl,h1,h2,(hle.rv h3).view⟩
section
variable {P:Program} {S S' X X' V V':Pr} {w w':World} {lo:Nat} {r:Option Nat} {m:List MB} {B:List (AV×Value)} {hv:List (List Value)} {s:RS} {a:Act} {o o':Oper} {ops:Array Oper} {Ev:Env P} {b:Ev.β}
def LOps (Ev:Env P) (ops:Array Oper) (l:List Oper) (s:RS) (b:Ev.β) (R:RS→Ev.β→Prop):Prop:=
 ∀ (lo:Nat) (r:Option Nat) (S X V:Pr) (w:World) (m:List MB) (B:List (AV×Value)) (hv:List (List Value)) (a:Act) (Q:Exit→Act→World→Prop),Tie Ev lo r S X V w m B hv s b a→
   (∀s' b',R s' b'→Goes Ev lo r S X V w m B s' b' (Q .normal))→wpListIn (Fn r) 0 P ops Q l a w
theorem LOps.append {R:RS→Ev.β→Prop} {l1:List Oper}:∀ {l0:List Oper} {s:RS} {b:Ev.β},wOps Ev ops l0 s b (fun s1 b1=>LOps Ev ops l1 s1 b1 R)→LOps Ev ops (l0++l1) s b R
 | [],s,b,h=>h
 | o::l0,s,b,h=>by
   intro lo r S X V w m B hv a Q ht hK
   exact wOps_cons ht h fun s' b' hx' S' X' V' w' m' hv' a' hw hm ht'=>LOps.append (l0:=l0) hx' lo r S' X' V' w' m' B hv' a' Q ht'
     fun s'' b'' hr S'' X'' V'' w'' m'' hv'' a'' hw' hm' ht''=>hK s'' b'' hr S'' X'' V'' w'' m'' hv'' a'' (hw.trans hw') (hm.trans hm') ht''
theorem W.ofLOps {id:Nat} {st:St Ev.β} {Q:Exit→St Ev.β→Prop} (h:LOps Ev ops ops.toList st.rs st.b (fun s' b'=>Q .normal ⟨s'.tm,s'.hp,b'⟩)):W Ev (.region id ops false) st Q:=by
 intro lo r S X V w m B hv a ht
 refine wpIn_region_list (h lo r S X V w m B hv a _ ht fun s' b' hq S' X' V' w' m' hv' a' hw hm ht'=> ?_)
 exact ⟨⟨s'.tm,s'.hp,b'⟩,S',X',V',m',hv',hq,⟨hw,hm⟩,⟨⟨ht'.rel.1,ht'.rel.2.1,by intro p hp;cases hp⟩,ht'.sub,ht'.env,ht'.round,ht'.marks,ht'.base⟩⟩
theorem flat_zeros {i:TypeInfo} {z:Value} {zr:List Dv} (hz:zr=z.cells.toList.map Dv.s) (hsz:zr.length=i.size) (hpos:0<i.size) (hone:(zr.map AV.d).all AV.one=true) (n:Nat):Flat S w i.size (Zap n zr) (Builtin.zeroCells z.cells n).toList:=by
 subst hz
 have hzs:z.cells.size=i.size:=by simpa using hsz
 have hat:∀j,j<n*i.size→(Builtin.zeroCells z.cells n).toList[j]? =some (z.cells[j % i.size]!):=by
   intro j hj
   simp [Builtin.zeroCells,hzs,hj]
 have hlen:(Builtin.zeroCells z.cells n).toList.length=n*i.size:=by simp [Builtin.zeroCells,hzs]
 generalize (Builtin.zeroCells z.cells n).toList=news at hat hlen
 refine ⟨by simp [hlen],fun j r hr=> ?_,fun j r k x v e1 e2 e3=> ?_,fun v hv=> ?_⟩
 · rw [List.getElem?_replicate] at hr
   split at hr<;>cases hr
   simpa using hsz
 · rw [List.getElem?_replicate] at e1
   split at e1<;>cases e1
   rename_i hj
   simp only [List.getElem?_map,Zac] at e2
   obtain ⟨u,e2,rfl⟩:=e2
   have hk:k<i.size:=by rw [←hzs];have:=(Zaa.1 e2).1;simpa using this
   rw [hat _ (idx_lt hj hk)] at e3
   have hmod:(j*i.size+k) % i.size=k:=by rw [Nat.mul_comm,Nat.mul_add_mod,Nat.mod_eq_of_lt hk]
   rw [hmod] at e3
   have:z.cells[k]! =u:=by
     have h5:z.cells[k]? =some u:=by simpa using e2
     rw [getElem!_pos z.cells k (by rw [hzs];exact hk)]
     exact (Zab.1 h5).2
   rw [this] at e3;cases e3
   exact .s _
 · obtain ⟨j,hj⟩:=Zaj.1 hv
   have hjl:=(Zaa.1 hj).1
   rw [hat j (by omega)] at hj
   have hk:j % i.size<z.cells.size:=by rw [hzs];exact Nat.mod_lt _ hpos
   have hv':v=z.cells[j % i.size]:=by
     rw [getElem!_pos z.cells _ hk] at hj;exact (Option.some.inj hj).symm
   have:=Zau.1 hone (.d (.s z.cells[j % i.size])) (Zbd.2 ⟨.s z.cells[j % i.size],Zbd.2 ⟨_,by simp,rfl⟩,rfl⟩)
   rw [hv'];exact this
theorem set_same {α:Type} {l:List α} {g:Nat} {x:α} (h:l[g]? =some x):l.set g x=l:=by
 have hg:=(Zaa.1 h).1
 apply List.ext_getElem?
 intro k
 by_cases hk:g=k
 · subst hk;rw [List.getElem?_set_self hg,h]
 · rw [List.getElem?_set_ne hk]
def clearB (blk:Blk) (j n k:Nat) (zr:List Dv):Blk:= {blk with cells:=blk.cells.take (j*k)++flatA (Zap (n - j) zr)}
theorem clear_tail {t e:TypeId} {x lo':Operand} {i:TypeInfo} {g ver n d:Nat} {blk:Blk} {kk:IntKind} {j:Int} {zr:List Dv} (ho:o.op= .slice t x (some lo') none none) (hog:o.guard=none) (hod:o.dst=some d)
   (ho':o'.op= .call {callee:= .builtin .clear,args:=#[.tmp d],argTypes:=#[t]}) (hog':o'.guard=none) (hd:d<s.tm.length) (hu:P.underlying t=some (.slice e)) (hi:P.info? e=some i)
   (hx:evalA s.tm x= .gref g ver n i.size) (hj:evalA s.tm lo'= .d (.s (.int kk j))) (hg:s.hp[g]? =some blk) (hgr:blk.grow=true) (hver:blk.ver=ver) (hf:blk.fro=false) (h0:0≤j) (hn:j≤n)
   (hz:zrow i=some zr) (hsz:zr.length=i.size) (hpos:0<i.size) (hone:(zr.map AV.d).all AV.one=true):
   LOps Ev ops [o,o'] s b fun s' b'=>s'= {tm:=putA (putA s.tm (some d) .bad) o'.dst .bad,hp:=s.hp.set g (clearB blk j.toNat n i.size zr),pv:= []}∧b'=b:=by
 intro lo r S X V w m B hv a Q ht hK
 have hbase:=evalA_sound ht.rel x
 have hej:=evalA_sound ht.rel lo'
 rw [hx] at hbase
 rw [hj] at hej
 simp only [zrow,Zac] at hz
 obtain ⟨z,hz,hzr⟩:=hz
 obtain ⟨hl,hr,hpv⟩:=ht.rel
 have hr':Rel S X Ev.yl w m ((s.tm.zip a.tmps.toList++B)++cellPairs s.hp hv) s.hp hv:=by simpa using hr
 have hvj:a.eval lo'= .int kk j:=by
   generalize a.eval lo'=u at hej
   cases hej with|d h=>cases h;rfl
 generalize hva:a.eval x=va at hbase
 cases hbase with
 | gref hm hv0 h1' hcur=>
   rename_i bb len ver'
   obtain ⟨blk',vs,cur,e',g1,g2,g3,g4,g5,g6,g7,g8,g9,g10,_⟩:=hr'.block hm
   rw [hg] at g1;cases g1
   simp only at g3 g5 g6 g8 g9 g10
   obtain ⟨hlen,cap,rfl,hncap,hcm,cur',e2,hc2,hcsz⟩:=hcur (by omega)
   have e8:cur'=cur∧e2=e':=by rw [hc2] at g8;cases g8;exact ⟨rfl,rfl⟩
   obtain ⟨rfl,rfl⟩:=e8
   have hjn:j.toNat≤n:=by omega
   have hjk:j.toNat*i.size+(n - j.toNat)*i.size=len:=by rw [hlen,←Nat.add_mul];congr 1;omega
   
   have hb:bnds n cap (some (kk,j)) none none=some (j.toNat,n,cap):=by
     unfold bnds
     simp only [numOr]
     refine (if_pos ⟨h0,by omega,by omega,by omega,fun h=>by simp at h⟩).trans ?_
     simp
   obtain ⟨hb1,hb2,hb3,hb4⟩:=run_bnds (P:=P) true hb w
   have hrun:∃a2,(a2=(⟨bb,j.toNat*i.size,none⟩:Addr)∨n=j.toNat)∧(do pure (Next.value (←Instr.sliceAt t (.slice (some ⟨bb,0,none⟩) n cap) (some (.int kk j)) none none)):Sem Next).run P w= .ok (.value (.slice (some a2) (n - j.toNat) (cap - j.toNat))) w:=by
     simp only [Option.map_none,Option.map_some] at hb1
     by_cases hc:cap - j.toNat=0
     · refine ⟨⟨bb,0,none⟩, .inr (by omega), ?_⟩
       simp only [Instr.sliceAt,Sem.run_bind,run_underlying hu,Result.andThen_ok,Instr.slice,hb1,sizeOf,typeInfo,run_program,hi,Sem.run_pure]
       have hc':cap=j.toNat:=by omega
       simp [hc']
     · refine ⟨⟨bb,j.toNat*i.size,none⟩, .inl rfl, ?_⟩
       simp only [Instr.sliceAt,Sem.run_bind,run_underlying hu,Result.andThen_ok,Instr.slice,hb1,sizeOf,typeInfo,run_program,hi,Sem.run_pure]
       have hc':¬cap=j.toNat:=by omega
       simp [hc',Addr.add]
       intro hq;rw [hq]
   obtain ⟨a2,ha2,hrun⟩:=hrun
   have hexec:(execOp a.eval o).run P w= .ok (.value (.slice (some a2) (n - j.toNat) (cap - j.toNat))) w:=by
     unfold execOp;rw [ho]
     simp only [Option.map_none,Option.map_some,hva,hvj]
     exact hrun
   
   have hfl:=flat_zeros (S:=S) (w:=w) hzr.symm hsz hpos hone (n - j.toNat)
   generalize hus:(Builtin.zeroCells z.cells (n - j.toNat)).toList=us at hfl
   have hpl:=hfl.pairs.1
   have hul:us.length=(n - j.toNat)*i.size:=by have:=hfl.len;simpa using this
   have hA:=hr'.pushAll ((flatA (Zap (n - j.toNat) zr)).zip us) hfl.rvs
   obtain ⟨h2,h3⟩:=hA.storeBlock (us:=us) (off:=j.toNat*i.size) hpl hfl.one hg hm g2 hf (by rw [hul,←g3];omega) g8
   have hcells:blk.cells.take (j.toNat*i.size)++flatA (Zap (n - j.toNat) zr)++blk.cells.drop (j.toNat*i.size+(flatA (Zap (n - j.toNat) zr)).length)=(clearB blk j.toNat n i.size zr).cells:=by
     rw [List.drop_eq_nil_of_le (by rw [hpl,hul,←g3];omega),List.append_nil];rfl
   have hst:=run_storeCells_at P bb (j.toNat*i.size) e2 us 0 cur' w g8 (by omega) hfl.one
   simp only [Nat.add_zero] at hst
   
   rw [hpl] at hcells
   simp only [wpListIn,Region.wanted,hog,hog',if_true]
   refine wpIn_value (by simp [ho]) hexec (.inl rfl) ?_
   have hex2:∃w2,(w2=w.setRow bb (cur'.toList.take (j.toNat*i.size)++us++cur'.toList.drop (j.toNat*i.size+us.length)).toArray∨(w2=w∧us= []))∧
       (execOp (a.put o.dst (.slice (some a2) (n - j.toNat) (cap - j.toNat))).eval o').run P w= .ok (.value (.tuple #[])) w2:=by
     have hev:(a.put o.dst (.slice (some a2) (n - j.toNat) (cap - j.toNat))).eval (.tmp d)= .slice (some a2) (n - j.toNat) (cap - j.toNat):=by
       have:d<a.tmps.size:=by omega
       simp [hod,Act.put,Act.eval,this]
     by_cases hnj:n - j.toNat=0
     · refine ⟨w, .inr ⟨rfl,List.eq_nil_of_length_eq_zero (by rw [hul,hnj];simp)⟩, ?_⟩
       unfold execOp;rw [ho']
       simp only [resolve,List.map_toArray,List.map_cons,List.map_nil,hev]
       rw [hnj]
       simp [invoke,builtin,Builtin.clear_,run_underlying hu]
     · have ha2':a2=⟨bb,j.toNat*i.size,none⟩:=ha2.resolve_right (by omega)
       subst ha2'
       refine ⟨_, .inl rfl, ?_⟩
       obtain ⟨q,hq⟩:∃q,n - j.toNat=q+1:=⟨n - j.toNat - 1,by omega⟩
       have hus':(Builtin.zeroCells z.cells (q+1)).toList=us:=by rw [←hq];exact hus
       unfold execOp;rw [ho']
       simp only [resolve,List.map_toArray,List.map_cons,List.map_nil,hev]
       rw [hq]
       simp [invoke,builtin,Builtin.clear_,run_underlying hu,zeroValue,typeInfo,hi,hz,hus',hst]
   obtain ⟨w2,hw2,hexec2⟩:=hex2
   have hfin:RelS S X Ev.yl w2 m B (hv.set g (vs.take (j.toNat*i.size)++us++vs.drop (j.toNat*i.size+us.length))) {tm:=putA (putA s.tm (some d) .bad) o'.dst .bad,hp:=s.hp.set g (clearB blk j.toNat n i.size zr),pv:= []} ((a.put o.dst (.slice (some a2) (n - j.toNat) (cap - j.toNat))).put o'.dst (.tuple #[]))∧Gs S X none w m S w2 m:=by
     have hcl:({blk with cells:=blk.cells.take (j.toNat*i.size)++flatA (Zap (n - j.toNat) zr)++blk.cells.drop (j.toNat*i.size+us.length)}:Blk)=clearB blk j.toNat n i.size zr:=by rw [hcells];rfl
     rw [hcl] at h2
     have hR2:Rel S X Ev.yl w2 m ((s.tm.zip a.tmps.toList++B)++cellPairs (s.hp.set g (clearB blk j.toNat n i.size zr)) (hv.set g (vs.take (j.toNat*i.size)++us++vs.drop (j.toNat*i.size+us.length)))) (s.hp.set g (clearB blk j.toNat n i.size zr)) (hv.set g (vs.take (j.toNat*i.size)++us++vs.drop (j.toNat*i.size+us.length)))∧Gs S X none w m S w2 m:=by
       rcases hw2 with rfl|⟨rfl,rfl⟩
       · exact ⟨by simpa using h2,⟨h3,fun _ _ h=>h,fun _ _ h=> .inl h,MStep.refl m⟩⟩
       · have e0:(flatA (Zap (n - j.toNat) zr))= []:=List.eq_nil_of_length_eq_zero (by rw [hpl];rfl)
         have e1:clearB blk j.toNat n i.size zr=blk:=by
           have:blk.cells.take (j.toNat*i.size)=blk.cells:=List.take_of_length_le (by rw [←g3];simp at hul;omega)
           unfold clearB;rw [e0,this,List.append_nil]
         have e2:vs.take (j.toNat*i.size)++ []++vs.drop (j.toNat*i.size+([]:List Value).length)=vs:=by simp
         rw [e1,e2,set_same hg,set_same g2]
         exact ⟨hr',Gs.refl _ _ _ _ _⟩
     refine ⟨⟨by rw [putA_length,putA_length,put_size,put_size];exact hl, ?_,by intro p hp;cases hp⟩,hR2.2⟩
     have c1:=(Rel.cons (x:= .bad) (v:= .slice (some a2) (n - j.toNat) (cap - j.toNat)) hR2.1 .bad rfl)
     have c1':=Rel.putTmp (C:=B++cellPairs (s.hp.set g (clearB blk j.toNat n i.size zr)) (hv.set g (vs.take (j.toNat*i.size)++us++vs.drop (j.toNat*i.size+us.length)))) hl (by simpa using c1) o.dst
     have c2:=Rel.cons (x:= .bad) (v:= .tuple #[]) c1' .bad rfl
     have c2':=Rel.putTmp (tm:=putA s.tm o.dst .bad) (a:=a.put o.dst (.slice (some a2) (n - j.toNat) (cap - j.toNat))) (C:=B++cellPairs (s.hp.set g (clearB blk j.toNat n i.size zr)) (hv.set g (vs.take (j.toNat*i.size)++us++vs.drop (j.toNat*i.size+us.length)))) (by rw [putA_length,put_size];exact hl) (by simpa using c2) o'.dst
     rw [hod] at c2'
     rw [hod]
     simpa using c2'
   refine wpIn_value (by simp [ho']) hexec2 (.inl rfl) ?_
   have hstep:Tie Ev lo r S X V w2 m B _ _ b _:=ht.step hfin.2 hfin.1 (by rw [put_defers,put_defers])
   exact hK _ _ ⟨rfl,rfl⟩ S X V w2 m _ _ (hfin.2.went hfin.1.slt) (MStep.refl m) hstep
end
def clearC (P:Program) (s:RS) (o o':Oper) (K:RS→Prop):Prop:=
 match o.op,o.dst,o'.op with
 | .slice t x (some lo) none none,some d, .call c=>match c.callee,c.args[0]?,c.argTypes[0]? with
   | .builtin .clear,some (Operand.tmp d'),some t'=>match evalA s.tm x,evalA s.tm lo,P.underlying t with
     | .gref g ver n k, .d (.s (.int _ j)),some (.slice e)=>match P.info? e,s.hp[g]? with
       | some i,some blk=>match zrow i with
         |some zr=>BIf (o.guard.isNone&&(o'.guard.isNone&&(Nat.beq d d'&&(Nat.beq t t'&&(Nat.beq c.args.size 1&&(Nat.beq c.argTypes.size 1&&(Nat.blt d s.tm.length&&(blk.grow&&(!blk.fro&&(Nat.beq k i.size&&(Nat.beq zr.length i.size&&(Nat.blt 0 i.size&&(zr.map AV.d).all AV.one))))))))))))
             (blk.ver=ver∧BIf (decide (0≤j)&&decide (j≤n)) (K {tm:=putA (putA s.tm (some d) .bad) o'.dst .bad,hp:=s.hp.set g (clearB blk j.toNat n i.size zr),pv:= []}) False) False
         |none=>False
       |_,_=>False
     |_,_,_=>False
   |_,_,_=>False
 |_,_,_=>False
def regionZ {β:Type} (P:Program) (X:CX β) (ops:Array Oper) (tm:List AV) (hp:List Blk) (b:β) (K:List AV→List Blk→β→Prop):Prop:=
 match ops.toList.reverse with
 |o'::o::l=>opsC P X ops l.reverse ⟨tm,hp, []⟩ b fun s b=>clearC P s o o' fun s=>K s.tm s.hp b
 |_=>False
def wlZ {β:Type} (P:Program) (X:CX β) (wl:WLT β):WLT β
 | .region id ops false,tm,hp,b,K=>regionZ P X ops tm hp b (K .normal)
 |c,tm,hp,b,K=>wl c tm hp b K
section
variable {P:Program} {Ev:Env P} {X:CX Ev.β} {ops:Array Oper} {o o':Oper} {s:RS} {b:Ev.β}
theorem one_of {α:Type} {l:Array α} {x:α} (h0:l[0]? =some x) (h1:l.size=1):l=#[x]:=by
 apply Array.ext_getElem?
 intro j
 match j with
 |0=>simpa using h0
 |j+1=>simp [Array.getElem?_eq_none (by omega:l.size≤j+1)]
theorem clearC_sound {K:RS→Prop} (h:clearC P s o o' K):LOps Ev ops [o,o'] s b fun s' b'=>K s'∧b'=b:=by
 unfold clearC at h
 split at h<;>try exact h.elim
 rename_i t x lo d c ho hod ho'
 split at h<;>try exact h.elim
 rename_i d' t' hcal ha hat
 split at h<;>try exact h.elim
 rename_i g ver n k kk j e hx hj hu
 split at h<;>try exact h.elim
 rename_i i blk hi hg
 split at h<;>try exact h.elim
 rename_i zr hz
 obtain ⟨hc,hver,h⟩:=h.elim'
 obtain ⟨hjn,hK⟩:=h.elim'
 simp only [Zag,Option.isNone_iff_eq_none,Bool.not_eq_true',decide_eq_true_eq] at hc hjn
 obtain ⟨c1,c2,c3,c4,c5,c6,c7,c8,c9,c10,c11,c12,c13⟩:=hc
 have c3:=Zbk c3
 have c4:=Zbk c4
 have c10:=Zbk c10
 subst c3 c4 c10
 have ea:=one_of ha (Zbk c5)
 have eat:=one_of hat (Zbk c6)
 have ho2:o'.op= .call {callee:= .builtin .clear,args:=#[.tmp d],argTypes:=#[t]}:=by
   rw [ho']
   obtain ⟨q1,q2,q3⟩:=c
   simp only at hcal ea eat
   subst hcal ea eat
   rfl
 have:=clear_tail (Ev:=Ev) (ops:=ops) (s:=s) (b:=b) ho c1 hod ho2 c2 (by rw [←Nat.blt_eq];exact c7) hu hi hx hj hg c8 hver c9 hjn.1 hjn.2 hz (Zbk c11) (by rw [←Nat.blt_eq];exact c12) c13
 intro lo r S X V w m B hv a Q ht hKK
 refine this lo r S X V w m B hv a Q ht ?_
 rintro s' b' ⟨rfl,rfl⟩
 exact hKK _ _ ⟨hK,rfl⟩
theorem wlZ_ok {wl:WLT Ev.β} (hX:X.Ok) (hwl:∀c tm hp b K,wl c tm hp b K→W Ev c ⟨tm,hp,b⟩ (fun e s=>K e s.tm s.hp s.b)):∀c tm hp b K,wlZ P X wl c tm hp b K→W Ev c ⟨tm,hp,b⟩ (fun e s=>K e s.tm s.hp s.b):=by
 intro c tm hp b K h
 cases c with
 | region id ops d=>
   cases d with
   |true=>exact hwl _ _ _ _ _ h
   | false=>
     have h:regionZ P X ops tm hp b (K .normal):=h
     unfold regionZ at h
     split at h
     · rename_i o' o l hl
       refine W.ofLOps ?_
       have e:ops.toList=l.reverse++ [o,o']:=by
         have:=congrArg List.reverse hl
         simpa using this
       rw [e]
       refine LOps.append (opsC_sound hX h fun s' b' h=> ?_)
       have:=clearC_sound (Ev:=Ev) (ops:=ops) (b:=b') h
       intro lo r S X V w m B hv a Q ht hKK
       refine this lo r S X V w m B hv a Q ht ?_
       rintro s'' b'' ⟨h1,rfl⟩
       exact hKK _ _ h1
     · exact h.elim
 |_=>exact hwl _ _ _ _ _ h
end
end Go.Proofs.YtlnenbbmhidjeaaDoor.Am
namespace Go.Proofs
open Go.Shelf
def Tryd.keysA_ren:Go.Shelf.Ren:=⟨fun|7=>51|10=>60|n=>n,fun|23=>59|26=>3|3=>40|28=>86|0=>0|27=>85|33=>76|4=>4|n=>n,fun|n=>n⟩
theorem Tryd.keysA:Go.Proofs.SlLaysZI.n7 Tryd.prog Tryd.keysA_ren:= {
  mixed:=by kernel_rfl
  f7:=⟨Tryd.f51.name,by decide,Tryd.func51.trans (congrArg some (by kernel_rfl))⟩
  f10:=⟨Tryd.f60.name,by decide,Tryd.func60.trans (congrArg some (by kernel_rfl))⟩
  t0:=Tryd.underlying0
  a0:=Tryd.isAgg0
  z0:=Tryd.sizeOf0
  v0:=Tryd.zeroValue0
  t4:=Tryd.underlying4
  a4:=Tryd.isAgg4
  z4:=Tryd.sizeOf4
  v4:=Tryd.zeroValue4
  t23:=Tryd.underlying59
  a23:=Tryd.isAgg59
  z23:=Tryd.sizeOf59
  v23:=Tryd.zeroValue59
  t26:=Tryd.underlying3
  a26:=Tryd.isAgg3
  z26:=Tryd.sizeOf3
  v26:=Tryd.zeroValue3
  t27:=Tryd.underlying85
  a27:=Tryd.isAgg85
  z27:=Tryd.sizeOf85
  v27:=Tryd.zeroValue85
  t28:=Tryd.underlying86
  a28:=Tryd.isAgg86
  z28:=Tryd.sizeOf86
  v28:=Tryd.zeroValue86
  t33:=Tryd.underlying76
  a33:=Tryd.isAgg76
  z33:=Tryd.sizeOf76
  v33:=Tryd.zeroValue76}
def Tryd.sortedA_ren:Go.Shelf.Ren:=⟨fun|6=>50|8=>58|9=>59|11=>64|13=>66|12=>65|23=>78|24=>79|14=>69|15=>70|16=>71|17=>72|18=>73|19=>74|20=>75|21=>76|22=>77|25=>80|26=>81|27=>82|28=>83|29=>84|30=>85|31=>86|n=>n,fun|26=>3|28=>86|24=>83|0=>0|3=>3|37=>102|48=>112|50=>81|4=>4|40=>105|39=>104|45=>109|5=>5|9=>9|51=>115|55=>119|57=>121|58=>122|33=>76|n=>n,fun|n=>n⟩
theorem Tryd.sortedA:Go.Proofs.SlLaysZI.n6 Tryd.prog Tryd.sortedA_ren:= {
  mixed:=by kernel_rfl
  f6:=⟨Tryd.f50.name,by decide,Tryd.func50.trans (congrArg some (by kernel_rfl))⟩
  f8:=⟨Tryd.f58.name,by decide,Tryd.func58.trans (congrArg some (by kernel_rfl))⟩
  f11:=⟨Tryd.f64.name,by decide,Tryd.func64.trans (congrArg some (by kernel_rfl))⟩
  t0:=Tryd.underlying0
  a0:=Tryd.isAgg0
  z0:=Tryd.sizeOf0
  v0:=Tryd.zeroValue0
  t24:=Tryd.underlying83
  a24:=Tryd.isAgg83
  z24:=Tryd.sizeOf83
  v24:=Tryd.zeroValue83
  t26:=Tryd.underlying3
  a26:=Tryd.isAgg3
  z26:=Tryd.sizeOf3
  v26:=Tryd.zeroValue3
  t28:=Tryd.underlying86
  a28:=Tryd.isAgg86
  z28:=Tryd.sizeOf86
  v28:=Tryd.zeroValue86
  i26:=by kernel_rfl}
def Tryd.sortA_ren:Go.Shelf.Ren:=⟨fun|5=>59|8=>66|7=>65|19=>78|20=>79|10=>69|11=>70|12=>71|13=>72|14=>73|15=>74|16=>75|17=>76|18=>77|30=>80|31=>81|32=>82|33=>83|34=>84|35=>85|40=>86|n=>n,fun|23=>83|25=>3|3=>3|32=>102|22=>83|0=>0|44=>112|46=>81|4=>4|36=>105|35=>104|41=>109|5=>5|9=>9|53=>115|57=>119|63=>121|64=>122|n=>n,fun|n=>n⟩
theorem Tryd.sortA:Go.Proofs.SlLaysM.n5 Tryd.prog Tryd.sortA_ren:= {
  mixed:=by kernel_rfl
  f5:=⟨Tryd.f59.name,by decide,Tryd.func59.trans (congrArg some (by kernel_rfl))⟩
  f7:=⟨Tryd.f65.name,by decide,Tryd.func65.trans (congrArg some (by kernel_rfl))⟩
  f8:=Tryd.func66.trans (congrArg some (by kernel_rfl))
  f10:=⟨Tryd.f69.name,by decide,Tryd.func69.trans (congrArg some (by kernel_rfl))⟩
  f11:=⟨Tryd.f70.name,by decide,Tryd.func70.trans (congrArg some (by kernel_rfl))⟩
  f12:=⟨Tryd.f71.name,by decide,Tryd.func71.trans (congrArg some (by kernel_rfl))⟩
  f13:=⟨Tryd.f72.name,by decide,Tryd.func72.trans (congrArg some (by kernel_rfl))⟩
  f14:=⟨Tryd.f73.name,by decide,Tryd.func73.trans (congrArg some (by kernel_rfl))⟩
  f15:=⟨Tryd.f74.name,by decide,Tryd.func74.trans (congrArg some (by kernel_rfl))⟩
  f16:=⟨Tryd.f75.name,by decide,Tryd.func75.trans (congrArg some (by kernel_rfl))⟩
  f17:=⟨Tryd.f76.name,by decide,Tryd.func76.trans (congrArg some (by kernel_rfl))⟩
  f18:=⟨Tryd.f77.name,by decide,Tryd.func77.trans (congrArg some (by kernel_rfl))⟩
  f19:=Tryd.func78.trans (congrArg some (by kernel_rfl))
  f20:=Tryd.func79.trans (congrArg some (by kernel_rfl))
  f30:=⟨Tryd.f80.name,by decide,Tryd.func80.trans (congrArg some (by kernel_rfl))⟩
  f31:=Tryd.func81.trans (congrArg some (by kernel_rfl))
  f32:=Tryd.func82.trans (congrArg some (by kernel_rfl))
  f33:=⟨Tryd.f83.name,by decide,Tryd.func83.trans (congrArg some (by kernel_rfl))⟩
  f34:=⟨Tryd.f84.name,by decide,Tryd.func84.trans (congrArg some (by kernel_rfl))⟩
  f35:=⟨Tryd.f85.name,by decide,Tryd.func85.trans (congrArg some (by kernel_rfl))⟩
  f40:=⟨Tryd.f86.name,by decide,Tryd.func86.trans (congrArg some (by kernel_rfl))⟩
  t0:=Tryd.underlying0
  a0:=Tryd.isAgg0
  z0:=Tryd.sizeOf0
  v0:=Tryd.zeroValue0
  t3:=Tryd.underlying3
  a3:=Tryd.isAgg3
  z3:=Tryd.sizeOf3
  v3:=Tryd.zeroValue3
  t4:=Tryd.underlying4
  a4:=Tryd.isAgg4
  z4:=Tryd.sizeOf4
  v4:=Tryd.zeroValue4
  t5:=Tryd.underlying5
  a5:=Tryd.isAgg5
  z5:=Tryd.sizeOf5
  v5:=Tryd.zeroValue5
  t9:=Tryd.underlying9
  a9:=Tryd.isAgg9
  z9:=Tryd.sizeOf9
  v9:=Tryd.zeroValue9
  t22:=Tryd.underlying83
  a22:=Tryd.isAgg83
  z22:=Tryd.sizeOf83
  v22:=Tryd.zeroValue83
  t23:=Tryd.underlying83
  a23:=Tryd.isAgg83
  z23:=Tryd.sizeOf83
  v23:=Tryd.zeroValue83
  t25:=Tryd.underlying3
  a25:=Tryd.isAgg3
  z25:=Tryd.sizeOf3
  v25:=Tryd.zeroValue3
  t32:=Tryd.underlying102
  a32:=Tryd.isAgg102
  z32:=Tryd.sizeOf102
  v32:=Tryd.zeroValue102
  t35:=Tryd.underlying104
  a35:=Tryd.isAgg104
  z35:=Tryd.sizeOf104
  v35:=Tryd.zeroValue104
  t36:=Tryd.underlying105
  a36:=Tryd.isAgg105
  z36:=Tryd.sizeOf105
  v36:=Tryd.zeroValue105
  t41:=Tryd.underlying109
  a41:=Tryd.isAgg109
  z41:=Tryd.sizeOf109
  v41:=Tryd.zeroValue109
  t44:=Tryd.underlying112
  a44:=Tryd.isAgg112
  z44:=Tryd.sizeOf112
  v44:=Tryd.zeroValue112
  t46:=Tryd.underlying81
  a46:=Tryd.isAgg81
  z46:=Tryd.sizeOf81
  v46:=Tryd.zeroValue81
  t53:=Tryd.underlying115
  a53:=Tryd.isAgg115
  z53:=Tryd.sizeOf115
  v53:=Tryd.zeroValue115
  t57:=Tryd.underlying119
  a57:=Tryd.isAgg119
  z57:=Tryd.sizeOf119
  v57:=Tryd.zeroValue119
  t63:=Tryd.underlying121
  a63:=Tryd.isAgg121
  z63:=Tryd.sizeOf121
  v63:=Tryd.zeroValue121
  t64:=Tryd.underlying122
  a64:=Tryd.isAgg122
  z64:=Tryd.sizeOf122
  v64:=Tryd.zeroValue122}
end Go.Proofs
namespace Go.Proofs.YtlnenbbmhidjeaaDoor.Am
open Go Go.RowKit Go.Proofs
open AV renaming view → Zcf
open _root_.Array renaming getElem?_eq_some_iff → Zab
open Bool renaming and_eq_true → Zag
open Go.IntKind renaming wrap → Zad
open List renaming all_eq_true → Zau, getElem?_eq_some_iff → Zaa, getElem?_take → Zak, mem_append → Zax, mem_cons → Zce, mem_iff_getElem? → Zaj, mem_map → Zbd, mem_of_getElem? → Zcu, replicate → Zap
open Nat renaming eq_of_beq_eq_true → Zbk
open Option renaming map_eq_some_iff → Zac
open AV (bad)
theorem mixed:Tryd.prog.follows .mixedOrders=true:=by kernel_rfl
set_option linter.unusedVariables false
set_option maxRecDepth 20000
def rowA (m:Int) (b:List Int):AV:= .agg [.d (i64 m), .d (.sl 1 (bytesR b))]
def pad (b:List Int):List Int:=(b++Zap 16 0).take 16
def fine (m:Int) (b:List Int):Bool:=decide (m≥1)&&(decide (m<65536)&&((b.length:Int)==16))
def xor8 (a b:Int):Int:=Zad IntKind.u8 ↑((BitVec.ofInt 8 a ^^^ BitVec.ofInt 8 b).toNat)
def xorL (p q:List Int):List Int:=(List.range 16).map fun i=>xor8 (nth p i) (nth q i)
section
end
def lead (m:Int):Int:=(2 ^ m.toNat.log2:Nat)
def b16 (p:List Int):List Int:=(List.range 16).map (nth p)
abbrev Row:=Int×List Int
def rowD (r:Row):List Dv:= [i64 r.1, .sl 1 (bytesR r.2)]
def rowsR (l:List Row):List (List Dv):=l.map rowD
section
end
def and64 (a b:Int):Int:=Zad .i64 ((BitVec.ofInt 64 a&&&BitVec.ofInt 64 b).toNat:Nat)
def or64 (a b:Int):Int:=Zad .i64 ((BitVec.ofInt 64 a|||BitVec.ofInt 64 b).toNat:Nat)
def xor64 (a b:Int):Int:=Zad .i64 ((BitVec.ofInt 64 a ^^^ BitVec.ofInt 64 b).toNat:Nat)
def red (x:Row) (r:Row):Row:=if and64 x.1 (lead r.1) !=0 then (xor64 x.1 r.1,xorL x.2 (pad r.2)) else x
section
end
abbrev cell (x:Dv):Blk:=⟨[.d x],false,false,0⟩
def vA:List Row→Int×Int→(Int×Int)×Bool
 | [],s=>(s,true)
 |r::l,s=>if fine r.1 r.2&&decide (lead r.1<s.2) then vA l (or64 s.1 (lead r.1),lead r.1) else (s,false)
def vB (L:Int) (l:List Row):Bool:=l.all fun r=>and64 r.1 L==lead r.1
def validS (l:List Row):Bool:=(vA l (0,65536)).2&&vB (vA l (0,65536)).1.1 l
section
end
section
end
def keepR (r:Row):Row:=(r.1,b16 (pad r.2))
def stepB (e:Row) (s:List Row×Bool) (r:Row):List Row×Bool:=
 ((if !s.2&&decide (lead r.1<lead e.1) then s.1++ [(e.1,b16 e.2)] else s.1)++ [if and64 r.1 (lead e.1) !=0 then (xor64 r.1 e.1,b16 (xorL (pad r.2) e.2)) else (r.1,b16 (pad r.2))],
  s.2||decide (lead r.1<lead e.1))
section
end
def zero16 (p:List Int):Bool:=(List.range 16).all fun i=>nth p i==0
def addR (x:List Row×Bool×Int):AV:= .tup [.d (.sl 2 (rowsR x.1)), .d (bo x.2.1), .d (i64 x.2.2)]
def addS (l:List Row) (m:Int) (b:List Int):List Row×Bool×Int:=
 if !validS l|| !fine m b then ([],false,1) else
 let x:=l.foldl red (m,pad b)
 if x.1==0&&zero16 x.2 then (l.map keepR,false,0) else if x.1==0 then ([],false,12) else
 let s:=l.foldl (stepB x) ([],false)
 (if !s.2 then s.1++ [(x.1,b16 x.2)] else s.1,true,0)
def c12 (args:List AV) (K:AV→Prop):Prop:=∃(l:List Row) (m:Int) (b:List Int) (x:List Row×Bool×Int),args= [.d (.sl 2 (rowsR l)),rowA m b]∧2*l.length≤1000000∧x=addS l m b∧K (addR x)
section
end
section
end
section
end
section
end
def fewS (l:List Row):Bool:=(l.all fun r=>decide (r.2.length≤100))&&decide (l.length≤40)
section
end
def c11 (args:List AV) (K:AV→Prop):Prop:=∃(l:List Row),args= [.d (.sl 2 (rowsR l))]∧l.length≤9223372036854775807∧K (.d (bo (fewS l)))
section
end
section
end
section
end
def nilA:AV:= .d (.s (.slice none 0 0))
section
end
section
end
section
end
def mixS (x s f:Int):Int:=Zad .u64 (Zad .u64 ((BitVec.ofInt 64 x ^^^ BitVec.ofInt 64 (x.fdiv s)).toNat:Int)*f)
def nextS (x:Int):Int:=mixS (mixS (mixS (Zad .u64 (x+11400714819323198485)) 1073741824 13787848793156543929) 134217728 10723151780598845931) 2147483648 1
def halfS (x:Int):Int:=Zad .i64 (x.fdiv 4294967296)
def firstS (x:Int):Int:=halfS (nextS x)
section
variable {β:Type} (wl:WLT β) (y:YieldT β) (b:β) (R:AV→β→Prop)
theorem f67_nf (x:Int):wpFn Tryd.prog ⟨[], [],wl,y,true⟩ 100 Tryd.f68 [.d (u64 x)] b R=R (.d (u64 (nextS x))) b:=by kernel_rfl
end
theorem pc67 (x:Int):PCall Tryd.prog 68 [.d (u64 x)] (.d (u64 (nextS x))):=by
 refine PCall.ofFn (n:=100) (u:=true) mixed CallsOk.nil SCallsOk.nil Tryd.func68 (by rfl) (by rfl) fun Ev bb=> ?_
 rw [f67_nf]
def c67 (args:List AV) (K:AV→Prop):Prop:=∃(x:Int),args= [.d (u64 x)]∧K (.d (u64 (nextS x)))
theorem c67_ok:∀args K,c67 args K→∃x,PCall Tryd.prog 68 args x∧K x:=by
 rintro _ K ⟨x,rfl,h⟩;exact ⟨_,pc67 x,h⟩
def HSp {β:Type} (Y:YieldT β):Nat→Int→β→(β→Prop)→Prop
 |0,_,_,_=>False
 |n+1,x,b,Q=>Y b [.d (i64 (halfS x))] fun cont b'=>BIf cont (HSp Y n (nextS x) b' Q) (Q b')
def cellU (x:Int):Blk:=⟨[.d (u64 x)],false,false,0⟩
noncomputable def lp66:Code:=sub [1,2,3] (code Tryd.f67)
def tm66:List AV:= [.yl, .ptr 0 0]++Zap 10 .bad
def T66:List (Nat×(List AV→(AV→Prop)→Prop)):= [(68,c67)]
theorem T66_ok:CallsOk Tryd.prog T66:=CallsOk.cons c67_ok CallsOk.nil
section
variable {β:Type} (wl:WLT β) (y:YieldT β) (b:β) (K:Exit→List AV→List Blk→β→Prop)
theorem f66_round (x:Int):wpc Tryd.prog ⟨T66, [],wl,y,false⟩ 100 lp66 tm66 [cellU x] b (maskT [0,1] K)=(
 y b [AV.d (i64 (halfS x))] fun cont0 b1=>BIf cont0 (∃x2:Int, [AV.d (u64 x)]= [AV.d (u64 x2)]∧K .normal tm66 [cellU (nextS x2)] b1) (K (.exit 0) tm66 [cellU x] b1)):=by kernel_rfl
end
def wl66 {β:Type} (y:YieldT β):WLT β:=fun c tm hp b K=>∃(n:Nat) (x:Int),c= .loop lp66∧maskTm [0,1] 0 tm=tm66∧hp= [cellU x]∧HSp y n x b fun b'=>∀z,K (.exit 0) tm66 [cellU z] b'
theorem HSp.yoke {Ev:Env Tryd.prog} {Q Q':Ev.β→Prop} (hq:∀b,Q b→Q' b):∀(n:Nat) (x:Int) (b:Ev.β),HSp Ev.Y n x b Q→HSp Ev.Y n x b Q'
 |0,_,_,h=>h.elim
 | n+1,x,b,h=>Ev.Ymono h fun c b' h=>by
   cases c with
   |true=>exact HSp.yoke hq n _ _ h
   |false=>exact hq _ h
theorem wr66 {Ev:Env Tryd.prog} {Q:Exit→St Ev.β→Prop}:∀(n:Nat) (x:Int) (b:Ev.β),(HSp Ev.Y n x b fun b'=>∀z,Q (.exit 0) ⟨tm66, [cellU z],b'⟩)→WR Ev lp66 n ⟨tm66, [cellU x],b⟩ Q
 |0,_,_,h=>h.elim
 | n+1,x,b,h=>by
   refine WR.ofMaskT [0,1] mixed (CX.Ok.of (u:=false) T66_ok SCallsOk.nil) (k:=100) ?_
   rw [f66_round]
   refine Ev.Ymono h fun c b' h=> ?_
   cases c with
   |true=>exact ⟨x,rfl,wr66 n _ _ h⟩
   |false=>exact h _
theorem wl66_ok {Ev:Env Tryd.prog} (c:Code) (tm:List AV) (hp:List Blk) (b:Ev.β) (K:Exit→List AV→List Blk→Ev.β→Prop) (h:wl66 Ev.Y c tm hp b K):W Ev c ⟨tm,hp,b⟩ (fun e s=>K e s.tm s.hp s.b):=by
 obtain ⟨n,x,rfl,htm,rfl,hK⟩:=h
 refine W.cast (htm▸maskTm_le _ tm 0) (LeH.refl _) ?_
 exact W.rounds (wr66 (Q:=fun e s=>K e s.tm s.hp s.b) n x b hK)
section
variable {β:Type} (y:YieldT β) (b:β) (Q:β→Prop)
theorem f66_nf (x:Int):wpc Tryd.prog ⟨T66, [],wl66 y,y,false⟩ 100 (code Tryd.f67) (startTm Tryd.f67 [.yl, .ptr 0 0]) [cellU x] b (fnK Tryd.prog Tryd.f67 fun _ b=>Q b)=(
 ∃x0:Int, [AV.d (u64 x)]= [AV.d (u64 x0)]∧∃(n:Nat) (z:Int),Code.loop lp66= .loop lp66∧tm66=tm66∧ [cellU (nextS x0)]= [cellU z]∧HSp y n z b fun b'=>∀_:Int,Q b'):=by kernel_rfl
end
def halvesSp (x:Int):SpT:=fun Y b Q=>∃n,HSp Y n (nextS x) b Q
theorem ic66 (x:Int):ICallB Tryd.prog 67 [.yl, .ptr 0 0] (cellU x) (halvesSp x):=by
 refine ICallB.ofW (c:=code Tryd.f67) Tryd.func67 rfl rfl fun Ev b Q h=> ?_
 obtain ⟨n,h⟩:=h
 have h1:wpc Tryd.prog ⟨T66, [],wl66 Ev.Y,Ev.Y,false⟩ 100 (code Tryd.f67) (startTm Tryd.f67 [.yl, .ptr 0 0]) [cellU x] b (fnK Tryd.prog Tryd.f67 fun _ b=>Q b):=by
   rw [f66_nf]
   exact ⟨x,rfl,n,_,rfl,rfl,rfl,HSp.yoke (fun b h _=>h) _ _ _ h⟩
 refine wpc_sound mixed (CX.Ok.ofWl T66_ok SCallsOk.nil wl66_ok) h1 fun e tm hp b hK=> ?_
 obtain ⟨g1,ys,g2,z,g3,g4⟩:=fnK_sound hK
 exact ⟨g1,ys,g2,g4⟩
section
variable {β:Type} (wl:WLT β) (y:YieldT β) (b:β) (R:AV→List Blk→β→Prop)
theorem f63_nf (x:Int):wpFnS Tryd.prog ⟨[], [],wl,y,false⟩ 100 Tryd.f63 [.d (u64 x)] b R=R (.fn (.func 67) [] [.ptr 0 0]) [cellU x] b:=by kernel_rfl
end
theorem fc63 (x:Int):FCall Tryd.prog 63 [.d (u64 x)] (.fn (.func 67) [] [.ptr 0 0]) [cellU x]:=by
 refine FCall.ofFnW (n:=100) (u:=false) (fun _=>fun _ _ _ _ _=>False) mixed CallsOk.nil SCallsOk.nil (fun Ev _ _ _ _ _ h=>h.elim) Tryd.func63 (by rfl) (by rfl) (by rfl) fun Ev bb=> ?_
 rw [f63_nf]
 exact ⟨rfl,rfl⟩
def s63 (args:List AV) (hp:List Blk) (K:AV→List Blk→Prop):Prop:=∃(x:Int),args= [.d (u64 x)]∧K (.fn (.func 67) [] [.ptr hp.length 0]) (hp++ [cellU x])
theorem s63_ok:∀args hp K,s63 args hp K→∃x hp',SCall Tryd.prog 63 args hp x hp'∧K x hp':=by
 rintro _ hp K ⟨x,rfl,h⟩
 exact ⟨_,_,(fc63 x).toS rfl hp,by simpa [shift,shifts,shiftH,shiftB,cellU] using h⟩
def T58:List (Nat×(List AV→List Blk→(AV→List Blk→Prop)→Prop)):= [(63,s63)]
theorem T58_ok:SCallsOk Tryd.prog T58:=SCallsOk.cons s63_ok SCallsOk.nil
noncomputable def rf58:Code:=sub [1,0,1,2] (code Tryd.f57)
def cellI (x:Int):Blk:=⟨[.d (i64 x)],false,false,0⟩
def tm58 (x:Int):List AV:= [.d (u64 x), .bad, .ptr 0 0, .bad, .bad, .fn (.func 67) [] [.ptr 1 0], .bad, .bad]
section
variable {β:Type} (wl:WLT β) (y:YieldT β) (b:β) (K:Exit→List AV→List Blk→β→Prop)
theorem f58_a (x:Int):wpc Tryd.prog ⟨[],T58,wl,y,false⟩ 100 (sub [0] (code Tryd.f57)) (startTm Tryd.f57 [.d (u64 x)]) [] b K=K .normal [.d (u64 x), .bad, .ptr 0 0, .bad, .bad, .bad, .bad, .bad] [cellI 0] b:=by kernel_rfl
theorem f58_b (x:Int):wpc Tryd.prog ⟨[],T58,wl,y,false⟩ 100 (sub [1,0,0] (code Tryd.f57)) [.d (u64 x), .bad, .ptr 0 0, .bad, .bad, .bad, .bad, .bad] [cellI 0] b (maskT [0,2,5] K)=(
 ∃x0:Int, [AV.d (u64 x)]= [.d (u64 x0)]∧K .normal (tm58 x) [cellI 0,cellU x0] b):=by kernel_rfl
theorem f58_c (x h:Int) (K:Exit→List Blk→β→Prop):wpcY Tryd.prog ⟨[], [],wl,y,false⟩ 100 #[6] (assignOf rf58) (bodyOf rf58) (lowTm 1 (tm58 x)) [.d (i64 h)] [cellI 0] b (takeK 1 K)=K .ret [cellI h] b:=by kernel_rfl
end
theorem rf58_shape:rf58= .rangeFunc (.tmp 5) #[6] (assignOf rf58) (bodyOf rf58):=by kernel_rfl
theorem f58_shape:code Tryd.f57= .seq (sub [0] (code Tryd.f57)) (.seq (.seq (sub [1,0,0] (code Tryd.f57)) (.block 0 rf58)) (sub [1,1] (code Tryd.f57))):=by kernel_rfl
theorem f58_res (x y:Int):resAs Tryd.prog [cellI x] (lowTm 1 (tm58 y)) Tryd.f57.results.toList=some [.d (i64 x)]:=by kernel_rfl
theorem pc58 (x:Int):PCall Tryd.prog 57 [.d (u64 x)] (.d (i64 (firstS x))):=by
 refine PCall.ofW0 (x0:=i64 (firstS x)) (c:=code Tryd.f57) Tryd.func57 rfl rfl rfl fun Ev b=> ?_
 rw [f58_shape]
 refine W0.seq (W0.of (wpc_sound mixed (CX.Ok.of (u:=false) CallsOk.nil T58_ok) (n:=100) (K:=thenK (fun tm hp b'=>tm= [.d (u64 x), .bad, .ptr 0 0, .bad, .bad, .bad, .bad, .bad]∧hp= [cellI 0]) fun _ _ _ _=>False) ?_ ?_))
 · rw [f58_a];exact ⟨rfl,rfl⟩
 intro e tm hp b' h
 cases e<;>first|exact h.elim|skip
 obtain ⟨rfl,rfl⟩:=h
 refine W0.seq (W0.seq (W0.of (W.castPost (wpc_sound mixed (CX.Ok.of (u:=false) CallsOk.nil T58_ok) (n:=100) (K:=maskT [0,2,5] (thenK (fun tm hp b'=>tm=tm58 x∧hp= [cellI 0,cellU x]) fun _ _ _ _=>False)) ?_ ?_))))
 · rw [f58_b];exact ⟨x,rfl,rfl,rfl⟩
 intro e tm hp b' h
 refine ⟨_,_,maskTm_le [0,2,5] tm 0,LeH.refl _, ?_⟩
 cases e<;>first|exact h.elim|skip
 obtain ⟨h1,rfl⟩:=h
 show W0 Ev _ _ _
 rw [h1]
 refine W0.block ?_
 rw [rf58_shape]
 refine W0.range (hp0:= [cellI 0]) (blk:=cellU x) rfl rfl rfl rfl rfl rfl rfl (ic66 x) ?_
 refine ⟨1, ?_⟩
 refine YBody.ofWp (k:=100) (X:=⟨[], [],wlW Ev,Ev.Y,false⟩) (K:=takeK 1 fun e hp b'=>e= .ret∧hp= [cellI (firstS x)]) mixed (CX.Ok.of CallsOk.nil SCallsOk.nil) rfl ?_ ?_
 · show wpcY _ _ _ _ _ _ (lowTm 1 (tm58 x)) [.d (i64 (halfS (nextS x)))] [cellI 0] _ _
   rw [f58_c];exact ⟨rfl,rfl⟩
 intro e tm hp b' h
 obtain ⟨h1,h2,h3⟩:=h.elim'
 subst h2
 refine ⟨h1, ?_⟩
 refine BIf.f rfl ?_
 have h4:List.take [cellI 0].length hp= [cellI (firstS x)]:=h3
 rw [h4]
 exact ⟨.inl rfl,_,f58_res _ x,rfl,rfl⟩
def c58 (args:List AV) (K:AV→Prop):Prop:=∃(x:Int),args= [.d (u64 x)]∧K (.d (i64 (firstS x)))
theorem c58_ok:∀args K,c58 args K→∃x,PCall Tryd.prog 57 args x∧K x:=by
 rintro _ K ⟨x,rfl,h⟩;exact ⟨_,pc58 x,h⟩
theorem nextS_range (x:Int):0≤nextS x∧nextS x<18446744073709551616:=wrap_u64_range _
theorem halfS_range {x:Int} (h0:0≤x) (h1:x<18446744073709551616):halfS x=x / 4294967296∧0≤halfS x∧halfS x<4294967296:=by
 have e:x.fdiv 4294967296=x / 4294967296:=by rw [Int.fdiv_eq_ediv_of_nonneg _ (by omega)]
 have h:halfS x=x / 4294967296:=by
   unfold halfS
   rw [e,wrap_i64 (by omega) (by omega)]
 rw [h];omega
theorem firstS_range (x:Int):0≤firstS x∧firstS x<4294967296:=(halfS_range (nextS_range x).1 (nextS_range x).2).2
section
end
section
end
section
end
section
end
section
end
end Go.Proofs.YtlnenbbmhidjeaaDoor.Am
