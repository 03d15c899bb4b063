import Derived.TacticsIn
import Derived.RangeFuncLeaves
import Derived.RangeFuncFrom
import Derived.OrdersIn
import Derived.LoopNIn
import Derived.Laws.MakeOwn
import Derived.Laws.OwnMore
import Derived.Below
set_option linter.unusedSimpArgs false
set_option linter.unusedVariables false
namespace Go.Proofs.YtibhflogmbfpcaaGreatDoor.Am
open Go
open _root_.Array renaming all_eq_true_iff_forall_mem → Zds, eq_empty_of_size_eq_zero → Zcq, ext_getElem? → Zcf, getElem?_eq_none → Zcu, getElem?_eq_some_iff → Zah, getElem?_setIfInBounds_ne → Zcw
open Bool renaming and_eq_true → Zal, false_eq_true → Zbt
open Go.Builtin renaming append_ → Zcb, zeroCells → Zaz
open Go.Fence renaming wide → Zdi
open Go.Instr renaming indexAt → Zdr, sliceAt → Zdf, sliceBounds → Zdw, sureAddr → Zcy
open Int renaming eq_ofNat_of_zero_le → Zcs
open List renaming all_eq_true → Zav, getElem?_append_left → Zan, getElem?_append_right → Zao, getElem?_drop → Zbm, getElem?_eq_none → Zby, getElem?_eq_some_iff → Zaa, getElem?_map → Zbf, getElem?_set_ne → Zcg, getElem?_set_self → Zbw, getElem?_take → Zaq, getElem?_take_of_lt → Zci, getElem?_zip_eq_some → Zar, length_nil → Zdm, mem_append → Zco, mem_append_left → Zbc, mem_cons → Zbx, mem_filterMap → Zdx, mem_iff_getElem? → Zak, mem_map → Zbd, mem_of_getElem? → Zbi, mem_range → Zbs, pairwise_cons → Zcc, perm_append_comm_assoc → Zbu, range → Zay
open Nat renaming add_mul → Zca, le_refl → Zas, mul_le_mul_right → Zdv
open Go.Obj renaming cells → Zeb
open Go.Op renaming operands → Zbg
open Option renaming map_eq_some_iff → Zaj, map_some → Zdl
open Go.Region renaming ready → Zek
open Go.Value renaming cells → Zce, iface → Zee
open Go.World renaming cell?_of_block → Zde
def ABv9:Nat→List Value
 |0=> [.int .u8 0, .int .u8 1, .int .u8 28, .int .u8 2, .int .u8 29, .int .u8 14, .int .u8 24, .int .u8 3, .int .u8 30, .int .u8 22, .int .u8 20, .int .u8 15, .int .u8 25, .int .u8 17, .int .u8 4, .int .u8 8, .int .u8 31, .int .u8 27, .int .u8 13, .int .u8 23, .int .u8 21, .int .u8 19, .int .u8 16, .int .u8 7, .int .u8 26, .int .u8 12, .int .u8 18, .int .u8 6, .int .u8 11, .int .u8 5, .int .u8 10, .int .u8 9]
 |1=> [.int .u8 0, .int .u8 1, .int .u8 56, .int .u8 2, .int .u8 57, .int .u8 49, .int .u8 28, .int .u8 3, .int .u8 61, .int .u8 58, .int .u8 42, .int .u8 50, .int .u8 38, .int .u8 29, .int .u8 17, .int .u8 4, .int .u8 62, .int .u8 47, .int .u8 59, .int .u8 36, .int .u8 45, .int .u8 43, .int .u8 51, .int .u8 22, .int .u8 53, .int .u8 39, .int .u8 33, .int .u8 30, .int .u8 24, .int .u8 18, .int .u8 12, .int .u8 5, .int .u8 63, .int .u8 55, .int .u8 48, .int .u8 27, .int .u8 60, .int .u8 41, .int .u8 37, .int .u8 16, .int .u8 46, .int .u8 35, .int .u8 44, .int .u8 21, .int .u8 52, .int .u8 32, .int .u8 23, .int .u8 11, .int .u8 54, .int .u8 26, .int .u8 40, .int .u8 15, .int .u8 34, .int .u8 20, .int .u8 31, .int .u8 10, .int .u8 25, .int .u8 14, .int .u8 19, .int .u8 9, .int .u8 13, .int .u8 8, .int .u8 7, .int .u8 6]
 |2=> [.int .i64 30, .int .u64 13787848793156543929, .int .i64 27, .int .u64 10723151780598845931, .int .i64 31, .int .u64 1]
 |5=> [.int .u8 128, .int .u8 191, .int .u8 160, .int .u8 191, .int .u8 128, .int .u8 159, .int .u8 144, .int .u8 191, .int .u8 128, .int .u8 143, .int .u8 0, .int .u8 0, .int .u8 0, .int .u8 0, .int .u8 0, .int .u8 0, .int .u8 0, .int .u8 0, .int .u8 0, .int .u8 0, .int .u8 0, .int .u8 0, .int .u8 0, .int .u8 0, .int .u8 0, .int .u8 0, .int .u8 0, .int .u8 0, .int .u8 0, .int .u8 0, .int .u8 0, .int .u8 0]
 |_=> []
end Go.Proofs.YtibhflogmbfpcaaGreatDoor.Am
namespace Go.Proofs.YtibhflogmbfpcaaGreatDoor.Am
open Go Go.RowKit
open _root_.Array renaming all_eq_true_iff_forall_mem → Zds, eq_empty_of_size_eq_zero → Zcq, ext_getElem? → Zcf, getElem?_eq_none → Zcu, getElem?_eq_some_iff → Zah, getElem?_setIfInBounds_ne → Zcw
open Bool renaming and_eq_true → Zal, false_eq_true → Zbt
open Go.Builtin renaming append_ → Zcb, zeroCells → Zaz
open Go.Fence renaming wide → Zdi
open Go.Instr renaming indexAt → Zdr, sliceAt → Zdf, sliceBounds → Zdw, sureAddr → Zcy
open Int renaming eq_ofNat_of_zero_le → Zcs
open List renaming all_eq_true → Zav, getElem?_append_left → Zan, getElem?_append_right → Zao, getElem?_drop → Zbm, getElem?_eq_none → Zby, getElem?_eq_some_iff → Zaa, getElem?_map → Zbf, getElem?_set_ne → Zcg, getElem?_set_self → Zbw, getElem?_take → Zaq, getElem?_take_of_lt → Zci, getElem?_zip_eq_some → Zar, length_nil → Zdm, mem_append → Zco, mem_append_left → Zbc, mem_cons → Zbx, mem_filterMap → Zdx, mem_iff_getElem? → Zak, mem_map → Zbd, mem_of_getElem? → Zbi, mem_range → Zbs, pairwise_cons → Zcc, perm_append_comm_assoc → Zbu, range → Zay
open Nat renaming add_mul → Zca, le_refl → Zas, mul_le_mul_right → Zdv
open Go.Obj renaming cells → Zeb
open Go.Op renaming operands → Zbg
open Option renaming map_eq_some_iff → Zaj, map_some → Zdl
open Go.Region renaming ready → Zek
open Go.Value renaming cells → Zce, iface → Zee
open Go.World renaming cell?_of_block → Zde
inductive Dv where
 |s (v:Value)
 |sl (k:Nat) (xs:List (List Dv))
 |pt (cs:List Dv)
 |fn (f:Fn) (cs:List Dv)
 deriving Inhabited
inductive AV where
 |d (x:Dv)
 |agg (cs:List AV)
 |tup (vs:List AV)
 |own (e k:Nat) (xs:List (List Dv))
 |full (k:Nat) (xs:List (List Dv))
 |rptr (cs:List Dv)
 |ref (g off n cap k:Nat)
 |ptr (g off:Nat)
 |gref (g ver n k:Nat)
 |gptr (g ver off:Nat)
 |fn (f:Fn) (first caps:List AV)
 |yl
 |bad
 deriving Inhabited
structure Blk where
 cells:List AV
 fro:Bool:=false
 grow:Bool:=false
 ver:Nat:=0
 deriving Inhabited
structure MB where
 b:Nat
 len:Nat
 grow:Bool
 ver:Nat
 deriving Inhabited
abbrev Pr:=Nat→Nat→Prop
structure Keep (yv:Option Nat) (w w':World):Prop where
 os:w'.os=w.os
 tape:w'.tape=w.tape
 output:w'.output=w.output
 size:w.heap.size≤w'.heap.size
 cells:∀(b:Nat) (c:Array Value) (e:TypeId) (f:Nat×Nat),w.heap[b]? =some (Zeb c e f)→∃c':Array Value,w'.heap[b]? =some (Zeb c' e f)∧c'.size=c.size
 objs:∀(b:Nat) (o:Obj),w.heap[b]? =some o→o.isCells=false→yv≠some b→w'.heap[b]? =some o
theorem Keep.refl (yv:Option Nat) (w:World):Keep yv w w:=
 ⟨rfl,rfl,rfl,Zas _,fun _ c _ _ h=>⟨c,h,rfl⟩,fun _ _ h _ _=>h⟩
theorem Keep.trans {yv:Option Nat} {a b c:World} (h:Keep yv a b) (k:Keep yv b c):Keep yv a c:=
 ⟨k.os.trans h.os,k.tape.trans h.tape,k.output.trans h.output,Nat.le_trans h.size k.size,
  fun b c e f hb=>by
   obtain ⟨c',h1,h2⟩:=h.cells b c e f hb;obtain ⟨c'',h3,h4⟩:=k.cells b c' e f h1;exact ⟨c'',h3,h4.trans h2⟩,
  fun b o hb ho hy=>k.objs b o (h.objs b o hb ho hy) ho hy⟩
theorem Keep.weaken {yv:Option Nat} {w w':World} (h:Keep none w w'):Keep yv w w':=
 ⟨h.os,h.tape,h.output,h.size,h.cells,fun b o hb ho _=>h.objs b o hb ho (by simp)⟩
structure Agree (X:Pr) (yv:Option Nat) (w w':World):Prop extends Keep yv w w' where
 same:∀b i v,X b i→w.cell? ⟨b,i,none⟩=some v→w'.cell? ⟨b,i,none⟩=some v
theorem Agree.refl (X:Pr) (yv:Option Nat) (w:World):Agree X yv w w:=⟨Keep.refl _ _,fun _ _ _ _ h=>h⟩
theorem Agree.trans {X:Pr} {yv:Option Nat} {a b c:World} (h:Agree X yv a b) (k:Agree X yv b c):Agree X yv a c:=
 ⟨h.toKeep.trans k.toKeep,fun b i v hx hv=>k.same b i v hx (h.same b i v hx hv)⟩
theorem Agree.mono {X X':Pr} {yv:Option Nat} {a b:World} (h:Agree X yv a b) (hx:∀b i,X' b i→X b i):Agree X' yv a b:=
 ⟨h.toKeep,fun b i v hx' hv=>h.same b i v (hx b i hx') hv⟩
theorem Agree.weaken {X:Pr} {yv:Option Nat} {a b:World} (h:Agree X none a b):Agree X yv a b:=
 ⟨h.toKeep.weaken,h.same⟩
inductive DR (S:Pr) (w:World):Dv→Value→Prop
 |s (v:Value):DR S w (.s v) v
 |sl (k:Nat) (xs:List (List Dv)) (a:Addr) (cap:Nat) (vals:Nat→Nat→Value)
  (hk:∀(i:Nat) (row:List Dv),xs[i]? =some row→row.length=k)
  (hs:∀(i:Nat) (row:List Dv) (j:Nat) (c:Dv),xs[i]? =some row→row[j]? =some c→S a.block (a.off+(i*k+j)))
  (hc:∀(i:Nat) (row:List Dv) (j:Nat) (c:Dv),xs[i]? =some row→row[j]? =some c→w.cell? ⟨a.block,a.off+(i*k+j),none⟩=some (vals i j))
  (hr:∀(i:Nat) (row:List Dv) (j:Nat) (c:Dv),xs[i]? =some row→row[j]? =some c→DR S w c (vals i j))
  (h1:∀(i:Nat) (row:List Dv) (j:Nat) (c:Dv),xs[i]? =some row→row[j]? =some c→(vals i j).oneCell'=true)
  (hcap:xs.length≤cap) (hsp:a.spot=none∨k=0∨xs= []):
  DR S w (.sl k xs) (.slice (some a) xs.length cap)
 |nil (k:Nat):DR S w (.sl k []) (.slice none 0 0)
 |pt (cs:List Dv) (a:Addr) (vals:Nat→Value) (hne:cs≠ []) (hsp:a.spot=none)
  (hs:∀(j:Nat) (c:Dv),cs[j]? =some c→S a.block (a.off+j)) (hc:∀(j:Nat) (c:Dv),cs[j]? =some c→w.cell? ⟨a.block,a.off+j,none⟩=some (vals j))
  (hr:∀(j:Nat) (c:Dv),cs[j]? =some c→DR S w c (vals j)) (h1:∀(j:Nat) (c:Dv),cs[j]? =some c→(vals j).oneCell'=true):DR S w (.pt cs) (.pointer (some a))
 |fn (f:Fn) (ds:List Dv) (cs:Array Value) (hf:∀l,f≠ .yield l) (hl:ds.length=cs.size)
  (hr:∀(i:Nat) (c:Dv) (v:Value),ds[i]? =some c→cs[i]? =some v→DR S w c v):DR S w (.fn f ds) (.func f #[] cs)
theorem DR.ext {S S':Pr} {w w':World} (hS:∀b i,S b i→S' b i) (hc:∀b i v,S b i→w.cell? ⟨b,i,none⟩=some v→w'.cell? ⟨b,i,none⟩=some v)
 {x:Dv} {v:Value} (h:DR S w x v):DR S' w' x v:=by
 induction h with
 |s v=>exact .s v
 |nil k=>exact .nil k
 | sl k xs a cap vals hk hs hcc hr h1 hcap hsp ih=>
  exact .sl k xs a cap vals hk (fun i row j c h h'=>hS _ _ (hs i row j c h h')) (fun i row j c h h'=>hc _ _ _ (hs i row j c h h') (hcc i row j c h h'))
   (fun i row j c h h'=>ih i row j c h h') h1 hcap hsp
 |pt cs a vals hne hsp hs hcc hr h1 ih=>exact .pt cs a vals hne hsp (fun j c h=>hS _ _ (hs j c h)) (fun j c h=>hc _ _ _ (hs j c h) (hcc j c h)) (fun j c h=>ih j c h) h1
 |fn f ds cs hf hl hr ih=>exact .fn f ds cs hf hl (fun i c v h h'=>ih i c v h h')
inductive RV (S:Pr) (w:World) (m:List MB) (yv:Option Nat):AV→Value→Prop
 |d {x:Dv} {v:Value} (h:DR S w x v):RV S w m yv (.d x) v
 |agg {cs:List AV} {vs:Array Value} (hl:cs.length=vs.size) (h:∀(i:Nat) (c:AV) (v:Value),cs[i]? =some c→vs[i]? =some v→RV S w m yv c v):RV S w m yv (.agg cs) (.agg vs)
 |tup {cs:List AV} {vs:Array Value} (hl:cs.length=vs.size) (h:∀(i:Nat) (c:AV) (v:Value),cs[i]? =some c→vs[i]? =some v→RV S w m yv c v):RV S w m yv (.tup cs) (.tuple vs)
 |own {e k:Nat} {xs:List (List Dv)} {g cap:Nat} (h:DR S w (.sl k xs) (.slice (some ⟨g,0,none⟩) xs.length cap))
  (ho:∃cur:Array Value,w.heap[g]? =some (Zeb cur e (0,0))∧cap≤maxLen∧cur.size=cap*k):RV S w m yv (.own e k xs) (.slice (some ⟨g,0,none⟩) xs.length cap)
 |ownNil {e k:Nat}:RV S w m yv (.own e k []) (.slice none 0 0)
 |full {k:Nat} {xs:List (List Dv)} {a:Option Addr} (h:DR S w (.sl k xs) (.slice a xs.length xs.length)):RV S w m yv (.full k xs) (.slice a xs.length xs.length)
 |rptr {cs:List Dv} {a:Addr} (vals:Nat→Value) (hne:cs≠ []) (hsp:a.spot=none)
  (hs:∀(j:Nat) (c:Dv),cs[j]? =some c→S a.block (a.off+j)) (hc:∀(j:Nat) (c:Dv),cs[j]? =some c→w.cell? ⟨a.block,a.off+j,none⟩=some (vals j))
  (hr:∀(j:Nat) (c:Dv),cs[j]? =some c→DR S w c (vals j)) (h1:∀(j:Nat) (c:Dv),cs[j]? =some c→(vals j).oneCell'=true):RV S w m yv (.rptr cs) (.pointer (some a))
 |ref {g off n cap k b len ver:Nat} (h:m[g]? =some ⟨b,len,false,ver⟩) (hfit:off+cap*k≤len) (hn:n≤cap):RV S w m yv (.ref g off n cap k) (.slice (some ⟨b,off,none⟩) n cap)
 |ptr {g off b len ver:Nat} (h:m[g]? =some ⟨b,len,false,ver⟩):RV S w m yv (.ptr g off) (.pointer (some ⟨b,off,none⟩))
 |gref {g ver n k b len ver':Nat} {v:Value} (h:m[g]? =some ⟨b,len,true,ver'⟩) (hv:ver≤ver') (h1:v.oneCell'=true)
  (hc:ver=ver'→len=n*k∧∃cap,v= .slice (some ⟨b,0,none⟩) n cap∧n≤cap∧cap≤maxLen∧∃(cur:Array Value) (e:TypeId),w.heap[b]? =some (Zeb cur e (0,0))∧cur.size=cap*k):
  RV S w m yv (.gref g ver n k) v
 |gptr {g ver off b len ver':Nat} {v:Value} (h:m[g]? =some ⟨b,len,true,ver'⟩) (hv:ver≤ver') (h1:v.oneCell'=true)
  (hc:ver=ver'→v= .pointer (some ⟨b,off,none⟩)):RV S w m yv (.gptr g ver off) v
 |fn {f:Fn} {first caps:List AV} {fs cs:Array Value} (hf:∀l,f≠ .yield l) (hl:first.length=fs.size) (hl':caps.length=cs.size)
  (h:∀(i:Nat) (c:AV) (v:Value),first[i]? =some c→fs[i]? =some v→RV S w m yv c v) (h':∀(i:Nat) (c:AV) (v:Value),caps[i]? =some c→cs[i]? =some v→RV S w m yv c v):
  RV S w m yv (.fn f first caps) (.func f fs cs)
 |yl {l:Nat} (h:yv=some l):RV S w m yv .yl (.func (.yield l) #[] #[])
 |bad {v:Value}:RV S w m yv .bad v
theorem RV.ext {S S':Pr} {w w':World} {m:List MB} {yv:Option Nat} (hS:∀b i,S b i→S' b i) (ha:Agree S yv w w')
 {x:AV} {v:Value} (h:RV S w m yv x v):RV S' w' m yv x v:=by
 induction h with
 |d h=>exact .d (h.ext hS ha.same)
 |agg hl _ ih=>exact .agg hl (fun i c v h h'=>ih i c v h h')
 |tup hl _ ih=>exact .tup hl (fun i c v h h'=>ih i c v h h')
 | own h ho=>
  obtain ⟨cur,h1,h2,h3⟩:=ho;obtain ⟨cur',h4,h5⟩:=ha.cells _ _ _ _ h1;exact .own (h.ext hS ha.same) ⟨cur',h4,h2,h5.trans h3⟩
 |ownNil=>exact .ownNil
 |full h=>exact .full (h.ext hS ha.same)
 | rptr vals hne hsp hs hc hr h1=>
  exact .rptr vals hne hsp (fun j c h=>hS _ _ (hs j c h)) (fun j c h=>ha.same _ _ _ (hs j c h) (hc j c h)) (fun j c h=>(hr j c h).ext hS ha.same) h1
 |ref h hfit hn=>exact .ref h hfit hn
 |ptr h=>exact .ptr h
 | gref h hv h1 hc=>
  refine .gref h hv h1 fun he=> ?_;obtain ⟨hl,cap,h1',h2,h3,cur,e,h4,h5⟩:=hc he;obtain ⟨cur',h6,h7⟩:=ha.cells _ _ _ _ h4;exact ⟨hl,cap,h1',h2,h3,cur',e,h6,h7.trans h5⟩
 |gptr h hv h1 hc=>exact .gptr h hv h1 hc
 |fn hf hl hl' _ _ ih ih'=>exact .fn hf hl hl' (fun i c v h h'=>ih i c v h h') (fun i c v h h'=>ih' i c v h h')
 |yl h=>exact .yl h
 |bad=>exact .bad
def MStep (m m':List MB):Prop:=
 ∀(g:Nat) (p:MB),m[g]? =some p→m'[g]? =some p∨(p.grow=true∧∃p',m'[g]? =some p'∧p'.grow=true∧p.ver<p'.ver)
theorem MStep.refl (m:List MB):MStep m m:=fun _ _ h=> .inl h
theorem MStep.push (m:List MB) (p:MB):MStep m (m++ [p]):=fun g q h=> .inl (by
 rw [Zan (Zaa.1 h).1];exact h)
theorem MStep.trans {a b c:List MB} (h:MStep a b) (k:MStep b c):MStep a c:=by
 intro g p hp;rcases h g p hp with h1|⟨hg,p',h1,h2,h3⟩
 ·exact k g p h1
 ·rcases k g p' h1 with h4|⟨_,p'',h4,h5,h6⟩
  ·exact .inr ⟨hg,p',h4,h2,h3⟩
  ·exact .inr ⟨hg,p'',h4,h5,Nat.lt_trans h3 h6⟩
theorem RV.blocks {S:Pr} {w:World} {m m':List MB} {yv:Option Nat} (hm:MStep m m') {x:AV} {v:Value} (h:RV S w m yv x v):RV S w m' yv x v:=by
 induction h with
 |d h=>exact .d h
 |agg hl _ ih=>exact .agg hl (fun i c v h h'=>ih i c v h h')
 |tup hl _ ih=>exact .tup hl (fun i c v h h'=>ih i c v h h')
 |own h ho=>exact .own h ho
 |ownNil=>exact .ownNil
 |full h=>exact .full h
 |rptr vals hne hsp hs hc hr h1=>exact .rptr vals hne hsp hs hc hr h1
 | ref h hfit hn=>
  rcases hm _ _ h with h1|⟨h1,_⟩
  ·exact .ref h1 hfit hn
  ·cases h1
 | ptr h=>
  rcases hm _ _ h with h1|⟨h1,_⟩
  ·exact .ptr h1
  ·cases h1
 | gref h hv ho hc=>
  rcases hm _ _ h with h1|⟨_,p',h1,h2,h3⟩
  ·exact .gref h1 hv ho hc
  ·obtain ⟨b,len,gr,ver'⟩:=p';simp only at h2 h3;subst h2;exact .gref h1 (by omega) ho (fun he=>by omega)
 | gptr h hv ho hc=>
  rcases hm _ _ h with h1|⟨_,p',h1,h2,h3⟩
  ·exact .gptr h1 hv ho hc
  ·obtain ⟨b,len,gr,ver'⟩:=p';simp only at h2 h3;subst h2;exact .gptr h1 (by omega) ho (fun he=>by omega)
 |fn hf hl hl' _ _ ih ih'=>exact .fn hf hl hl' (fun i c v h h'=>ih i c v h h') (fun i c v h h'=>ih' i c v h h')
 |yl h=>exact .yl h
 |bad=>exact .bad
def AV.one:AV→Bool
 | .d (.s v)=>v.oneCell'
 | .agg _| .tup _| .bad=>false
 |_=>true
theorem RV.one {S:Pr} {w:World} {m:List MB} {yv:Option Nat} {x:AV} {v:Value} (h:RV S w m yv x v) (ho:x.one=true):v.oneCell'=true:=by
 cases h with
 | d h=>cases h with
  |s=>exact ho
  |sl=>rfl
  |nil=>rfl
  |pt=>rfl
  |fn=>rfl
 |agg hl h=>cases ho
 |tup hl h=>cases ho
 |bad=>cases ho
 |gref h hv h1 hc=>exact h1
 |gptr h hv h1 hc=>exact h1
 |_=>rfl
def ownB:AV×Value→Option Nat
 |(.own _ _ _, .slice (some a) _ _)=>some a.block
 |_=>none
def ANq9:AV→Nat
 | .own _ k xs=>xs.length*k
 |_=>0
def AV.view:AV→AV
 | .own _ k xs=> .d (.sl k xs)
 |x=>x
theorem AAs9 (x:AV) (v:Value):ownB (x.view,v)=none:=by
 cases x<;>rfl
theorem RV.view {S:Pr} {w:World} {m:List MB} {yv:Option Nat} {x:AV} {v:Value} (h:RV S w m yv x v):RV S w m yv x.view v:=by
 cases h with
 |own h _=>exact .d h
 |ownNil=>exact .d (.nil _)
 |d h=>exact .d h
 |agg hl h=>exact .agg hl h
 |tup hl h=>exact .tup hl h
 |full h=>exact .full h
 |rptr vals hne hsp hs hc hr h1=>exact .rptr vals hne hsp hs hc hr h1
 |ref h hfit hn=>exact .ref h hfit hn
 |ptr h=>exact .ptr h
 |gref h hv h1 hc=>exact .gref h hv h1 hc
 |gptr h hv h1 hc=>exact .gptr h hv h1 hc
 |fn hf hl hl' h h'=>exact .fn hf hl hl' h h'
 |yl h=>exact .yl h
 |bad=>exact .bad
def AAa9 (hp:List Blk) (hv:List (List Value)):List (AV×Value):=(hp.zip hv).flatMap fun p=>p.1.cells.zip p.2
def Dis (p q:AV×Value):Prop:=∀b,ownB p=some b→ownB q≠some b
theorem Dis.symm {p q:AV×Value} (h:Dis p q):Dis q p:=fun b hq hp=>h b hp hq
def Glob (S:Pr) (w:World):Prop:=∀(g j:Nat) (v:Value),(ABv9 g)[j]? =some v→S g j∧w.cell? ⟨g,j,none⟩=some v∧v.oneCell'=true
theorem Glob.ext {S S':Pr} {yv:Option Nat} {w w':World} (h:Glob S w) (hS:∀b i,S b i→S' b i) (ha:Agree S yv w w'):Glob S' w':=fun g j v hv=>by
 obtain ⟨h1,h2,h3⟩:=h g j v hv;exact ⟨hS _ _ h1,ha.same _ _ _ h1 h2,h3⟩
structure Rel (S X:Pr) (yv:Option Nat) (w:World) (m:List MB) (A:List (AV×Value)) (hp:List Blk) (hv:List (List Value)):Prop where
 lt:∀b i,S b i∨X b i→b<w.heap.size
 rv:∀p∈A,RV S w m yv p.1 p.2
 pw:A.Pairwise Dis
 nm:∀p∈A,∀b,ownB p=some b→∀x∈m,x.b≠b
 sp:∀p∈A,∀b,ownB p=some b→(∀i,¬X b i)∧(∀i,ANq9 p.1≤i→¬S b i)
 mnd:(m.map (·.b)).Nodup
 ml:m.length=hp.length
 hl:hv.length=hp.length
 bl:∀(g:Nat) (blk:Blk) (p:MB) (vs:List Value),hp[g]? =some blk→m[g]? =some p→hv[g]? =some vs→
  p.len=blk.cells.length∧p.grow=blk.grow∧p.ver=blk.ver∧vs.length=p.len∧(∀v∈vs,v.oneCell'=true)∧
  (∃(cur:Array Value) (e:TypeId),w.heap[p.b]? =some (Zeb cur e (0,0))∧cur.toList.take p.len=vs∧p.len≤cur.size)∧
  (blk.fro=false→∀i,¬S p.b i∧¬X p.b i)∧(blk.fro=true→∀i,i<p.len→S p.b i)
 gl:Glob S w
open AV (bad)
set_option linter.unusedVariables false
section
variable {S S' X:Pr} {yv:Option Nat} {w w':World} {m:List MB} {A B:List (AV×Value)} {hp:List Blk} {hv:List (List Value)}
theorem ASf9 (h:Below w.heap.size w w'):Keep yv w w':=by
 refine ⟨h.os,h.tape,h.output,h.size,fun b c e f hb=>⟨c, ?_,rfl⟩,fun b o hb _ _=> ?_⟩
 ·rw [h.block b (Zah.1 hb).1];exact hb
 ·rw [h.block b (Zah.1 hb).1];exact hb
theorem AAr9 (h:Below w.heap.size w w') (X:Pr):Agree X yv w w':=
 ⟨ASf9 h,fun b i v _ hv=>by rw [h.cell (World.block_lt_of_cell? w ⟨b,i,none⟩ hv)];exact hv⟩
def SStep (S X S':Pr) (w w':World):Prop:=(∀b i,S b i→S' b i)∧(∀b i,S' b i→S b i∨(w.heap.size≤b∧b<w'.heap.size))
theorem Rel.below (h:Rel S X yv w m A hp hv) (hb:Below w.heap.size w w') (hS:∀b i,S b i→S' b i) (hS':∀b i,S' b i→S b i∨(w.heap.size≤b∧b<w'.heap.size)):
 Rel S' X yv w' m A hp hv:=by
 have hown:∀p∈A,∀b,ownB p=some b→b<w.heap.size:=by
  intro p hp b hb';have:=h.rv p hp;obtain ⟨x,v⟩:=p;cases this<;>simp only [ownB] at hb'<;>try (cases hb')
  rename_i ho;obtain ⟨cur,h1,_⟩:=ho;exact (Zah.1 h1).1
 refine ⟨?_,fun p hp=>(h.rv p hp).ext hS (AAr9 hb _),h.pw,h.nm, ?_,h.mnd,h.ml,h.hl, ?_,h.gl.ext hS (AAr9 (yv:=yv) hb _)⟩
 ·intro b i hbi;rcases hbi with h1|h1
  ·rcases hS' b i h1 with h2|⟨_,h2⟩
   ·exact Nat.lt_of_lt_of_le (h.lt b i (.inl h2)) hb.size
   ·exact h2
  ·exact Nat.lt_of_lt_of_le (h.lt b i (.inr h1)) hb.size
 ·intro p hp b hb';refine ⟨(h.sp p hp b hb').1,fun i hi hs=> ?_⟩;rcases hS' b i hs with h2|⟨h2,_⟩
  ·exact (h.sp p hp b hb').2 i hi h2
  ·exact absurd (hown p hp b hb') (by omega)
 ·intro g blk p vs h1 h2 h3;obtain ⟨a1,a2,a3,a4,a5,⟨cur,e,a6,a7,a8⟩,a9,a10⟩:=h.bl g blk p vs h1 h2 h3;have hlt:p.b<w.heap.size:=(Zah.1 a6).1;refine ⟨a1,a2,a3,a4,a5,⟨cur,e,by rw [hb.block _ hlt];exact a6,a7,a8⟩,fun hf i=>⟨fun hs=> ?_,(a9 hf i).2⟩,fun hf i hi=>hS _ _ (a10 hf i hi)⟩;rcases hS' _ _ hs with h4|⟨h4,_⟩
  ·exact (a9 hf i).1 h4
  ·omega
theorem Rel.perm (h:Rel S X yv w m A hp hv) (hp':A.Perm B):Rel S X yv w m B hp hv:=
 ⟨h.lt,fun p hq=>h.rv p (hp'.mem_iff.2 hq),hp'.pairwise h.pw (fun hpq=>hpq.symm),fun p hq=>h.nm p (hp'.mem_iff.2 hq),fun p hq=>h.sp p (hp'.mem_iff.2 hq),h.mnd,h.ml,h.hl,h.bl,h.gl⟩
theorem Rel.sub (h:Rel S X yv w m A hp hv) (hs:B.Sublist A):Rel S X yv w m B hp hv:=
 ⟨h.lt,fun p hq=>h.rv p (hs.subset hq),h.pw.sublist hs,fun p hq=>h.nm p (hs.subset hq),fun p hq=>h.sp p (hs.subset hq),h.mnd,h.ml,h.hl,h.bl,h.gl⟩
theorem Rel.cons (h:Rel S X yv w m A hp hv) {x:AV} {v:Value} (hr:RV S w m yv x v) (ho:ownB (x,v)=none):Rel S X yv w m ((x,v)::A) hp hv:=by
 refine ⟨h.lt, ?_, ?_, ?_, ?_,h.mnd,h.ml,h.hl,h.bl,h.gl⟩
 ·intro p hq;rcases Zbx.1 hq with rfl|hq
  ·exact hr
  ·exact h.rv p hq
 ·exact Zcc.2 ⟨fun q _ b hb=>(by rw [ho] at hb;cases hb),h.pw⟩
 ·intro p hq b hb;rcases Zbx.1 hq with rfl|hq
  ·rw [ho] at hb;cases hb
  ·exact h.nm p hq b hb
 ·intro p hq b hb;rcases Zbx.1 hq with rfl|hq
  ·rw [ho] at hb;cases hb
  ·exact h.sp p hq b hb
theorem Rel.consOwn (h:Rel S X yv w m A hp hv) {x:AV} {v:Value} {b:Nat} (hr:RV S w m yv x v) (ho:ownB (x,v)=some b)
 (hf:∀p∈A,ownB p≠some b) (hm:∀q∈m,q.b≠b) (hX:∀i,¬X b i) (hS:∀i,ANq9 x≤i→¬S b i):Rel S X yv w m ((x,v)::A) hp hv:=by
 refine ⟨h.lt, ?_, ?_, ?_, ?_,h.mnd,h.ml,h.hl,h.bl,h.gl⟩
 ·intro p hq;rcases Zbx.1 hq with rfl|hq
  ·exact hr
  ·exact h.rv p hq
 ·refine Zcc.2 ⟨fun q hq b' hb=> ?_,h.pw⟩;rw [ho] at hb;cases hb;exact hf q hq
 ·intro p hq b' hb;rcases Zbx.1 hq with rfl|hq
  ·rw [ho] at hb;cases hb;exact hm
  ·exact h.nm p hq b' hb
 ·intro p hq b' hb;rcases Zbx.1 hq with rfl|hq
  ·rw [ho] at hb;cases hb;exact ⟨hX,hS⟩
  ·exact h.sp p hq b' hb
theorem Rel.viewHead {x:AV} {v:Value} (h:Rel S X yv w m ((x,v)::A) hp hv):Rel S X yv w m ((x.view,v)::A) hp hv:=
 (h.sub (List.sublist_cons_self _ _)).cons (h.rv (x,v) (by simp)).view (AAs9 x v)
theorem Rel.copy (h:Rel S X yv w m A hp hv) {x:AV} {v:Value} (hq:(x,v)∈A):Rel S X yv w m ((x.view,v)::A) hp hv:=
 h.cons (h.rv (x,v) hq).view (AAs9 x v)
theorem BDh9 {α:Type} (l:List α) (d:Nat) (y:α) (hd:d<l.length):(y::l.eraseIdx d).Perm (l.set d y):=by
 induction l generalizing d with
 |nil=>simp at hd
 | cons a l ih=>
  cases d with
  |zero=>simp
  | succ d=>
   simp only [List.eraseIdx_cons_succ,List.set_cons_succ];exact (List.Perm.swap a y _).trans ((ih d (by simpa using hd)).cons a)
theorem Rel.put {p:AV×Value} (h:Rel S X yv w m (p::A) hp hv) (d:Nat):Rel S X yv w m (A.set d p) hp hv:=by
 by_cases hd:d<A.length
 ·exact (h.sub ((List.eraseIdx_sublist A d).cons_cons p)).perm (BDh9 A d p hd)
 ·rw [List.set_eq_of_length_le (by omega)];exact h.sub (List.sublist_cons_self _ _)
theorem ACf9 {g:Nat} {blk:Blk} {vs:List Value} (h1:hp[g]? =some blk) (h2:hv[g]? =some vs):
 ∃pre post,AAa9 hp hv=pre++(blk.cells.zip vs)++post∧∀(blk':Blk) (vs':List Value),AAa9 (hp.set g blk') (hv.set g vs')=pre++(blk'.cells.zip vs')++post:=by
 unfold AAa9;induction g generalizing hp hv with
 | zero=>
  cases hp with
  |nil=>simp at h1
  | cons b0 hp=>cases hv with
   |nil=>simp at h2
   | cons v0 hv=>
    simp only [List.getElem?_cons_zero,Option.some.injEq] at h1 h2;subst h1;subst h2;exact ⟨[],(hp.zip hv).flatMap fun p=>p.1.cells.zip p.2,by simp,fun blk' vs'=>by simp⟩
 | succ g ih=>
  cases hp with
  |nil=>simp at h1
  | cons b0 hp=>cases hv with
   |nil=>simp at h2
   | cons v0 hv=>
    simp only [List.getElem?_cons_succ] at h1 h2;obtain ⟨pre,post,h3,h4⟩:=ih h1 h2;refine ⟨b0.cells.zip v0++pre,post,by simp [h3],fun blk' vs'=> ?_⟩;have:=h4 blk' vs';simp [this]
theorem AJc9 (hl:hv.length=hp.length) (blk:Blk) (vs:List Value):AAa9 (hp++ [blk]) (hv++ [vs])=AAa9 hp hv++blk.cells.zip vs:=by
 unfold AAa9;rw [List.zip_append hl.symm];simp
theorem Rel.newBlock (h:Rel S X yv w m (A++(B++AAa9 hp hv)) hp hv) (xs:List AV) (vs:List Value) (hA:A=xs.zip vs) (hxl:xs.length=vs.length) (e:TypeId)
 (h1:∀v∈vs,v.oneCell'=true) (fro:Bool) (hfr:fro=false):
 Rel S X yv (w.alloc (.cells vs.toArray e)) (m++ [⟨w.heap.size,xs.length,false,0⟩]) (B++AAa9 (hp++ [⟨xs,fro,false,0⟩]) (hv++ [vs])) (hp++ [⟨xs,fro,false,0⟩]) (hv++ [vs]):=by
 subst hfr;have hb:Below w.heap.size w (w.alloc (.cells vs.toArray e)):=(Below.refl _ _).alloc (Zas _) _;have h0:=h.below (S':=S) hb (fun _ _ h=>h) (fun _ _ h=> .inl h);have hmlt:∀q∈m,q.b<w.heap.size:=by
  intro q hq;obtain ⟨g,hg⟩:=Zak.1 hq;have hgl:g<m.length:=(Zaa.1 hg).1;have e1:g<hp.length:=by rw [←h.ml];exact hgl
  have e2:g<hv.length:=by rw [h.hl];exact e1
  obtain ⟨_,_,_,_,_,⟨cur,e',h6,_⟩,_⟩:=h.bl g hp[g] q hv[g] (by simp [e1]) hg (by simp [e2]);exact (Zah.1 h6).1
 have hownlt:∀p∈A++(B++AAa9 hp hv),∀b,ownB p=some b→b<w.heap.size:=by
  intro p hp b hb';have:=h.rv p hp;obtain ⟨x,v⟩:=p;cases this<;>simp only [ownB] at hb'<;>try (cases hb')
  rename_i ho;obtain ⟨cur,h1,_⟩:=ho;exact (Zah.1 h1).1
 have hperm:(A++(B++AAa9 hp hv)).Perm (B++AAa9 (hp++ [⟨xs,false,false,0⟩]) (hv++ [vs])):=by
  rw [AJc9 h.hl,←List.append_assoc B,hA];exact List.perm_append_comm
 have h2:=h0.perm hperm;refine ⟨h2.lt,fun p hp=>(h2.rv p hp).blocks (MStep.push _ _),h2.pw, ?_,h2.sp, ?_,by simp [h.ml],by simp [h.hl], ?_,h2.gl⟩
 ·intro p hp b hbo x hx;rcases Zco.1 hx with hx|hx
  ·exact h2.nm p hp b hbo x hx
  ·simp only [List.mem_singleton] at hx;subst hx;have:=hownlt p (hperm.mem_iff.2 hp) b hbo;simp only;omega
 ·rw [List.map_append,List.nodup_append];refine ⟨h.mnd,by simp,fun a ha b hb'=> ?_⟩;simp only [List.map_cons,List.map_nil,List.mem_singleton] at hb';subst hb';obtain ⟨q,hq,rfl⟩:=Zbd.1 ha;have:=hmlt q hq;omega
 ·intro g blk p vs' g1 g2 g3;by_cases hg:g<hp.length
  ·rw [Zan hg] at g1;rw [Zan (by rw [h.ml];exact hg)] at g2;rw [Zan (by rw [h.hl];exact hg)] at g3;exact h2.bl g blk p vs' g1 g2 g3
  ·obtain rfl:g=hp.length:=by
    have:=(Zaa.1 g1).1;simp at this;omega
   rw [Zao (Zas _)] at g1;rw [Zao (by rw [h.ml];exact Zas _)] at g2;rw [Zao (by rw [h.hl];exact Zas _)] at g3;simp [h.ml,h.hl] at g1 g2 g3;subst g1;subst g2;subst g3;refine ⟨rfl,rfl,rfl,hxl.symm,h1,⟨vs.toArray,e,Array.getElem?_push_size,by simp [hxl],by simp [hxl]⟩,fun _ i=>⟨fun hs=> ?_,fun hx=> ?_⟩,fun hf=>by cases hf⟩
   ·have:=h.lt _ _ (.inl hs);simp at this
   ·have:=h.lt _ _ (.inr hx);simp at this
end
section
variable {S X:Pr} {yv:Option Nat} {w:World} {m:List MB} {A B:List (AV×Value)} {hp:List Blk} {hv:List (List Value)}
theorem AJs9 {g:Nat} {cur cs:Array Value} {e:TypeId} {f:Nat×Nat} (hg:w.heap[g]? =some (.cells cur e f)) (hs:cs.size=cur.size):Keep yv w (w.setRow g cs):=by
 refine ⟨rfl,rfl,rfl,by simp,fun b c e' f' hb=> ?_,fun b o hb ho _=> ?_⟩
 ·by_cases hbg:b=g
  ·subst hbg;rw [hg] at hb;cases hb;exact ⟨cs,setRow_heap w b cur cs e f hg,hs⟩
  ·exact ⟨c,by rw [setRow_other w g b cs hbg];exact hb,rfl⟩
 ·by_cases hbg:b=g
  ·subst hbg;rw [hg] at hb;cases hb;cases ho
  ·rw [setRow_other w g b cs hbg];exact hb
theorem ANd9 {g:Nat} {cur cs:Array Value} {e:TypeId} {f:Nat×Nat} (hg:w.heap[g]? =some (.cells cur e f)) (hs:cs.size=cur.size) (hX:∀i,¬X g i):Agree X yv w (w.setRow g cs):=
 ⟨AJs9 hg hs,fun b i v hx hv=>by
  have hbg:b≠g:=fun h=>hX i (h▸hx);rw [Zde (w:=w) (a:=⟨b,i,none⟩) (setRow_other w g b cs hbg)];exact hv⟩
theorem ACz9 {α:Type} (l us:List α) (off:Nat) (h:off+us.length≤l.length):(l.take off++us++l.drop (off+us.length)).length=l.length:=by
 simp;omega
theorem ANz9 {α:Type} (l us:List α) (off n:Nat) (h:off+us.length≤n) (hn:n≤l.length):
 (l.take off++us++l.drop (off+us.length)).take n=(l.take n).take off++us++(l.take n).drop (off+us.length):=by
 have c1:(List.take off l).length=off:=by simp;omega
 have c2:(List.take off l++us).length=off+us.length:=by simp;omega
 have e1:min n off=off:=by omega
 have e2:min off n=off:=by omega
 rw [List.take_append,List.take_append,c1,c2];simp only [List.take_take,List.drop_take,e1,e2];rw [List.take_of_length_le (l:=us) (by omega)]
theorem MB_ne {g g':Nat} {p p':MB} (hnd:(m.map (·.b)).Nodup) (e2:m[g']? =some p') (hm:m[g]? =some p) (hgg:g'≠g):p'.b≠p.b:=by
 intro heq;have i1:=(Zaa.1 e2).1;have i2:=(Zaa.1 hm).1;refine hgg ((List.getElem_inj (xs:=m.map (·.b)) (i:=g') (j:=g) (h₀:=by simpa using i1) (h₁:=by simpa using i2) hnd).1 ?_);simp only [List.getElem_map];rw [(Zaa.1 e2).2,(Zaa.1 hm).2];exact heq
theorem Rel.storeBlock {xs:List AV} {us:List Value} {g off:Nat} {blk:Blk} {p:MB} {vs:List Value} {cur:Array Value} {e:TypeId}
 (h:Rel S X yv w m (xs.zip us++(B++AAa9 hp hv)) hp hv) (hl:xs.length=us.length) (h1:∀u∈us,u.oneCell'=true)
 (hg:hp[g]? =some blk) (hm:m[g]? =some p) (hvs:hv[g]? =some vs) (hf:blk.fro=false) (hoff:off+us.length≤blk.cells.length)
 (hcur:w.heap[p.b]? =some (.cells cur e (0,0))):
 Rel S X yv (w.setRow p.b (cur.toList.take off++us++cur.toList.drop (off+us.length)).toArray) m
  (B++AAa9 (hp.set g {blk with cells:=blk.cells.take off++xs++blk.cells.drop (off+us.length)}) (hv.set g (vs.take off++us++vs.drop (off+us.length))))
  (hp.set g {blk with cells:=blk.cells.take off++xs++blk.cells.drop (off+us.length)}) (hv.set g (vs.take off++us++vs.drop (off+us.length)))∧
 Agree (fun b i=>S b i∨X b i) none w (w.setRow p.b (cur.toList.take off++us++cur.toList.drop (off+us.length)).toArray):=by
 obtain ⟨a1,a2,a3,a4,a5,⟨cur',e',a6,a7,a8⟩,a9,a10⟩:=h.bl g blk p vs hg hm hvs;rw [hcur] at a6;cases a6;have hsz:(cur.toList.take off++us++cur.toList.drop (off+us.length)).toArray.size=cur.size:=by
  have:=ACz9 cur.toList us off (by simp;omega);simpa using this
 have hnS:=fun i=>(a9 hf i).1;have hnX:=fun i=>(a9 hf i).2;have hagree:Agree (fun b i=>S b i∨X b i) none w (w.setRow p.b (cur.toList.take off++us++cur.toList.drop (off+us.length)).toArray):=
  ANd9 hcur hsz (fun i hi=>hi.elim (hnS i) (hnX i))
 refine ⟨?_,hagree⟩;have hlt':vs.length=blk.cells.length:=by omega
 obtain ⟨pre,post,hc1,hc2⟩:=ACf9 (hp:=hp) (hv:=hv) hg hvs;have hz:(blk.cells.take off++xs++blk.cells.drop (off+us.length)).zip (vs.take off++us++vs.drop (off+us.length))=
  ((blk.cells.zip vs).take off)++xs.zip us++(blk.cells.zip vs).drop (off+us.length):=by
  rw [List.zip_append (by simp;omega),List.zip_append (by simp;omega)];simp [List.zip,List.take_zipWith,List.drop_zipWith]
 have hcells:(blk.cells.zip vs).length=blk.cells.length:=by simp;omega
 have hnew:=hc2 {blk with cells:=blk.cells.take off++xs++blk.cells.drop (off+us.length)} (vs.take off++us++vs.drop (off+us.length));simp only [hz] at hnew;have hsub:(xs.zip us++(B++(pre++((blk.cells.zip vs).take off++(blk.cells.zip vs).drop (off+us.length))++post))).Sublist (xs.zip us++(B++AAa9 hp hv)):=by
  rw [hc1];refine List.Sublist.append (List.Sublist.refl _) (List.Sublist.append (List.Sublist.refl _) (List.Sublist.append (List.Sublist.append (List.Sublist.refl _) ?_) (List.Sublist.refl _)))
  conv=>rhs;rw [←List.take_append_drop off (blk.cells.zip vs)]
  refine List.Sublist.append (List.Sublist.refl _) ?_;rw [←List.drop_drop];exact List.drop_sublist _ _
 have hperm:(xs.zip us++(B++(pre++((blk.cells.zip vs).take off++(blk.cells.zip vs).drop (off+us.length))++post))).Perm
  (B++AAa9 (hp.set g {blk with cells:=blk.cells.take off++xs++blk.cells.drop (off+us.length)}) (hv.set g (vs.take off++us++vs.drop (off+us.length)))):=by
  rw [hnew];refine (Zbu _ _ _).trans (List.Perm.append_left B ?_);simp only [List.append_assoc];refine (Zbu _ _ _).trans (List.Perm.append_left pre ?_);refine (Zbu _ _ _).trans (List.Perm.append_left _ ?_);exact List.Perm.refl _
 have h2:=(h.sub hsub).perm hperm;have hS':∀b i,S b i→S b i:=fun _ _ h=>h;have hAg:Agree S yv w (w.setRow p.b (cur.toList.take off++us++cur.toList.drop (off+us.length)).toArray):=(hagree.mono (fun _ _ h=> .inl h)).weaken;refine ⟨fun b i hbi=>by simpa using h2.lt b i hbi,fun q hq=>(h2.rv q hq).ext hS' hAg,h2.pw,h2.nm,h2.sp,h2.mnd,by simp [h2.ml],by simp [h.hl], ?_,h2.gl.ext hS' hAg⟩;intro g' blk' p' vs' e1 e2 e3;by_cases hgg:g'=g
 ·subst hgg;have hgl:=(Zaa.1 hg).1;have hvl:=(Zaa.1 hvs).1;rw [Zbw hgl] at e1;rw [Zbw hvl] at e3;rw [hm] at e2;cases e1;cases e2;cases e3;refine ⟨by simp only [a1];rw [←hl] at hoff ⊢;exact (ACz9 blk.cells xs off hoff).symm,a2,a3,by rw [ACz9 vs us off (by omega)];exact a4, ?_, ?_,fun _ i=>⟨hnS i,hnX i⟩,fun hc=>by rw [hf] at hc;cases hc⟩
  ·intro v hv';simp only [Zco] at hv';rcases hv' with (hv'|hv')|hv'
   ·exact a5 v (List.mem_of_mem_take hv')
   ·exact h1 v hv'
   ·exact a5 v (List.mem_of_mem_drop hv')
  ·refine ⟨_,e,setRow_heap w p.b cur _ e (0,0) hcur, ?_,by rw [hsz];exact a8⟩;rw [←a7];exact ANz9 cur.toList us off p.len (by omega) (by simpa using a8)
 ·rw [Zcg (Ne.symm hgg)] at e1 e3;obtain ⟨b1,b2,b3,b4,b5,⟨cur2,e2',b6,b7,b8⟩,b9,b10⟩:=h.bl g' blk' p' vs' e1 e2 e3;have hne:p'.b≠p.b:=MB_ne h.mnd e2 hm hgg;exact ⟨b1,b2,b3,b4,b5,⟨cur2,e2',by rw [setRow_other _ _ _ _ hne];exact b6,b7,b8⟩,b9,b10⟩
theorem Rel.freeze (h:Rel S X yv w m A hp hv) {g:Nat} {blk:Blk} {p:MB} (hg:hp[g]? =some blk) (hm:m[g]? =some p):
 Rel (fun b i=>S b i∨(b=p.b∧i<p.len)) X yv w m A (hp.set g {blk with fro:=true}) hv:=by
 have hgl:=(Zaa.1 hg).1;have hvl:g<hv.length:=by rw [h.hl];exact hgl
 obtain ⟨a1,a2,a3,a4,a5,⟨cur,e,a6,a7,a8⟩,a9,a10⟩:=h.bl g blk p hv[g] hg hm (by simp [hvl]);refine ⟨?_,fun q hq=>(h.rv q hq).ext (fun _ _ h=> .inl h) (Agree.refl _ _ _),h.pw,h.nm, ?_,h.mnd,by simp [h.ml],by simp [h.hl], ?_,h.gl.ext (fun _ _ h=> .inl h) (Agree.refl _ yv _)⟩
 ·intro b i hbi;rcases hbi with (h1|⟨rfl,_⟩)|h1
  ·exact h.lt b i (.inl h1)
  ·exact (Zah.1 a6).1
  ·exact h.lt b i (.inr h1)
 ·intro q hq b hb;refine ⟨(h.sp q hq b hb).1,fun i hi hs=> ?_⟩;rcases hs with hs|⟨rfl,_⟩
  ·exact (h.sp q hq b hb).2 i hi hs
  ·exact h.nm q hq _ hb p (Zbi hm) rfl
 ·intro g' blk' p' vs' e1 e2 e3;by_cases hgg:g'=g
  ·subst hgg;rw [Zbw hgl] at e1;rw [hm] at e2;cases e1;cases e2;obtain ⟨b1,b2,b3,b4,b5,b6,b7,b8⟩:=h.bl g' blk p vs' hg hm e3;exact ⟨b1,b2,b3,b4,b5,b6,(fun hc=>by cases hc),fun _ i hi=> .inr ⟨rfl,hi⟩⟩
  ·rw [Zcg (Ne.symm hgg)] at e1;obtain ⟨b1,b2,b3,b4,b5,b6,b7,b8⟩:=h.bl g' blk' p' vs' e1 e2 e3;refine ⟨b1,b2,b3,b4,b5,b6,fun hf i=>⟨fun hs=> ?_,(b7 hf i).2⟩,fun hf i hi=> .inl (b8 hf i hi)⟩;rcases hs with hs|⟨hs,_⟩
   ·exact (b7 hf i).1 hs
   ·exact MB_ne h.mnd e2 hm hgg hs
end
structure Flat (S:Pr) (w:World) (k:Nat) (xs:List (List Dv)) (us:List Value):Prop where
 len:us.length=xs.length*k
 row:∀(i:Nat) (r:List Dv),xs[i]? =some r→r.length=k
 rd:∀(i:Nat) (r:List Dv) (j:Nat) (c:Dv) (v:Value),xs[i]? =some r→r[j]? =some c→us[i*k+j]? =some v→DR S w c v
 one:∀v∈us,v.oneCell'=true
theorem BEj9 {i j n k:Nat} (hi:i<n) (hj:j<k):i*k+j<n*k:=by
 have:(i+1)*k≤n*k:=Zdv k hi;rw [Zca] at this;omega
theorem add_lit (b o n:Nat):(⟨b,o,none⟩:Addr).add n=⟨b,o+n,none⟩:=by
 unfold Addr.add;split<;>simp_all
theorem Flat.ext {S S':Pr} {w w':World} {k:Nat} {xs:List (List Dv)} {us:List Value} (h:Flat S w k xs us) (hS:∀b i,S b i→S' b i)
 (hc:∀b i v,S b i→w.cell? ⟨b,i,none⟩=some v→w'.cell? ⟨b,i,none⟩=some v):Flat S' w' k xs us:=
 ⟨h.len,h.row,fun i r j c v h1 h2 h3=>(h.rd i r j c v h1 h2 h3).ext hS hc,h.one⟩
theorem Flat.append {S:Pr} {w:World} {k:Nat} {xs ys:List (List Dv)} {us vs:List Value} (h:Flat S w k xs us) (h':Flat S w k ys vs):Flat S w k (xs++ys) (us++vs):=by
 refine ⟨by simp [h.len,h'.len,Zca],fun i r hr=> ?_,fun i r j c v h1 h2 h3=> ?_,fun v hv=> ?_⟩
 ·by_cases hi:i<xs.length
  ·rw [Zan hi] at hr;exact h.row i r hr
  ·rw [Zao (by omega)] at hr;exact h'.row _ r hr
 ·by_cases hi:i<xs.length
  ·rw [Zan hi] at h1;have hj:=h.row i r h1▸(Zaa.1 h2).1;rw [Zan (by rw [h.len];exact BEj9 hi hj)] at h3;exact h.rd i r j c v h1 h2 h3
  ·rw [Zao (by omega)] at h1;have e:i*k+j - xs.length*k=(i - xs.length)*k+j:=by
    rw [Nat.mul_sub_right_distrib];have:xs.length*k≤i*k:=Zdv k (by omega);omega
   rw [Zao (by rw [h.len];have:xs.length*k≤i*k:=Zdv k (by omega);omega),h.len,e] at h3;exact h'.rd _ r j c v h1 h2 h3
 ·rcases Zco.1 hv with hv|hv
  ·exact h.one v hv
  ·exact h'.one v hv
theorem DR.flat {S:Pr} {w:World} {k:Nat} {xs:List (List Dv)} {v:Value} (h:DR S w (.sl k xs) v):
 ∃ (base:Option Addr) (cap:Nat) (us:List Value),v= .slice base xs.length cap∧xs.length≤cap∧Flat S w k xs us∧
  (∀a,base=some a→(∀(j:Nat) (u:Value),us[j]? =some u→w.cell? (a.add j)=some u∧S a.block (a.off+j))∧(a.spot=none∨us= []))∧(base=none→xs= []∧cap=0):=by
 cases h with
 |nil k=>exact ⟨none,0, [],rfl,Zas _,⟨by simp,by simp,by simp,by simp⟩,(fun a h=>by cases h),fun _=>⟨rfl,rfl⟩⟩
 | sl k xs a cap vals hk hs hc hr h1 hcap hsp=>
  refine ⟨some a,cap,(Zay (xs.length*k)).map fun n=>vals (n / k) (n % k),rfl,hcap,⟨by simp,hk, ?_, ?_⟩,fun a' ha'=>(Option.some.inj ha')▸⟨?_, ?_⟩,(fun h=>by cases h)⟩
  ·intro i r j c v h1 h2 h3;have hj:=hk i r h1▸(Zaa.1 h2).1;have hk0:0<k:=by omega
   obtain ⟨h4,h5⟩:=Zaa.1 h3;simp only [List.getElem_map,List.getElem_range] at h5;rw [Nat.mul_comm i k,Nat.mul_add_div hk0,Nat.div_eq_of_lt hj,Nat.mul_add_mod,Nat.mod_eq_of_lt hj,Nat.add_zero] at h5;rw [←h5];exact hr i r j c h1 h2
  ·intro v hv;obtain ⟨n,hn,rfl⟩:=Zbd.1 hv;rw [Zbs] at hn;have hk0:0<k:=by
    rcases Nat.eq_zero_or_pos k with h|h
    ·subst h;simp at hn
    ·exact h
   have hi:n / k<xs.length:=by rw [Nat.div_lt_iff_lt_mul hk0];exact hn
   have hj:n % k<k:=Nat.mod_lt _ hk0;have hrow:=hk (n / k) xs[n / k] (by simp [hi]);exact h1 (n / k) xs[n / k] (n % k) (xs[n / k])[n % k] (by simp [hi]) (by simp [hrow,hj])
  ·intro n u hu;obtain ⟨hn,h5⟩:=Zaa.1 hu;simp only [List.getElem_map,List.getElem_range] at h5;simp only [List.length_map,List.length_range] at hn;have hk0:0<k:=by
    rcases Nat.eq_zero_or_pos k with h|h
    ·subst h;simp at hn
    ·exact h
   have hi:n / k<xs.length:=by rw [Nat.div_lt_iff_lt_mul hk0];exact hn
   have hj:n % k<k:=Nat.mod_lt _ hk0;have hrow:=hk (n / k) xs[n / k] (by simp [hi]);have e:n / k*k+n % k=n:=by rw [Nat.mul_comm];exact Nat.div_add_mod n k
   have hcc:=hc (n / k) xs[n / k] (n % k) (xs[n / k])[n % k] (by simp [hi]) (by simp [hrow,hj]);have hss:=hs (n / k) xs[n / k] (n % k) (xs[n / k])[n % k] (by simp [hi]) (by simp [hrow,hj]);rw [e] at hcc hss;have hsp':a.spot=none:=by
    rcases hsp with h|h|h
    ·exact h
    ·omega
    ·subst h;simp at hi
   obtain ⟨b,o,sp⟩:=a;simp only at hsp';subst hsp';rw [add_lit,←h5];exact ⟨hcc,hss⟩
  ·rcases hsp with h|h|h
   ·exact .inl h
   ·subst h;exact .inr (by simp)
   ·subst h;exact .inr (by simp)
theorem DR.ofFlat {S:Pr} {w:World} {k:Nat} {xs:List (List Dv)} {us:List Value} {a:Addr} {cap:Nat} (h:Flat S w k xs us)
 (hc:∀(j:Nat) (u:Value),us[j]? =some u→w.cell? ⟨a.block,a.off+j,none⟩=some u∧S a.block (a.off+j)) (hcap:xs.length≤cap) (hsp:a.spot=none∨k=0∨xs= []):
 DR S w (.sl k xs) (.slice (some a) xs.length cap):=by
 have key:∀(i:Nat) (row:List Dv) (j:Nat) (c:Dv),xs[i]? =some row→row[j]? =some c→us[i*k+j]? =some (us.getD (i*k+j) default):=by
  intro i row j c h1 h2;have hi:=(Zaa.1 h1).1;have hj:=h.row i row h1▸(Zaa.1 h2).1;have:i*k+j<us.length:=by rw [h.len];exact BEj9 hi hj
  simp [List.getD,this]
 refine .sl k xs a cap (fun i j=>us.getD (i*k+j) default) h.row (fun i row j c h1 h2=>(hc _ _ (key i row j c h1 h2)).2) (fun i row j c h1 h2=>(hc _ _ (key i row j c h1 h2)).1)
  (fun i row j c h1 h2=>h.rd i row j c _ h1 h2 (key i row j c h1 h2)) (fun i row j c h1 h2=>h.one _ (Zbi (key i row j c h1 h2))) hcap hsp
def ALk9:List AV→Option (List Value)
 | []=>some []
 | .d (.s v)::r=>(ALk9 r).map (v:: ·)
 |_::_=>none
def AV.toVal? :AV→Option Value
 | .d (.s v)=>some v
 | .agg cs=>(ALk9 cs).map fun vs=> .agg vs.toArray
 | .fn f [] []=>some (.func f #[] #[])
 |_=>none
def ofVal:Value→AV
 | .agg cs=> .agg (cs.toList.map fun v=> .d (.s v))
 | .tuple vs=> .tup (vs.toList.map fun v=> .d (.s v))
 |v=> .d (.s v)
section
variable {S:Pr} {w:World} {m:List MB} {yv:Option Nat}
theorem ANy9:∀ {cs:List AV} {us:List Value},ALk9 cs=some us→us.length=cs.length∧∀(i:Nat) (c:AV) (v:Value),cs[i]? =some c→RV S w m yv c v→us[i]? =some v
 | [],us,h=>by simp [ALk9] at h;subst h;simp
 | c::cs,us,h=>by
  cases c with
  | d x=>cases x with
   | s v=>
    simp only [ALk9,Zaj] at h;obtain ⟨us',h1,rfl⟩:=h;obtain ⟨h2,h3⟩:=ANy9 h1;refine ⟨by simp [h2],fun i c u hc hr=> ?_⟩;cases i with
    | zero=>
     simp at hc;subst hc;cases hr with|d hr=>cases hr;simp
    |succ i=>simp at hc ⊢;exact h3 i c u hc hr
   |sl=>simp [ALk9] at h
   |pt=>simp [ALk9] at h
   |fn=>simp [ALk9] at h
  |_=>simp [ALk9] at h
theorem AFk9 {x:AV} {u v:Value} (h:x.toVal? =some u) (hr:RV S w m yv x v):v=u:=by
 cases hr with
 | d hr=>cases hr with
  |s=>simpa [AV.toVal?] using h
  |sl=>simp [AV.toVal?] at h
  |nil=>simp [AV.toVal?] at h
  |pt=>simp [AV.toVal?] at h
  |fn=>simp [AV.toVal?] at h
 | agg hl hc=>
  rename_i cs vs;simp only [AV.toVal?,Zaj] at h;obtain ⟨us,h1,rfl⟩:=h;obtain ⟨h2,h3⟩:=ANy9 (S:=S) (w:=w) (m:=m) (yv:=yv) h1;congr 1;apply Array.ext';simp only;apply List.ext_getElem?;intro i;by_cases hi:i<vs.size
  ·have:=h3 i cs[i] vs[i] (by simp [hl,hi]) (hc i _ _ (by simp [hl,hi]) (by simp [hi]));rw [this];simp [hi]
  ·rw [Zby (by simpa using hi),Zby (by omega)]
 | fn hf hl hl' h1 h2=>
  rename_i f first caps fs cs
  cases first<;>cases caps<;>simp [AV.toVal?] at h
  simp at hl hl';rw [←h,Zcq hl.symm,Zcq hl'.symm]
 |_=>simp [AV.toVal?] at h
theorem RV.ofVal (v:Value):RV S w m yv (ofVal v) v:=by
 cases v with
 |agg cs=>exact .agg (by simp) (fun i c v h1 h2=>by
  simp at h1;obtain ⟨u,h1,rfl⟩:=h1;rw [h1] at h2;cases h2;exact .d (.s _))
 |tuple cs=>exact .tup (by simp) (fun i c v h1 h2=>by
  simp at h1;obtain ⟨u,h1,rfl⟩:=h1;rw [h1] at h2;cases h2;exact .d (.s _))
 |_=>exact .d (.s _)
theorem ARs9 (v:Value):ownB (ofVal v,v)=none:=by cases v<;>rfl
end
def AAu9 {α:Type} (P:Program):Sem α→Option α
 | .pure a=>some a
 | .program k=>AAu9 P (k P)
 | .mark _ k=>AAu9 P k
 |_=>none
theorem AHc9 {α:Type} (P:Program):∀(s:Sem α) (a:α),AAu9 P s=some a→∀w,s.run P w= .ok a w
 | .pure a,b,h,w=>by simp [AAu9] at h;subst h;rfl
 | .program k,b,h,w=>AHc9 P (k P) b h w
 | .mark _ k,b,h,w=>AHc9 P k b h w
 | .load ..,_,h,_=>by simp [AAu9] at h
 | .store ..,_,h,_=>by simp [AAu9] at h
 | .new ..,_,h,_=>by simp [AAu9] at h
 | .shape ..,_,h,_=>by simp [AAu9] at h
 | .freeze ..,_,h,_=>by simp [AAu9] at h
 | .frozen ..,_,h,_=>by simp [AAu9] at h
 | .getObj ..,_,h,_=>by simp [AAu9] at h
 | .setObj ..,_,h,_=>by simp [AAu9] at h
 | .choose ..,_,h,_=>by simp [AAu9] at h
 | .sys ..,_,h,_=>by simp [AAu9] at h
 | .halt ..,_,h,_=>by simp [AAu9] at h
def xVal (P:Program) (ρ:Operand→AV) (o:Oper):Option AV:=
 if o.op.operands.all (fun x=>(ρ x).toVal?.isSome) then
  match AAu9 P (execOp (fun x=>((ρ x).toVal?).getD undef) o) with
  |some (.value v)=>some (ofVal v)
  |_=>none
 else none
def AJt9 (P:Program) (t:TypeId):Bool:=
 match P.underlying t with
 |some (.struct _)|some (.array _ _)=>true
 |_=>false
def ADc9 (hp:List Blk):AV→Option (List AV)
 | .rptr cs=>some (cs.map .d)
 | .d (.pt cs)=>some (cs.map .d)
 | .d (.s (.pointer (some a)))=>if a.spot.isNone then some (((ABv9 a.block).drop a.off).map fun v=> .d (.s v)) else none
 | .ptr g off=>match hp[g]? with
  |some blk=>if blk.grow then none else some (blk.cells.drop off)
  |none=>none
 | .gptr g ver off=>match hp[g]? with
  |some blk=>if blk.grow&&blk.ver==ver then some (blk.cells.drop off) else none
  |none=>none
 |_=>none
def ANl9 (P:Program) (t:TypeId) (cs:List AV):Option AV:=
 match P.info? t with
 |none=>none
 | some i=>if AJt9 P t then (if i.size≤cs.length then some (.agg ((cs.take i.size).map AV.view)) else none)
  else match P.underlying t with
   |none=>none
   |some _=>(cs[0]?).map AV.view
def ABt9 (hp:List Blk):AV→Nat→Option AV
 | .rptr cs,n=>if n<cs.length then some (.rptr (cs.drop n)) else none
 | .d (.pt cs),n=>if n<cs.length then some (.rptr (cs.drop n)) else none
 | .d (.s (.pointer (some a))),n=>if a.spot.isNone then some (.d (.s (.pointer (some ⟨a.block,a.off+n,none⟩)))) else none
 | .ptr g off,n=>match hp[g]? with
  |some blk=>if blk.grow then none else some (.ptr g (off+n))
  |none=>none
 | .gptr g ver off,n=>match hp[g]? with
  |some blk=>if blk.grow&&blk.ver==ver then some (.gptr g ver (off+n)) else none
  |none=>none
 |_,_=>none
section
variable {P:Program} {S X:Pr} {yv:Option Nat} {w:World} {m:List MB} {A B:List (AV×Value)} {hp:List Blk} {hv:List (List Value)}
theorem ARu9 {g j:Nat} {blk:Blk} {vs:List Value} {c:AV} {u:Value} (h1:hp[g]? =some blk) (h2:hv[g]? =some vs) (h3:blk.cells[j]? =some c) (h4:vs[j]? =some u):
 (c,u)∈AAa9 hp hv:=by
 obtain ⟨pre,post,h5,_⟩:=ACf9 h1 h2;rw [h5];refine Zbc _ (List.mem_append_right _ (Zak.2 ⟨j, ?_⟩));simp [Zar,h3,h4]
theorem Rel.block (h:Rel S X yv w m A hp hv) {g:Nat} {p:MB} (hm:m[g]? =some p):∃blk vs cur e,hp[g]? =some blk∧hv[g]? =some vs∧
 p.len=blk.cells.length∧p.grow=blk.grow∧p.ver=blk.ver∧vs.length=p.len∧(∀v∈vs,v.oneCell'=true)∧
 w.heap[p.b]? =some (.cells cur e (0,0))∧cur.toList.take p.len=vs∧p.len≤cur.size∧
 (blk.fro=false→∀i,¬S p.b i∧¬X p.b i)∧(blk.fro=true→∀i,i<p.len→S p.b i):=by
 have e0:=(Zaa.1 hm).1;have e1:g<hp.length:=by rw [←h.ml];exact e0
 have e2:g<hv.length:=by rw [h.hl];exact e1
 obtain ⟨a1,a2,a3,a4,a5,⟨cur,e,a6,a7,a8⟩,a9,a10⟩:=h.bl g hp[g] p hv[g] (by simp [e1]) hm (by simp [e2]);exact ⟨hp[g],hv[g],cur,e,by simp [e1],by simp [e2],a1,a2,a3,a4,a5,a6,a7,a8,a9,a10⟩
theorem AGw9 {cur:Array Value} {e:TypeId} {b n:Nat} {vs:List Value} (h:w.heap[b]? =some (.cells cur e (0,0))) (ht:cur.toList.take n=vs):
 ∀(j:Nat) (u:Value),vs[j]? =some u→w.cell? ⟨b,j,none⟩=some u:=by
 intro j u hu;rw [←ht,Zaq] at hu;split at hu
 ·simp [World.cell?,h];simpa using hu
 ·cases hu
theorem AGx9 {x:AV} {v:Value} {cs:List AV} (h:Rel S X yv w m (B++AAa9 hp hv) hp hv) (hr:RV S w m yv x v) (hc:ADc9 hp x=some cs):
 ∃ (b o:Nat) (us:List Value),v= .pointer (some ⟨b,o,none⟩)∧us.length=cs.length∧(∀(j:Nat) (u:Value),us[j]? =some u→w.cell? ⟨b,o+j,none⟩=some u)∧(∀u∈us,u.oneCell'=true)∧
  ∀(j:Nat) (c:AV) (u:Value),cs[j]? =some c→us[j]? =some u→RV S w m yv c u:=by
 have blkcase:∀ {g off b len ver:Nat} {gr:Bool} {blk:Blk},m[g]? =some ⟨b,len,gr,ver⟩→hp[g]? =some blk→cs=blk.cells.drop off→
  ∃us:List Value,us.length=cs.length∧(∀(j:Nat) (u:Value),us[j]? =some u→w.cell? ⟨b,off+j,none⟩=some u)∧(∀u∈us,u.oneCell'=true)∧
  ∀(j:Nat) (c:AV) (u:Value),cs[j]? =some c→us[j]? =some u→RV S w m yv c u:=by
  intro g off b len ver gr blk hm hb hcs;obtain ⟨blk',vs,cur,e,h1,h2,h3,_,_,h4,h5,h6,h7,h8,_⟩:=h.block hm;rw [hb] at h1;cases h1;refine ⟨vs.drop off,by simp only at h3 h4;simp [hcs,h4,h3],fun j u hu=> ?_,fun u hu=>h5 u (List.mem_of_mem_drop hu),fun j c u hcj hu=> ?_⟩
  ·rw [Zbm] at hu;exact AGw9 h6 h7 _ u hu
  ·rw [hcs,Zbm] at hcj;rw [Zbm] at hu;exact h.rv _ (List.mem_append_right _ (ARu9 hb h2 hcj hu))
 have hrp:∀ {cs0:List Dv},RV S w m yv (.rptr cs0) v→ADc9 hp (.rptr cs0)=some cs→∃(b o:Nat) (us:List Value),v= .pointer (some ⟨b,o,none⟩)∧us.length=cs.length∧(∀(j:Nat) (u:Value),us[j]? =some u→w.cell? ⟨b,o+j,none⟩=some u)∧(∀u∈us,u.oneCell'=true)∧
  ∀(j:Nat) (c:AV) (u:Value),cs[j]? =some c→us[j]? =some u→RV S w m yv c u:=by
  intro cs0 hr hc;cases hr with
  | @rptr _ a vals hne hsp hs hcc hrr h1=>
  simp only [ADc9,Option.some.injEq] at hc;obtain ⟨b,o,sp⟩:=a;simp only at hsp;subst hsp;refine ⟨b,o,(Zay cs0.length).map vals,rfl,by simp [←hc],fun j u hu=> ?_,fun u hu=> ?_,fun j c u hcj hu=> ?_⟩
  ·obtain ⟨h2,h3⟩:=Zaa.1 hu;simp at h2 h3;subst h3;exact hcc j cs0[j] (by simp [h2])
  ·obtain ⟨j,hj,rfl⟩:=Zbd.1 hu;rw [Zbs] at hj;exact h1 j cs0[j] (by simp [hj])
  ·obtain ⟨h2,h3⟩:=Zaa.1 hu;simp at h2 h3;subst h3;rw [←hc] at hcj;simp [h2] at hcj;subst hcj;exact .d (hrr j cs0[j] (by simp [h2]))
 cases hr with
 |rptr vals hne hsp hs hcc hr h1=>exact hrp (.rptr vals hne hsp hs hcc hr h1) hc
 | ptr hm=>
  simp only [ADc9] at hc;split at hc
  ·rename_i blk hb;split at hc
   ·cases hc
   ·simp only [Option.some.injEq] at hc;obtain ⟨us,h1⟩:=blkcase hm hb hc.symm;exact ⟨_,_,us,rfl,h1⟩
  ·cases hc
 | gptr hm hv h1 hcur=>
  simp only [ADc9] at hc;split at hc
  ·rename_i blk hb;split at hc
   ·rename_i hcond;simp only [Zal,beq_iff_eq] at hcond;simp only [Option.some.injEq] at hc;obtain ⟨blk',vs,cur,e,g1,g2,g3,g4,g5,_⟩:=h.block hm;rw [hb] at g1;cases g1;simp only at g5;have hvv:=hcur (by rw [g5,hcond.2]);obtain ⟨us,h2⟩:=blkcase hm hb hc.symm;exact ⟨_,_,us,hvv,h2⟩
   ·cases hc
  ·cases hc
 | d hd=>
  cases hd with
  | s v=>
   cases v<;>try (simp [ADc9] at hc;done)
   rename_i oa;cases oa with
   |none=>simp [ADc9] at hc
   | some a=>
    simp only [ADc9] at hc;split at hc<;>try (cases hc;done)
    rename_i hsp;obtain ⟨b,o,sp⟩:=a;simp only [Option.isNone_iff_eq_none] at hsp;subst hsp;simp only [Option.some.injEq] at hc;subst hc;refine ⟨b,o,(ABv9 b).drop o,rfl,by simp,fun j u hu=> ?_,fun u hu=> ?_,fun j c u hcj hu=> ?_⟩
    ·rw [Zbm] at hu;exact (h.gl b (o+j) u hu).2.1
    ·obtain ⟨j,hj⟩:=Zak.1 hu;rw [Zbm] at hj;exact (h.gl b (o+j) u hj).2.2
    ·simp only [Zbf,hu,Zdl,Option.some.injEq] at hcj;subst hcj;exact .d (.s _)
  |sl=>simp [ADc9] at hc
  |nil=>simp [ADc9] at hc
  |pt cs a vals hne hsp hs hcc hr h1=>exact hrp (.rptr vals hne hsp hs hcc hr h1) hc
  |fn=>simp [ADc9] at hc
 |_=>simp [ADc9] at hc
theorem AGq9 {t:TypeId} {d:TypeDesc} (h:P.underlying t=some d) (w:World):(isAgg t).run P w= .ok (AJt9 P t) w:=by
 unfold isAgg AJt9;cases d<;>simp [run_underlying h,h]
theorem ARw9 {t:TypeId} {cs:List AV} {x:AV} {b o:Nat} {us:List Value} (hl:us.length=cs.length)
 (hc:∀(j:Nat) (u:Value),us[j]? =some u→w.cell? ⟨b,o+j,none⟩=some u) (hr:∀(j:Nat) (c:AV) (u:Value),cs[j]? =some c→us[j]? =some u→RV S w m yv c u)
 (hx:ANl9 P t cs=some x):∃v,(loadVar t ⟨b,o,none⟩).run P w= .ok v w∧RV S w m yv x v∧ownB (x,v)=none:=by
 unfold ANl9 at hx;cases hi:P.info? t with
 |none=>simp [hi] at hx
 | some i=>
  simp only [hi] at hx;by_cases ha:AJt9 P t=true
  ·simp only [ha,if_true] at hx;split at hx
   ·rename_i hlen;cases hx;obtain ⟨d,hd⟩:∃d,P.underlying t=some d:=by
     unfold AJt9 at ha;cases hd:P.underlying t with
     |none=>simp [hd] at ha
     |some d=>exact ⟨d,rfl⟩
    have hload:=run_loadCells_list (P:=P) w ⟨b,o,none⟩ (us.take i.size) (fun j u hu=>by
     rw [add_lit];rw [Zaq] at hu;split at hu
     ·exact hc j u hu
     ·cases hu)
    have hlen':(us.take i.size).length=i.size:=by simp;omega
    rw [hlen'] at hload;refine ⟨.agg (us.take i.size).toArray, ?_, .agg (by simp;omega) ?_,rfl⟩
    ·simp [loadVar,AGq9 hd,ha,sizeOf,typeInfo,hi,hload]
    ·intro j c u h1 h2;simp only [Zbf,Zaj] at h1;obtain ⟨c0,h1,rfl⟩:=h1;simp only [List.getElem?_toArray] at h2;rw [Zaq] at h1 h2;split at h1
     ·rename_i hj;simp only [hj,if_true] at h2;exact (hr j c0 u h1 h2).view
     ·cases h1
   ·cases hx
  ·simp only [ha,Zbt,if_false] at hx;cases hd:P.underlying t with
   |none=>simp [hd] at hx
   | some d=>
    simp only [hd,Zaj] at hx;obtain ⟨c,h1,rfl⟩:=hx;have h0:0<us.length:=by rw [hl];exact (Zaa.1 h1).1
    have h2:us[0]? =some us[0]:=by simp [h0]
    refine ⟨us[0], ?_,(hr 0 c us[0] h1 h2).view,AAs9 _ _⟩;have:=hc 0 us[0] h2;simp only [Nat.add_zero] at this;simp [loadVar,AGq9 hd,ha,run_load,this]
theorem AIp9 {x x':AV} {v:Value} {n:Nat} (h:Rel S X yv w m (B++AAa9 hp hv) hp hv) (hr:RV S w m yv x v) (hc:ABt9 hp x n=some x'):
 ∃b o,v= .pointer (some ⟨b,o,none⟩)∧RV S w m yv x' (.pointer (some ⟨b,o+n,none⟩))∧ownB (x',Value.pointer (some ⟨b,o+n,none⟩))=none:=by
 have hrp:∀ {cs0:List Dv},RV S w m yv (.rptr cs0) v→ABt9 hp (.rptr cs0) n=some x'→∃b o,v= .pointer (some ⟨b,o,none⟩)∧RV S w m yv x' (.pointer (some ⟨b,o+n,none⟩))∧ownB (x',Value.pointer (some ⟨b,o+n,none⟩))=none:=by
  intro cs0 hr hc;cases hr with
  | @rptr _ a vals hne hsp hs hcc hrr h1=>
  simp only [ABt9] at hc;split at hc
  ·rename_i hn;cases hc;obtain ⟨b,o,sp⟩:=a;simp only at hsp;subst hsp;refine ⟨b,o,rfl, .rptr (fun j=>vals (n+j)) (by simp;omega) rfl (fun j c hj=> ?_) (fun j c hj=> ?_) (fun j c hj=> ?_) (fun j c hj=> ?_),rfl⟩<;>rw [Zbm] at hj
   ·have:=hs _ c hj;simpa [Nat.add_assoc] using this
   ·have:=hcc _ c hj;simpa [Nat.add_assoc] using this
   ·exact hrr _ c hj
   ·exact h1 _ c hj
  ·cases hc
 cases hr with
 |rptr vals hne hsp hs hcc hr h1=>exact hrp (.rptr vals hne hsp hs hcc hr h1) hc
 | ptr hm=>
  simp only [ABt9] at hc;split at hc
  ·split at hc
   ·cases hc
   ·cases hc;exact ⟨_,_,rfl, .ptr hm,rfl⟩
  ·cases hc
 | gptr hm hv h1 hcur=>
  simp only [ABt9] at hc;split at hc
  ·rename_i blk hb;split at hc
   ·rename_i hcond;simp only [Zal,beq_iff_eq] at hcond;cases hc;obtain ⟨blk',vs,cur,e,g1,g2,g3,g4,g5,_⟩:=h.block hm;rw [hb] at g1;cases g1;simp only at g5;have hvv:=hcur (by rw [g5,hcond.2]);exact ⟨_,_,hvv, .gptr hm hv rfl (fun _=>rfl),rfl⟩
   ·cases hc
  ·cases hc
 | d hd=>
  cases hd with
  | s v=>
   cases v<;>try (simp [ABt9] at hc;done)
   rename_i oa;cases oa with
   |none=>simp [ABt9] at hc
   | some a=>
    simp only [ABt9] at hc;split at hc<;>try (cases hc;done)
    rename_i hsp;cases hc;obtain ⟨b,o,sp⟩:=a;simp only [Option.isNone_iff_eq_none] at hsp;subst hsp;exact ⟨b,o,rfl, .d (.s _),rfl⟩
  |sl=>simp [ABt9] at hc
  |nil=>simp [ABt9] at hc
  |pt cs a vals hne hsp hs hcc hr h1=>exact hrp (.rptr vals hne hsp hs hcc hr h1) hc
  |fn=>simp [ABt9] at hc
 |_=>simp [ABt9] at hc
end
def QOk (P:Program) (S X:Pr) (yv:Option Nat) (w:World) (m:List MB) (A:List (AV×Value)) (hp:List Blk) (hv:List (List Value)) (s:Sem Next) (x:AV):Prop:=
 ∃v w' S',s.run P w= .ok (.value v) w'∧Below w.heap.size w w'∧SStep S X S' w w'∧Rel S' X yv w' m ((x,v)::A) hp hv
section
variable {P:Program} {S X:Pr} {yv:Option Nat} {w w':World} {m:List MB} {A B:List (AV×Value)} {hp:List Blk} {hv:List (List Value)}
theorem SStep.refl (S X:Pr) (w w':World):SStep S X S w w':=⟨fun _ _ h=>h,fun _ _ h=> .inl h⟩
theorem QOk.same {s:Sem Next} {x:AV} {v:Value} (h:Rel S X yv w m A hp hv) (hs:s.run P w= .ok (.value v) w) (hr:RV S w m yv x v) (ho:ownB (x,v)=none):
 QOk P S X yv w m A hp hv s x:=
 ⟨v,w,S,hs,Below.refl _ _,SStep.refl _ _ _ _,h.cons hr ho⟩
theorem ADx9 {ρA:Operand→AV} {ρ:Operand→Value} {o:Oper} {x:AV} (h:Rel S X yv w m A hp hv) (hs:∀cs b,o.op≠ .select cs b)
 (hρ:∀y∈o.op.operands,RV S w m yv (ρA y) (ρ y)) (hx:xVal P ρA o=some x):QOk P S X yv w m A hp hv (execOp ρ o) x:=by
 unfold xVal at hx;split at hx
 ·rename_i hall;split at hx
  ·rename_i v hrun;cases hx;have hcongr:execOp ρ o=execOp (fun x=>((ρA x).toVal?).getD undef) o:=execOp_congr o hs (fun y hy=>by
    have h1:=hρ y hy;have h2:=Zds.1 hall y hy;obtain ⟨u,hu⟩:=Option.isSome_iff_exists.1 h2;rw [hu,Option.getD_some];exact AFk9 hu h1)
   rw [hcongr];exact QOk.same h (AHc9 P _ _ hrun w) (RV.ofVal v) (ARs9 v)
  ·cases hx
 ·cases hx
def xLoad (P:Program) (hp:List Blk) (t:TypeId) (a:AV):Option AV:=
 match ADc9 hp a with
 |some cs=>ANl9 P t cs
 |none=>none
theorem AYk9 {t:TypeId} {a x:AV} {va:Value} (h:Rel S X yv w m (B++AAa9 hp hv) hp hv) (ha:RV S w m yv a va) (hx:xLoad P hp t a=some x):
 QOk P S X yv w m (B++AAa9 hp hv) hp hv (do pure (.value (←Instr.loadAt t va))) x:=by
 unfold xLoad at hx;split at hx
 ·rename_i cs hcs;obtain ⟨b,o,us,rfl,h1,h2,h3,h4⟩:=AGx9 h ha hcs;obtain ⟨v,h5,h6,h7⟩:=ARw9 (P:=P) h1 h2 h4 hx;exact QOk.same h (by simp [Instr.loadAt,Zcy,h5]) h6 h7
 ·cases hx
def AEr9 (P:Program) (hp:List Blk) (s:TypeId) (a:AV) (f:Nat):Option AV:=
 match P.underlying s with
 | some (.struct fields)=>match fields[f]? with
  | some fd=>match P.info? fd.type with
   |some i=>if i.size=0 then none else ABt9 hp a fd.offset
   |none=>none
  |none=>none
 |_=>none
theorem ALf9 {s:TypeId} {f:Nat} {a x:AV} {va:Value} (h:Rel S X yv w m (B++AAa9 hp hv) hp hv) (ha:RV S w m yv a va) (hx:AEr9 P hp s a f=some x):
 QOk P S X yv w m (B++AAa9 hp hv) hp hv (do pure (.value (←Instr.fieldAt s va f))) x:=by
 unfold AEr9 at hx;split at hx<;>try (cases hx;done)
 rename_i fields hu;split at hx<;>try (cases hx;done)
 rename_i fd hf;split at hx<;>try (cases hx;done)
 rename_i i hi;split at hx
 ·cases hx
 ·rename_i hsz;obtain ⟨b,o,rfl,h1,h2⟩:=AIp9 h ha hx;refine QOk.same h (v:= .pointer (some ⟨b,o+fd.offset,none⟩)) ?_ h1 h2;simp [Instr.fieldAt,run_underlying hu,hf,Zcy,fieldPlace,sizeOf,typeInfo,hi,hsz,add_lit]
def AV.int? :AV→Option (IntKind×Int)
 | .d (.s (.int k n))=>some (k,n)
 |_=>none
theorem AFd9 {x:AV} {v:Value} {k:IntKind} {n:Int} (h:x.int? =some (k,n)) (hr:RV S w m yv x v):v= .int k n:=by
 cases hr with
 | d hr=>cases hr with
  |s v=>cases v<;>simp [AV.int?] at h;rw [h.1,h.2]
  |sl=>simp [AV.int?] at h
  |nil=>simp [AV.int?] at h
  |pt=>simp [AV.int?] at h
  |fn=>simp [AV.int?] at h
 |_=>simp [AV.int?] at h
def AV.rows? :AV→Option (Nat×List (List Dv))
 | .d (.sl k xs)=>some (k,xs)
 | .own _ k xs=>some (k,xs)
 | .full k xs=>some (k,xs)
 |_=>none
theorem AEv9 {x:AV} {v:Value} {k:Nat} {xs:List (List Dv)} (h:x.rows? =some (k,xs)) (hr:RV S w m yv x v):DR S w (.sl k xs) v:=by
 cases hr with
 | d hr=>cases hr with
  |s v=>simp [AV.rows?] at h
  | sl k' xs' a cap vals hk hs hc hr h1 hcap hsp=>
   simp [AV.rows?] at h;obtain ⟨rfl,rfl⟩:=h;exact .sl _ _ a cap vals hk hs hc hr h1 hcap hsp
  |nil k'=>simp [AV.rows?] at h;obtain ⟨rfl,rfl⟩:=h;exact .nil _
  |pt=>simp [AV.rows?] at h
  |fn=>simp [AV.rows?] at h
 |ownNil=>simp [AV.rows?] at h;obtain ⟨rfl,rfl⟩:=h;exact .nil _
 |own h' _=>simp [AV.rows?] at h;obtain ⟨rfl,rfl⟩:=h;exact h'
 |full h'=>simp [AV.rows?] at h;obtain ⟨rfl,rfl⟩:=h;exact h'
 |_=>simp [AV.rows?] at h
def ADh9 (P:Program) (hp:List Blk) (t:TypeId) (a ix:AV):Option AV:=
 match ix.int?,P.underlying t with
 | some (_,n),some (.array len elem)=>match P.info? elem with
  |some i=>if 0≤n∧n<len then ABt9 hp a (n.toNat*i.size) else none
  |none=>none
 | some (_,n),some (.slice elem)=>match P.info? elem with
  | some i=>(match a with
   | .ref g off len cap k=>if 0≤n∧n<len∧k=i.size then some (.ptr g (off+n.toNat*i.size)) else none
   | .gref g ver len k=>(match hp[g]? with
    |some blk=>if blk.grow&&blk.ver==ver then (if 0≤n∧n<len∧k=i.size then some (.gptr g ver (n.toNat*i.size)) else none) else none
    |none=>none)
   | _=>match a.rows? with
    |some (k,xs)=>if 0≤n∧n<xs.length∧k=i.size∧0<k then (xs[n.toNat]?).map .rptr else none
    |none=>none)
  |none=>none
 |_,_=>none
theorem AZb9 {k:Nat} {xs:List (List Dv)} {v:Value} {j:Nat} {row:List Dv} (h:DR S w (.sl k xs) v) (hrow:xs[j]? =some row) (hk:0<k):
 ∃a cap,v= .slice (some a) xs.length cap∧a.spot=none∧RV S w m yv (.rptr row) (.pointer (some ⟨a.block,a.off+j*k,none⟩)):=by
 cases h with
 |nil k=>simp at hrow
 | sl k xs a cap vals hkk hs hc hr h1 hcap hsp=>
  have hl:=hkk j row hrow;have hsp':a.spot=none:=by
   rcases hsp with h|h|h
   ·exact h
   ·omega
   ·subst h;simp at hrow
  refine ⟨a,cap,rfl,hsp', .rptr (vals j) (by intro h0;subst h0;simp at hl;omega) rfl (fun i c hi=> ?_) (fun i c hi=> ?_) (fun i c hi=>hr j row i c hrow hi) (fun i c hi=>h1 j row i c hrow hi)⟩
  ·have:=hs j row i c hrow hi;simpa [Nat.add_assoc] using this
  ·have:=hc j row i c hrow hi;simpa [Nat.add_assoc] using this
theorem ALe9 {t:TypeId} {a ix x:AV} {va vi:Value} (h:Rel S X yv w m (B++AAa9 hp hv) hp hv) (ha:RV S w m yv a va) (hix:RV S w m yv ix vi)
 (hx:ADh9 P hp t a ix=some x):QOk P S X yv w m (B++AAa9 hp hv) hp hv (do pure (.value (←Zdr t va vi))) x:=by
 unfold ADh9 at hx;split at hx<;>try (cases hx;done)
 ·rename_i kk n len elem hn hu;split at hx<;>try (cases hx;done)
  rename_i i hi;split at hx<;>try (cases hx;done)
  rename_i hb;obtain ⟨b,o,rfl,h1,h2⟩:=AIp9 h ha hx;have hvi:=AFd9 hn hix;subst hvi;refine QOk.same h (v:= .pointer (some ⟨b,o+n.toNat*i.size,none⟩)) ?_ h1 h2;simp [Zdr,asIntOf,run_underlying hu,Zcy,hb.1,hb.2,sizeOf,typeInfo,hi,add_lit]
 ·rename_i kk n elem hn hu;have hvi:=AFd9 hn hix;subst hvi;split at hx<;>try (cases hx;done)
  rename_i i hi;split at hx
  ·split at hx<;>try (cases hx;done)
   rename_i hb;obtain ⟨hb1,hb2,hb3⟩:=hb;subst hb3;cases ha with
   | ref hm hfit hnn=>
    cases hx;refine QOk.same h (v:= .pointer (some ⟨_,_+n.toNat*i.size,none⟩)) ?_ (.ptr hm) rfl;simp [Zdr,asIntOf,run_underlying hu,hb1,hb2,sizeOf,typeInfo,hi,add_lit]
  ·split at hx<;>try (cases hx;done)
   rename_i blk hblk;split at hx<;>try (cases hx;done)
   rename_i hcond;split at hx<;>try (cases hx;done)
   rename_i hb;obtain ⟨hb1,hb2,hb3⟩:=hb;subst hb3;simp only [Zal,beq_iff_eq] at hcond;cases ha with
   | gref hm hv h1 hcur=>
    cases hx;obtain ⟨blk',vs,cur,e,g1,g2,g3,g4,g5,_⟩:=h.block hm;rw [hblk] at g1;cases g1;simp only at g5;obtain ⟨_,cap,rfl,_⟩:=hcur (by rw [g5,hcond.2]);refine QOk.same h (v:= .pointer (some ⟨_,n.toNat*i.size,none⟩)) ?_ (.gptr hm hv rfl (fun _=>rfl)) rfl;simp [Zdr,asIntOf,run_underlying hu,hb1,hb2,sizeOf,typeInfo,hi,add_lit]
  ·split at hx<;>try (cases hx;done)
   rename_i k xs hrows;split at hx<;>try (cases hx;done)
   rename_i hb;obtain ⟨hb1,hb2,hb3,hb4⟩:=hb;simp only [Zaj] at hx;obtain ⟨row,hrow,rfl⟩:=hx;obtain ⟨a,cap,rfl,hsp,hr⟩:=AZb9 (m:=m) (yv:=yv) (AEv9 hrows ha) hrow hb4;obtain ⟨b,o,sp⟩:=a;simp only at hsp;subst hsp;refine QOk.same h (v:= .pointer (some ⟨b,o+n.toNat*k,none⟩)) ?_ hr rfl;simp [Zdr,asIntOf,run_underlying hu,hb1,hb2,sizeOf,typeInfo,hi,add_lit,hb3]
theorem ARq9 {t:TypeId} {cs:List AV} {vs:Array Value} {off:Nat} {x:AV} (hl:cs.length=vs.size) (hr:∀(i:Nat) (c:AV) (v:Value),cs[i]? =some c→vs[i]? =some v→RV S w m yv c v)
 (hx:ANl9 P t (cs.drop off)=some x):∃v,(part t vs off).run P w= .ok v w∧RV S w m yv x v∧ownB (x,v)=none:=by
 unfold ANl9 at hx;cases hi:P.info? t with
 |none=>simp [hi] at hx
 | some i=>
  simp only [hi] at hx;by_cases ha:AJt9 P t=true
  ·simp only [ha,if_true] at hx;split at hx
   ·rename_i hlen;cases hx;obtain ⟨d,hd⟩:∃d,P.underlying t=some d:=by
     unfold AJt9 at ha;cases hd:P.underlying t with
     |none=>simp [hd] at ha
     |some d=>exact ⟨d,rfl⟩
    simp only [List.length_drop] at hlen;refine ⟨.agg (vs.extract off (off+i.size)),by simp [part,AGq9 hd,ha,sizeOf,typeInfo,hi], .agg (by simp;omega) ?_,rfl⟩;intro j c u h1 h2;simp only [Zbf,Zaj] at h1;obtain ⟨c0,h1,rfl⟩:=h1;rw [Zaq] at h1;split at h1
    ·rename_i hj;rw [Zbm] at h1;rw [Array.getElem?_extract] at h2;split at h2
     ·exact (hr _ c0 u h1 h2).view
     ·cases h2
    ·cases h1
   ·cases hx
  ·simp only [ha,Zbt,if_false] at hx;cases hd:P.underlying t with
   |none=>simp [hd] at hx
   | some d=>
    simp only [hd,Zaj] at hx;obtain ⟨c,h1,rfl⟩:=hx;rw [Zbm,Nat.add_zero] at h1;have h0:off<vs.size:=by rw [←hl];exact (Zaa.1 h1).1
    refine ⟨vs[off],by simp [part,AGq9 hd,ha,h0],(hr off c vs[off] h1 (by simp [h0])).view,AAs9 _ _⟩
def BNp9 (P:Program) (t:TypeId) (cs:List AV) (f:Nat):Option AV:=
 match P.underlying t with
 | some (.struct fields)=>match fields[f]? with
  |some fd=>ANl9 P fd.type (cs.drop fd.offset)
  |none=>none
 |_=>none
theorem ATz9 {t:TypeId} {f:Nat} {cs:List AV} {x:AV} {va:Value} (h:Rel S X yv w m A hp hv) (ha:RV S w m yv (.agg cs) va) (hx:BNp9 P t cs f=some x):
 QOk P S X yv w m A hp hv (do pure (.value (←Instr.field t va f))) x:=by
 unfold BNp9 at hx;split at hx<;>try (cases hx;done)
 rename_i fields hu;split at hx<;>try (cases hx;done)
 rename_i fd hf;cases ha with
 | agg hl hr=>
  obtain ⟨v,h1,h2,h3⟩:=ARq9 hl hr hx;exact QOk.same h (by simp [Instr.field,run_underlying hu,hf,asAgg,h1]) h2 h3
def BNo9 (P:Program) (t:TypeId) (cs:List AV) (ix:AV):Option AV:=
 match ix.int?,P.underlying t with
 | some (_,n),some (.array len elem)=>match P.info? elem with
  |some i=>if 0≤n∧n<len then ANl9 P elem (cs.drop (n.toNat*i.size)) else none
  |none=>none
 |_,_=>none
theorem ATy9 {t:TypeId} {ix:AV} {cs:List AV} {x:AV} {va vi:Value} (h:Rel S X yv w m A hp hv) (ha:RV S w m yv (.agg cs) va) (hi:RV S w m yv ix vi) (hx:BNo9 P t cs ix=some x):
 QOk P S X yv w m A hp hv (do pure (.value (←Instr.index t va vi))) x:=by
 unfold BNo9 at hx;split at hx<;>try (cases hx;done)
 rename_i kk n len elem hn hu;split at hx<;>try (cases hx;done)
 rename_i i hinf;split at hx<;>try (cases hx;done)
 rename_i hb;have hvi:=AFd9 hn hi;subst hvi;cases ha with
 | agg hl hr=>
  obtain ⟨v,h1,h2,h3⟩:=ARq9 hl hr hx;exact QOk.same h (by simp [Instr.index,asIntOf,run_underlying hu,hb.1,hb.2,sizeOf,typeInfo,hinf,h1]) h2 h3
end
section
variable {P:Program} {S X:Pr} {yv:Option Nat} {w:World} {m:List MB} {A:List (AV×Value)} {hp:List Blk} {hv:List (List Value)}
def RVs (S:Pr) (w:World) (m:List MB) (yv:Option Nat) (cs:List AV) (vs:List Value):Prop:=
 cs.length=vs.length∧∀(i:Nat) (c:AV) (v:Value),cs[i]? =some c→vs[i]? =some v→RV S w m yv c v
theorem RVs.splice {cs xs:List AV} {vs us:List Value} {off:Nat} (h:RVs S w m yv cs vs) (h':RVs S w m yv xs us) (ho:off+xs.length≤cs.length):
 RVs S w m yv (cs.take off++xs++cs.drop (off+xs.length)) (vs.take off++us++vs.drop (off+us.length)):=by
 obtain ⟨h1,h2⟩:=h;obtain ⟨h3,h4⟩:=h';refine ⟨by simp;omega,fun i c v hc hv=> ?_⟩;have e1:(cs.take off).length=off:=by simp;omega
 have e2:(vs.take off).length=off:=by simp;omega
 by_cases hi:i<off
 ·rw [List.append_assoc,Zan (by omega),Zci hi] at hc hv;exact h2 i c v hc hv
 ·by_cases hi2:i<off+xs.length
  ·rw [Zan (by simp;omega),Zao (by omega),e1] at hc;rw [Zan (by simp;omega),Zao (by omega),e2] at hv;exact h4 _ c v hc hv
  ·rw [Zao (by simp;omega),Zbm] at hc;rw [Zao (by simp;omega),Zbm] at hv;have f1:off+xs.length+(i - (cs.take off++xs).length)=i:=by simp;omega
   have f2:off+us.length+(i - (vs.take off++us).length)=i:=by simp;omega
   rw [f1] at hc;rw [f2] at hv;exact h2 i c v hc hv
def AV.cellsOf? :AV→Option (List AV)
 | .agg cs=>some cs
 | .tup _| .bad=>none
 | .d (.s (.agg _))=>none
 | .gptr .. =>none
 |x=>some [x.view]
theorem AKf9 {x:AV} {v:Value} {cs:List AV} (h:x.cellsOf? =some cs) (hr:RV S w m yv x v):RVs S w m yv cs v.cells.toList:=by
 cases hr with
 | agg hl hc=>
  simp [AV.cellsOf?] at h;subst h;exact ⟨by simpa [Zce] using hl,fun i c v h1 h2=>hc i c v h1 (by simpa [Zce] using h2)⟩
 |tup=>simp [AV.cellsOf?] at h
 |bad=>simp [AV.cellsOf?] at h
 | gref hm hv h1 hcur=>
  simp [AV.cellsOf?,AV.view] at h;subst h;have hcs:v.cells=#[v]:=by cases v<;>first|rfl|cases h1
  refine ⟨by rw [hcs];rfl,fun i c u h1' h2=> ?_⟩;rw [hcs] at h2;cases i with
  |zero=>simp at h1' h2;subst h1';subst h2;exact .gref hm hv h1 hcur
  |succ i=>simp at h1'
 |gptr=>simp [AV.cellsOf?] at h
 | d hd=>
  cases hd with
  | s v=>
   cases v<;>simp [AV.cellsOf?,AV.view] at h<;>subst h<;>exact ⟨rfl,fun i c u h1 h2=>by
    cases i with
    |zero=>simp [Zce] at h1 h2;subst h1;subst h2;exact .d (.s _)
    |succ i=>simp at h1⟩
  | sl k xs a cap vals hk hs hc hr h1 hcap hsp=>
   simp [AV.cellsOf?,AV.view] at h;subst h;refine ⟨rfl,fun i c u h1' h2=> ?_⟩;cases i with
   |zero=>simp [Zce] at h1' h2;subst h1';subst h2;exact .d (.sl k xs a cap vals hk hs hc hr h1 hcap hsp)
   |succ i=>simp at h1'
  | nil k=>
   simp [AV.cellsOf?,AV.view] at h;subst h;refine ⟨rfl,fun i c u h1' h2=> ?_⟩;cases i with
   |zero=>simp [Zce] at h1' h2;subst h1';subst h2;exact .d (.nil _)
   |succ i=>simp at h1'
  | pt qs a vals hne hsp hs hc hr h1=>
   simp [AV.cellsOf?,AV.view] at h;subst h;refine ⟨rfl,fun i c u h1' h2=> ?_⟩;cases i with
   |zero=>simp [Zce] at h1' h2;subst h1';subst h2;exact .d (.pt qs a vals hne hsp hs hc hr h1)
   |succ i=>simp at h1'
  | fn f0 ds0 cs0 hf0 hl0 hr0=>
   simp [AV.cellsOf?,AV.view] at h;subst h;refine ⟨rfl,fun i c u h1' h2=> ?_⟩;cases i with
   |zero=>simp [Zce] at h1' h2;subst h1';subst h2;exact .d (.fn f0 ds0 cs0 hf0 hl0 hr0)
   |succ i=>simp at h1'
 | ownNil=>
  simp [AV.cellsOf?,AV.view] at h;subst h;refine ⟨rfl,fun i c u h1' h2=> ?_⟩;cases i with
  |zero=>simp [Zce] at h1' h2;subst h1';subst h2;exact .d (.nil _)
  |succ i=>simp at h1'
 | own h' ho=>
  simp [AV.cellsOf?,AV.view] at h;subst h;refine ⟨rfl,fun i c u h1 h2=> ?_⟩;cases i with
  |zero=>simp [Zce] at h1 h2;subst h1;subst h2;exact .d h'
  |succ i=>simp at h1
 | full h'=>
  simp [AV.cellsOf?,AV.view] at h;subst h;refine ⟨rfl,fun i c u h1 h2=> ?_⟩;cases i with
  |zero=>simp [Zce] at h1 h2;subst h1;subst h2;exact .full h'
  |succ i=>simp at h1
 | rptr vals hne hsp hs hcc hr h1=>
  simp [AV.cellsOf?,AV.view] at h;subst h;refine ⟨rfl,fun i c u h1' h2=> ?_⟩;cases i with
  |zero=>simp [Zce] at h1' h2;subst h1';subst h2;exact .rptr vals hne hsp hs hcc hr h1
  |succ i=>simp at h1'
 | ref hm hf hn=>
  simp [AV.cellsOf?,AV.view] at h;subst h;refine ⟨rfl,fun i c u h1' h2=> ?_⟩;cases i with
  |zero=>simp [Zce] at h1' h2;subst h1';subst h2;exact .ref hm hf hn
  |succ i=>simp at h1'
 | ptr hm=>
  simp [AV.cellsOf?,AV.view] at h;subst h;refine ⟨rfl,fun i c u h1' h2=> ?_⟩;cases i with
  |zero=>simp [Zce] at h1' h2;subst h1';subst h2;exact .ptr hm
  |succ i=>simp at h1'
 | fn hf hl hl' h1 h2=>
  simp [AV.cellsOf?,AV.view] at h;subst h;refine ⟨rfl,fun i c u h1' h2'=> ?_⟩;cases i with
  |zero=>simp [Zce] at h1' h2';subst h1';subst h2';exact .fn hf hl hl' h1 h2
  |succ i=>simp at h1'
 | yl hy=>
  simp [AV.cellsOf?,AV.view] at h;subst h;refine ⟨rfl,fun i c u h1' h2=> ?_⟩;cases i with
  |zero=>simp [Zce] at h1' h2;subst h1';subst h2;exact .yl hy
  |succ i=>simp at h1'
def fillA (place:Nat→Option (Nat×Nat)) (cs:List AV):List (Nat×AV)→Option (List AV)
 | []=>some cs
 | (i,x)::rest=>
  match place i,x.cellsOf? with
  |some (off,size),some xs=>if xs.length=size∧off+size≤cs.length then fillA place (cs.take off++xs++cs.drop (off+xs.length)) rest else none
  |_,_=>none
theorem BJf9 (cs:Array Value) (off:Nat):∀(us:List Value) (k:Nat),off+k+us.length≤cs.size→
 (us.zipIdx k).foldl (fun cs (p:Value×Nat)=>cs.setIfInBounds (off+p.2) p.1) cs=(cs.toList.take (off+k)++us++cs.toList.drop (off+k+us.length)).toArray:=by
 intro us;induction us generalizing cs with
 |nil=>intro k h;simp
 | cons u us ih=>
  intro k h;simp only [List.zipIdx_cons,List.foldl_cons];simp only [List.length_cons] at h;rw [ih (cs.setIfInBounds (off+k) u) (k+1) (by simp;omega)];congr 1;have:=list_seg_step cs.toList (off+k) u us (by simp;omega);simpa [Nat.add_assoc] using this
theorem AHi9 {place:Nat→Option (Nat×Nat)}:∀ {pa:List (Nat×AV)} {pv:List (Nat×Value)} {cs cs':List AV} {vs:Array Value},
 RVs S w m yv cs vs.toList→pa.length=pv.length→(∀(j:Nat) (p:Nat×AV) (q:Nat×Value),pa[j]? =some p→pv[j]? =some q→p.1=q.1∧RV S w m yv p.2 q.2)→
 fillA place cs pa=some cs'→∃vs',Instr.fill place vs pv=some vs'∧RVs S w m yv cs' vs'.toList
 | [],pv,cs,cs',vs,h,hl,hp,hf=>by
  cases pv with
  |nil=>simp [fillA] at hf;subst hf;exact ⟨vs,by simp [Instr.fill],h⟩
  |cons=>simp at hl
 | (i,x)::pa,pv,cs,cs',vs,h,hl,hp,hf=>by
  cases pv with
  |nil=>simp at hl
  | cons q pv=>
   obtain ⟨i',v⟩:=q;obtain ⟨h1,h2⟩:=hp 0 (i,x) (i',v) rfl rfl;simp only at h1 h2;subst h1;simp only [fillA] at hf;split at hf<;>try (cases hf;done)
   rename_i off size xs hpl hxs;split at hf<;>try (cases hf;done)
   rename_i hcond;obtain ⟨hc1,hc2⟩:=hcond;have h3:=AKf9 hxs h2;have hsz:v.cells.size=size:=by have:=h3.1;simp at this;omega
   have hszc:cs.length=vs.size:=by have:=h.1;simpa using this
   have h4:=h.splice h3 (off:=off) (by omega);have hfold:=BJf9 vs off v.cells.toList 0 (by simp;omega);simp only [Nat.add_zero] at hfold;obtain ⟨vs',h5,h6⟩:=AHi9 (pa:=pa) (pv:=pv) (cs:=cs.take off++xs++cs.drop (off+xs.length)) (vs:=(vs.toList.take off++v.cells.toList++vs.toList.drop (off+v.cells.toList.length)).toArray)
    (by simpa using h4) (by simpa using hl) (fun j p q h1 h2=>hp (j+1) p q (by simpa using h1) (by simpa using h2)) hf
   refine ⟨vs', ?_,h6⟩;rw [Instr.fill,hpl];have n1:¬(v.cells.size≠size∨off+v.cells.size>vs.size):=by omega
   simp only [ne_eq,Bool.or_eq_true,decide_eq_true_eq,gt_iff_lt];rw [if_neg (by simpa using n1)];rw [←h5];congr 1;rw [←hfold,←Array.foldl_toList];simp
def APd9 (i:TypeInfo):Option (List AV):=i.zero.map fun z=>z.cells.toList.map fun v=> .d (.s v)
def BNq9 (P:Program) (t:TypeId) (parts:List (Nat×AV)):Option AV:=
 match P.info? t,P.underlying t with
 | some i,some (.struct fields)=>match APd9 i with
  |some zs=>if fields.toList.all (fun f=>(P.info? f.type).isSome) then
   (fillA (fun k=>(fields[k]?).map fun f=>(f.offset,P.cellsOf f.type)) zs parts).map .agg else none
  |none=>none
 | some i,some (.array _ elem)=>match APd9 i,P.info? elem with
  |some zs,some ie=>(fillA (fun k=>some (k*ie.size,ie.size)) zs parts).map .agg
  |_,_=>none
 |_,_=>none
theorem ALc9 {i:TypeInfo} {zs:List AV} (h:APd9 i=some zs):∃z,i.zero=some z∧RVs S w m yv zs z.cells.toList:=by
 simp only [APd9,Zaj] at h;obtain ⟨z,h1,rfl⟩:=h;refine ⟨z,h1,by simp,fun i c v h1 h2=> ?_⟩;simp only [Zbf,Zaj] at h1;obtain ⟨u,h1,rfl⟩:=h1;rw [h1] at h2;cases h2;exact .d (.s _)
theorem AKa9 {α β:Type} (g:α→Sem β) (f:α→β) (w:World):∀l:List α,(∀a∈l,(g a).run P w= .ok (f a) w)→(l.mapM g).run P w= .ok (l.map f) w
 | [],_=>by simp
 | a::l,h=>by
  have h1:=h a (by simp);have h2:=AKa9 g f w l (fun b hb=>h b (by simp [hb]));rw [List.mapM_cons];simp only [Sem.run_bind,h1,Result.andThen_ok,h2,Sem.run_pure,List.map_cons]
theorem APp9 {α β:Type} (g:α→Sem β) (f:α→β) (w:World) (l:Array α) (h:∀a∈l.toList,(g a).run P w= .ok (f a) w):(l.mapM g).run P w= .ok (l.map f) w:=by
 obtain ⟨l⟩:=l;rw [List.mapM_toArray];simp only [Sem.run_map,AKa9 g f w l h,Result.andThen_ok,List.map_toArray]
theorem ANo9 (fields:Array Field) (h:fields.toList.all (fun f=>(P.info? f.type).isSome)=true) (w:World):
 (fields.mapM (fun (f:Field)=>(do pure (f.offset,←sizeOf f.type):Sem (Nat×Nat)))).run P w= .ok (fields.map fun f=>(f.offset,P.cellsOf f.type)) w:=by
 refine APp9 _ (fun f=>(f.offset,P.cellsOf f.type)) w fields fun f hf=> ?_;obtain ⟨i,hi⟩:=Option.isSome_iff_exists.1 (Zav.1 h f hf);simp [sizeOf,typeInfo,hi,Program.cellsOf]
theorem AUa9 {t:TypeId} {pa:List (Nat×AV)} {pv:Array (Nat×Value)} {x:AV} (h:Rel S X yv w m A hp hv) (hl:pa.length=pv.size)
 (hp':∀(j:Nat) (p:Nat×AV) (q:Nat×Value),pa[j]? =some p→pv[j]? =some q→p.1=q.1∧RV S w m yv p.2 q.2) (hx:BNq9 P t pa=some x):
 QOk P S X yv w m A hp hv (do pure (.value (←Instr.build t pv))) x:=by
 unfold BNq9 at hx;split at hx<;>try (cases hx;done)
 ·rename_i i fields hi hu;split at hx<;>try (cases hx;done)
  rename_i zs hz;split at hx<;>try (cases hx;done)
  rename_i hall;simp only [Zaj] at hx;obtain ⟨cs,hcs,rfl⟩:=hx;obtain ⟨z,h1,h2⟩:=ALc9 (S:=S) (w:=w) (m:=m) (yv:=yv) hz;obtain ⟨vs',h3,h4⟩:=AHi9 (pv:=pv.toList) (vs:=z.cells) h2 (by simpa using hl) (fun j p q h1 h2=>hp' j p q h1 (by simpa using h2)) hcs;refine QOk.same h (v:= .agg vs') ?_ (.agg (by simpa using h4.1) (fun j c v h1 h2=>h4.2 j c v h1 (by simpa using h2))) rfl;have hm:=ANo9 (P:=P) fields hall w;have hpl:(fun (k:Nat)=>(fields.map fun (f:Field)=>(f.offset,P.cellsOf f.type))[k]?)=fun (k:Nat)=>(fields[k]?).map fun (f:Field)=>(f.offset,P.cellsOf f.type):=by
   funext k;simp
  simp only [Instr.build,Sem.run_bind,zeroValue,typeInfo,run_program,hi,h1,Result.andThen_ok,Sem.run_pure,run_underlying hu,hm,hpl,h3]
 ·rename_i i n elem hi hu;split at hx<;>try (cases hx;done)
  rename_i zs ie hz hie;simp only [Zaj] at hx;obtain ⟨cs,hcs,rfl⟩:=hx;obtain ⟨z,h1,h2⟩:=ALc9 (S:=S) (w:=w) (m:=m) (yv:=yv) hz;obtain ⟨vs',h3,h4⟩:=AHi9 (pv:=pv.toList) (vs:=z.cells) h2 (by simpa using hl) (fun j p q h1 h2=>hp' j p q h1 (by simpa using h2)) hcs;refine QOk.same h (v:= .agg vs') ?_ (.agg (by simpa using h4.1) (fun j c v h1 h2=>h4.2 j c v h1 (by simpa using h2))) rfl;simp only [Instr.build,Sem.run_bind,zeroValue,typeInfo,sizeOf,run_program,hi,h1,Result.andThen_ok,Sem.run_pure,run_underlying hu,hie,h3]
def AV.isYield:Fn→Bool
 | .yield _=>true
 |_=>false
theorem APw9 {f:Fn} {fa ca:List AV} {fv cv:Array Value} (h:Rel S X yv w m A hp hv) (hf:AV.isYield f=false) (h1:RVs S w m yv fa fv.toList) (h2:RVs S w m yv ca cv.toList):
 QOk P S X yv w m A hp hv (do pure (.value (←Instr.makeFunc f fv cv))) (.fn f fa ca):=by
 refine QOk.same h (v:= .func f fv cv) (by simp [Instr.makeFunc]) (.fn (fun l hl=>by subst hl;cases hf) (by simpa using h1.1) (by simpa using h2.1)
  (fun i c v h3 h4=>h1.2 i c v h3 (by simpa using h4)) (fun i c v h3 h4=>h2.2 i c v h3 (by simpa using h4))) rfl
end
def AV.toD0? :AV→Option Dv
 | .d x=>some x
 | .rptr cs=>some (.pt cs)
 | .fn f [] []=>some (.s (.func f #[] #[]))
 |_=>none
def toD0s:List AV→Option (List Dv)
 | []=>some []
 | x::r=>match x.toD0?,toD0s r with
  |some d,some ds=>some (d::ds)
  |_,_=>none
def AV.toD? :AV→Option Dv
 | .d x=>some x
 | .own _ k xs=>some (.sl k xs)
 | .full k xs=>some (.sl k xs)
 | .rptr cs=>some (.pt cs)
 | .fn f first caps=>match first,toD0s caps with
  | [],some ds=>some (.fn f ds)
  |_,_=>none
 |_=>none
def toDs:List AV→Option (List Dv)
 | []=>some []
 | x::r=>match x.toD?,toDs r with
  |some d,some ds=>some (d::ds)
  |_,_=>none
def chunk (k:Nat):Nat→List AV→Option (List (List Dv))
 |0,_=>some []
 | n+1,cs=>if k≤cs.length then match toDs (cs.take k),chunk k n (cs.drop k) with
  |some r,some rs=>some (r::rs)
  |_,_=>none
  else none
section
variable {P:Program} {S S' X:Pr} {yv:Option Nat} {w:World} {m:List MB} {A:List (AV×Value)} {hp:List Blk} {hv:List (List Value)}
theorem BBr9 {x:AV} {d:Dv} {v:Value} (h:x.toD0? =some d) (hr:RV S w m yv x v):DR S w d v:=by
 cases hr with
 |d h'=>simp [AV.toD0?] at h;subst h;exact h'
 |rptr vals hne hsp hs hc hr h1=>simp [AV.toD0?] at h;subst h;exact .pt _ _ vals hne hsp hs hc hr h1
 | fn hf hl hl' h1 h2=>
  rename_i f first caps fs cs
  cases first<;>cases caps<;>simp [AV.toD0?] at h
  subst h;simp at hl hl';rw [Zcq hl.symm,Zcq hl'.symm];exact .s _
 |_=>simp [AV.toD0?] at h
theorem ARa9:∀ {cs:List AV} {ds:List Dv},toD0s cs=some ds→ds.length=cs.length∧∀(i:Nat) (c:AV) (d:Dv),cs[i]? =some c→ds[i]? =some d→c.toD0? =some d
 | [],ds,h=>by simp [toD0s] at h;subst h;simp
 | x::r,ds,h=>by
  simp only [toD0s] at h;split at h<;>try (cases h;done)
  rename_i d ds' h1 h2;cases h;obtain ⟨h3,h4⟩:=ARa9 h2;refine ⟨by simp [h3],fun i c d' hc hd=> ?_⟩;cases i with
  |zero=>simp at hc hd;subst hc;subst hd;exact h1
  |succ i=>simp at hc hd;exact h4 i c d' hc hd
theorem APk9 {x:AV} {d:Dv} {v:Value} (h:x.toD? =some d) (hr:RV S w m yv x v):DR S w d v:=by
 cases hr with
 |d h'=>simp [AV.toD?] at h;subst h;exact h'
 |own h' _=>simp [AV.toD?] at h;subst h;exact h'
 |ownNil=>simp [AV.toD?] at h;subst h;exact .nil _
 |full h'=>simp [AV.toD?] at h;subst h;exact h'
 |rptr vals hne hsp hs hc hr h1=>simp [AV.toD?] at h;subst h;exact .pt _ _ vals hne hsp hs hc hr h1
 | fn hf hl hl' h1 h2=>
  rename_i f first caps fs cs
  simp only [AV.toD?] at h;split at h<;>try (cases h;done)
  rename_i ds h3;cases h;simp at hl;rw [Zcq hl.symm];obtain ⟨h4,h5⟩:=ARa9 h3;refine .fn f ds cs hf (h4.trans hl') fun i c v hc hv=> ?_;have hi:i<caps.length:=by rw [←h4];exact (Zaa.1 hc).1
  have hci:caps[i]? =some caps[i]:=List.getElem?_eq_getElem hi;exact BBr9 (h5 i _ _ hci hc) (h2 i _ v hci hv)
 |_=>simp [AV.toD?] at h
theorem AKq9:∀ {cs:List AV} {ds:List Dv},toDs cs=some ds→ds.length=cs.length∧∀(i:Nat) (c:AV) (d:Dv),cs[i]? =some c→ds[i]? =some d→c.toD? =some d
 | [],ds,h=>by simp [toDs] at h;subst h;simp
 | x::r,ds,h=>by
  simp only [toDs] at h;split at h<;>try (cases h;done)
  rename_i d ds' h1 h2;cases h;obtain ⟨h3,h4⟩:=AKq9 h2;refine ⟨by simp [h3],fun i c d' hc hd=> ?_⟩;cases i with
  |zero=>simp at hc hd;subst hc;subst hd;exact h1
  |succ i=>simp at hc hd;exact h4 i c d' hc hd
theorem AMt9 {k:Nat}:∀ {n:Nat} {cs:List AV} {xs:List (List Dv)} {us:List Value},chunk k n cs=some xs→RVs S w m yv cs us→us.length=n*k→(∀u∈us,u.oneCell'=true)→
 xs.length=n∧Flat S w k xs us
 | 0,cs,xs,us,h,hr,hl,h1=>by
  simp [chunk] at h;subst h;simp at hl;subst hl;exact ⟨rfl,⟨by simp,by simp,by simp,by simp⟩⟩
 | n+1,cs,xs,us,h,hr,hl,h1=>by
  simp only [chunk] at h;split at h<;>try (cases h;done)
  rename_i hk;split at h<;>try (cases h;done)
  rename_i r rs h2 h3;cases h;obtain ⟨h4,h5⟩:=AKq9 h2;rw [Zca,Nat.one_mul] at hl;have hr':RVs S w m yv (cs.drop k) (us.drop k):=⟨by simp [hr.1],fun i c v a b=>by rw [Zbm] at a b;exact hr.2 _ c v a b⟩;obtain ⟨h6,h7⟩:=AMt9 h3 hr' (by simp;omega) (fun u hu=>h1 u (List.mem_of_mem_drop hu));have hhead:Flat S w k [r] (us.take k):=by
   have hrl:r.length=k:=by rw [h4];simp;omega
   refine ⟨by simp;omega,fun i r' hr'=> ?_,fun i r' j c v a b d=> ?_,fun v hv=>h1 v (List.mem_of_mem_take hv)⟩
   ·cases i with
    |zero=>simp at hr';subst hr';exact hrl
    |succ i=>simp at hr'
   ·cases i with
    | zero=>
     simp at a;subst a;simp only [Nat.zero_mul,Nat.zero_add] at d;have hj:j<k:=hrl▸(Zaa.1 b).1;rw [Zci hj] at d;have hcj:(cs.take k)[j]? =some cs[j]:=by rw [Zci hj];simp
     exact APk9 (h5 j cs[j] c hcj b) (hr.2 j cs[j] v (by simp) d)
    |succ i=>simp at a
  have:=hhead.append h7;simp only [List.singleton_append,List.take_append_drop] at this;exact ⟨by simp [h6],this⟩
theorem AOn9 {k:Nat} {xs:List (List Dv)} {us:List Value} (h:Rel S X yv w m A hp hv) (hf:Flat S w k xs us) (e:TypeId) {s:Sem Next}
 (hs:s.run P w= .ok (.value (.slice (some ⟨w.heap.size,0,none⟩) xs.length xs.length)) (w.alloc (.cells us.toArray e))):QOk P S X yv w m A hp hv s (.full k xs):=by
 have hb:Below w.heap.size w (w.alloc (.cells us.toArray e)):=(Below.refl _ _).alloc (Zas _) _;refine ⟨_,_,fun b i=>S b i∨b=w.heap.size,hs,hb,⟨fun _ _ h=> .inl h,fun b i hbi=>hbi.imp id (fun h=>by subst h;simp)⟩, ?_⟩;have h0:=h.below (S':=fun b i=>S b i∨b=w.heap.size) hb (fun _ _ h=> .inl h) (fun b i hbi=>hbi.imp id (fun h=>by subst h;simp));refine h0.cons (.full ?_) rfl;refine DR.ofFlat (a:=⟨w.heap.size,0,none⟩) (us:=us) (hf.ext (fun _ _ h=> .inl h) (AAr9 (yv:=yv) hb S).same) (fun j u hu=>⟨?_, .inr rfl⟩) (Zas _) (.inl rfl);simp only [Nat.zero_add];rw [World.cell?_alloc_new];simpa using hu
def AJh9 (P:Program) (t:TypeId) (len:Nat) (parts:List (Nat×AV)):Option AV:=
 match P.underlying t with
 | some (.slice elem)=>match P.info? elem with
  | some i=>match APd9 i with
   |some zs=>if len*i.size≤16777216∧0<i.size∧zs.length=i.size then
    match fillA (fun k=>some (k*i.size,i.size)) ((Zay (len*i.size)).map fun j=>zs[j % i.size]!) parts with
    |some cs=>if cs.all AV.one then (chunk i.size len cs).map (.full i.size) else none
    |none=>none
    else none
   |none=>none
  |none=>none
 |_=>none
theorem AKh9 {t:TypeId} {n:Nat} {pa:List (Nat×AV)} {pv:Array (Nat×Value)} {x:AV} (h:Rel S X yv w m A hp hv) (hl:pa.length=pv.size)
 (hp':∀(j:Nat) (p:Nat×AV) (q:Nat×Value),pa[j]? =some p→pv[j]? =some q→p.1=q.1∧RV S w m yv p.2 q.2) (hx:AJh9 P t n pa=some x):
 QOk P S X yv w m A hp hv (do pure (.value (←Instr.buildSlice t n pv))) x:=by
 unfold AJh9 at hx;split at hx<;>try (cases hx;done)
 rename_i elem hu;split at hx<;>try (cases hx;done)
 rename_i i hi;split at hx<;>try (cases hx;done)
 rename_i zs hz;split at hx<;>try (cases hx;done)
 rename_i hcond;obtain ⟨hc1,hc2,hc3⟩:=hcond;split at hx<;>try (cases hx;done)
 rename_i cs hcs;split at hx<;>try (cases hx;done)
 rename_i hone;simp only [Zaj] at hx;obtain ⟨xs,hxs,rfl⟩:=hx;obtain ⟨z,h1,h2⟩:=ALc9 (S:=S) (w:=w) (m:=m) (yv:=yv) hz;have hzs:z.cells.size=i.size:=by have:=h2.1;simp at this;omega
 have hbase:RVs S w m yv ((Zay (n*i.size)).map fun j=>zs[j % i.size]!) ((Zay (n*i.size)).map fun j=>z.cells[j % i.size]!):=by
  refine ⟨by simp,fun j c v a b=> ?_⟩;simp only [Zbf,Zaj] at a b;obtain ⟨j1,a1,rfl⟩:=a;obtain ⟨j2,b1,rfl⟩:=b;rw [a1] at b1;cases b1;have hlt:j1 % i.size<i.size:=Nat.mod_lt _ hc2;refine h2.2 (j1 % i.size) _ _ ?_ ?_
  ·rw [getElem!_pos zs (j1 % i.size) (by omega)];simp
  ·rw [getElem!_pos z.cells (j1 % i.size) (by omega)];simp
 obtain ⟨vs',h3,h4⟩:=AHi9 (pv:=pv.toList) (vs:=((Zay (n*i.size)).map fun j=>z.cells[j % i.size]!).toArray) (by simpa using hbase) (by simpa using hl) (fun j p q h1 h2=>hp' j p q h1 (by simpa using h2)) hcs;have hlen0:∀ {pa:List (Nat×AV)} {cs cs':List AV},fillA (fun k=>some (k*i.size,i.size)) cs pa=some cs'→cs'.length=cs.length:=by
  intro pa;induction pa with
  |nil=>intro cs cs' h;simp [fillA] at h;rw [h]
  | cons p pa ih=>
   intro cs cs' h;obtain ⟨k,x⟩:=p;simp only [fillA] at h;split at h<;>try (cases h;done)
   rename_i off size ys hpl hys;split at h<;>try (cases h;done)
   rename_i hcc;rw [ih h];simp;omega
 have hvl:vs'.toList.length=n*i.size:=by rw [←h4.1,hlen0 hcs];simp
 have hall:∀u∈vs'.toList,u.oneCell'=true:=by
  intro u hu;obtain ⟨j,hj⟩:=Zak.1 hu;have hjl:j<cs.length:=by rw [h4.1];exact (Zaa.1 hj).1
  exact (h4.2 j cs[j] u (by simp [hjl]) hj).one (Zav.1 hone _ (List.getElem_mem hjl))
 obtain ⟨h5,h6⟩:=AMt9 hxs h4 hvl hall;refine AOn9 h h6 elem ?_;have e1:(Array.range (n*i.size)).map (fun x=>z.cells[x % z.cells.size]!)=((Zay (n*i.size)).map fun j=>z.cells[j % i.size]!).toArray:=by
  apply Array.ext';simp [hzs]
 have hbig:¬(n*i.size>2 ^ 24):=by
  have h24:(2:Nat) ^ 24=16777216:=by decide
  omega
 subst h5;by_cases h0:xs.length*i.size=0
 ·rw [h0] at h3;have h3':Instr.fill (fun k=>some (k*i.size,i.size)) #[] pv.toList=some vs':=by simpa using h3
  simp [Instr.buildSlice,run_underlying hu,sizeOf,typeInfo,hi,h0,h3',newRow,Array.range_zero']
 ·simp only [Instr.buildSlice,Sem.run_bind,run_underlying hu,sizeOf,typeInfo,run_program,hi,Result.andThen_ok,Sem.run_pure,hbig,if_false,h0,zeroValue,h1,e1,h3];simp [newRow]
end
def APt9:Option AV→Option (Option (IntKind×Int))
 |none=>some none
 | some x=>match x.int? with
  |some p=>some (some p)
  |none=>none
def numOr (o:Option (IntKind×Int)) (d:Int):Int:=
 match o with
 |some p=>p.2
 |none=>d
def bnds (len cap:Nat) (lo hi mx:Option (IntKind×Int)):Option (Nat×Nat×Nat):=
 if 0≤numOr lo 0∧numOr lo 0≤numOr hi len∧numOr hi len≤numOr mx cap∧numOr mx cap≤cap∧(mx.isSome=true→hi.isSome=true) then
  some ((numOr lo 0).toNat,(numOr hi len).toNat,(numOr mx cap).toNat) else none
section
variable {P:Program} {S X:Pr} {yv:Option Nat} {w:World} {m:List MB} {A:List (AV×Value)} {hp:List Blk} {hv:List (List Value)}
theorem AJp9 (isSlice:Bool) {len cap:Nat} {lo hi mx:Option (IntKind×Int)} {l h c:Nat} (hb:bnds len cap lo hi mx=some (l,h,c)) (w:World):
 (Zdw isSlice len cap (lo.map fun p=> .int p.1 p.2) (hi.map fun p=> .int p.1 p.2) (mx.map fun p=> .int p.1 p.2)).run P w= .ok (l,h,c) w∧l≤h∧h≤c∧c≤cap:=by
 unfold bnds at hb;split at hb<;>try (cases hb;done)
 rename_i hc;obtain ⟨h1,h2,h3,h4,h5⟩:=hc;simp only [Option.some.injEq,Prod.mk.injEq] at hb;obtain ⟨rfl,rfl,rfl⟩:=hb;rcases lo with _|⟨kl,x⟩<;>rcases hi with _|⟨kh,y⟩<;>rcases mx with _|⟨km,z⟩<;>simp only [numOr] at h1 h2 h3 h4 h5 ⊢<;>try (simp at h5;done)
 all_goals refine ⟨?_,by omega,by omega,by omega⟩
 all_goals simp only [Zdw,Option.map_none,Zdl,Sem.run_bind,Sem.run_pure,Result.andThen_ok,Instr.sliceBound,asIntOf]
 ·simp
 ·have a1:0≤y∧y≤cap:=by omega
  simp [a1]
 ·obtain ⟨y,rfl⟩:=Zcs (show 0≤y by omega);obtain ⟨z,rfl⟩:=Zcs (show 0≤z by omega);have a1:z≤cap:=by omega
  have a2:y≤z:=by omega
  simp [a1,a2]
 ·obtain ⟨x,rfl⟩:=Zcs (show 0≤x by omega);have a1:x≤len:=by omega
  simp [a1]
 ·obtain ⟨x,rfl⟩:=Zcs (show 0≤x by omega);obtain ⟨y,rfl⟩:=Zcs (show 0≤y by omega);have a1:y≤cap:=by omega
  have a2:x≤y:=by omega
  simp [a1,a2]
 ·obtain ⟨x,rfl⟩:=Zcs (show 0≤x by omega);obtain ⟨y,rfl⟩:=Zcs (show 0≤y by omega);obtain ⟨z,rfl⟩:=Zcs (show 0≤z by omega);have a1:z≤cap:=by omega
  have a2:y≤z:=by omega
  have a3:x≤y:=by omega
  simp [a1,a2,a3]
theorem BSd9 {len cap cap':Nat} {lo hi mx:Option (IntKind×Int)} {l h c:Nat} (hb:bnds len cap lo hi mx=some (l,h,c)) (hc:cap≤cap'):
 bnds len cap' lo hi mx=some (l,h,if mx.isSome=true then c else cap'):=by
 unfold bnds at*;split at hb<;>try (cases hb;done)
 rename_i hcond;obtain ⟨h1,h2,h3,h4,h5⟩:=hcond;simp only [Option.some.injEq,Prod.mk.injEq] at hb;obtain ⟨rfl,rfl,rfl⟩:=hb;rcases mx with _|⟨km,z⟩
 ·have h3':numOr hi len≤(cap:Int):=h3;show (if 0≤numOr lo 0∧numOr lo 0≤numOr hi len∧numOr hi len≤(cap':Int)∧(cap':Int)≤cap'∧((none:Option (IntKind×Int)).isSome=true→hi.isSome=true) then
   some ((numOr lo 0).toNat,(numOr hi len).toNat,(cap':Int).toNat) else none)=some ((numOr lo 0).toNat,(numOr hi len).toNat,cap')
  rw [if_pos ⟨h1,h2,by omega,by omega,fun h=>by cases h⟩,Int.toNat_natCast]
 ·have h3':numOr hi len≤z:=h3;have h4':z≤(cap:Int):=h4;show (if 0≤numOr lo 0∧numOr lo 0≤numOr hi len∧numOr hi len≤z∧z≤cap'∧((some (km,z)).isSome=true→hi.isSome=true) then
   some ((numOr lo 0).toNat,(numOr hi len).toNat,z.toNat) else none)=some ((numOr lo 0).toNat,(numOr hi len).toNat,z.toNat)
  rw [if_pos ⟨h1,h2,h3',by omega,h5⟩]
theorem DR.sub {k n cap l h c:Nat} {xs:List (List Dv)} {base:Option Addr} (hd:DR S w (.sl k xs) (.slice base n cap)) (h1:l≤h) (h2:h≤n) (h3:h≤c) (h4:c≤cap):
 DR S w (.sl k ((xs.drop l).take (h - l))) (.slice (if c=l then base else base.map fun a=>a.add (l*k)) (h - l) (c - l)):=by
 generalize hv:Value.slice base n cap=v at hd;cases hd with
 | nil k=>
  simp only [Value.slice.injEq] at hv;obtain ⟨rfl,rfl,rfl⟩:=hv;obtain rfl:h=0:=by omega
  obtain rfl:l=0:=by omega
  obtain rfl:c=0:=by omega
  exact .nil k
 | sl k xs a cap' vals hk hs hc hr h1' hcap hsp=>
  simp only [Value.slice.injEq] at hv;obtain ⟨rfl,rfl,rfl⟩:=hv;have hlen:((xs.drop l).take (h - l)).length=h - l:=by simp;omega
  by_cases hcl:c=l
  ·subst hcl;have he:h - c=0:=by omega
   simp only [he,List.take_zero,if_true];have:=DR.ofFlat (S:=S) (w:=w) (k:=k) (xs:= []) (us:= []) (a:=a) (cap:=c - c) ⟨by simp,by simp,by simp,by simp⟩ (by simp) (by simp) (.inr (.inr rfl));simpa using this
  ·simp only [hcl,if_false,Zdl];have hrow:∀(i:Nat) (row:List Dv),((xs.drop l).take (h - l))[i]? =some row→xs[l+i]? =some row:=by
    intro i row hi;rw [Zaq] at hi;split at hi
    ·rwa [Zbm] at hi
    ·cases hi
   by_cases hlk:l*k=0
   ·rw [hlk];have hadd:a.add 0=a:=by simp [Addr.add]
    rw [hadd];have:=DR.sl (S:=S) (w:=w) k ((xs.drop l).take (h - l)) a (c - l) (fun i j=>vals (l+i) j) (fun i row hi=>hk _ row (hrow i row hi))
     (fun i row j d hi hj=>by have:=hs _ row j d (hrow i row hi) hj;rw [Zca,hlk,Nat.zero_add] at this;exact this)
     (fun i row j d hi hj=>by have:=hc _ row j d (hrow i row hi) hj;rw [Zca,hlk,Nat.zero_add] at this;exact this)
     (fun i row j d hi hj=>hr _ row j d (hrow i row hi) hj) (fun i row j d hi hj=>h1' _ row j d (hrow i row hi) hj) (by rw [hlen];omega)
     (by rcases hsp with h|h|h
         ·exact .inl h
         ·exact .inr (.inl h)
         ·subst h;exact .inr (.inr (by simp)))
    rw [hlen] at this;exact this
   ·have hadd:a.add (l*k)=⟨a.block,a.off+l*k,none⟩:=by simp [Addr.add,hlk]
    rw [hadd];have:=DR.sl (S:=S) (w:=w) k ((xs.drop l).take (h - l)) ⟨a.block,a.off+l*k,none⟩ (c - l) (fun i j=>vals (l+i) j) (fun i row hi=>hk _ row (hrow i row hi))
     (fun i row j d hi hj=>by have:=hs _ row j d (hrow i row hi) hj;simpa [Zca,Nat.add_assoc] using this)
     (fun i row j d hi hj=>by have:=hc _ row j d (hrow i row hi) hj;simpa [Zca,Nat.add_assoc] using this)
     (fun i row j d hi hj=>hr _ row j d (hrow i row hi) hj) (fun i row j d hi hj=>h1' _ row j d (hrow i row hi) hj) (by rw [hlen];omega) (.inl rfl)
    rw [hlen] at this;exact this
theorem DR.mkFull {k n:Nat} {xs:List (List Dv)} {a:Option Addr} (hd:DR S w (.sl k xs) (.slice a n n)):RV S w m yv (.full k xs) (.slice a n n):=by
 have hn:n=xs.length:=by
  generalize hv:Value.slice a n n=v at hd;cases hd<;>simp at hv
  ·exact hv.2.1
  ·exact hv.2
 subst hn;exact .full hd
def ADg9 (k:Nat) (xs:List (List Dv)) (known:Bool) (lo hi mx:Option (IntKind×Int)):Option AV:=
 match bnds xs.length xs.length lo hi mx with
 |some (l,h,c)=>if (known||mx.isSome)&&h==c then some (.full k ((xs.drop l).take (h - l))) else some (.d (.sl k ((xs.drop l).take (h - l))))
 |none=>none
def APg9 (P:Program) (hp:List Blk) (t:TypeId) (x:AV) (lo hi mx:Option AV):Option AV:=
 match APt9 lo,APt9 hi,APt9 mx,P.underlying t with
 | some lo,some hi,some mx,some (.slice elem)=>match P.info? elem with
  | some i=>(match x with
   | .d (.sl k xs)=>if k=i.size then ADg9 k xs false lo hi mx else none
   | .own _ k xs=>if k=i.size then ADg9 k xs false lo hi mx else none
   | .full k xs=>if k=i.size then ADg9 k xs true lo hi mx else none
   | .ref g off n cap k=>if k=i.size then
    match bnds n cap lo hi mx with
    |some (l,h,c)=>some (.ref g (if c=l then off else off+l*k) (h - l) (c - l) k)
    |none=>none
    else none
   | .d (.s (.slice none 0 0))=>match bnds 0 0 lo hi mx with
    |some _=>some (.d (.s (.slice none 0 0)))
    |none=>none
   |_=>none)
  |none=>none
 | some lo,some hi,some mx,some (.array n elem)=>match P.info? elem with
  | some i=>(match x with
   | .ptr g off=>match hp[g]? with
    |some blk=>if blk.grow=false∧off+n*i.size≤blk.cells.length then
     match bnds n n lo hi mx with
     |some (l,h,c)=>some (.ref g (if c=l then off else off+l*i.size) (h - l) (c - l) i.size)
     |none=>none
     else none
    |none=>none
   |_=>none)
  |none=>none
 |_,_,_,_=>none
theorem AEm9 {x:Option AV} {v:Option Value} {p:Option (IntKind×Int)} (h:APt9 x=some p) (hr:∀a,x=some a→∃b,v=some b∧RV S w m yv a b) (hn:x=none→v=none):
 v=p.map fun q=> .int q.1 q.2:=by
 cases x with
 |none=>simp [APt9] at h;subst h;simp [hn]
 | some a=>
  obtain ⟨b,rfl,hb⟩:=hr a rfl;simp only [APt9] at h;split at h<;>try (cases h;done)
  rename_i q hq;cases h;simp [AFd9 hq hb]
theorem ADf9 {k:Nat} {xs:List (List Dv)} {known:Bool} {lo hi mx:Option (IntKind×Int)} {x:AV} {a:Option Addr} {cap:Nat} {s:Sem Next} (h:Rel S X yv w m A hp hv)
 (hd:DR S w (.sl k xs) (.slice a xs.length cap)) (hk:known=true→cap=xs.length) (hx:ADg9 k xs known lo hi mx=some x)
 (hs:∀l h c,(Zdw true xs.length cap (lo.map fun p=> .int p.1 p.2) (hi.map fun p=> .int p.1 p.2) (mx.map fun p=> .int p.1 p.2)).run P w= .ok (l,h,c) w→
  s.run P w= .ok (.value (.slice (if c=l then a else a.map fun a=>a.add (l*k)) (h - l) (c - l))) w):QOk P S X yv w m A hp hv s x:=by
 unfold ADg9 at hx;split at hx<;>try (cases hx;done)
 rename_i l hh c hb;have hcap:xs.length≤cap:=by
  obtain ⟨b,c',us,hv,h1,_⟩:=hd.flat;cases hv;exact h1
 have hb':=BSd9 hb hcap;obtain ⟨hrun,h1,h2,h3⟩:=AJp9 (P:=P) true hb' w;obtain ⟨_,g1,g2,g3⟩:=AJp9 (P:=P) true hb w;have hval:=hs _ _ _ hrun;have hsub:=DR.sub hd (l:=l) (h:=hh) (c:=if mx.isSome=true then c else cap) h1 (by omega) h2 h3;split at hx
 ·rename_i hcond;cases hx;simp only [Zal,Bool.or_eq_true,beq_iff_eq] at hcond;obtain ⟨hc1,rfl⟩:=hcond;have he:(if mx.isSome=true then hh else cap)=hh:=by
   by_cases hm:mx.isSome=true
   ·simp [hm]
   ·simp only [hm,Zbt,if_false];have hmx:mx=none:=by cases mx<;>simp_all
    have hcc:hh=xs.length:=by
     subst hmx;unfold bnds at hb;split at hb<;>try (cases hb;done)
     rename_i hq;simp only [Option.some.injEq,Prod.mk.injEq,numOr] at hb hq;omega
    rw [hcc];exact hk (hc1.resolve_right hm)
  rw [he] at hval hsub;exact QOk.same h hval hsub.mkFull rfl
 ·cases hx;exact QOk.same h hval (.d hsub) rfl
theorem ATw9 {t:TypeId} {x x':AV} {lo hi mx:Option AV} {v:Value} {vlo vhi vmx:Option Value} (h:Rel S X yv w m A hp hv) (hr:RV S w m yv x v)
 (hlo:∀a,lo=some a→∃b,vlo=some b∧RV S w m yv a b) (hlo':lo=none→vlo=none) (hhi:∀a,hi=some a→∃b,vhi=some b∧RV S w m yv a b) (hhi':hi=none→vhi=none)
 (hmx:∀a,mx=some a→∃b,vmx=some b∧RV S w m yv a b) (hmx':mx=none→vmx=none) (hx:APg9 P hp t x lo hi mx=some x'):
 QOk P S X yv w m A hp hv (do pure (.value (←Zdf t v vlo vhi vmx))) x':=by
 unfold APg9 at hx;split at hx<;>try (cases hx;done)
 ·rename_i lo' hi' mx' elem e1 e2 e3 hu;have f1:=AEm9 e1 hlo hlo';have f2:=AEm9 e2 hhi hhi';have f3:=AEm9 e3 hmx hmx';subst f1;subst f2;subst f3;split at hx<;>try (cases hx;done)
  rename_i i hinf;have hrun:∀ {a:Option Addr} {n cap:Nat} (l h c:Nat),(Zdw true n cap (lo'.map fun p=> .int p.1 p.2) (hi'.map fun p=> .int p.1 p.2) (mx'.map fun p=> .int p.1 p.2)).run P w= .ok (l,h,c) w→
   (do pure (Next.value (←Zdf t (.slice a n cap) (lo'.map fun p=> .int p.1 p.2) (hi'.map fun p=> .int p.1 p.2) (mx'.map fun p=> .int p.1 p.2))):Sem Next).run P w=
    .ok (.value (.slice (if c=l then a else a.map fun a=>a.add (l*i.size)) (h - l) (c - l))) w:=by
   intro a n cap l h c hb;simp only [Zdf,Sem.run_bind,run_underlying hu,Result.andThen_ok,Instr.slice,hb,sizeOf,typeInfo,run_program,hinf,Sem.run_pure]
  split at hx
  ·split at hx<;>try (cases hx;done)
   rename_i hk;subst hk;cases hr with
   | d hd=>
    obtain ⟨a,cap,us,rfl,_⟩:=hd.flat;exact ADf9 h hd (by simp) hx (fun l hh c hb=>hrun l hh c hb)
  ·split at hx<;>try (cases hx;done)
   rename_i hk;subst hk;cases hr with
   |ownNil=>exact ADf9 h (.nil _) (by simp) hx (fun l hh c hb=>hrun l hh c hb)
   |own hd ho=>exact ADf9 h hd (by simp) hx (fun l hh c hb=>hrun l hh c hb)
  ·split at hx<;>try (cases hx;done)
   rename_i hk;subst hk;cases hr with
   |full hd=>exact ADf9 h hd (fun _=>rfl) hx (fun l hh c hb=>hrun l hh c hb)
  ·rename_i g off n cap k;split at hx<;>try (cases hx;done)
   rename_i hk;subst hk;split at hx<;>try (cases hx;done)
   rename_i l hh c hb;cases hx;cases hr with
   | ref hm hfit hn=>
    rename_i b len ver;obtain ⟨hb1,hb2,hb3,hb4⟩:=AJp9 (P:=P) true hb w;have hv1:=hrun (a:=some ⟨b,off,none⟩) l hh c hb1;by_cases hcl:c=l
    ·simp only [hcl,if_true] at hv1 ⊢;exact QOk.same h hv1 (.ref hm (by simp;have:=hfit;omega) (by omega)) rfl
    ·simp only [hcl,if_false,Zdl,add_lit] at hv1 ⊢;refine QOk.same h hv1 (.ref hm ?_ (by omega)) rfl;have e:(c - l)*i.size+l*i.size=c*i.size:=by rw [←Zca];congr 1;omega
     have e2:c*i.size≤cap*i.size:=Zdv i.size hb4;omega
  ·split at hx<;>try (cases hx;done)
   rename_i bb hb;cases hx;cases hr with
   | d hd=>
    cases hd;obtain ⟨l,hh,c⟩:=bb;obtain ⟨hb1,hb2,hb3,hb4⟩:=AJp9 (P:=P) true hb w;obtain rfl:c=0:=by omega
    obtain rfl:hh=0:=by omega
    obtain rfl:l=0:=by omega
    refine QOk.same h (v:= .slice none 0 0) ?_ (.d (.s _)) rfl;simp [Zdf,run_underlying hu,Instr.slice,hb1,sizeOf,typeInfo,hinf]
  ·cases hx
 ·rename_i lo' hi' mx' n elem e1 e2 e3 hu;have f1:=AEm9 e1 hlo hlo';have f2:=AEm9 e2 hhi hhi';have f3:=AEm9 e3 hmx hmx';subst f1;subst f2;subst f3;split at hx<;>try (cases hx;done)
  rename_i i hinf;split at hx<;>try (cases hx;done)
  split at hx<;>try (cases hx;done)
  rename_i blk hblk;split at hx<;>try (cases hx;done)
  rename_i hcond;split at hx<;>try (cases hx;done)
  rename_i l hh c hb;cases hx;cases hr with
  | ptr hm=>
   obtain ⟨blk',vs,cur,e,g1,g2,g3,_⟩:=h.block hm;rw [hblk] at g1;cases g1;simp only at g3;obtain ⟨hb1,hb2,hb3,hb4⟩:=AJp9 (P:=P) false hb w;by_cases hcl:c=l
   ·simp only [hcl,if_true];refine QOk.same h (v:= .slice (some ⟨_,_,none⟩) (hh - l) (l - l)) ?_ (.ref hm (by simp;omega) (by omega)) rfl;simp [Zdf,run_underlying hu,Zcy,hb1,sizeOf,typeInfo,hinf,hcl]
   ·simp only [hcl,if_false];refine QOk.same h (v:= .slice (some ⟨_,_+l*i.size,none⟩) (hh - l) (c - l)) ?_ (.ref hm ?_ (by omega)) rfl
    ·simp [Zdf,run_underlying hu,Zcy,hb1,sizeOf,typeInfo,hinf,hcl,add_lit]
    ·have e:(c - l)*i.size+l*i.size=c*i.size:=by rw [←Zca];congr 1;omega
     have e2:c*i.size≤n*i.size:=Zdv i.size hb4;omega
end
section
variable {P:Program} {S S' X:Pr} {yv:Option Nat} {w w':World} {m:List MB} {A:List (AV×Value)} {hp:List Blk} {hv:List (List Value)}
theorem ACr9 (w:World) (t e:TypeId) (i:TypeInfo) (ty:TypeId) (ht:P.underlying t=some (.slice e)) (hi:P.info? e=some i) (base b:Option Addr) (n cap c:Nat) (hn:n≤cap):
 (Zcb #[t,t] ty #[.slice base n cap, .slice b 0 c]).run P w= .ok (.slice base n cap) w:=by
 have hf:∀b:Option Addr,(Builtin.firstCells i.size 0 (.slice b 0 c)).run P w= .ok #[] w:=by
  intro b;cases b<;>simp [Builtin.firstCells,loadCells,loadCellsFrom]
 cases base<;>simp [Zcb,run_underlying ht,sizeOf,typeInfo,hi,Builtin.lenOf,hn,hf,storeCells]
theorem BGg9 {t e:TypeId} {i:TypeInfo} {ty:TypeId} {z:Value} (ht:P.underlying t=some (.slice e)) (hi:P.info? e=some i) (hz:i.zero=some z) (hzs:z.cells.size=i.size) (hsz:0<i.size) (hby:0<i.bytes)
 {xs ys:List (List Dv)} {v u:Value} (h:Rel S X yv w m ((.own e i.size xs,v)::A) hp hv) (hu:DR S w (.sl i.size ys) u) (hfit:(xs.length+ys.length)*i.bytes≤140737488355328):
 ∃ v' w' S',(Zcb #[t,t] ty #[v,u]).run P w= .ok v' w'∧Agree (fun b i=>S b i∨X b i) none w w'∧(∀b i,S b i→S' b i)∧(∀b i,S' b i→S b i∨¬X b i)∧
  Rel S' X yv w' m ((.own e i.size (xs++ys),v')::(.d (.sl i.size xs),v)::A) hp hv:=by
 have hrv:=h.rv (.own e i.size xs,v) (by simp);obtain ⟨ub,uc,news,rfl,huc,hfl,hucell,hunil⟩:=hu.flat;have hview:=h.viewHead;simp only [AV.view] at hview;have h63:xs.length+ys.length≤140737488355328:=Nat.le_trans (Nat.le_mul_of_pos_right _ hby) hfit;have hml:(140737488355328:Nat)≤maxLen:=by decide
 by_cases hy:ys= []
 ·subst hy;have hcap0:∃base cap,v= .slice base xs.length cap∧xs.length≤cap:=by
   have hd:DR S w (.sl i.size xs) v:=AEv9 (x:= .own e i.size xs) rfl hrv;obtain ⟨base,cap,us,rfl,h1,_⟩:=hd.flat;exact ⟨base,cap,rfl,h1⟩
  obtain ⟨base,cap,rfl,hc⟩:=hcap0;refine ⟨_,w,S,ACr9 w t e i ty ht hi base ub xs.length cap uc hc,Agree.refl _ _ _,fun _ _ h=>h,fun _ _ h=> .inl h, ?_⟩;simp only [List.append_nil];exact (h.copy (x:= .own e i.size xs) (v:= .slice base xs.length cap) (by simp)).perm (List.Perm.swap _ _ _)
 ·have hyl:0<ys.length:=List.length_pos_iff.2 hy;obtain ⟨ua,rfl⟩:∃ua,ub=some ua:=by
   cases ub with
   |none=>exact absurd (hunil rfl).1 hy
   |some ua=>exact ⟨ua,rfl⟩
  have hnews:∀(j:Nat) (x:Value),news[j]? =some x→w.cell? (ua.add j)=some x:=fun j x hx=>((hucell ua rfl).1 j x hx).1;have hone:∀x∈news,x.oneCell'=true:=hfl.one;have grow:∀(us:List Value) (old:Nat),us.length=xs.length*i.size→Flat S w i.size xs us→old<xs.length+ys.length→
   Rel (fun b j=>S b j∨(b=w.heap.size∧j<(xs.length+ys.length)*i.size)) X yv
    (w.drew.alloc (.cells (us.toArray++news.toArray++Zaz z.cells (grownCap w (xs.length+ys.length) old e - (xs.length+ys.length))) e)) m
    ((.own e i.size (xs++ys), .slice (some ⟨w.heap.size,0,none⟩) (xs.length+ys.length) (grownCap w (xs.length+ys.length) old e))::(.d (.sl i.size xs),v)::A) hp hv:=by
   intro us old hul hus hold;have hge:=grownCap_ge w (xs.length+ys.length) old e;have hcm:=grownCap_le_maxLen w (xs.length+ys.length) old e (by omega);have hb:Below w.heap.size w (w.drew.alloc (.cells (us.toArray++news.toArray++Zaz z.cells (grownCap w (xs.length+ys.length) old e - (xs.length+ys.length))) e)):=
    ((Below.refl _ _).drew).alloc (Zas _) _
   have h1:=hview.below (S':=fun b j=>S b j∨(b=w.heap.size∧j<(xs.length+ys.length)*i.size)) hb (fun _ _ h=> .inl h)
    (fun b j hbj=>hbj.imp id (fun h=>by obtain ⟨rfl,_⟩:=h;simp))
   have hflat:Flat (fun b j=>S b j∨(b=w.heap.size∧j<(xs.length+ys.length)*i.size)) (w.drew.alloc (.cells (us.toArray++news.toArray++Zaz z.cells (grownCap w (xs.length+ys.length) old e - (xs.length+ys.length))) e)) i.size (xs++ys) (us++news):=
    (hus.append hfl).ext (fun _ _ h=> .inl h) (AAr9 (yv:=yv) hb S).same
   have hcell:∀(j:Nat) (x:Value),(us++news)[j]? =some x→(w.drew.alloc (.cells (us.toArray++news.toArray++Zaz z.cells (grownCap w (xs.length+ys.length) old e - (xs.length+ys.length))) e)).cell? ⟨w.heap.size,0+j,none⟩=some x∧
    (S w.heap.size (0+j)∨(w.heap.size=w.heap.size∧0+j<(xs.length+ys.length)*i.size)):=by
    intro j x hj;have hjl:j<(us++news).length:=(Zaa.1 hj).1;refine ⟨?_, .inr ⟨rfl,by simp only [List.length_append,hul,hfl.len,←Zca] at hjl;omega⟩⟩;rw [Nat.zero_add];have:=World.cell?_alloc_new w.drew (us.toArray++news.toArray++Zaz z.cells (grownCap w (xs.length+ys.length) old e - (xs.length+ys.length))) e j;simp only [World.size_drew] at this;rw [this,Array.getElem?_append_left (by simpa using hjl)];simpa using hj
   have hdr:=DR.ofFlat (a:=⟨w.heap.size,0,none⟩) (cap:=grownCap w (xs.length+ys.length) old e) hflat hcell (by simpa using hge) (.inl rfl);simp only [List.length_append] at hdr;have hrv':RV (fun b j=>S b j∨(b=w.heap.size∧j<(xs.length+ys.length)*i.size)) (w.drew.alloc (.cells (us.toArray++news.toArray++Zaz z.cells (grownCap w (xs.length+ys.length) old e - (xs.length+ys.length))) e)) m yv
    (.own e i.size (xs++ys)) (.slice (some ⟨w.heap.size,0,none⟩) (xs.length+ys.length) (grownCap w (xs.length+ys.length) old e)):=by
    have:=RV.own (m:=m) (yv:=yv) (e:=e) (k:=i.size) (xs:=xs++ys) (g:=w.heap.size) (cap:=grownCap w (xs.length+ys.length) old e) (by simpa using hdr)
     ⟨_,heap_alloc_new w.drew _,hcm,by simp [size_zeroCells,hzs,hul,hfl.len,←Zca];congr 1;omega⟩
    simpa using this
   refine h1.consOwn hrv' rfl (fun p hp hpb=> ?_) (fun q hq hqb=> ?_) (fun j hx=> ?_) (fun j hj hs=> ?_)
   ·have:=h1.rv p hp;obtain ⟨x,v⟩:=p;have hlt:w.heap.size<w.heap.size:=by
     have hrp:=hview.rv (x,v) hp;cases hrp<;>simp only [ownB] at hpb<;>try (cases hpb)
     rename_i ho;obtain ⟨cur,g1,_⟩:=ho;exact (Zah.1 g1).1
    omega
   ·obtain ⟨g,hg⟩:=Zak.1 hq;obtain ⟨blk,vs,cur,e',_,_,_,_,_,_,_,g6,_⟩:=h.block hg;have:=(Zah.1 g6).1;have hqb':q.b=w.heap.size:=hqb;omega
   ·have:=h.lt w.heap.size j (.inr hx);omega
   ·rcases hs with hs|⟨_,hs⟩
    ·have:=h.lt w.heap.size j (.inl hs);omega
    ·simp only [ANq9,List.length_append] at hj;omega
  have hSX:∀b j,(S b j∨(b=w.heap.size∧j<(xs.length+ys.length)*i.size))→S b j∨¬X b j:=by
   intro b j hbj;rcases hbj with hs|⟨rfl,_⟩
   ·exact .inl hs
   ·exact .inr fun hx=>by have:=h.lt _ _ (.inr hx);omega
  cases hrv with
  | ownNil=>
   simp only [Zdm,Nat.zero_add] at hfit h63;have hr:=run_append_nil (P:=P) w t ty e i z ht hi hz ua ys.length uc news hfl.len hnews hyl (by omega) (by omega);have hg:=grow [] 0 (by simp) ⟨by simp,by simp,by simp,by simp⟩ (by simpa using hyl);simp only [Zdm,Nat.zero_add,List.nil_append] at hg hr ⊢;have e0:(([]:List Value).toArray++news.toArray)=news.toArray:=by simp
   rw [e0] at hg;refine ⟨_,_,_,hr,AAr9 (((Below.refl _ _).drew).alloc (Zas _) _) _,fun _ _ h=> .inl h, ?_,hg⟩;simpa using hSX
  | own hd ho=>
   rename_i g cap;obtain ⟨cur,ho1,ho2,ho3⟩:=ho;obtain ⟨base,cap',us,hv1,hc1,hflx,hcx,_⟩:=hd.flat;cases hv1;have husc:=(hcx ⟨g,0,none⟩ rfl).1;have hus:cur.toList.take (xs.length*i.size)=us:=by
    apply List.ext_getElem?;intro j;by_cases hj:j<us.length
    ·have:=(husc j us[j] (by simp [hj])).1;rw [add_lit] at this;simp only [World.cell?,ho1,Nat.zero_add] at this;rw [Zci (by rw [←hflx.len];exact hj),List.getElem?_eq_getElem hj];simpa using this
    ·rw [Zby (by simp [←hflx.len];omega),Zby (by omega)]
   by_cases hroom:xs.length+ys.length≤cap
   ·have hfitc:xs.length*i.size+news.length≤cur.size:=by rw [hfl.len,ho3,←Zca];exact Zdv _ hroom
    have hr:=run_append_room (P:=P) w t ty e i ht hi g xs.length cap cur ho1 ua ys.length uc news hfl.len hnews hone hroom hfitc;obtain ⟨hspX,hspS⟩:=h.sp (.own e i.size xs, .slice (some ⟨g,0,none⟩) xs.length cap) (by simp) g rfl;simp only [ANq9] at hspS;generalize hcs:(cur.toList.take (xs.length*i.size)++news++cur.toList.drop (xs.length*i.size+news.length)).toArray=cs at hr;have hsz':cs.size=cur.size:=by
     rw [←hcs];have:=ACz9 cur.toList news (xs.length*i.size) (by simpa using hfitc);simpa using this
    have hheap:=setRow_heap w g cur cs e (0,0) ho1;have hsame:∀b j x,S b j→w.cell? ⟨b,j,none⟩=some x→(w.setRow g cs).cell? ⟨b,j,none⟩=some x:=by
     intro b j x hs hx;by_cases hbg:b=g
     ·subst hbg;have hj:j<xs.length*i.size:=by
       rcases Nat.lt_or_ge j (xs.length*i.size) with h'|h'
       ·exact h'
       ·exact absurd hs (hspS j h')
      have hj2:j<us.length:=by rw [hflx.len];exact hj
      simp only [World.cell?,ho1,Option.isSome_none,Zbt,if_false] at hx;simp only [World.cell?,hheap,Option.isSome_none,Zbt,if_false];rw [←hcs,hus];simp only [List.append_assoc,List.getElem?_toArray];rw [Zan hj2,←hus,Zci hj];simpa using hx
     ·rw [Zde (w:=w) (a:=⟨b,j,none⟩) (setRow_other w g b cs hbg)];exact hx
    have hkeep:Keep yv w (w.setRow g cs):=AJs9 ho1 hsz';have hAS:Agree S yv w (w.setRow g cs):=⟨hkeep,hsame⟩;have hASX:Agree (fun b i=>S b i∨X b i) none w (w.setRow g cs):=⟨AJs9 ho1 hsz',fun b j x hbj hx=>by
     rcases hbj with hs|hxx
     ·exact hsame b j x hs hx
     ·have hbg:b≠g:=fun hh=>hspX j (hh▸hxx);rw [Zde (w:=w) (a:=⟨b,j,none⟩) (setRow_other w g b cs hbg)];exact hx⟩
    refine ⟨_,_,fun b j=>S b j∨(b=g∧j<(xs.length+ys.length)*i.size),hr,hASX,fun _ _ h=> .inl h, ?_, ?_⟩
    ·intro b j hbj;rcases hbj with hs|⟨rfl,_⟩
     ·exact .inl hs
     ·exact .inr (hspX j)
    ·have hothers:∀p∈A,ownB p≠some g:=fun p hp=>(Zcc.1 h.pw).1 p hp g rfl;have hbase:Rel (fun b j=>S b j∨(b=g∧j<(xs.length+ys.length)*i.size)) X yv (w.setRow g cs) m ((.d (.sl i.size xs), .slice (some ⟨g,0,none⟩) xs.length cap)::A) hp hv:=by
      refine ⟨fun b j hbj=> ?_,fun p hp=>(hview.rv p hp).ext (fun _ _ h=> .inl h) hAS,hview.pw,hview.nm,fun p hp b hb=>⟨(hview.sp p hp b hb).1,fun j hj hs=> ?_⟩,hview.mnd,hview.ml,hview.hl, ?_,h.gl.ext (fun _ _ h=> .inl h) hAS⟩
      ·have hszw:(w.setRow g cs).heap.size=w.heap.size:=by simp
       rw [hszw];rcases hbj with (hs|⟨rfl,_⟩)|hx
       ·exact h.lt b j (.inl hs)
       ·exact (Zah.1 ho1).1
       ·exact h.lt b j (.inr hx)
      ·rcases hs with hs|⟨rfl,_⟩
       ·exact (hview.sp p hp b hb).2 j hj hs
       ·rcases Zbx.1 hp with rfl|hp'
        ·cases hb
        ·exact hothers p hp' hb
      ·intro g' blk p vs e1 e2 e3;obtain ⟨b1,b2,b3,b4,b5,⟨cur2,e2',b6,b7,b8⟩,b9,b10⟩:=h.bl g' blk p vs e1 e2 e3;have hne:p.b≠g:=h.nm (.own e i.size xs, .slice (some ⟨g,0,none⟩) xs.length cap) (by simp) g rfl p (Zbi e2);refine ⟨b1,b2,b3,b4,b5,⟨cur2,e2',by rw [setRow_other _ _ _ _ hne];exact b6,b7,b8⟩,fun hf j=>⟨fun hs=> ?_,(b9 hf j).2⟩,fun hf j hj=> .inl (b10 hf j hj)⟩;rcases hs with hs|⟨hs,_⟩
       ·exact (b9 hf j).1 hs
       ·exact hne hs
     have hflat:Flat (fun b j=>S b j∨(b=g∧j<(xs.length+ys.length)*i.size)) (w.setRow g cs) i.size (xs++ys) (us++news):=
      (hflx.append hfl).ext (fun _ _ h=> .inl h) hsame
     have hdr:=DR.ofFlat (a:=⟨g,0,none⟩) (cap:=cap) hflat (fun j x hj=>by
      have hjl:j<(us++news).length:=(Zaa.1 hj).1;refine ⟨?_, .inr ⟨rfl,by simp only [List.length_append,hflx.len,hfl.len,←Zca] at hjl;simp only [Nat.zero_add];exact hjl⟩⟩;simp only [World.cell?,hheap,Option.isSome_none,Zbt,if_false,Nat.zero_add];rw [←hcs,hus];simp only [List.getElem?_toArray];rw [Zan hjl];exact hj) (by simpa using hroom) (.inl rfl)
     have hrv':RV (fun b j=>S b j∨(b=g∧j<(xs.length+ys.length)*i.size)) (w.setRow g cs) m yv (.own e i.size (xs++ys)) (.slice (some ⟨g,0,none⟩) (xs.length+ys.length) cap):=by
      have:=RV.own (m:=m) (yv:=yv) (e:=e) (k:=i.size) (xs:=xs++ys) (g:=g) (cap:=cap) hdr ⟨cs,hheap,ho2,hsz'.trans ho3⟩;simpa using this
     refine hbase.consOwn hrv' rfl (fun p hp=> ?_) (fun q hq=>h.nm (.own e i.size xs, .slice (some ⟨g,0,none⟩) xs.length cap) (by simp) g rfl q hq) hspX (fun j hj hs=> ?_)
     ·rcases Zbx.1 hp with rfl|hp'
      ·simp [ownB]
      ·exact hothers p hp'
     ·simp only [ANq9,List.length_append] at hj;rcases hs with hs|⟨_,hs⟩
      ·refine hspS j ?_ hs;rw [Zca] at hj;omega
      ·omega
   ·have hr:=run_append_grow (P:=P) w t ty e i z ht hi hz ⟨g,0,none⟩ xs.length cap us hflx.len (fun j x hj=>(husc j x hj).1) ua ys.length uc news hfl.len hnews (by omega) (by omega)
     (growslice_fits (by omega) hfit)
    exact ⟨_,_,_,hr,AAr9 (((Below.refl _ _).drew).alloc (Zas _) _) _,fun _ _ h=> .inl h,hSX,grow us cap hflx.len hflx (by omega)⟩
theorem BMj9 {e:TypeId} {i:TypeInfo} {z:Value} (hzs:z.cells.size=i.size) {xs ys:List (List Dv)} {us news:List Value} (h:Rel S X yv w m A hp hv)
 (hus:Flat S w i.size xs us) (hfl:Flat S w i.size ys news) (h63:xs.length+ys.length≤maxLen) (old:Nat):
 Rel (fun b j=>S b j∨(b=w.heap.size∧j<(xs.length+ys.length)*i.size)) X yv
  (w.drew.alloc (.cells (us.toArray++news.toArray++Zaz z.cells (grownCap w (xs.length+ys.length) old e - (xs.length+ys.length))) e)) m
  ((.own e i.size (xs++ys), .slice (some ⟨w.heap.size,0,none⟩) (xs.length+ys.length) (grownCap w (xs.length+ys.length) old e))::A) hp hv:=by
 have hge:=grownCap_ge w (xs.length+ys.length) old e;have hcm:=grownCap_le_maxLen w (xs.length+ys.length) old e (by omega);have hul:=hus.len;have hb:Below w.heap.size w (w.drew.alloc (.cells (us.toArray++news.toArray++Zaz z.cells (grownCap w (xs.length+ys.length) old e - (xs.length+ys.length))) e)):=
  ((Below.refl _ _).drew).alloc (Zas _) _
 have h1:=h.below (S':=fun b j=>S b j∨(b=w.heap.size∧j<(xs.length+ys.length)*i.size)) hb (fun _ _ h=> .inl h)
  (fun b j hbj=>hbj.imp id (fun h=>by obtain ⟨rfl,_⟩:=h;simp))
 have hflat:Flat (fun b j=>S b j∨(b=w.heap.size∧j<(xs.length+ys.length)*i.size)) (w.drew.alloc (.cells (us.toArray++news.toArray++Zaz z.cells (grownCap w (xs.length+ys.length) old e - (xs.length+ys.length))) e)) i.size (xs++ys) (us++news):=
  (hus.append hfl).ext (fun _ _ h=> .inl h) (AAr9 (yv:=yv) hb S).same
 have hcell:∀(j:Nat) (x:Value),(us++news)[j]? =some x→(w.drew.alloc (.cells (us.toArray++news.toArray++Zaz z.cells (grownCap w (xs.length+ys.length) old e - (xs.length+ys.length))) e)).cell? ⟨w.heap.size,0+j,none⟩=some x∧
  (S w.heap.size (0+j)∨(w.heap.size=w.heap.size∧0+j<(xs.length+ys.length)*i.size)):=by
  intro j x hj;have hjl:j<(us++news).length:=(Zaa.1 hj).1;refine ⟨?_, .inr ⟨rfl,by simp only [List.length_append,hul,hfl.len,←Zca] at hjl;omega⟩⟩;rw [Nat.zero_add];have:=World.cell?_alloc_new w.drew (us.toArray++news.toArray++Zaz z.cells (grownCap w (xs.length+ys.length) old e - (xs.length+ys.length))) e j;simp only [World.size_drew] at this;rw [this,Array.getElem?_append_left (by simpa using hjl)];simpa using hj
 have hdr:=DR.ofFlat (a:=⟨w.heap.size,0,none⟩) (cap:=grownCap w (xs.length+ys.length) old e) hflat hcell (by simpa using hge) (.inl rfl);simp only [List.length_append] at hdr;have hrv':RV (fun b j=>S b j∨(b=w.heap.size∧j<(xs.length+ys.length)*i.size)) (w.drew.alloc (.cells (us.toArray++news.toArray++Zaz z.cells (grownCap w (xs.length+ys.length) old e - (xs.length+ys.length))) e)) m yv
  (.own e i.size (xs++ys)) (.slice (some ⟨w.heap.size,0,none⟩) (xs.length+ys.length) (grownCap w (xs.length+ys.length) old e)):=by
  have:=RV.own (m:=m) (yv:=yv) (e:=e) (k:=i.size) (xs:=xs++ys) (g:=w.heap.size) (cap:=grownCap w (xs.length+ys.length) old e) (by simpa using hdr)
   ⟨_,heap_alloc_new w.drew _,hcm,by simp [size_zeroCells,hzs,hul,hfl.len,←Zca];congr 1;omega⟩
  simpa using this
 refine h1.consOwn hrv' rfl (fun p hp hpb=> ?_) (fun q hq hqb=> ?_) (fun j hx=> ?_) (fun j hj hs=> ?_)
 ·obtain ⟨x,v⟩:=p;have hlt:w.heap.size<w.heap.size:=by
   have hrp:=h.rv (x,v) hp;cases hrp<;>simp only [ownB] at hpb<;>try (cases hpb)
   rename_i ho;obtain ⟨cur,g1,_⟩:=ho;exact (Zah.1 g1).1
  omega
 ·obtain ⟨g,hg⟩:=Zak.1 hq;obtain ⟨blk,vs,cur,e',_,_,_,_,_,_,_,g6,_⟩:=h.block hg;have:=(Zah.1 g6).1;have hqb':q.b=w.heap.size:=hqb;omega
 ·have:=h.lt w.heap.size j (.inr hx);omega
 ·rcases hs with hs|⟨_,hs⟩
  ·have:=h.lt w.heap.size j (.inl hs);omega
  ·simp only [ANq9,List.length_append] at hj;omega
theorem AOz9 {t e:TypeId} {i:TypeInfo} {ty:TypeId} {z:Value} (ht:P.underlying t=some (.slice e)) (hi:P.info? e=some i) (hz:i.zero=some z) (hzs:z.cells.size=i.size) (hby:0<i.bytes)
 {xs ys:List (List Dv)} {v u:Value} (h:Rel S X yv w m A hp hv) (hr:RV S w m yv (.full i.size xs) v) (hu:DR S w (.sl i.size ys) u) (hfit:(xs.length+ys.length)*i.bytes≤140737488355328) (hy:ys≠ []):
 ∃v' w' S',(Zcb #[t,t] ty #[v,u]).run P w= .ok v' w'∧Below w.heap.size w w'∧SStep S X S' w w'∧Rel S' X yv w' m ((.own e i.size (xs++ys),v')::A) hp hv:=by
 obtain ⟨ub,uc,news,rfl,huc,hfl,hucell,hunil⟩:=hu.flat;have h63:xs.length+ys.length≤140737488355328:=Nat.le_trans (Nat.le_mul_of_pos_right _ hby) hfit;have hml:(140737488355328:Nat)≤maxLen:=by decide
 have hyl:0<ys.length:=List.length_pos_iff.2 hy;obtain ⟨ua,rfl⟩:∃ua,ub=some ua:=by
  cases ub with
  |none=>exact absurd (hunil rfl).1 hy
  |some ua=>exact ⟨ua,rfl⟩
 have hnews:∀(j:Nat) (x:Value),news[j]? =some x→w.cell? (ua.add j)=some x:=fun j x hx=>((hucell ua rfl).1 j x hx).1;have hS':SStep S X (fun b j=>S b j∨(b=w.heap.size∧j<(xs.length+ys.length)*i.size)) w
  (w.drew.alloc (.cells (([]:List Value).toArray++news.toArray) e)):=⟨fun _ _ h=> .inl h,fun b j hbj=>hbj.imp id (fun h=>by obtain ⟨rfl,_⟩:=h;simp)⟩
 cases hr with
 | full hd=>
  rename_i a;obtain ⟨base,cap',us,hv1,hc1,hflx,hcx,hnl⟩:=hd.flat;cases hv1;cases a with
  | none=>
   obtain ⟨rfl,_⟩:=hnl rfl;simp only [Zdm,Nat.zero_add] at hfit h63;have hr:=run_append_nil (P:=P) w t ty e i z ht hi hz ua ys.length uc news hfl.len hnews hyl (by omega) (by omega);have hus0:us= []:=by have:=hflx.len;simp at this;exact this
   subst hus0;have hg:=BMj9 (e:=e) (z:=z) (w:=w) hzs h hflx hfl (by simp;omega) 0;simp only [Zdm,Nat.zero_add,List.nil_append] at hg hr hS' ⊢;have e0:(([]:List Value).toArray++news.toArray)=news.toArray:=by simp
   rw [e0] at hg;refine ⟨_,_,_,hr,((Below.refl _ _).drew).alloc (Zas _) _, ?_,hg⟩;exact ⟨fun _ _ h=> .inl h,fun b j hbj=>hbj.imp id (fun h=>by obtain ⟨rfl,_⟩:=h;simp)⟩
  | some a=>
   have hr:=run_append_grow (P:=P) w t ty e i z ht hi hz a xs.length xs.length us hflx.len (fun j x hj=>((hcx a rfl).1 j x hj).1) ua ys.length uc news hfl.len hnews (by omega) (by omega)
    (growslice_fits (by omega) hfit)
   have hg:=BMj9 (e:=e) (z:=z) (w:=w) hzs h hflx hfl (by omega) xs.length;refine ⟨_,_,_,hr,((Below.refl _ _).drew).alloc (Zas _) _, ?_,hg⟩;exact ⟨fun _ _ h=> .inl h,fun b j hbj=>hbj.imp id (fun h=>by obtain ⟨rfl,_⟩:=h;simp)⟩
def AV.len? (hp:List Blk):AV→Option Nat
 | .d (.sl _ xs)=>some xs.length
 | .own _ _ xs=>some xs.length
 | .full _ xs=>some xs.length
 | .ref _ _ n _ _=>some n
 | .gref g ver n _=>match hp[g]? with
  |some blk=>if blk.grow&&blk.ver==ver then some n else none
  |none=>none
 |_=>none
theorem BIo9 {x:AV} {v:Value} {n:Nat} (h:Rel S X yv w m A hp hv) (hr:RV S w m yv x v) (hl:x.len? hp=some n):∃base cap,v= .slice base n cap:=by
 cases hr with
 | d hd=>
  cases hd with
  |s=>simp [AV.len?] at hl
  |nil=>simp [AV.len?] at hl;subst hl;exact ⟨_,_,rfl⟩
  |sl=>simp [AV.len?] at hl;subst hl;exact ⟨_,_,rfl⟩
  |pt=>simp [AV.len?] at hl
  |fn=>simp [AV.len?] at hl
 |own=>simp [AV.len?] at hl;subst hl;exact ⟨_,_,rfl⟩
 |ownNil=>simp [AV.len?] at hl;subst hl;exact ⟨_,_,rfl⟩
 |full=>simp [AV.len?] at hl;subst hl;exact ⟨_,_,rfl⟩
 |ref=>simp [AV.len?] at hl;subst hl;exact ⟨_,_,rfl⟩
 | gref hm hv h1 hcur=>
  simp only [AV.len?] at hl;split at hl<;>try (cases hl;done)
  rename_i blk hb;split at hl<;>try (cases hl;done)
  rename_i hcond;cases hl;simp only [Zal,beq_iff_eq] at hcond;obtain ⟨blk',vs,cur,e,g1,g2,g3,g4,g5,_⟩:=h.block hm;rw [hb] at g1;cases g1;simp only at g5;obtain ⟨_,cap,hvv,_⟩:=hcur (by rw [g5,hcond.2]);exact ⟨_,_,hvv⟩
 |_=>simp [AV.len?] at hl
theorem BVz9 {t:TypeId} {e:TypeId} {ty:TypeId} (ht:P.underlying t=some (.slice e)) (base:Option Addr) (n cap:Nat) (w:World):
 (Builtin.len_ #[t] ty #[.slice base n cap]).run P w= .ok (goInt n) w:=by
 simp [Builtin.len_,run_underlying ht]
def AV.nil? :AV→Option Bool
 | .d (.sl _ xs)=>if xs.isEmpty then none else some false
 | .own _ _ xs=>if xs.isEmpty then none else some false
 | .full _ xs=>if xs.isEmpty then none else some false
 | .ref .. =>some false
 | .d (.s (.slice none 0 0))=>some true
 |_=>none
def AAl9:AV→Bool
 | .d (.s (.slice none 0 0))=>true
 |_=>false
theorem AWu9 {x:AV} {v:Value} {b:Bool} (hr:RV S w m yv x v) (hn:x.nil? =some b):∃base n cap,v= .slice base n cap∧base.isNone=b:=by
 have key:∀ {k:Nat} {xs:List (List Dv)} {v:Value},DR S w (.sl k xs) v→xs.isEmpty=false→∃base n cap,v= .slice base n cap∧base.isNone=false:=by
  intro k xs v hd hx;cases hd with
  |nil=>simp at hx
  |sl=>exact ⟨_,_,_,rfl,rfl⟩
 cases hr with
 | d hd=>
  rename_i x;cases x with
  |pt cs=>simp [AV.nil?] at hn
  |fn=>simp [AV.nil?] at hn
  | s u=>
   cases hd;simp only [AV.nil?] at hn;split at hn<;>try (cases hn;done)
   all_goals simp_all
  | sl k xs=>
   simp only [AV.nil?] at hn;split at hn<;>try (cases hn;done)
   rename_i hx;cases hn;exact key hd (by simpa using hx)
 | own hd _=>
  simp only [AV.nil?] at hn;split at hn<;>try (cases hn;done)
  rename_i hx;cases hn;exact key hd (by simpa using hx)
 |ownNil=>simp [AV.nil?] at hn
 | full hd=>
  simp only [AV.nil?] at hn;split at hn<;>try (cases hn;done)
  rename_i hx;cases hn;exact key hd (by simpa using hx)
 |ref=>simp [AV.nil?] at hn;subst hn;exact ⟨_,_,_,rfl,rfl⟩
 |_=>simp [AV.nil?] at hn
theorem AOu9 {t e:TypeId} (ht:P.underlying t=some (.slice e)) (d:Nat) (n cap:Nat) (b:Option Addr) (w:World):
 (Op.equalIn (d+1) t (.slice b n cap) (.slice none 0 0)).run P w= .ok b.isNone w∧(Op.equalIn (d+1) t (.slice none 0 0) (.slice b n cap)).run P w= .ok b.isNone w:=by
 cases b<;>constructor<;>simp [Op.equalIn,run_underlying ht]
theorem AHj9 {t e:TypeId} (ht:P.underlying t=some (.slice e)) (base:Option Addr) (n cap:Nat) (x y:Operand) (w:World):
 (do eqGuard .eql t x y (.slice base n cap) (.slice none 0 0);binOp .eql t (.slice base n cap) (.slice none 0 0):Sem Value).run P w= .ok (.bool base.isNone) w∧
 (do eqGuard .neq t x y (.slice base n cap) (.slice none 0 0);binOp .neq t (.slice base n cap) (.slice none 0 0):Sem Value).run P w= .ok (.bool !base.isNone) w∧
 (do eqGuard .eql t x y (.slice none 0 0) (.slice base n cap);binOp .eql t (.slice none 0 0) (.slice base n cap):Sem Value).run P w= .ok (.bool base.isNone) w∧
 (do eqGuard .neq t x y (.slice none 0 0) (.slice base n cap);binOp .neq t (.slice none 0 0) (.slice base n cap):Sem Value).run P w= .ok (.bool !base.isNone) w:=by
 have e1:(Op.equal t (.slice base n cap) (.slice none 0 0)).run P w= .ok base.isNone w:=(AOu9 ht 9999 n cap base w).1;have e2:(Op.equal t (.slice none 0 0) (.slice base n cap)).run P w= .ok base.isNone w:=(AOu9 ht 9999 n cap base w).2;refine ⟨?_, ?_, ?_, ?_⟩<;>simp [eqGuard,binOp,e1,e2]
end
def ADy9 (k:Nat) (x:AV):Option (List (List Dv)):=
 if AAl9 x then some [] else match x.rows? with
  |some (k',ys)=>if k'=k then some ys else none
  |none=>none
def AFw9 (P:Program) (ts:Array TypeId):Option (TypeId×TypeInfo):=
 match ts[0]?,ts[1]? with
 | some t,some t'=>if ts.size=2∧t=t' then match P.underlying t with
  | some (.slice e)=>match P.info? e with
   | some i=>match i.zero with
    |some z=>if z.cells.size=i.size∧0<i.size∧0<i.bytes then some (e,i) else none
    |none=>none
   |none=>none
  |_=>none
  else none
 |_,_=>none
def AGb9 (P:Program) (ts:Array TypeId) (d s:AV):Option AV:=
 match AFw9 P ts with
 | some (e,i)=>match ADy9 i.size s with
  | some ys=>if AAl9 d then (if ys.length*i.bytes≤140737488355328 then some (.own e i.size ys) else none)
   else match d with
    | .full k xs=>if k=i.size∧(xs.length+ys.length)*i.bytes≤140737488355328 then (if ys.isEmpty then some (.full k xs) else some (.own e k (xs++ys))) else none
    |_=>none
  |none=>none
 |none=>none
def xLen (P:Program) (hp:List Blk) (ts:Array TypeId) (x:AV):Option AV:=
 match ts[0]? with
 | some t=>if ts.size=1 then match P.underlying t with
  |some (.slice _)=>(x.len? hp).map fun (n:Nat)=>AV.d (.s (goInt (n:Int)))
  |_=>none
  else none
 |none=>none
def xNil (P:Program) (op:BinOp) (t:TypeId) (x y:AV):Option AV:=
 match op,P.underlying t with
 | .eql,some (.slice _)=>if AAl9 y then (x.nil?).map fun b=> .d (.s (.bool b)) else if AAl9 x then (y.nil?).map fun b=> .d (.s (.bool b)) else none
 | .neq,some (.slice _)=>if AAl9 y then (x.nil?).map fun b=> .d (.s (.bool !b)) else if AAl9 x then (y.nil?).map fun b=> .d (.s (.bool !b)) else none
 |_,_=>none
def isPtr:AV→Bool
 | .ptr .. | .rptr .. =>true
 | .d (.pt _)=>true
 |_=>false
def AV.isOwn:AV→Bool
 | .own .. =>true
 |_=>false
def AVr9 (P:Program) (t:TypeId) (x:AV):Option AV:=
 match x.rows?,P.underlying t with
 | some (k,xs),some (.array n e)=>match P.info? e with
  |some i=>if k=i.size∧0<n*k∧n≤xs.length then some (.rptr (xs.take n).flatten) else none
  |none=>none
 |_,_=>none
def BNn9 (P:Program) (t:TypeId) (l c:AV):Option AV:=
 match l.int?,c.int?,P.underlying t with
 | some (_,l),some (_,c),some (.slice e)=>match P.info? e with
  | some i=>match i.zero with
   |some z=>if l=c∧0≤l∧(i.bytes:Int)*c≤281474976710656∧c≤9223372036854775807∧z.cells.toList.length=i.size∧0<i.size∧(z.cells.toList.map fun u=>AV.d (.s u)).all AV.one then
    some (.full i.size (List.replicate l.toNat (z.cells.toList.map .s))) else none
   |none=>none
  |none=>none
 |_,_,_=>none
def xq (P:Program) (hp:List Blk) (ρ:Operand→AV) (o:Oper):Option AV:=
 match o.op with
 | .move x=>some (ρ x).view
 | .assign x=>if (ρ x).isOwn then none else some (ρ x).view
 | .pick c a b=>match ρ c with
  | .d (.s (.bool t))=>some (if t then (ρ a).view else (ρ b).view)
  |_=>none
 | .extract x i=>match ρ x with
  | .tup vs=>(vs[i]?).map AV.view
  |_=>none
 | .load t a=>xLoad P hp t (ρ a)
 | .nilCheck x=>if isPtr (ρ x) then some (ρ x) else none
 | .binOp op t x y _=>match xNil P op t (ρ x) (ρ y) with
  |some r=>some r
  |none=>xVal P ρ o
 | .makeFunc f first caps=>if AV.isYield f then none else some (.fn f (first.toList.map fun x=>(ρ x).view) (caps.toList.map fun x=>(ρ x).view))
 | .slice t x lo hi mx=>match APg9 P hp t (ρ x) (lo.map ρ) (hi.map ρ) (mx.map ρ) with
  |some r=>some r
  |none=>xVal P ρ o
 | .fieldAddr t x f=>AEr9 P hp t (ρ x) f
 | .field t x f=>match ρ x with
  | .agg cs=>BNp9 P t cs f
  |_=>none
 | .indexAddr t x ix=>ADh9 P hp t (ρ x) (ρ ix)
 | .sliceToArrayPointer t x=>AVr9 P t (ρ x)
 | .index t x ix=>match ρ x with
  | .agg cs=>BNo9 P t cs (ρ ix)
  |_=>xVal P ρ o
 | .build t parts=>BNq9 P t (parts.toList.map fun p=>(p.1,ρ p.2))
 | .buildSlice t n parts=>AJh9 P t n (parts.toList.map fun p=>(p.1,ρ p.2))
 | .call c=>match c.callee with
  | .builtin .len=>match c.args[0]? with
   | some x=>if c.args.size=1 then (match xLen P hp c.argTypes (ρ x) with
    |some r=>some r
    |none=>xVal P ρ o) else none
   |none=>none
  | .builtin .append=>match c.args[0]?,c.args[1]? with
   |some x,some y=>if c.args.size=2 then AGb9 P c.argTypes (ρ x) (ρ y) else none
   |_,_=>none
  | .builtin _=>xVal P ρ o
  |_=>none
 | .unOp .. | .convert .. | .makeInterface .. =>xVal P ρ o
 | .makeSlice t l c=>BNn9 P t (ρ l) (ρ c)
 |_=>none
section
variable {P:Program} {S S' X:Pr} {yv:Option Nat} {w w':World} {m:List MB} {A B:List (AV×Value)} {hp:List Blk} {hv:List (List Value)}
theorem BEl9 {k:Nat} (hk:0<k):∀ {xs:List (List Dv)},(∀(i:Nat) (row:List Dv),xs[i]? =some row→row.length=k)→∀(j:Nat) (c:Dv),xs.flatten[j]? =some c→∃row,xs[j / k]? =some row∧row[j % k]? =some c
 | [],_,j,c,h=>by simp at h
 | r::xs,hl,j,c,h=>by
  have h0:r.length=k:=hl 0 r rfl;rw [List.flatten_cons] at h;rcases Nat.lt_or_ge j k with hj|hj
  ·rw [Zan (by omega)] at h;rw [Nat.div_eq_of_lt hj,Nat.mod_eq_of_lt hj];exact ⟨r,rfl,h⟩
  ·rw [Zao (by omega)] at h;obtain ⟨row,h1,h2⟩:=BEl9 hk (xs:=xs) (fun i row hi=>hl (i+1) row (by simpa using hi)) (j - r.length) c h;rw [h0] at h1 h2;have e1:j / k=(j - k) / k+1:=by rw [Nat.div_eq_sub_div hk hj]
   have e2:j % k=(j - k) % k:=Nat.mod_eq_sub_mod hj;rw [e1,e2];exact ⟨row,by simpa using h1,h2⟩
theorem ATx9 {t:TypeId} {l c x:AV} {vl vc:Value} (h:Rel S X yv w m A hp hv) (hl:RV S w m yv l vl) (hc:RV S w m yv c vc) (hx:BNn9 P t l c=some x):
 QOk P S X yv w m A hp hv (do pure (.value (←Instr.makeSlice t vl vc))) x:=by
 unfold BNn9 at hx;split at hx<;>try (cases hx;done)
 rename_i kl l' kc c' e e1 e2 hu;split at hx<;>try (cases hx;done)
 rename_i i hi;split at hx<;>try (cases hx;done)
 rename_i z hz;split at hx<;>try (cases hx;done)
 rename_i hcond;obtain ⟨a1,a2,a3,a4,a5,a6,a7⟩:=hcond;cases hx;have hvl:=AFd9 e1 hl;have hvc:=AFd9 e2 hc;subst hvl;subst hvc;subst a1;have hzs:z.cells.size=i.size:=by simpa using a5
 have hrun:=run_make (P:=P) w t e i z hu hi hz kl kc l' l' a2 (Int.le_refl _) a3 a4;have hat:∀j,j<l'.toNat*i.size→((madeCells z.cells (l'.toNat*i.size)).toList)[j]? =some (z.cells[j % i.size]!):=by
  intro j hj;simp [madeCells,hzs,hj]
 have hlen:((madeCells z.cells (l'.toNat*i.size)).toList).length=l'.toNat*i.size:=by
  rw [Array.length_toList,size_madeCells]
 have hfl:Flat S w i.size (List.replicate l'.toNat (z.cells.toList.map Dv.s)) (madeCells z.cells (l'.toNat*i.size)).toList:=by
  refine ⟨by simp [size_madeCells],fun j r hr=> ?_,fun j r k x v e1 e2 e3=> ?_,fun v hv=> ?_⟩
  ·rw [List.getElem?_replicate] at hr;split at hr<;>cases hr;simpa using a5
  ·rw [List.getElem?_replicate] at e1;split at e1<;>cases e1;rename_i hj;simp only [Zbf,Zaj] at e2;obtain ⟨u,e2,rfl⟩:=e2;have hk:k<i.size:=by rw [←hzs];have:=(Zaa.1 e2).1;simpa using this
   rw [hat _ (BEj9 hj hk)] at e3;have hmod:(j*i.size+k) % i.size=k:=by rw [Nat.mul_comm,Nat.mul_add_mod,Nat.mod_eq_of_lt hk]
   rw [hmod] at e3;have:z.cells[k]! =u:=by
    have h5:z.cells[k]? =some u:=by simpa using e2
    rw [getElem!_pos z.cells k (by rw [hzs];exact hk)];exact (Zah.1 h5).2
   rw [this] at e3;cases e3;exact .s _
  ·obtain ⟨j,hj⟩:=Zak.1 hv;have hjl:=(Zaa.1 hj).1;rw [hat j (by omega)] at hj;have hk:j % i.size<z.cells.size:=by rw [hzs];exact Nat.mod_lt _ a6
   have hv':v=z.cells[j % i.size]:=by
    rw [getElem!_pos z.cells _ hk] at hj;exact (Option.some.inj hj).symm
   have:=Zav.1 a7 (.d (.s z.cells[j % i.size])) (Zbd.2 ⟨z.cells[j % i.size],by simp,rfl⟩);rw [hv'];exact this
 refine AOn9 h hfl e ?_;simp [hrun]
theorem AQr9 {t:TypeId} {a x:AV} {va:Value} (h:Rel S X yv w m A hp hv) (ha:RV S w m yv a va) (hx:AVr9 P t a=some x):QOk P S X yv w m A hp hv (do pure (.value (←Instr.arrayAt t va))) x:=by
 unfold AVr9 at hx;split at hx<;>try (cases hx;done)
 rename_i k xs n e hrows hu;split at hx<;>try (cases hx;done)
 rename_i i hi;split at hx<;>try (cases hx;done)
 rename_i hb;obtain ⟨hb1,hb2,hb3⟩:=hb;cases hx;have hd:=AEv9 hrows ha;have hk:0<k:=Nat.pos_of_mul_pos_left hb2;have hn:0<n:=Nat.pos_of_mul_pos_right hb2;cases hd with
 |nil=>simp at hb3;omega
 | sl k xs b cap vals hkk hs hc hr h1 hcap hsp=>
  have hsp':b.spot=none:=by
   rcases hsp with h|h|h
   ·exact h
   ·omega
   ·subst h;simp at hb3;omega
  have hget:∀(j:Nat) (c:Dv),(xs.take n).flatten[j]? =some c→∃row,xs[j / k]? =some row∧row[j % k]? =some c:=by
   intro j c hj;obtain ⟨row,g1,g2⟩:=BEl9 hk (xs:=xs.take n) (fun i row hi=>hkk i row (by
    rw [Zaq] at hi;split at hi
    ·exact hi
    ·cases hi)) j c hj
   refine ⟨row, ?_,g2⟩;rw [Zaq] at g1;split at g1
   ·exact g1
   ·cases g1
  have hjk:∀j,b.off+(j / k*k+j % k)=b.off+j:=fun j=>by rw [Nat.mul_comm,Nat.div_add_mod]
  refine QOk.same h (v:= .pointer (some b)) ?_ (.rptr (fun j=>vals (j / k) (j % k)) ?_ hsp' (fun j c hj=> ?_) (fun j c hj=> ?_) (fun j c hj=> ?_) (fun j c hj=> ?_)) rfl
  ·have:¬xs.length<n:=by omega
   simp [Instr.arrayAt,run_underlying hu,this]
  ·intro h0;have h2:=congrArg List.length h0;cases xs with
   |nil=>simp at hb3;omega
   | cons r xs=>
    cases n with
    |zero=>omega
    | succ n=>
     have:=hkk 0 r rfl;simp at h2;rw [h2.1] at this;simp at this;omega
  ·obtain ⟨row,g1,g2⟩:=hget j c hj;have:=hs _ row _ c g1 g2
   rwa [hjk] at this
  ·obtain ⟨row,g1,g2⟩:=hget j c hj;have:=hc _ row _ c g1 g2
   rwa [hjk] at this
  ·obtain ⟨row,g1,g2⟩:=hget j c hj;exact hr _ row _ c g1 g2
  ·obtain ⟨row,g1,g2⟩:=hget j c hj;exact h1 _ row _ c g1 g2
theorem AAq9 {x:AV} {v:Value} (h:AAl9 x=true) (hr:RV S w m yv x v):v= .slice none 0 0:=by
 unfold AAl9 at h;split at h
 ·cases hr with|d hd=>cases hd;rfl
 ·cases h
theorem ADo9 {k:Nat} {x:AV} {v:Value} {ys:List (List Dv)} (h:ADy9 k x=some ys) (hr:RV S w m yv x v):DR S w (.sl k ys) v:=by
 unfold ADy9 at h;split at h
 ·rename_i hn;cases h;rw [AAq9 hn hr];exact .nil k
 ·split at h<;>try (cases h;done)
  rename_i k' ys' hrows;split at h<;>try (cases h;done)
  rename_i hk;cases h;subst hk;exact AEv9 hrows hr
theorem AEx9 {ts:Array TypeId} {e:TypeId} {i:TypeInfo} (h:AFw9 P ts=some (e,i)):
 ∃t z,ts=#[t,t]∧P.underlying t=some (.slice e)∧P.info? e=some i∧i.zero=some z∧z.cells.size=i.size∧0<i.size∧0<i.bytes:=by
 unfold AFw9 at h;split at h<;>try (cases h;done)
 rename_i t t' h1 h2;split at h<;>try (cases h;done)
 rename_i hc;obtain ⟨hc1,rfl⟩:=hc;split at h<;>try (cases h;done)
 rename_i e' hu;split at h<;>try (cases h;done)
 rename_i i' hi;split at h<;>try (cases h;done)
 rename_i z hz;split at h<;>try (cases h;done)
 rename_i hcc;cases h;refine ⟨t,z, ?_,hu,hi,hz,hcc⟩;apply Zcf;intro j
 match j with
 |0=>simpa using h1
 |1=>simpa using h2
 |j+2=>simp [Zcu (by omega:ts.size≤j+2)]
theorem APi9 {ts:Array TypeId} {ty:TypeId} {d s x:AV} {vd vs:Value} (h:Rel S X yv w m A hp hv) (hd:RV S w m yv d vd) (hs:RV S w m yv s vs) (hx:AGb9 P ts d s=some x):
 QOk P S X yv w m A hp hv (do pure (.value (←Zcb ts ty #[vd,vs]))) x:=by
 unfold AGb9 at hx;split at hx<;>try (cases hx;done)
 rename_i e i hinf;obtain ⟨t,z,rfl,ht,hi,hz,hzs,hsz,hby⟩:=AEx9 hinf;split at hx<;>try (cases hx;done)
 rename_i ys hys;have hu:=ADo9 hys hs;split at hx
 ·rename_i hn;split at hx<;>try (cases hx;done)
  rename_i hfit;cases hx;have hvd:=AAq9 hn hd;subst hvd;have hfull:RV S w m yv (.full i.size []) (.slice none 0 0):= .full (xs:= []) (.nil _);by_cases hy:ys= []
  ·subst hy;obtain ⟨ub,uc,news,rfl,_⟩:=hu.flat;refine QOk.same h (v:= .slice none 0 0) ?_ .ownNil rfl;simp [ACr9 w t e i ty ht hi none ub 0 0 uc (Zas _)]
  ·obtain ⟨v',w',S',h1,h2,h3,h4⟩:=AOz9 (ty:=ty) ht hi hz hzs hby h hfull hu (by simpa using hfit) hy;exact ⟨v',w',S',by simp [h1],h2,h3,h4⟩
 ·split at hx<;>try (cases hx;done)
  rename_i k xs _;split at hx<;>try (cases hx;done)
  rename_i hc;obtain ⟨rfl,hfit⟩:=hc;split at hx
  ·rename_i hy;cases hx;have hy:ys= []:=List.isEmpty_iff.1 hy;subst hy;obtain ⟨ub,uc,news,rfl,_⟩:=hu.flat;have hd':=hd;cases hd' with
   | full hdd=>
    rename_i a;refine QOk.same h (v:= .slice a xs.length xs.length) ?_ hd rfl;simp [ACr9 w t e i ty ht hi a ub xs.length xs.length uc (Zas _)]
  ·rename_i hy;cases hx;obtain ⟨v',w',S',h1,h2,h3,h4⟩:=AOz9 (ty:=ty) ht hi hz hzs hby h hd hu hfit (by intro h0;subst h0;simp at hy);exact ⟨v',w',S',by simp [h1],h2,h3,h4⟩
theorem BBa9 {ts:Array TypeId} {ty:TypeId} {x r:AV} {v:Value} (h:Rel S X yv w m A hp hv) (hr:RV S w m yv x v) (hx:xLen P hp ts x=some r):
 QOk P S X yv w m A hp hv (do pure (.value (←Builtin.len_ ts ty #[v]))) r:=by
 unfold xLen at hx;split at hx<;>try (cases hx;done)
 rename_i t ht;split at hx<;>try (cases hx;done)
 rename_i hsz;split at hx<;>try (cases hx;done)
 rename_i e hu;simp only [Zaj] at hx;obtain ⟨n,hn,rfl⟩:=hx;obtain ⟨base,cap,rfl⟩:=BIo9 h hr hn;have hts:ts=#[t]:=by
  apply Zcf;intro j
  match j with
  |0=>simpa using ht
  |j+1=>simp [Zcu (by omega:ts.size≤j+1)]
 subst hts;exact QOk.same h (v:=goInt n) (by simp [BVz9 hu]) (.d (.s _)) rfl
theorem BAz9 {op:BinOp} {t:TypeId} {x y:Operand} {ax ay r:AV} {vx vy:Value} (h:Rel S X yv w m A hp hv) (h1:RV S w m yv ax vx) (h2:RV S w m yv ay vy) (hx:xNil P op t ax ay=some r):
 QOk P S X yv w m A hp hv (do pure (.value (←(do eqGuard op t x y vx vy;binOp op t vx vy:Sem Value)))) r:=by
 unfold xNil at hx;split at hx<;>try (cases hx;done)
 all_goals
  rename_i hu;split at hx
  ·rename_i hn;simp only [Zaj] at hx;obtain ⟨b,hb,rfl⟩:=hx;have:=AAq9 hn h2;subst this;obtain ⟨base,n,cap,rfl,hbb⟩:=AWu9 h1 hb;subst hbb;obtain ⟨q1,q2,q3,q4⟩:=AHj9 hu base n cap x y w;first
    |exact QOk.same h (v:= .bool base.isNone) (by rw [Sem.run_bind,q1];rfl) (.d (.s _)) rfl
    |exact QOk.same h (v:= .bool !base.isNone) (by rw [Sem.run_bind,q2];rfl) (.d (.s _)) rfl
  ·split at hx<;>try (cases hx;done)
   rename_i hn;simp only [Zaj] at hx;obtain ⟨b,hb,rfl⟩:=hx;have:=AAq9 hn h1;subst this;obtain ⟨base,n,cap,rfl,hbb⟩:=AWu9 h2 hb;subst hbb;obtain ⟨q1,q2,q3,q4⟩:=AHj9 hu base n cap x y w;first
    |exact QOk.same h (v:= .bool base.isNone) (by rw [Sem.run_bind,q3];rfl) (.d (.s _)) rfl
    |exact QOk.same h (v:= .bool !base.isNone) (by rw [Sem.run_bind,q4];rfl) (.d (.s _)) rfl
theorem BLx9 {ρA:Operand→AV} {ρ:Operand→Value} (xs:Array Operand) (h:∀y∈xs,RV S w m yv (ρA y) (ρ y)):
 RVs S w m yv (xs.toList.map fun x=>(ρA x).view) (xs.map ρ).toList:=by
 refine ⟨by simp,fun i c v h1 h2=> ?_⟩;simp only [Zbf,Zaj] at h1;obtain ⟨y,h1,rfl⟩:=h1;simp only [Array.getElem?_toList,Array.getElem?_map] at h1 h2;rw [h1] at h2;simp only [Zdl,Option.some.injEq] at h2;subst h2;exact (h y (Array.mem_of_getElem? h1)).view
theorem AWn9 {ρA:Operand→AV} {ρ:Operand→Value} (ps:Array (Nat×Operand)) (h:∀y∈ps,RV S w m yv (ρA y.2) (ρ y.2)):
 (ps.toList.map fun p=>(p.1,ρA p.2)).length=(ps.map fun (i,x)=>(i,ρ x)).size∧∀(j:Nat) (p:Nat×AV) (q:Nat×Value),(ps.toList.map fun p=>(p.1,ρA p.2))[j]? =some p→(ps.map fun (i,x)=>(i,ρ x))[j]? =some q→
  p.1=q.1∧RV S w m yv p.2 q.2:=by
 refine ⟨by simp,fun j p q h1 h2=> ?_⟩;simp only [Zbf,Zaj,Array.getElem?_toList] at h1;obtain ⟨y,h1,rfl⟩:=h1;simp only [Array.getElem?_map,h1,Zdl,Option.some.injEq] at h2;subst h2;exact ⟨rfl,h y (Array.mem_of_getElem? h1)⟩
theorem ACb9 {ρ:Operand→Value} {o:Oper} {c:Call} {b:Builtin} (ho:o.op= .call c) (hc:c.callee= .builtin b) (w:World):
 ∃consts,(execOp ρ o).run P w=(builtin b c.argTypes o.type consts (c.args.map ρ)).run P w:=by
 unfold execOp;simp only [ho,resolve,hc,Sem.run_bind,Sem.run_pure,Result.andThen_ok,invoke];exact ⟨_,rfl⟩
theorem BAo9 {ρA:Operand→AV} {ρ:Operand→Value} {o:Oper} {x:AV} (h:Rel S X yv w m (B++AAa9 hp hv) hp hv) (hρ:∀y∈o.op.operands,RV S w m yv (ρA y) (ρ y))
 (hx:xq P hp ρA o=some x):QOk P S X yv w m (B++AAa9 hp hv) hp hv (execOp ρ o) x:=by
 unfold xq at hx;split at hx
 ·rename_i y ho;cases hx;refine QOk.same h (v:=ρ y) (by unfold execOp;rw [ho];rfl) (hρ y (by simp [ho,Zbg])).view (AAs9 _ _)
 ·rename_i y ho;split at hx<;>try (cases hx;done)
  cases hx;refine QOk.same h (v:=ρ y) (by unfold execOp;rw [ho];rfl) (hρ y (by simp [ho,Zbg])).view (AAs9 _ _)
 ·rename_i c a b ho;split at hx<;>try (cases hx;done)
  rename_i t hc;cases hx;have h1:=hρ c (by simp [ho,Zbg]);rw [hc] at h1;have h2:ρ c= .bool t:=AFk9 (x:= .d (.s (.bool t))) rfl h1;refine QOk.same h (v:=if t then ρ a else ρ b) (by unfold execOp;rw [ho];simp [h2,asBool]) ?_ (by cases t<;>exact AAs9 _ _);cases t
  ·exact (hρ b (by simp [ho,Zbg])).view
  ·exact (hρ a (by simp [ho,Zbg])).view
 ·rename_i y i ho;split at hx<;>try (cases hx;done)
  rename_i vs hy;simp only [Zaj] at hx;obtain ⟨c,hc,rfl⟩:=hx;have h1:=hρ y (by simp [ho,Zbg]);rw [hy] at h1;generalize hvy:ρ y=vy at h1;cases h1 with
  | tup hl hr=>
   rename_i us;have hi:i<us.size:=by rw [←hl];exact (Zaa.1 hc).1
   exact QOk.same h (v:=us[i]) (by unfold execOp;rw [ho];simp [hvy,Instr.extract,hi]) (hr i c us[i] hc (by simp [hi])).view (AAs9 _ _)
 ·rename_i t a ho;have h1:=AYk9 h (hρ a (by simp [ho,Zbg])) hx;unfold execOp;rw [ho];exact h1
 ·rename_i y ho;split at hx<;>try (cases hx;done)
  rename_i hy;cases hx;have h1:=hρ y (by simp [ho,Zbg]);have h2:∃a,ρ y= .pointer (some a):=by
   cases hr:ρA y with
   |ptr g off=>rw [hr] at h1;generalize ρ y=vy at h1;cases h1;exact ⟨_,rfl⟩
   |rptr cs=>rw [hr] at h1;generalize ρ y=vy at h1;cases h1;exact ⟨_,rfl⟩
   | d x=>cases x with
    |pt cs=>rw [hr] at h1;generalize ρ y=vy at h1;cases h1 with|d h1=>cases h1;exact ⟨_,rfl⟩
    |_=>rw [hr] at hy;cases hy
   |_=>rw [hr] at hy;cases hy
  obtain ⟨a,h3⟩:=h2;refine QOk.same h (v:=ρ y) (by unfold execOp;rw [ho];simp [h3]) h1 ?_;cases hr:ρA y with
  |ptr g off=>rfl
  |rptr cs=>rfl
  |d x=>rfl
  |_=>rw [hr] at hy;cases hy
 ·rename_i op t y z ty ho;split at hx
  ·rename_i r hn;cases hx;have:=BAz9 (x:=y) (y:=z) h (hρ y (by simp [ho,Zbg])) (hρ z (by simp [ho,Zbg])) hn;unfold execOp;rw [ho];exact this
  ·exact ADx9 h (by simp [ho]) hρ hx
 ·rename_i f first caps ho
  split at hx<;>try (cases hx;done)
  rename_i hf;cases hx;have:=APw9 (P:=P) (fv:=first.map ρ) (cv:=caps.map ρ) h (by simpa using hf) (BLx9 first (fun y hy=>hρ y (by simp [ho,Zbg,hy]))) (BLx9 caps (fun y hy=>hρ y (by simp [ho,Zbg,hy])));unfold execOp;rw [ho];exact this
 ·rename_i t y lo hi mx ho;split at hx
  ·rename_i r hr;cases hx;have:=ATw9 (P:=P) (vlo:=lo.map ρ) (vhi:=hi.map ρ) (vmx:=mx.map ρ) h (hρ y (by simp [ho,Zbg]))
    (fun a ha=>by cases lo<;>simp at ha;subst ha;exact ⟨_,rfl,hρ _ (by simp [ho,Zbg])⟩) (fun ha=>by cases lo<;>simp_all)
    (fun a ha=>by cases hi<;>simp at ha;subst ha;exact ⟨_,rfl,hρ _ (by simp [ho,Zbg])⟩) (fun ha=>by cases hi<;>simp_all)
    (fun a ha=>by cases mx<;>simp at ha;subst ha;exact ⟨_,rfl,hρ _ (by simp [ho,Zbg])⟩) (fun ha=>by cases mx<;>simp_all) hr
   unfold execOp;rw [ho];exact this
  ·exact ADx9 h (by simp [ho]) hρ hx
 ·rename_i t y f ho;have:=ALf9 h (hρ y (by simp [ho,Zbg])) hx;unfold execOp;rw [ho];exact this
 ·rename_i t y f ho;split at hx<;>try (cases hx;done)
  rename_i cs hy;have h1:=hρ y (by simp [ho,Zbg]);rw [hy] at h1;have:=ATz9 h h1 hx;unfold execOp;rw [ho];exact this
 ·rename_i t y ix ho;have:=ALe9 h (hρ y (by simp [ho,Zbg])) (hρ ix (by simp [ho,Zbg])) hx;unfold execOp;rw [ho];exact this
 ·rename_i t y ho;have:=AQr9 h (hρ y (by simp [ho,Zbg])) hx;unfold execOp;rw [ho];exact this
 ·rename_i t y ix ho;split at hx
  ·rename_i cs hy;have h1:=hρ y (by simp [ho,Zbg]);rw [hy] at h1;have:=ATy9 h h1 (hρ ix (by simp [ho,Zbg])) hx;unfold execOp;rw [ho];exact this
  ·exact ADx9 h (by simp [ho]) hρ hx
 ·rename_i t parts ho;obtain ⟨h1,h2⟩:=AWn9 (S:=S) (w:=w) (m:=m) (yv:=yv) (ρA:=ρA) (ρ:=ρ) parts (fun y hy=>hρ y.2 (by simp only [ho,Zbg];simp;exact ⟨y.1,hy⟩));have:=AUa9 h h1 h2 hx;unfold execOp;rw [ho];exact this
 ·rename_i t n parts ho;obtain ⟨h1,h2⟩:=AWn9 (S:=S) (w:=w) (m:=m) (yv:=yv) (ρA:=ρA) (ρ:=ρ) parts (fun y hy=>hρ y.2 (by simp only [ho,Zbg];simp;exact ⟨y.1,hy⟩));have:=AKh9 h h1 h2 hx;unfold execOp;rw [ho];exact this
 ·rename_i c ho;split at hx
  ·rename_i hc;split at hx<;>try (cases hx;done)
   rename_i y hy;split at hx<;>try (cases hx;done)
   rename_i hsz;split at hx
   ·rename_i r hl;cases hx;have hargs:c.args=#[y]:=by
     apply Zcf;intro j
     match j with
     |0=>simpa using hy
     |j+1=>simp [Zcu (by omega:c.args.size≤j+1)]
    have:=BBa9 (ty:=o.type) h (hρ y (by simp [ho,Zbg,Call.operands,hc,hargs])) hl;obtain ⟨v,w',S',g1,g2⟩:=this;refine ⟨v,w',S', ?_,g2⟩;obtain ⟨consts,hb⟩:=ACb9 (P:=P) (ρ:=ρ) ho hc w;rw [hb];simpa [builtin,hargs] using g1
   ·exact ADx9 h (by simp [ho]) hρ hx
  ·rename_i hc;split at hx<;>try (cases hx;done)
   rename_i y z hy hz;split at hx<;>try (cases hx;done)
   rename_i hsz;have hargs:c.args=#[y,z]:=by
    apply Zcf;intro j
    match j with
    |0=>simpa using hy
    |1=>simpa using hz
    |j+2=>simp [Zcu (by omega:c.args.size≤j+2)]
   have:=APi9 (ty:=o.type) h (hρ y (by simp [ho,Zbg,Call.operands,hc,hargs])) (hρ z (by simp [ho,Zbg,Call.operands,hc,hargs])) hx;obtain ⟨v,w',S',g1,g2⟩:=this;refine ⟨v,w',S', ?_,g2⟩;obtain ⟨consts,hb⟩:=ACb9 (P:=P) (ρ:=ρ) ho hc w;rw [hb];simpa [builtin,hargs] using g1
  ·exact ADx9 h (by simp [ho]) hρ hx
  ·cases hx
 ·rename_i ho;exact ADx9 h (by simp [ho]) hρ hx
 ·rename_i ho;exact ADx9 h (by simp [ho]) hρ hx
 ·rename_i ho;exact ADx9 h (by simp [ho]) hρ hx
 ·rename_i t l c ho;have:=ATx9 (P:=P) h (hρ l (by simp [ho,Zbg])) (hρ c (by simp [ho,Zbg])) hx;unfold execOp;rw [ho];exact this
 ·cases hx
end
structure Gs (S X:Pr) (yv:Option Nat) (w:World) (m:List MB) (S':Pr) (w':World) (m':List MB):Prop where
 ag:Agree (fun b i=>S b i∨X b i) yv w w'
 up:∀b i,S b i→S' b i
 new:∀b i,S' b i→S b i∨¬X b i
 ms:MStep m m'
section
variable {P:Program} {S S' S'' X:Pr} {yv:Option Nat} {w w' w'':World} {m m' m'':List MB} {A B:List (AV×Value)} {hp:List Blk} {hv:List (List Value)}
theorem Gs.refl (S X:Pr) (yv:Option Nat) (w:World) (m:List MB):Gs S X yv w m S w m:=⟨Agree.refl _ _ _,fun _ _ h=>h,fun _ _ h=> .inl h,MStep.refl m⟩
theorem Gs.trans (h:Gs S X yv w m S' w' m') (k:Gs S' X yv w' m' S'' w'' m''):Gs S X yv w m S'' w'' m'':=
 ⟨h.ag.trans (k.ag.mono fun b i hbi=>hbi.imp (h.up b i) id),fun b i hs=>k.up b i (h.up b i hs),
  fun b i hs=>(k.new b i hs).elim (fun h1=>h.new b i h1) .inr,h.ms.trans k.ms⟩
theorem Gs.below (h:Rel S X yv w m A hp hv) (hb:Below w.heap.size w w') (hs:SStep S X S' w w'):Gs S X none w m S' w' m:=
 ⟨AAr9 hb _,hs.1,fun b i hbi=>(hs.2 b i hbi).imp id (fun h1 hx=>by have:=h.lt b i (.inr hx);omega),MStep.refl m⟩
def HOk (P:Program) (S X:Pr) (yv:Option Nat) (w:World) (m:List MB) (B:List (AV×Value)) (s:Sem Next) (x:AV) (hp':List Blk):Prop:=
 ∃nx v w' S' m' hv',s.run P w= .ok nx w'∧(nx= .value v∨(nx= .skip∧v=undef))∧Gs S X none w m S' w' m'∧Rel S' X yv w' m' ((x,v)::(B++AAa9 hp' hv')) hp' hv'
def HOkN (P:Program) (S X:Pr) (yv:Option Nat) (w:World) (m:List MB) (B:List (AV×Value)) (hv:List (List Value)) (s:Sem Next) (x:AV) (hp':List Blk):Prop:=
 ∃v w' S' m' hv',s.run P w= .ok (.value v) w'∧Gs S X none w m S' w' m'∧Rel S' X yv w' m' ((x,v)::(B++AAa9 hp' hv')) hp' hv'∧∀(g:Nat) (vs:List Value),hv[g]? =some vs→hv'[g]? =some vs
theorem AIa9 {t:TypeId} {xs:List AV} {us:Array Value} {s:Sem Next} (h:Rel S X yv w m (B++AAa9 hp hv) hp hv) (hr:RVs S w m yv xs us.toList) (hone:xs.all AV.one=true)
 (hown:∀p∈xs.zip us.toList,ownB p=none) (hs:s.run P w= .ok (.value (.pointer (some ⟨w.heap.size,0,none⟩))) (w.alloc (.cells us t))):
 HOkN P S X yv w m B hv s (.ptr hp.length 0) (hp++ [⟨xs,false,false,0⟩]):=by
 have hall:∀u∈us.toList,u.oneCell'=true:=by
  intro u hu;obtain ⟨j,hj⟩:=Zak.1 hu;have hjl:j<xs.length:=by rw [hr.1];exact (Zaa.1 hj).1
  exact (hr.2 j xs[j] u (by simp [hjl]) hj).one (Zav.1 hone _ (List.getElem_mem hjl))
 have key:∀(l:List (AV×Value)),(∀p∈l,RV S w m yv p.1 p.2∧ownB p=none)→Rel S X yv w m (l++(B++AAa9 hp hv)) hp hv:=by
  intro l;induction l with
  |nil=>intro _;exact h
  | cons p l ih=>
   intro hl;obtain ⟨h1,h2⟩:=hl p (by simp);exact (ih (fun q hq=>hl q (by simp [hq]))).cons h1 h2
 have h0:=key (xs.zip us.toList) (fun p hp=>by
  obtain ⟨j,hj⟩:=Zak.1 hp;rw [Zar] at hj;exact ⟨hr.2 j _ _ hj.1 hj.2,hown p hp⟩)
 have h1:=h0.newBlock xs us.toList rfl (by simpa using hr.1) t hall false rfl;have hsz:w.heap.size=w.heap.size:=rfl;refine ⟨.pointer (some ⟨w.heap.size,0,none⟩),w.alloc (.cells us t),S,m++ [⟨w.heap.size,xs.length,false,0⟩],hv++ [us.toList],hs, ?_, ?_, ?_⟩
 ·exact ⟨AAr9 ((Below.refl _ _).alloc (Zas _) _) _,fun _ _ h=>h,fun _ _ h=> .inl h,MStep.push _ _⟩
 ·have h2:Rel S X yv (w.alloc (.cells us t)) (m++ [⟨w.heap.size,xs.length,false,0⟩]) (B++AAa9 (hp++ [⟨xs,false,false,0⟩]) (hv++ [us.toList])) (hp++ [⟨xs,false,false,0⟩]) (hv++ [us.toList]):=by
   simpa using h1
  refine h2.cons (.ptr (len:=xs.length) (ver:=0) ?_) rfl;rw [Zao (by rw [h.ml];exact Zas _),h.ml];simp
 ·intro g vs hg;rw [Zan (Zaa.1 hg).1];exact hg
theorem ALz9 {zs:List AV} {us:List Value} (h:∀x∈zs,∃v,x= .d (.s v)):∀p∈zs.zip us,ownB p=none:=by
 intro p hp;obtain ⟨j,hj⟩:=Zak.1 hp;rw [Zar] at hj;obtain ⟨v,hv⟩:=h p.1 (Zbi hj.1);obtain ⟨x,u⟩:=p;simp only at hv;subst hv;rfl
theorem ALd9 {i:TypeInfo} {zs:List AV} (h:APd9 i=some zs):∀x∈zs,∃v,x= .d (.s v):=by
 simp only [APd9,Zaj] at h;obtain ⟨z,_,rfl⟩:=h;intro x hx;obtain ⟨v,_,rfl⟩:=Zbd.1 hx;exact ⟨v,rfl⟩
def BGr9 (P:Program) (t:TypeId):Option (List AV):=
 match P.info? t with
 | some i=>match APd9 i with
  |some zs=>if zs.all AV.one then some zs else none
  |none=>none
 |none=>none
theorem AUb9 {t:TypeId} {xs:List AV} (h:Rel S X yv w m (B++AAa9 hp hv) hp hv) (hx:BGr9 P t=some xs):
 HOkN P S X yv w m B hv (do pure (.value (←Instr.alloc t true (.tuple #[])))) (.ptr hp.length 0) (hp++ [⟨xs,false,false,0⟩]):=by
 unfold BGr9 at hx;split at hx<;>try (cases hx;done)
 rename_i i hi;split at hx<;>try (cases hx;done)
 rename_i zs hz;split at hx<;>try (cases hx;done)
 rename_i hone;cases hx;obtain ⟨z,h1,h2⟩:=ALc9 (S:=S) (w:=w) (m:=m) (yv:=yv) hz;refine AIa9 (t:=t) (us:=z.cells) h h2 hone (ALz9 (ALd9 hz)) ?_;simp [Instr.alloc,zeroValue,typeInfo,hi,h1,newVar,newRow]
def APh9 (x:AV):Option (List AV):=
 match x.cellsOf? with
 |some cs=>if (cs.map AV.view).all AV.one then some (cs.map AV.view) else none
 |none=>none
theorem RVs.view {cs:List AV} {vs:List Value} (h:RVs S w m yv cs vs):RVs S w m yv (cs.map AV.view) vs:=by
 refine ⟨by simp [h.1],fun i c v h1 h2=> ?_⟩;simp only [Zbf,Zaj] at h1;obtain ⟨c0,h1,rfl⟩:=h1;exact (h.2 i c0 v h1 h2).view
theorem AOj9 {cs:List AV} {us:List Value}:∀p∈(cs.map AV.view).zip us,ownB p=none:=by
 intro p hp;obtain ⟨j,hj⟩:=Zak.1 hp;rw [Zar] at hj;obtain ⟨x,u⟩:=p;have:=hj.1;simp only [Zbf,Zaj] at this;obtain ⟨c,_,rfl⟩:=this;exact AAs9 c u
theorem AJg9 {x:AV} {v:Value} {cs:List AV} (h:APh9 x=some cs) (hr:RV S w m yv x v):RVs S w m yv cs v.cells.toList∧cs.all AV.one=true∧∀p∈cs.zip v.cells.toList,ownB p=none:=by
 unfold APh9 at h;split at h<;>try (cases h;done)
 rename_i cs' hc;split at h<;>try (cases h;done)
 rename_i hone;cases h;exact ⟨(AKf9 hc hr).view,hone,AOj9⟩
theorem BBb9 {t:TypeId} {x:AV} {v:Value} {xs:List AV} (h:Rel S X yv w m (B++AAa9 hp hv) hp hv) (hr:RV S w m yv x v) (hx:APh9 x=some xs):
 HOkN P S X yv w m B hv (do pure (.value (←Instr.box t v))) (.ptr hp.length 0) (hp++ [⟨xs,false,false,0⟩]):=by
 obtain ⟨h1,h2,h3⟩:=AJg9 hx hr;refine AIa9 (t:=t) (us:=v.cells) h h1 h2 h3 ?_;simp [Instr.box,newVar,newRow]
def BAx9 (P:Program) (hp:List Blk) (t:TypeId) (a:AV) (xs:List AV):Option (List Blk):=
 match P.info? t,a with
 | some i, .ptr g off=>match hp[g]? with
  |some blk=>if xs.length=i.size∧blk.fro=false∧blk.grow=false∧off+xs.length≤blk.cells.length then
   some (hp.set g {blk with cells:=blk.cells.take off++xs++blk.cells.drop (off+xs.length)}) else none
  |none=>none
 |_,_=>none
theorem ATv9 {t:TypeId} {a:AV} {xs:List AV} {va v:Value} {hp':List Blk} (h:Rel S X yv w m (xs.zip v.cells.toList++(B++AAa9 hp hv)) hp hv) (ha:RV S w m yv a va)
 (hl:xs.length=v.cells.toList.length) (h1:∀u∈v.cells.toList,u.oneCell'=true) (hx:BAx9 P hp t a xs=some hp'):
 HOk P S X yv w m B (do Instr.storeAt t va v;pure .skip) .bad hp':=by
 unfold BAx9 at hx;split at hx<;>try (cases hx;done)
 rename_i i g off hi;split at hx<;>try (cases hx;done)
 rename_i blk hg;split at hx<;>try (cases hx;done)
 rename_i hc;obtain ⟨hc1,hc2,hc3,hc4⟩:=hc;cases hx;cases ha with
 | ptr hm=>
  rename_i b len ver;obtain ⟨blk',vs,cur,e,g1,g2,g3,g4,g5,g6,g7,g8,g9,g10,_⟩:=h.block hm;rw [hg] at g1;cases g1;simp only at g3 g6 g8 g9 g10;obtain ⟨h2,h3⟩:=h.storeBlock (us:=v.cells.toList) (off:=off) hl h1 hg hm g2 hc2 (by omega) g8;rw [←hl] at h2 h3;have hst:=run_storeCells_at P b off e v.cells.toList 0 cur w g8 (by simp only [←hl];omega) h1;simp only [Nat.add_zero,←hl] at hst;refine ⟨.skip,undef,_,S,m,_, ?_, .inr ⟨rfl,rfl⟩,⟨h3,fun _ _ h=>h,fun _ _ h=> .inl h,MStep.refl m⟩,h2.cons .bad rfl⟩;have hsz:v.cells.size=i.size:=by have:=hl;simp at this;omega
  simp only [Instr.storeAt,Zcy,Sem.run_bind,Sem.run_pure,Result.andThen_ok,storeVar,sizeOf,typeInfo,run_program,hi,hsz,ne_eq,not_true_eq_false,if_false,hst]
def xMake (P:Program) (t:TypeId) (l c:AV):Option (Nat×Nat×Nat×List AV):=
 match l.int?,c.int?,P.underlying t with
 | some (_,l),some (_,c),some (.slice e)=>match P.info? e with
  | some i=>match APd9 i with
   |some zs=>if 0≤l∧l≤c∧(i.bytes:Int)*c≤281474976710656∧c≤9223372036854775807∧zs.length=i.size∧0<i.size∧zs.all AV.one then
    some (l.toNat,c.toNat,i.size,(Zay (c.toNat*i.size)).map fun j=>zs[j % i.size]!) else none
   |none=>none
  |none=>none
 |_,_,_=>none
theorem AYj9 {t:TypeId} {l c:AV} {vl vc:Value} {n cap k:Nat} {xs:List AV} (h:Rel S X yv w m (B++AAa9 hp hv) hp hv) (hl:RV S w m yv l vl) (hc:RV S w m yv c vc)
 (hx:xMake P t l c=some (n,cap,k,xs)):HOkN P S X yv w m B hv (do pure (.value (←Instr.makeSlice t vl vc))) (.ref hp.length 0 n cap k) (hp++ [⟨xs,false,false,0⟩]):=by
 unfold xMake at hx;split at hx<;>try (cases hx;done)
 rename_i kl l' kc c' e e1 e2 hu;split at hx<;>try (cases hx;done)
 rename_i i hi;split at hx<;>try (cases hx;done)
 rename_i zs hz;split at hx<;>try (cases hx;done)
 rename_i hcond;obtain ⟨a1,a2,a3,a4,a5,a6,a7⟩:=hcond;simp only [Option.some.injEq,Prod.mk.injEq] at hx;obtain ⟨rfl,rfl,rfl,rfl⟩:=hx;have hvl:=AFd9 e1 hl;have hvc:=AFd9 e2 hc;subst hvl;subst hvc;obtain ⟨z,h1,h2⟩:=ALc9 (S:=S) (w:=w) (m:=m) (yv:=yv) hz;have hzs:z.cells.size=i.size:=by have:=h2.1;simp at this;omega
 have hr:=run_make (P:=P) w t e i z hu hi h1 kl kc l' c' a1 a2 a3 a4;have hmem:∀j:Nat,zs[j % i.size]! ∈zs:=by
  intro j;have hlt:j % i.size<i.size:=Nat.mod_lt _ a6;rw [getElem!_pos zs (j % i.size) (by omega)];exact List.getElem_mem _
 have hbase:RVs S w m yv ((Zay (c'.toNat*i.size)).map fun j=>zs[j % i.size]!) (madeCells z.cells (c'.toNat*i.size)).toList:=by
  refine ⟨by simp [size_madeCells],fun j x v a b=> ?_⟩;simp only [Zbf,Zaj] at a;obtain ⟨j1,b1,rfl⟩:=a;have hj1:j1=j∧j<c'.toNat*i.size:=by
   obtain ⟨q1,q2⟩:=Zaa.1 b1;simp at q1 q2;omega
  obtain ⟨rfl,hjl⟩:=hj1;have hlt:j1 % i.size<i.size:=Nat.mod_lt _ a6;simp only [madeCells,Array.toList_map,Zbf,Array.toList_range,List.getElem?_range hjl,Zdl,Option.some.injEq] at b;subst b;refine h2.2 (j1 % i.size) _ _ ?_ ?_
  ·rw [getElem!_pos zs (j1 % i.size) (by omega)];simp
  ·rw [hzs,getElem!_pos z.cells (j1 % i.size) (by omega)];simp
 have hone:((Zay (c'.toNat*i.size)).map fun j=>zs[j % i.size]!).all AV.one=true:=by
  rw [Zav];intro x hx;obtain ⟨j,_,rfl⟩:=Zbd.1 hx;exact Zav.1 a7 _ (hmem j)
 have hown:=ALz9 (zs:=(Zay (c'.toNat*i.size)).map fun j=>zs[j % i.size]!) (us:=(madeCells z.cells (c'.toNat*i.size)).toList) (fun x hx=>by
  obtain ⟨j,_,rfl⟩:=Zbd.1 hx;exact ALd9 hz _ (hmem j))
 obtain ⟨v,w',S',m',hv',g1,g3,g4,g5⟩:=AIa9 (P:=P) (t:=e) (us:=madeCells z.cells (c'.toNat*i.size)) (s:=do
  let a ←newRow e (madeCells z.cells (c'.toNat*i.size));pure (.value (.pointer (some a)))) h hbase hone hown (by simp [newRow])
 have hw':w'=w.alloc (.cells (madeCells z.cells (c'.toNat*i.size)) e):=by
  simp [newRow] at g1;exact g1.2.symm
 subst hw';have hmm:m'[hp.length]? =some ⟨w.heap.size,c'.toNat*i.size,false,0⟩:=by
  have hrv:=g4.rv (.ptr hp.length 0,v) (by simp);have hv1:v= .pointer (some ⟨w.heap.size,0,none⟩):=by
   simp [newRow] at g1;exact g1.symm
  subst hv1;cases hrv with
  | ptr hm'=>
   obtain ⟨blk,vs,cur,e',q1,q2,q3,q4,q5,_⟩:=g4.block hm';rw [Zao (Zas _)] at q1;simp at q1;subst q1;simp at q3 q5;rw [hm',q3,q5]
 refine ⟨.slice (some ⟨w.heap.size,0,none⟩) l'.toNat c'.toNat,_,S',m',hv',by simp [hr],g3, ?_,g5⟩;exact (g4.sub (List.sublist_cons_self _ _)).cons (.ref hmm (by omega) (by omega)) rfl
def ALm9 (hp:List Blk) (x:AV):Option (List AV):=
 if AAl9 x then some [] else match x with
 | .ref g off n cap k=>match hp[g]? with
  |some blk=>if k=1∧blk.grow=false then some (((blk.cells.drop off).take n).map AV.view) else none
  |none=>none
 | _=>match x.rows? with
  |some (k,xs)=>if k=1 then some (xs.map fun r=> .d (r.headD (.s undef))) else none
  |none=>none
def xCopy (P:Program) (hp:List Blk) (ts:Array TypeId) (d s:AV):Option (AV×List Blk):=
 match ts[0]? with
 | some t=>match P.underlying t with
  | some (.slice e)=>match P.info? e,d,ALm9 hp s with
   | some i, .ref g off n cap k,some cs=>match hp[g]? with
    |some blk=>if ts.size=2∧i.size=1∧k=1∧blk.fro=false∧blk.grow=false∧(cs.take n).all AV.one∧off+n≤blk.cells.length then
     some (.d (.s (goInt (cs.take n).length)),hp.set g {blk with cells:=blk.cells.take off++cs.take n++blk.cells.drop (off+(cs.take n).length)}) else none
    |none=>none
   |_,_,_=>none
  |_=>none
 |none=>none
theorem ARh9 {x:AV} {v:Value} {cs:List AV} (h:Rel S X yv w m (B++AAa9 hp hv) hp hv) (hr:RV S w m yv x v) (hx:ALm9 hp x=some cs):
 (v= .slice none 0 0∧cs= [])∨∃(a:Option Addr) (cap:Nat) (us:List Value),v= .slice a cs.length cap∧(a=none→cs= []∧cap=0)∧(∀b,a=some b→∀(j:Nat) (u:Value),us[j]? =some u→w.cell? (b.add j)=some u)∧
  (∀u∈us,u.oneCell'=true)∧RVs S w m yv cs us∧∀p∈cs.zip us,ownB p=none:=by
 unfold ALm9 at hx;split at hx
 ·rename_i hn;cases hx;exact .inl ⟨AAq9 hn hr,rfl⟩
 ·split at hx
  ·rename_i g off n cap k hnn;split at hx<;>try (cases hx;done)
   rename_i blk hb;split at hx<;>try (cases hx;done)
   rename_i hc;obtain ⟨rfl,hgr⟩:=hc;cases hx;cases hr with
   | ref hm hfit hn=>
    rename_i b len ver;have hca:ADc9 hp (.ptr g off)=some (blk.cells.drop off):=by simp [ADc9,hb,hgr]
    obtain ⟨b',o,us,e1,e2,e3,e4,e5⟩:=AGx9 h (.ptr (off:=off) hm) hca;cases e1;obtain ⟨blk',vs,cur,e,g1,g2,g3,_⟩:=h.block hm;rw [hb] at g1;cases g1;simp only at g3;have hlen:(((blk.cells.drop off).take n).map AV.view).length=n:=by simp;omega
    refine .inr ⟨some ⟨b,off,none⟩,cap,us.take n,by rw [hlen],fun h=>(by cases h),fun bb hbb j u hu=> ?_,fun u hu=>e4 u (List.mem_of_mem_take hu),RVs.view ⟨by simp;simp at e2;omega,fun i c u h1 h2=> ?_⟩,AOj9⟩
    ·cases hbb;rw [Zaq] at hu;split at hu<;>try (cases hu;done)
     rw [add_lit];exact e3 j u hu
    ·rw [Zaq] at h1 h2;split at h1<;>try (cases h1;done)
     rename_i hin;rw [if_pos hin] at h2;exact e5 i c u h1 h2
  ·split at hx<;>try (cases hx;done)
   rename_i k xs hrows;split at hx<;>try (cases hx;done)
   rename_i hk;subst hk;cases hx;have hd:=AEv9 hrows hr;obtain ⟨base,cap,us,e1,e2,e3,e4,e5⟩:=hd.flat;have hul:us.length=xs.length:=by have:=e3.len;omega
   refine .inr ⟨base,cap,us,by simp [e1],fun hb=> ?_,fun b hb j u hu=>((e4 b hb).1 j u hu).1,e3.one,⟨by simp [hul],fun i c u h1 h2=> ?_⟩,fun p hp=> ?_⟩
   ·obtain ⟨q1,q2⟩:=e5 hb;subst q1;exact ⟨rfl,q2⟩
   ·simp only [Zbf,Zaj] at h1;obtain ⟨r,h1,rfl⟩:=h1;have hrl:=e3.row i r h1;cases r with
    |nil=>simp at hrl
    | cons c r=>
     refine .d (e3.rd i (c::r) 0 c u h1 rfl (by simpa using h2))
   ·obtain ⟨j,hj⟩:=Zak.1 hp;rw [Zar] at hj;simp only [Zbf,Zaj] at hj;obtain ⟨⟨r,_,hr'⟩,_⟩:=hj;obtain ⟨p1,p2⟩:=p;simp only at hr';subst hr';rfl
theorem Rel.pushAll (h:Rel S X yv w m A hp hv):∀l:List (AV×Value),(∀p∈l,RV S w m yv p.1 p.2∧ownB p=none)→Rel S X yv w m (l++A) hp hv
 | [],_=>h
 | p::l,hl=>by
  obtain ⟨h1,h2⟩:=hl p (by simp);exact (Rel.pushAll h l (fun q hq=>hl q (by simp [hq]))).cons h1 h2
theorem AYl9 {ts:Array TypeId} {d s x:AV} {vd vs:Value} {hp':List Blk} (h:Rel S X yv w m (B++AAa9 hp hv) hp hv) (hd:RV S w m yv d vd) (hs:RV S w m yv s vs) (ty:TypeId) (hx:xCopy P hp ts d s=some (x,hp')):
 HOk P S X yv w m B (do pure (.value (←Builtin.copy_ ts ty #[vd,vs]))) x hp':=by
 unfold xCopy at hx;split at hx<;>try (cases hx;done)
 rename_i t ht;split at hx<;>try (cases hx;done)
 rename_i e hu;split at hx<;>try (cases hx;done)
 rename_i i g off n cap k cs hi hsrc;split at hx<;>try (cases hx;done)
 rename_i blk hb;split at hx<;>try (cases hx;done)
 rename_i hc;obtain ⟨hts,c1,rfl,c3,c4,c5,c6⟩:=hc;simp only [Option.some.injEq,Prod.mk.injEq] at hx;obtain ⟨rfl,rfl⟩:=hx;obtain ⟨t',ht'⟩:∃t',ts[1]? =some t':=⟨ts[1],by simp [hts]⟩;have htse:ts=#[t,t']:=by
  apply Zcf;intro j
  match j with
  |0=>simpa using ht
  |1=>simpa using ht'
  |j+2=>simp [Zcu (by omega:ts.size≤j+2)]
 subst htse;cases hd with
 | ref hm hfit hn=>
  rename_i b len ver;obtain ⟨blk',cvs,cur,e',g1,g2,g3,g4,g5,g6,g7,g8,g9,g10,_⟩:=h.block hm;rw [hb] at g1;cases g1;simp only at g3 g6 g8 g9 g10;rcases ARh9 h hs hsrc with ⟨rfl,rfl⟩|⟨a,scap,us,rfl,q1,q2,q3,q4,q5⟩
  ·have hrun:=run_copy_nil (P:=P) w t t' ty e ⟨b,off,none⟩ n cap hu (by rw [hi];rfl);refine ⟨_,goInt 0,w,S,m,hv,by rw [Sem.run_bind,hrun];rfl, .inl rfl,Gs.refl _ _ _ _ _, ?_⟩;have e1:hp.set g {blk with cells:=blk.cells.take off++([]:List AV).take n++blk.cells.drop (off+(([]:List AV).take n).length)}=hp:=by
    simp only [List.take_nil,List.append_nil,Zdm,Nat.add_zero,List.take_append_drop];apply List.ext_getElem?;intro j;by_cases hj:g=j
    ·subst hj;rw [Zbw (Zaa.1 hb).1,hb]
    ·rw [Zcg hj]
   rw [e1];have:(([]:List AV).take n).length=0:=by simp
   rw [this];exact h.cons (.d (.s _)) rfl
  ·have hxl:(cs.take n).length=(us.take n).length:=by simp [q4.1]
   have hone:∀u∈us.take n,u.oneCell'=true:=fun u hu=>q3 u (List.mem_of_mem_take hu);have hpairs:∀p∈(cs.take n).zip (us.take n),RV S w m yv p.1 p.2∧ownB p=none:=by
    intro p hp;obtain ⟨j,hj⟩:=Zak.1 hp;rw [Zar,Zaq,Zaq] at hj;obtain ⟨j1,j2⟩:=hj;split at j1<;>try (cases j1;done)
    rename_i hjn;rw [if_pos hjn] at j2;refine ⟨q4.2 j _ _ j1 j2,q5 p (Zak.2 ⟨j, ?_⟩)⟩;rw [Zar];exact ⟨j1,j2⟩
   have hr:=h.pushAll _ hpairs;obtain ⟨h2,h3⟩:=hr.storeBlock (us:=us.take n) (off:=off) hxl hone hb hm g2 c3 (by simp;omega) g8;rw [←hxl] at h2 h3;have hcl:cs.length=us.length:=q4.1;have key:(Builtin.copy_ #[t,t'] ty #[.slice (some ⟨b,off,none⟩) n cap, .slice a cs.length scap]).run P w=
    .ok (goInt (us.take n).length) (w.setRow b (cur.toList.take off++us.take n++cur.toList.drop (off+(us.take n).length)).toArray):=by
    cases ha:a with
    | none=>
     obtain ⟨rfl,rfl⟩:=q1 ha;have hus:us= []:=by simpa using hcl.symm
     subst hus;have hrun:=run_copy_nil (P:=P) w t t' ty e ⟨b,off,none⟩ n cap hu (by rw [hi];rfl);simp only [Zdm,List.take_nil,Nat.add_zero,List.append_nil,List.take_append_drop,Array.toArray_toList];rw [setRow_self w b cur e' (0,0) g8];exact hrun
    | some a0=>
     refine run_copy_row (P:=P) w t t' ty e b off n cap a0 cs.length scap cur e' (us.take n) hu (by rw [hi];simp [c1]) g8 (by rw [hcl];simp [Nat.min_comm]) (fun j v hj=> ?_) (by simp;omega) hone;rw [Zaq] at hj;split at hj<;>try (cases hj;done)
     exact q2 a0 ha j v hj
   rw [←hxl] at key;exact ⟨_,goInt (cs.take n).length,_,S,m,hv.set g (cvs.take off++us.take n++cvs.drop (off+(cs.take n).length)),by rw [Sem.run_bind,key];rfl, .inl rfl,⟨h3,fun _ _ h=>h,fun _ _ h=> .inl h,MStep.refl m⟩,h2.cons (.d (.s _)) rfl⟩
end
inductive Loc where
 |slot (i:Nat)
 |cell (g off:Nat)
 deriving DecidableEq,Inhabited
structure RS where
 tm:List AV
 hp:List Blk
 pv:List (Nat×Loc):= []
 deriving Inhabited
def evalA (tm:List AV):Operand→AV
 | .tmp t=>tm.getD t .bad
 | .const v=>ofVal v
 | .global g=> .d (.s (.pointer (some ⟨g,0,none⟩)))
 | .func f=> .fn (.func f) [] []
def ABc9 (ops:Array Oper) (o:Oper) (tm:List AV):Option Bool:=
 match o.guard with
 |none=>some true
 | some (j,want)=>match (ops[j]?).bind (·.dst) with
  | some t=>match tm.getD t .bad with
   | .d (.s (.bool b))=>some (b==want)
   | .d (.s (.tuple _))=>some false
   |_=>none
  |none=>none
def putA (tm:List AV) (d:Option Nat) (x:AV):List AV:=
 match d with
 |some d=>tm.set d x
 |none=>tm
def pvPut (pv:List (Nat×Loc)) (d:Option Nat):List (Nat×Loc):=
 match d with
 |some d=>pv.filter fun p=>p.1 !=d&&p.2 != .slot d
 |none=>pv
def dUp:Dv→AV
 | .pt cs=> .rptr cs
 |x=> .d x
def AV.asFn:AV→AV
 | .d x=>match x with
  | .fn f ds=> .fn f [] (ds.map dUp)
  | .s v=>match v with
   | .func (.func k) fs cs=>if fs.isEmpty&&cs.isEmpty then .fn (.func k) [] [] else .d (.s (.func (.func k) fs cs))
   |v=> .d (.s v)
  |x=> .d x
 |x=>x
theorem RV.dUp {S:Pr} {w:World} {m:List MB} {yv:Option Nat} {x:Dv} {v:Value} (h:DR S w x v):RV S w m yv (dUp x) v:=by
 cases h with
 |pt cs a vals hne hsp hs hc hr h1=>exact .rptr vals hne hsp hs hc hr h1
 |s v=>exact .d (.s v)
 |sl k xs a cap vals hk hs hc hr h1 hcap hsp=>exact .d (.sl k xs a cap vals hk hs hc hr h1 hcap hsp)
 |nil k=>exact .d (.nil k)
 |fn f ds cs hf hl hr=>exact .d (.fn f ds cs hf hl hr)
theorem RV.asFn {S:Pr} {w:World} {m:List MB} {yv:Option Nat} {x:AV} {v:Value} (h:RV S w m yv x v):RV S w m yv x.asFn v:=by
 cases x with
 | d x=>
  cases h with
  | d h=>
   cases h with
   | fn f ds cs hf hl hr=>
    refine .fn hf rfl (by simpa using hl) (by simp) fun i c v hc hv=> ?_;simp only [Zbf,Zaj] at hc;obtain ⟨d,hd,rfl⟩:=hc;exact RV.dUp (hr i d v hd hv)
   | s v=>
    cases v with
    | func f fs cs=>
     cases f with
     | func k=>
      simp only [AV.asFn];split
      ·rename_i hb;simp only [Zal,Array.isEmpty_iff] at hb;obtain ⟨rfl,rfl⟩:=hb;exact .fn (by simp) rfl rfl (by simp) (by simp)
      ·exact .d (.s _)
     |_=>exact .d (.s _)
    |_=>exact .d (.s _)
   |sl k xs a cap vals hk hs hc hr h1 hcap hsp=>exact .d (.sl k xs a cap vals hk hs hc hr h1 hcap hsp)
   |nil k=>exact .d (.nil k)
   |pt cs a vals hne hsp hs hc hr h1=>exact .d (.pt cs a vals hne hsp hs hc hr h1)
 |_=>exact h
def AJw9 (tm:List AV) (f:AV) (args:Array Operand):Option (Nat×List AV):=
 match f.asFn with
 | .fn (.func k) first caps=>some (k,(first++(args.toList.map (evalA tm))++caps).map AV.view)
 |_=>none
def BZq9 (P:Program) (t:TypeId) (v:Value) (name:String):Option (Nat×Value):=AAu9 P (method (P.types.size+Made.depth) t v name)
def AOt9 (P:Program) (tm:List AV) (r:Operand) (name:String) (args:Array Operand):Option (Nat×List AV):=
 match (evalA tm r).toVal? with
 | some (.iface t v)=>match BZq9 P t v name with
  |some (k,rv)=>some (k,ofVal rv::(args.toList.map (evalA tm)).map AV.view)
  |none=>none
 |_=>none
structure CallT where
 p:Option Nat→Nat→List AV→Option AV
 s:Nat→List AV→List Blk→Option (AV×List Blk)
mutual
def AV.closed:AV→Bool
 | .agg cs=>ABy9 cs
 | .tup cs=>ABy9 cs
 | .fn _ first caps=>ABy9 first&&ABy9 caps
 | .ref .. | .ptr .. | .gref .. | .gptr .. | .yl| .own .. =>false
 |_=>true
def ABy9:List AV→Bool
 | []=>true
 |x::r=>x.closed&&ABy9 r
end
def ANk9 (tm:List AV) (x:Operand):List AV:=
 match x with
 | .tmp t=>tm.set t (tm.getD t .bad).view
 |_=>tm
def AUe9 (tm:List AV) (x:Operand):Option (List AV×List AV):=
 if (evalA tm x).isOwn then some (ANk9 tm x, [evalA tm x]) else (APh9 (evalA tm x)).map fun xs=>(tm,xs)
def ownAt (s:RS):Loc→Option (Nat×Nat×List (List Dv))
 | .slot x=>match s.tm.getD x .bad with
  | .own e k xs=>some (e,k,xs)
  |_=>none
 | .cell g off=>match s.hp[g]? with
  | some blk=>match blk.cells.getD off .bad with
   | .own e k xs=>some (e,k,xs)
   |_=>none
  |none=>none
def AKm9 (s:RS):Loc→RS
 | .slot x=> {s with tm:=s.tm.set x (s.tm.getD x .bad).view}
 | .cell g off=>match s.hp[g]? with
  |some blk=> {s with hp:=s.hp.set g {blk with cells:=blk.cells.set off (blk.cells.getD off .bad).view}}
  |none=>s
def xa (P:Program) (s:RS) (o:Oper):Option RS:=
 match o.op with
 | .call c=>match c.callee,c.args[0]?,c.args[1]? with
  | .builtin .append,some (Operand.tmp t),some y=>if c.args.size=2 then
   match s.pv.lookup t with
   | some loc=>match ownAt s loc,AFw9 P c.argTypes with
    | some (e,k,xs),some (e',i)=>match ADy9 i.size (evalA s.tm y) with
     |some ys=>if e=e'∧k=i.size∧(xs.length+ys.length)*i.bytes≤140737488355328 then
      some {tm:=putA (AKm9 s loc).tm o.dst (.own e k (xs++ys)),hp:=(AKm9 s loc).hp,pv:= []} else none
     |none=>none
    |_,_=>none
   |none=>none
   else none
  |_,_,_=>none
 |_=>none
def xh (P:Program) (call:CallT) (s:RS) (o:Oper):Option RS:=
 match o.op with
 | .assign x=>if (evalA s.tm x).isOwn then some {tm:=putA (ANk9 s.tm x) o.dst (evalA s.tm x),hp:=s.hp,pv:= []} else none
 | .alloc t=>match BGr9 P t with
  |some xs=>some {tm:=putA s.tm o.dst (.ptr s.hp.length 0),hp:=s.hp++ [⟨xs,false,false,0⟩],pv:=pvPut s.pv o.dst}
  |none=>none
 | .box t x=>match APh9 (evalA s.tm x) with
  |some xs=>some {tm:=putA s.tm o.dst (.ptr s.hp.length 0),hp:=s.hp++ [⟨xs,false,false,0⟩],pv:=pvPut s.pv o.dst}
  |none=>none
 | .store t a x=>match AUe9 s.tm x with
  | some (tm,xs)=>match BAx9 P s.hp t (evalA s.tm a) xs with
   |some hp=>some {tm:=putA tm o.dst .bad,hp:=hp,pv:= []}
   |none=>none
  |none=>none
 | .makeSlice t l c=>match xMake P t (evalA s.tm l) (evalA s.tm c) with
  |some (n,cap,k,xs)=>some {tm:=putA s.tm o.dst (.ref s.hp.length 0 n cap k),hp:=s.hp++ [⟨xs,false,false,0⟩],pv:=pvPut s.pv o.dst}
  |none=>none
 | .call c=>match c.callee with
  | .value f=>match AJw9 s.tm (evalA s.tm f) c.args with
   | some (k,args)=>match (if ABy9 args then call.p o.dst k args else none) with
    |some r=>some {tm:=putA s.tm o.dst r.view,hp:=s.hp,pv:=pvPut s.pv o.dst}
    | none=>match call.s k args s.hp with
     |some (r,hp)=>some {tm:=putA s.tm o.dst r.view,hp:=hp,pv:= []}
     |none=>none
   |none=>none
  | .builtin .copy=>match c.args[0]?,c.args[1]? with
   |some d,some y=>if c.args.size=2 then match xCopy P s.hp c.argTypes (evalA s.tm d) (evalA s.tm y) with
    |some (x,hp)=>some {tm:=putA s.tm o.dst x,hp:=hp,pv:= []}
    |none=>none
    else none
   |_,_=>none
  |_=>none
 |_=>none
def AEe9 (P:Program) (s:RS) (o:Oper):Option (Nat×Loc):=
 match o.dst,o.op with
 |some d, .move (.tmp x)=>if (s.tm.getD x .bad).isOwn&&x !=d&&(s.tm[d]?).isSome then some (d, .slot x) else none
 | some d, .load t (.tmp p)=>match s.tm.getD p .bad with
  | .ptr g off=>match s.hp[g]? with
   |some blk=>if (blk.cells.getD off .bad).isOwn&& !AJt9 P t&&(s.tm[d]?).isSome then some (d, .cell g off) else none
   |none=>none
  |_=>none
 |_,_=>none
def xStep (P:Program) (call:CallT) (ops:Array Oper) (s:RS) (o:Oper):Option RS:=
 match ABc9 ops o s.tm with
 |some false=>some {s with tm:=putA s.tm o.dst (.d (.s undef)),pv:=pvPut s.pv o.dst}
 | some true=>match xa P s o with
  |some s'=>some s'
  |none=>match xh P call s o with
  |some s'=>some s'
  | none=>match xq P s.hp (evalA s.tm) o with
   |some x=>some {s with tm:=putA s.tm o.dst x,pv:=(AEe9 P s o).toList++pvPut s.pv o.dst}
   |none=>none
 |none=>none
section
variable {S X:Pr} {yv:Option Nat} {w:World} {m:List MB} {B:List (AV×Value)} {hp:List Blk} {hv:List (List Value)}
def PvOk (pv:List (Nat×Loc)) (tmps:Array Value) (hv:List (List Value)):Prop:=
 ∀ p∈pv,match p.2 with
  | .slot x=>∃v,tmps[p.1]? =some v∧tmps[x]? =some v
  | .cell g off=>∃v vs,tmps[p.1]? =some v∧hv[g]? =some vs∧vs[off]? =some v
def RelS (S X:Pr) (yv:Option Nat) (w:World) (m:List MB) (B:List (AV×Value)) (hv:List (List Value)) (s:RS) (a:Act):Prop:=
 s.tm.length=a.tmps.size∧Rel S X yv w m (s.tm.zip a.tmps.toList++(B++AAa9 s.hp hv)) s.hp hv∧PvOk s.pv a.tmps hv
theorem AVn9 {tm:List AV} {tmps:Array Value} (hl:tm.length=tmps.size) {t:Nat} {x:AV} (h:tm[t]? =some x):∃v,tmps[t]? =some v∧(x,v)∈tm.zip tmps.toList:=by
 have ht:t<tmps.size:=by rw [←hl];exact (Zaa.1 h).1
 refine ⟨tmps[t],by simp [ht],Zak.2 ⟨t, ?_⟩⟩;rw [Zar];exact ⟨h,by simp [ht]⟩
theorem AAj9 {s:RS} {a:Act} (h:RelS S X yv w m B hv s a) (x:Operand):RV S w m yv (evalA s.tm x) (a.eval x):=by
 obtain ⟨hl,hr,_⟩:=h;cases x with
 | tmp t=>
  simp only [evalA,Act.eval];cases ht:s.tm[t]? with
  |none=>simp [List.getD,ht];exact .bad
  | some y=>
   obtain ⟨v,hv,hm⟩:=AVn9 hl ht;simp [List.getD,ht,hv];exact hr.rv _ (Zbc _ hm)
 |const v=>exact RV.ofVal v
 |global g=>exact .d (.s _)
 |func f=>exact .fn (by simp) rfl rfl (by simp) (by simp)
theorem ANv9 {tm:List AV} {vs:List Value} (d:Nat) (x:AV) (v:Value):(tm.set d x).zip (vs.set d v)=(tm.zip vs).set d (x,v):=by
 induction tm generalizing vs d with
 |nil=>simp
 | cons a tm ih=>
  cases vs with
  |nil=>simp
  | cons b vs=>
   cases d with
   |zero=>simp
   |succ d=>simp [ih]
theorem ABh9 (tm:List AV) (d:Option Nat) (x:AV):(putA tm d x).length=tm.length:=by cases d<;>simp [putA]
theorem AUl9 (a:Act) (d:Option Nat) (v:Value):(a.put d v).tmps.size=a.tmps.size:=by cases d<;>simp [Act.put]
theorem Rel.putTmp {tm:List AV} {a:Act} {C:List (AV×Value)} {x:AV} {v:Value} (hl:tm.length=a.tmps.size) (h:Rel S X yv w m ((x,v)::(tm.zip a.tmps.toList++C)) hp hv) (d:Option Nat):
 Rel S X yv w m ((putA tm d x).zip (a.put d v).tmps.toList++C) hp hv:=by
 cases d with
 |none=>exact h.sub (List.sublist_cons_self _ _)
 | some d=>
  have h1:=h.put d;by_cases hd:d<tm.length
  ·rw [List.set_append_left _ _ (by simp [hl];omega)] at h1;simpa [putA,Act.put,ANv9] using h1
  ·have e1:tm.set d x=tm:=List.set_eq_of_length_le (by omega);have e2:a.tmps.setIfInBounds d v=a.tmps:=by
    apply Array.ext';simp;exact List.set_eq_of_length_le (by simp;omega)
   simp only [putA,Act.put,e1,e2];exact h.sub (List.sublist_cons_self _ _)
theorem AFf9 {pv:List (Nat×Loc)} {a:Act} (h:PvOk pv a.tmps hv) (d:Option Nat) (v:Value):PvOk (pvPut pv d) (a.put d v).tmps hv:=by
 cases d with
 |none=>exact h
 | some d=>
  intro p hp;simp only [pvPut,List.mem_filter,Zal,bne_iff_ne,ne_eq] at hp;obtain ⟨hp,hne1,hne2⟩:=hp;have:=h p hp;obtain ⟨t,loc⟩:=p;simp only at hne1 hne2 this ⊢;cases loc with
  | slot x=>
   simp only [Loc.slot.injEq] at hne2;obtain ⟨u,h1,h2⟩:=this;exact ⟨u,by simp [Act.put,Zcw (Ne.symm hne1),h1],by simp [Act.put,Zcw (Ne.symm hne2),h2]⟩
  | cell g off=>
   obtain ⟨u,vs,h1,h2,h3⟩:=this;exact ⟨u,vs,by simp [Act.put,Zcw (Ne.symm hne1),h1],h2,h3⟩
theorem PvOk.mono {pv:List (Nat×Loc)} {tmps:Array Value} (h:PvOk pv tmps hv) {hv':List (List Value)} (hh:∀(g:Nat) (vs:List Value),hv[g]? =some vs→hv'[g]? =some vs):PvOk pv tmps hv':=by
 intro p hp;have:=h p hp;obtain ⟨t,loc⟩:=p;cases loc with
 |slot x=>exact this
 | cell g off=>
  obtain ⟨u,vs,h1,h2,h3⟩:=this;exact ⟨u,vs,h1,hh g vs h2,h3⟩
end
abbrev Fn (r:Option Nat):Fence:= {Zdi with round:=r}
def SCall (P:Program) (f:Nat) (args:List AV) (hp:List Blk) (r:AV) (hp':List Blk):Prop:=
 (∀(azz:Array Value) (w:World),(callFunc f azz).run P w= .ok (.enter f azz) w)∧
 ∀ (S X:Pr) (yv:Option Nat) (w:World) (m:List MB) (B:List (AV×Value)) (hv:List (List Value)) (vs:List Value),args.length=vs.length→
  Rel S X yv w m (args.zip vs++(B++AAa9 hp hv)) hp hv→
  CallsIn Zdi 0 P f vs.toArray w fun e w'=>∃v S' m' hv',e= .returned v∧Gs S X none w m S' w' m'∧Rel S' X yv w' m' ((r.view,v)::(B++AAa9 hp' hv')) hp' hv'
def PCall (P:Program) (f:Nat) (args:List AV) (r:AV):Prop:=
 (∀(azz:Array Value) (w:World),(callFunc f azz).run P w= .ok (.enter f azz) w)∧
 ∀ (S:Pr) (w:World) (vs:List Value),args.length=vs.length→(∀(i:Nat) (x:AV) (v:Value),args[i]? =some x→vs[i]? =some v→RV S w [] none x v)→(∀b i,S b i→b<w.heap.size)→Glob S w→
  CallsIn Zdi 0 P f vs.toArray w fun e w'=>∃v S',e= .returned v∧Below w.heap.size w w'∧(∀b i,S b i→S' b i)∧(∀b i,S' b i→S b i∨(w.heap.size≤b∧b<w'.heap.size))∧RV S' w' [] none r.view v
structure AGy9 (P:Program) (call:CallT):Prop where
 p:∀d f args r,call.p d f args=some r→PCall P f args r
 s:∀f args hp r hp',call.s f args hp=some (r,hp')→SCall P f args hp r hp'
section
variable {P:Program} {S S' X:Pr} {yv:Option Nat} {w w':World} {m m':List MB} {A B:List (AV×Value)} {hp hp':List Blk} {hv:List (List Value)} {call:CallT} {s s':RS} {a:Act} {o:Oper} {ops:Array Oper}
theorem ABa9 {r:Option Nat} {K:Act→World→Prop} {Q:Exit→Act→World→Prop} {nx:Next} {v:Value} (hd:∀c,o.op≠ .defer c) (hrun:(execOp a.eval o).run P w= .ok nx w')
 (hnx:nx= .value v∨(nx= .skip∧v=undef)) (hK:K (a.put o.dst v) w'):o.wpIn (Fn r) 0 P a w K Q:=by
 refine ⟨fun f _=>trivial, ?_⟩;rw [Oper.semAt_eq _ _ _ hd,hrun];rcases hnx with rfl|⟨rfl,rfl⟩<;>exact hK
def Nx (S X:Pr) (yv:Option Nat) (w:World) (m:List MB) (B:List (AV×Value)) (s':RS) (a:Act) (K:Act→World→Prop):Prop:=
 ∀S' w' m' hv' a',Gs S X none w m S' w' m'→RelS S' X yv w' m' B hv' s' a'→a'.defers=a.defers→a'.tmps.size=a.tmps.size→K a' w'
theorem ARn9 (a:Act) (d:Option Nat) (v:Value):(a.put d v).defers=a.defers:=by cases d<;>rfl
theorem Nx.of {K:Act→World→Prop} {tm:List AV} {x:AV} {v:Value} {pv:List (Nat×Loc)} {hv':List (List Value)} (hN:Nx S X yv w m B ⟨putA tm o.dst x,hp',pv⟩ a K) (hg:Gs S X none w m S' w' m')
 (hl:tm.length=a.tmps.size) (hr:Rel S' X yv w' m' ((x,v)::(tm.zip a.tmps.toList++(B++AAa9 hp' hv'))) hp' hv') (hpv:PvOk pv (a.put o.dst v).tmps hv'):K (a.put o.dst v) w':=
 hN S' w' m' hv' _ hg ⟨by rw [ABh9,AUl9];exact hl,hr.putTmp hl o.dst,hpv⟩ (ARn9 _ _ _) (AUl9 _ _ _)
theorem BDw9 {pv:List (Nat×Loc)} {t:Nat} {loc:Loc} (h:pv.lookup t=some loc):(t,loc)∈pv:=by
 induction pv with
 |nil=>simp at h
 | cons p pv ih=>
  obtain ⟨t',loc'⟩:=p;simp only [List.lookup_cons] at h;split at h
  ·rename_i he;cases h;simp at he;subst he;simp
  ·exact List.mem_cons_of_mem _ (ih h)
theorem AIs9 {α:Type} (l:List α) (d:Nat) (x:α) (h:l[d]? =some x):l.Perm (x::l.eraseIdx d):=by
 induction l generalizing d with
 |nil=>simp at h
 | cons a l ih=>
  cases d with
  |zero=>simp at h;subst h;simp
  | succ d=>
   simp only [List.getElem?_cons_succ] at h;simp only [List.eraseIdx_cons_succ];exact ((ih d h).cons a).trans (List.Perm.swap _ _ _)
theorem AKt9 {α:Type} (l:List α) (d:Nat) (x y:α) (h:l[d]? =some x):(l.set d y).Perm (y::l.eraseIdx d):=
 (BDh9 l d y (Zaa.1 h).1).symm
theorem ACn9 {α:Type} {l:List α} {i:Nat} {x:α} (h:l[i]? =some x):l.set i x=l:=by
 apply List.ext_getElem?;intro j;by_cases hj:i=j
 ·subst hj;rw [Zbw (Zaa.1 h).1,h]
 ·rw [Zcg hj]
theorem ATa9 {g off:Nat} {blk:Blk} {vs:List Value} {c:AV} {u:Value} (y:AV) (h1:hp[g]? =some blk) (h2:hv[g]? =some vs) (h3:blk.cells[off]? =some c) (h4:vs[off]? =some u):
 ∃L,(AAa9 hp hv).Perm ((c,u)::L)∧(AAa9 (hp.set g {blk with cells:=blk.cells.set off y}) hv).Perm ((y,u)::L):=by
 obtain ⟨pre,post,e1,e2⟩:=ACf9 h1 h2;have e3:=e2 {blk with cells:=blk.cells.set off y} vs;rw [ACn9 h2] at e3;have hz:(blk.cells.zip vs)[off]? =some (c,u):=by rw [Zar];exact ⟨h3,h4⟩
 have hz2:(blk.cells.set off y).zip vs=(blk.cells.zip vs).set off (y,u):=by
  conv=>lhs;rw [←ACn9 h4]
  rw [ANv9]
 refine ⟨pre++(blk.cells.zip vs).eraseIdx off++post, ?_, ?_⟩
 ·rw [e1];simp only [List.append_assoc];refine ((Zbu _ _ _).trans ?_);refine ((List.Perm.append_right _ (AIs9 _ _ _ hz)).trans ?_);simp only [List.cons_append];refine List.Perm.cons _ ?_;exact Zbu _ _ _
 ·rw [e3,hz2];simp only [List.append_assoc];refine ((Zbu _ _ _).trans ?_);refine ((List.Perm.append_right _ (AKt9 _ _ _ (y,u) hz)).trans ?_);simp only [List.cons_append];refine List.Perm.cons _ ?_;exact Zbu _ _ _
theorem Rel.rehp {hp':List Blk} (h:Rel S X yv w m A hp hv) (hl:hp'.length=hp.length)
 (hb:∀(g:Nat) (b:Blk),hp'[g]? =some b→∃b0,hp[g]? =some b0∧b.cells.length=b0.cells.length∧b.fro=b0.fro∧b.grow=b0.grow∧b.ver=b0.ver):Rel S X yv w m A hp' hv:=by
 refine ⟨h.lt,h.rv,h.pw,h.nm,h.sp,h.mnd,by rw [h.ml,hl],by rw [h.hl,hl],fun g blk p vs e1 e2 e3=> ?_,h.gl⟩;obtain ⟨b0,g1,g2,g3,g4,g5⟩:=hb g blk e1;have:=h.bl g b0 p vs g1 e2 e3;rw [g2,g3,g4,g5];exact this
theorem BDr9 {loc:Loc} {e k:Nat} {xs:List (List Dv)} {t:Nat} (h:RelS S X yv w m B hv s a) (hpv:(t,loc)∈s.pv) (ho:ownAt s loc=some (e,k,xs)):
 ∃ v L,a.tmps[t]? =some v∧(s.tm.zip a.tmps.toList++(B++AAa9 s.hp hv)).Perm ((.own e k xs,v)::L)∧
  ((AKm9 s loc).tm.zip a.tmps.toList++(B++AAa9 (AKm9 s loc).hp hv)).Perm ((.d (.sl k xs),v)::L)∧(AKm9 s loc).tm.length=s.tm.length∧
  (∀(S':Pr) (w':World) (m':List MB) C,Rel S' X yv w' m' C s.hp hv→Rel S' X yv w' m' C (AKm9 s loc).hp hv):=by
 obtain ⟨hl,hr,hp⟩:=h;have hpp:=hp _ hpv;cases loc with
 | slot x=>
  obtain ⟨v,h1,h2⟩:=hpp;simp only [ownAt] at ho;split at ho<;>try (cases ho;done)
  rename_i e' k' xs' hx;cases ho;have hxl:s.tm[x]? =some (.own e k xs):=by
   cases hh:s.tm[x]? with
   |none=>simp [List.getD,hh] at hx
   |some y=>simp [List.getD,hh] at hx;rw [hx]
  have hz:(s.tm.zip a.tmps.toList)[x]? =some (.own e k xs,v):=by
   rw [Zar];exact ⟨hxl,by simpa using h2⟩
  refine ⟨v,(s.tm.zip a.tmps.toList).eraseIdx x++(B++AAa9 s.hp hv),h1, ?_, ?_,by simp [AKm9],fun _ _ _ C hC=>hC⟩
  ·rw [←List.cons_append];exact List.Perm.append_right _ (AIs9 _ _ _ hz)
  ·rw [←List.cons_append];refine List.Perm.append_right _ ?_;have e1:(s.tm.set x (s.tm.getD x .bad).view).zip a.tmps.toList=(s.tm.zip a.tmps.toList).set x (.d (.sl k xs),v):=by
    have h2':a.tmps.toList[x]? =some v:=by simpa using h2
    rw [hx]
    conv=>lhs;rw [←ACn9 h2']
    rw [ANv9];rfl
   simp only [AKm9];rw [e1];exact AKt9 _ _ _ _ hz
 | cell g off=>
  obtain ⟨v,vs,h1,h2,h3⟩:=hpp;simp only [ownAt] at ho;split at ho<;>try (cases ho;done)
  rename_i blk hb;split at ho<;>try (cases ho;done)
  rename_i e' k' xs' hx;cases ho;have hxl:blk.cells[off]? =some (.own e k xs):=by
   cases hh:blk.cells[off]? with
   |none=>simp [List.getD,hh] at hx
   |some y=>simp [List.getD,hh] at hx;rw [hx]
  obtain ⟨L,p1,p2⟩:=ATa9 (.d (.sl k xs)) hb h2 hxl h3;have hdem:AKm9 s (.cell g off)= {s with hp:=s.hp.set g {blk with cells:=blk.cells.set off (.d (.sl k xs))}}:=by
   simp only [AKm9,hb,hx,AV.view]
  rw [hdem];refine ⟨v,s.tm.zip a.tmps.toList++(B++L),h1, ?_, ?_,rfl,fun _ _ _ C hC=>hC.rehp (by simp) fun g' b' hb'=> ?_⟩
  ·refine (List.Perm.append_left _ (List.Perm.append_left _ p1)).trans ?_;refine (List.Perm.append_left _ List.perm_middle).trans ?_;exact List.perm_middle
  ·refine (List.Perm.append_left _ (List.Perm.append_left _ p2)).trans ?_;refine (List.Perm.append_left _ List.perm_middle).trans ?_;exact List.perm_middle
  ·by_cases hg:g'=g
   ·subst hg;rw [Zbw (Zaa.1 hb).1] at hb';cases hb';exact ⟨blk,hb,by simp,rfl,rfl,rfl⟩
   ·rw [Zcg (Ne.symm hg)] at hb';exact ⟨b',hb',rfl,rfl,rfl,rfl⟩
theorem BNm9 {r:Option Nat} {K:Act→World→Prop} {Q:Exit→Act→World→Prop} (h:RelS S X yv w m B hv s a) (hx:xa P s o=some s') (hK:Nx S X yv w m B s' a K):o.wpIn (Fn r) 0 P a w K Q:=by
 unfold xa at hx;split at hx<;>try (cases hx;done)
 rename_i c ho;split at hx<;>try (cases hx;done)
 rename_i t y hc h0 h1;split at hx<;>try (cases hx;done)
 rename_i hsz;split at hx<;>try (cases hx;done)
 rename_i loc hloc;split at hx<;>try (cases hx;done)
 rename_i e k xs e' i hown hinf;split at hx<;>try (cases hx;done)
 rename_i ys hys;split at hx<;>try (cases hx;done)
 rename_i hcond;obtain ⟨rfl,rfl,hfit⟩:=hcond;cases hx;obtain ⟨ty,z,hts,ht,hi,hz,hzs,hsz',hby⟩:=AEx9 hinf;obtain ⟨v,L,q1,q2,q3,q4,q5⟩:=BDr9 h (BDw9 hloc) hown;have hsrc:DR S w (.sl i.size ys) (a.eval y):=ADo9 hys (AAj9 h y);have hev:a.eval (.tmp t)=v:=by simp [Act.eval,q1]
 obtain ⟨v',w',S',g1,g2,g3,g4,g5⟩:=BGg9 (ty:=o.type) ht hi hz hzs hsz' hby (h.2.1.perm q2) hsrc hfit;have hargs:c.args=#[.tmp t,y]:=by
  apply Zcf;intro j
  match j with
  |0=>simpa using h0
  |1=>simpa using h1
  |j+2=>simp [Zcu (by omega:c.args.size≤j+2)]
 obtain ⟨consts,hb⟩:=ACb9 (P:=P) (ρ:=a.eval) ho hc w;refine ABa9 (by simp [ho]) (nx:= .value v') (v:=v') (w':=w') ?_ (.inl rfl) ?_
 ·rw [hb];simp [builtin,hargs,hev,hts,g1]
 ·refine Nx.of (S':=S') (m':=m) (hv':=hv) hK ⟨g2,g3,g4,MStep.refl m⟩ (by rw [q4];exact h.1) ?_ (by intro p hp;cases hp);refine (q5 _ _ _ _ g5).perm (List.Perm.cons _ ?_);exact q3.symm
theorem ABj9:∀ {cs:List AV},ABy9 cs=true→∀(i:Nat) (c:AV),cs[i]? =some c→c.closed=true
 | [],_,i,c,h=>by simp at h
 | x::r,hc,i,c,h=>by
  simp only [ABy9,Zal] at hc;cases i with
  |zero=>simp at h;subst h;exact hc.1
  |succ i=>simp at h;exact ABj9 hc.2 i c h
theorem RV.closed {x:AV} {v:Value} (h:RV S w m yv x v):x.closed=true→RV S w [] none x v:=by
 induction h with
 |d h=>exact fun _=> .d h
 |agg hl h ih=>exact fun hc=> .agg hl fun i c v h1 h2=>ih i c v h1 h2 (ABj9 (by simpa [AV.closed] using hc) i c h1)
 |tup hl h ih=>exact fun hc=> .tup hl fun i c v h1 h2=>ih i c v h1 h2 (ABj9 (by simpa [AV.closed] using hc) i c h1)
 |full h=>exact fun _=> .full h
 |rptr vals hne hsp hs hcc hr h1=>exact fun _=> .rptr vals hne hsp hs hcc hr h1
 | fn hf hl hl' h h' ih ih'=>
  intro hc;simp only [AV.closed,Zal] at hc;exact .fn hf hl hl' (fun i c v h1 h2=>ih i c v h1 h2 (ABj9 hc.1 i c h1)) (fun i c v h1 h2=>ih' i c v h1 h2 (ABj9 hc.2 i c h1))
 |bad=>exact fun _=> .bad
 |own=>exact fun hc=>by simp [AV.closed] at hc
 |ownNil=>exact fun hc=>by simp [AV.closed] at hc
 |ref=>exact fun hc=>by simp [AV.closed] at hc
 |ptr=>exact fun hc=>by simp [AV.closed] at hc
 |gref=>exact fun hc=>by simp [AV.closed] at hc
 |gptr=>exact fun hc=>by simp [AV.closed] at hc
 |yl=>exact fun hc=>by simp [AV.closed] at hc
theorem RV.opened {x:AV} {v:Value} (h:RV S w [] none x v):RV S w m yv x v:=by
 generalize hm:([]:List MB)=m0 at h;generalize hy:(none:Option Nat)=y0 at h;induction h with
 |d h=>exact .d h
 |agg hl h ih=>exact .agg hl fun i c v h1 h2=>ih i c v h1 h2
 |tup hl h ih=>exact .tup hl fun i c v h1 h2=>ih i c v h1 h2
 |full h=>exact .full h
 |rptr vals hne hsp hs hcc hr h1=>exact .rptr vals hne hsp hs hcc hr h1
 |fn hf hl hl' h h' ih ih'=>exact .fn hf hl hl' (fun i c v h1 h2=>ih i c v h1 h2) (fun i c v h1 h2=>ih' i c v h1 h2)
 |bad=>exact .bad
 |own h1 h2=>exact .own h1 h2
 |ownNil=>exact .ownNil
 |ref h=>subst hm;simp at h
 |ptr h=>subst hm;simp at h
 |gref h=>subst hm;simp at h
 |gptr h=>subst hm;simp at h
 |yl h=>subst hy;cases h
theorem Rel.consAll (h:Rel S X yv w m A hp hv):∀l:List (AV×Value),(∀p∈l,RV S w m yv p.1 p.2∧ownB p=none)→Rel S X yv w m (l++A) hp hv
 | [],_=>h
 | p::l,hl=>by
  obtain ⟨h1,h2⟩:=hl p (by simp);exact (Rel.consAll h l (fun q hq=>hl q (by simp [hq]))).cons h1 h2
theorem ARe9 {t:TypeId} {ax x:Operand} (ρ:Operand→Value) (ho:o.op= .store t ax x):execOp ρ o=(do Instr.storeAt t (ρ ax) (ρ x);pure .skip):=by
 unfold execOp;rw [ho]
theorem BNl9 {r:Option Nat} {K:Act→World→Prop} {Q:Exit→Act→World→Prop} (hcall:AGy9 P call) (h:RelS S X yv w m B hv s a) (hx:xh P call s o=some s') (hK:Nx S X yv w m B s' a K):
 o.wpIn (Fn r) 0 P a w K Q:=by
 obtain ⟨hl,hr,hpv⟩:=h;have hev:=AAj9 (s:=s) (a:=a) ⟨hl,hr,hpv⟩;have hswap:∀ {D:List (AV×Value)},(s.tm.zip a.tmps.toList++(B++D))=((s.tm.zip a.tmps.toList++B)++D):=by intro D;simp
 rw [hswap] at hr;unfold xh at hx;split at hx
 ·
  rename_i x ho;split at hx<;>try (cases hx;done)
  cases hx;have hrun:(execOp a.eval o).run P w= .ok (.value (a.eval x)) w:=by unfold execOp;rw [ho];rfl
  refine ABa9 (by simp [ho]) hrun (.inl rfl) ?_;have key:∃L,(s.tm.zip a.tmps.toList++(B++AAa9 s.hp hv)).Perm L∧Rel S X yv w m ((evalA s.tm x,a.eval x)::((ANk9 s.tm x).zip a.tmps.toList++(B++AAa9 s.hp hv))) s.hp hv:=by
   refine ⟨_,List.Perm.refl _, ?_⟩;rw [←hswap] at hr;cases x with
   |const v=>exact hr.cons (hev (.const v)) (ARs9 v)
   |global g=>exact hr.cons (hev (.global g)) rfl
   |func f=>exact hr.cons (hev (.func f)) rfl
   | tmp t=>
    by_cases ht:t<s.tm.length
    ·have hxl:s.tm[t]? =some (s.tm.getD t .bad):=by simp [List.getD,ht]
     obtain ⟨v,h1,_⟩:=AVn9 hl hxl;have hev':a.eval (.tmp t)=v:=by simp [Act.eval,h1]
     rw [hev'];have hz:(s.tm.zip a.tmps.toList)[t]? =some (s.tm.getD t .bad,v):=by
      rw [Zar];exact ⟨hxl,by simpa using h1⟩
     have e1:(s.tm.set t (s.tm.getD t .bad).view).zip a.tmps.toList=(s.tm.zip a.tmps.toList).set t ((s.tm.getD t .bad).view,v):=by
      have h2':a.tmps.toList[t]? =some v:=by simpa using h1
      conv=>lhs;rw [←ACn9 h2']
      rw [ANv9]
     simp only [evalA,ANk9,e1];have h2:=hr.perm (List.Perm.append_right (B++AAa9 s.hp hv) (AIs9 _ _ _ hz));simp only [List.cons_append] at h2;have h3:=(h2.copy (x:=s.tm.getD t .bad) (v:=v) (by simp)).perm (List.Perm.swap _ _ _);refine h3.perm (List.Perm.cons _ ?_);exact (List.Perm.append_right (B++AAa9 s.hp hv) (AKt9 _ _ _ ((s.tm.getD t .bad).view,v) hz)).symm
    ·have e0:s.tm.getD t .bad= .bad:=by simp [List.getD,Zby (Nat.le_of_not_lt ht)]
     have e1:s.tm.set t AV.bad.view=s.tm:=List.set_eq_of_length_le (Nat.le_of_not_lt ht);simp only [evalA,ANk9,e0,e1];exact hr.cons .bad rfl
  obtain ⟨_,_,hk⟩:=key;have hlu:(ANk9 s.tm x).length=s.tm.length:=by cases x<;>simp [ANk9]
  exact Nx.of hK (Gs.refl S X none w m) (by rw [hlu];exact hl) hk (by intro p hp;cases hp)
 ·
  rename_i t ho;split at hx<;>try (cases hx;done)
  rename_i xs hxs;cases hx;obtain ⟨v,w',S',m',hv',g1,g3,g4,g5⟩:=AUb9 hr hxs;have hrun:(execOp a.eval o).run P w= .ok (.value v) w':=by unfold execOp;rw [ho];exact g1
  exact ABa9 (by simp [ho]) hrun (.inl rfl) (Nx.of hK g3 hl (by simpa using g4) ((AFf9 hpv o.dst v).mono g5))
 ·
  rename_i t x ho;split at hx<;>try (cases hx;done)
  rename_i xs hxs;cases hx;obtain ⟨v,w',S',m',hv',g1,g3,g4,g5⟩:=BBb9 (P:=P) (t:=t) hr (hev x) hxs;have hrun:(execOp a.eval o).run P w= .ok (.value v) w':=by unfold execOp;rw [ho];exact g1
  exact ABa9 (by simp [ho]) hrun (.inl rfl) (Nx.of hK g3 hl (by simpa using g4) ((AFf9 hpv o.dst v).mono g5))
 ·
  rename_i t ax x ho;split at hx<;>try (cases hx;done)
  rename_i tm xs hsrc;split at hx<;>try (cases hx;done)
  rename_i hp' hst;cases hx;rw [←hswap] at hr;have key:tm.length=s.tm.length∧xs.length=(a.eval x).cells.toList.length∧(∀u∈(a.eval x).cells.toList,u.oneCell'=true)∧
   Rel S X yv w m (xs.zip (a.eval x).cells.toList++(tm.zip a.tmps.toList++(B++AAa9 s.hp hv))) s.hp hv:=by
   unfold AUe9 at hsrc;split at hsrc
   ·rename_i hown;cases hsrc;have hlu:(ANk9 s.tm x).length=s.tm.length:=by cases x<;>simp [ANk9]
    have hone:(a.eval x).cells=#[a.eval x]∧(a.eval x).oneCell'=true:=by
     have h1:=hev x;cases hh:evalA s.tm x with
     | own e k ys=>
      rw [hh] at h1;generalize a.eval x=u at h1;cases h1<;>exact ⟨rfl,rfl⟩
     |_=>rw [hh] at hown;cases hown
    refine ⟨hlu,by rw [hone.1];rfl,by rw [hone.1];simp [hone.2], ?_⟩;rw [hone.1];simp only [List.zip_cons_cons,List.zip_nil_right,List.cons_append,List.nil_append];cases x with
    |const v=>simp only [evalA] at hown;cases v<;>cases hown
    |global g=>cases hown
    |func f=>cases hown
    | tmp t=>
     have ht:t<s.tm.length:=by
      rcases Nat.lt_or_ge t s.tm.length with h'|h'
      ·exact h'
      ·simp only [evalA,List.getD,Zby h'] at hown;cases hown
     have hxl:s.tm[t]? =some (s.tm.getD t .bad):=by simp [List.getD,ht]
     obtain ⟨v,h1,_⟩:=AVn9 hl hxl;have hev':a.eval (.tmp t)=v:=by simp [Act.eval,h1]
     rw [hev'];have hz:(s.tm.zip a.tmps.toList)[t]? =some (s.tm.getD t .bad,v):=by
      rw [Zar];exact ⟨hxl,by simpa using h1⟩
     have e1:(s.tm.set t (s.tm.getD t .bad).view).zip a.tmps.toList=(s.tm.zip a.tmps.toList).set t ((s.tm.getD t .bad).view,v):=by
      have h2':a.tmps.toList[t]? =some v:=by simpa using h1
      conv=>lhs;rw [←ACn9 h2']
      rw [ANv9]
     simp only [evalA,ANk9,e1];have h2:=hr.perm (List.Perm.append_right (B++AAa9 s.hp hv) (AIs9 _ _ _ hz));simp only [List.cons_append] at h2;have h3:=(h2.copy (x:=s.tm.getD t .bad) (v:=v) (by simp)).perm (List.Perm.swap _ _ _);refine h3.perm (List.Perm.cons _ ?_);exact (List.Perm.append_right (B++AAa9 s.hp hv) (AKt9 _ _ _ ((s.tm.getD t .bad).view,v) hz)).symm
   ·simp only [Zaj,Prod.mk.injEq] at hsrc;obtain ⟨xs',hxs,rfl,rfl⟩:=hsrc;obtain ⟨q1,q2,q3⟩:=AJg9 hxs (hev x);refine ⟨rfl,q1.1,fun u hu=> ?_,hr.consAll _ fun p hp=> ?_⟩
    ·obtain ⟨j,hj⟩:=Zak.1 hu;have hjl:j<xs'.length:=by rw [q1.1];exact (Zaa.1 hj).1
     exact (q1.2 j xs'[j] u (by simp [hjl]) hj).one (Zav.1 q2 _ (List.getElem_mem hjl))
    ·obtain ⟨j,hj⟩:=Zak.1 hp;have hj':=hj;rw [Zar] at hj';exact ⟨q1.2 j _ _ hj'.1 hj'.2,q3 p hp⟩
  obtain ⟨k1,k2,k3,k4⟩:=key;have k4':Rel S X yv w m (xs.zip (a.eval x).cells.toList++((tm.zip a.tmps.toList++B)++AAa9 s.hp hv)) s.hp hv:=by simpa using k4
  obtain ⟨nx,v,w',S',m',hv',g1,g2,g3,g4⟩:=ATv9 k4' (hev ax) k2 k3 hst;have hrun:(execOp a.eval o).run P w= .ok nx w':=by rw [ARe9 _ ho];exact g1
  exact ABa9 (by simp [ho]) hrun g2 (Nx.of hK g3 (by rw [k1];exact hl) (by simpa using g4) (by intro p hp;cases hp))
 ·
  rename_i t l c ho;split at hx<;>try (cases hx;done)
  rename_i n cap k xs hxs;cases hx;obtain ⟨v,w',S',m',hv',g1,g3,g4,g5⟩:=AYj9 (P:=P) hr (hev l) (hev c) hxs;have hrun:(execOp a.eval o).run P w= .ok (.value v) w':=by unfold execOp;rw [ho];exact g1
  exact ABa9 (by simp [ho]) hrun (.inl rfl) (Nx.of hK g3 hl (by simpa using g4) ((AFf9 hpv o.dst v).mono g5))
 ·
  rename_i c ho;split at hx
  rotate_left
  ·rename_i hc;split at hx<;>try (cases hx;done)
   rename_i d y h0 h1;split at hx<;>try (cases hx;done)
   rename_i hsz;split at hx<;>try (cases hx;done)
   rename_i x hp' hxc;cases hx;obtain ⟨consts,hb⟩:=ACb9 (P:=P) (ρ:=a.eval) ho hc w;have hargs:c.args=#[d,y]:=by
    apply Zcf;intro j
    match j with
    |0=>simpa using h0
    |1=>simpa using h1
    |j+2=>simp [Zcu (by omega:c.args.size≤j+2)]
   obtain ⟨nx,v,w',S',m',hv',g1,g2,g3,g4⟩:=AYl9 (P:=P) hr (hev d) (hev y) o.type hxc;have hrun:(execOp a.eval o).run P w= .ok nx w':=by
    rw [hb,←g1];simp [builtin,hargs]
   exact ABa9 (by simp [ho]) hrun g2 (Nx.of hK g3 hl (by simpa using g4) (by intro p hp;cases hp))
  ·cases hx
  rename_i f hc;split at hx<;>try (cases hx;done)
  rename_i k args hargs;have hfv:=(hev f).asFn;unfold AJw9 at hargs;split at hargs<;>try (cases hargs;done)
  rename_i k' first caps hf
  simp only [Option.some.injEq,Prod.mk.injEq] at hargs;obtain ⟨rfl,rfl⟩:=hargs;rw [hf] at hfv;generalize hfe:a.eval f=fv at hfv;cases hfv with
  | fn hne hl1 hl2 h1 h2=>
   rename_i fs cs;have hrun:(∀(azz:Array Value) (w:World),(callFunc k' azz).run P w= .ok (.enter k' azz) w)→(execOp a.eval o).run P w= .ok (.enter k' (fs++c.args.map a.eval++cs)) w:=by
    intro hent;unfold execOp;rw [ho];simp [resolve,hc,hfe,Deferred.ofValue,invoke,hent]
   have hlen:((first++(c.args.toList.map (evalA s.tm))++caps).map AV.view).length=(fs.toList++(c.args.map a.eval).toList++cs.toList).length:=by simp [hl1,hl2]
   have hpairs:∀(j:Nat) (x:AV) (u:Value),((first++(c.args.toList.map (evalA s.tm))++caps).map AV.view)[j]? =some x→(fs.toList++(c.args.map a.eval).toList++cs.toList)[j]? =some u→RV S w m yv x u∧ownB (x,u)=none:=by
    intro j x u hj1 hj2;simp only [Zbf,Zaj] at hj1;obtain ⟨y,hj1,rfl⟩:=hj1;refine ⟨RV.view ?_,AAs9 _ _⟩;by_cases c1:j<first.length
    ·rw [List.append_assoc,Zan c1] at hj1;rw [List.append_assoc,Zan (by simpa [←hl1] using c1)] at hj2;exact h1 j y u hj1 (by simpa using hj2)
    ·by_cases c2:j<first.length+c.args.size
     ·rw [Zan (by simpa using c2),Zao (by omega)] at hj1;rw [Zan (by simpa [←hl1] using c2),Zao (by simp [←hl1];omega)] at hj2;simp only [Array.length_toList,←hl1,Zbf,Zaj,Array.getElem?_toList,Array.getElem?_map] at hj1 hj2;obtain ⟨y1,hy1,rfl⟩:=hj1;obtain ⟨y2,hy2,rfl⟩:=hj2;rw [hy1] at hy2;cases hy2;exact hev y1
     ·rw [Zao (by simp;omega)] at hj1;rw [Zao (by simp [←hl1];omega)] at hj2;simp only [List.length_append,List.length_map,Array.length_toList,Array.size_map,←hl1] at hj1 hj2;exact h2 _ y u hj1 (by simpa using hj2)
   have e0:(fs.toList++(c.args.map a.eval).toList++cs.toList).toArray=fs++c.args.map a.eval++cs:=by apply Array.ext';simp
   split at hx
   ·rename_i res hres;cases hx;split at hres<;>try (cases hres;done)
    rename_i hcl;obtain ⟨hent,hcontract⟩:=hcall.p _ _ _ _ hres;refine ⟨fun f' _=>trivial, ?_⟩;rw [Oper.semAt_eq _ _ _ (by simp [ho]),hrun hent];refine ⟨fun hd=>(by cases hd), ?_⟩;have hc1:=hcontract S w (fs.toList++(c.args.map a.eval).toList++cs.toList) hlen (fun j x u hj1 hj2=>(hpairs j x u hj1 hj2).1.closed (ABj9 hcl j x hj1)) (fun b i hb=>hr.lt b i (.inl hb)) hr.gl;rw [e0] at hc1;refine (CallsIn.mono hc1 ?_:CallsIn Zdi 0 P k' _ w _);rintro e w' ⟨v,S',rfl,g1,g2,g3,g4⟩;have hrel:=(hr.below g1 g2 g3).cons (x:=res.view) (v:=v) g4.opened (AAs9 _ _);exact Nx.of hK (Gs.below hr g1 ⟨g2,g3⟩) hl (by simpa using hrel) (AFf9 hpv _ _)
   ·split at hx<;>try (cases hx;done)
    rename_i res hp' hres;cases hx;obtain ⟨hent,hcontract⟩:=hcall.s _ _ _ _ _ hres;refine ⟨fun f' _=>trivial, ?_⟩;rw [Oper.semAt_eq _ _ _ (by simp [ho]),hrun hent];refine ⟨fun hd=>(by cases hd), ?_⟩;have hrel:=hr.consAll (((first++(c.args.toList.map (evalA s.tm))++caps).map AV.view).zip (fs.toList++(c.args.map a.eval).toList++cs.toList)) (fun p hp=>by
     obtain ⟨j,hj⟩:=Zak.1 hp;rw [Zar] at hj;exact hpairs j p.1 p.2 hj.1 hj.2)
    have hc1:=hcontract S X yv w m (s.tm.zip a.tmps.toList++B) hv (fs.toList++(c.args.map a.eval).toList++cs.toList) hlen hrel;rw [e0] at hc1;refine (CallsIn.mono hc1 ?_:CallsIn Zdi 0 P k' _ w _);rintro e w' ⟨v,S',m',hv',rfl,g3,g4⟩;exact Nx.of hK g3 hl (by simpa using g4) (by intro p hp;cases hp)
 ·cases hx
theorem BEv9 {s:RS} {a:Act} (h:RelS S X yv w m B hv s a):∀y∈o.op.operands,RV S w m yv (evalA s.tm y) (a.eval y):=fun y _=>AAj9 h y
theorem BDc9 {a:Act} {d:Nat} {v:Value} (hd:d<a.tmps.size):(a.put (some d) v).tmps[d]? =some v:=by simp [Act.put,hd]
theorem BHu9 {a:Act} {d x:Nat} {v:Value} (hd:x≠d):(a.put (some d) v).tmps[x]? =a.tmps[x]? :=by
 simp [Act.put,Zcw (Ne.symm hd)]
theorem AWk9 {v:Value} (h:RelS S X yv w m B hv s a) (hrun:(execOp a.eval o).run P w= .ok (.value v) w'):
 PvOk (AEe9 P s o).toList (a.put o.dst v).tmps hv:=by
 obtain ⟨hl,hr,hpv⟩:=h;have hev:=AAj9 (s:=s) (a:=a) ⟨hl,hr,hpv⟩;intro p hp;unfold AEe9 at hp;split at hp
 ·rename_i d x hd ho;split at hp<;>try (cases hp;done)
  rename_i hc;simp only [Zal,bne_iff_ne,ne_eq] at hc;obtain ⟨⟨hc1,hc2⟩,hc3⟩:=hc;simp only [Option.toList_some,List.mem_singleton] at hp;subst hp;have hdl:d<a.tmps.size:=by
   rw [←hl];cases hh:s.tm[d]? with
   |none=>rw [hh] at hc3;cases hc3
   |some y=>exact (Zaa.1 hh).1
  have hxl:x<s.tm.length:=by
   rcases Nat.lt_or_ge x s.tm.length with h'|h'
   ·exact h'
   ·simp only [List.getD,Zby h'] at hc1;cases hc1
  have hxs:x<a.tmps.size:=by rw [←hl];exact hxl
  have hv:v=a.tmps[x]:=by
   unfold execOp at hrun;rw [ho] at hrun;simp only [Sem.run_pure,Result.ok.injEq,Next.value.injEq,Act.eval] at hrun;rw [←hrun.1];simp [hxs]
  refine ⟨v, ?_, ?_⟩
  ·rw [hd];exact BDc9 hdl
  ·rw [hd,BHu9 hc2,hv];simp [hxs]
 ·rename_i d t q hd ho;split at hp<;>try (cases hp;done)
  rename_i g off hq;split at hp<;>try (cases hp;done)
  rename_i blk hb;split at hp<;>try (cases hp;done)
  rename_i hc;simp only [Zal,Bool.not_eq_true'] at hc;obtain ⟨⟨hc1,hc2⟩,hc3⟩:=hc;simp only [Option.toList_some,List.mem_singleton] at hp;subst hp;have hdl:d<a.tmps.size:=by
   rw [←hl];cases hh:s.tm[d]? with
   |none=>rw [hh] at hc3;cases hc3
   |some y=>exact (Zaa.1 hh).1
  have hq':=hev (.tmp q);simp only [evalA,hq] at hq';generalize hqe:a.eval (.tmp q)=vq at hq';cases hq' with
  | ptr hm=>
   obtain ⟨blk',vs,cur,e,g1,g2,g3,g4,g5,g6,g7,g8,g9,g10,_⟩:=hr.block hm;rw [hb] at g1;cases g1;have hol:off<blk.cells.length:=by
    rcases Nat.lt_or_ge off blk.cells.length with h'|h'
    ·exact h'
    ·simp only [List.getD,Zby h'] at hc1;cases hc1
   have hov:off<vs.length:=by simp only at g3 g6;omega
   have hcell:=AGw9 g8 g9 off vs[off] (by simp [hov]);have hv:v=vs[off]:=by
    unfold execOp at hrun;rw [ho] at hrun;simp only [hqe,Instr.loadAt,Zcy,loadVar,Sem.run_bind,Sem.run_pure,Result.andThen_ok] at hrun;cases hu:P.underlying t with
    |none=>simp [isAgg,underlying,hu] at hrun
    | some dd=>
     simp only [AGq9 hu,hc2,Result.andThen_ok,Zbt,if_false] at hrun;simp only at hcell;rw [run_load,hcell] at hrun;simp at hrun;exact hrun.1.symm
   exact ⟨v,vs,by rw [hd];exact BDc9 hdl,g2,by rw [hv];simp [hov]⟩
 ·cases hp
theorem PvOk.app {p1 p2:List (Nat×Loc)} {tmps:Array Value} (h1:PvOk p1 tmps hv) (h2:PvOk p2 tmps hv):PvOk (p1++p2) tmps hv:=by
 intro p hp;rcases Zco.1 hp with h|h
 ·exact h1 p h
 ·exact h2 p h
theorem ACk9 {b:Bool} (h:RelS S X yv w m B hv s a) (hw:ABc9 ops o s.tm=some b):Region.wanted o (yielded ops a.tmps)=b:=by
 unfold ABc9 at hw;unfold Region.wanted;split at hw
 ·rename_i hg;cases hw;rw [hg]
 ·rename_i j want hg;rw [hg];split at hw<;>try (cases hw;done)
  rename_i t ht;have key:∀z:Value,s.tm.getD t .bad= .d (.s z)→a.tmps[t]? =some z:=by
   intro z hb;have htl:t<s.tm.length:=by
    rcases Nat.lt_or_ge t s.tm.length with h'|h'
    ·exact h'
    ·simp [List.getD,Zby h'] at hb
   have hxl:s.tm[t]? =some (.d (.s z)):=by
    have:s.tm[t]? =some (s.tm.getD t .bad):=by simp [List.getD,htl]
    rw [hb] at this;exact this
   obtain ⟨v,h1,h2⟩:=AVn9 h.1 hxl;have hv:=h.2.1.rv _ (Zbc _ h2);have hv':v=z:=AFk9 (x:= .d (.s z)) rfl hv;rw [←hv'];exact h1
  split at hw<;>try (cases hw;done)
  ·rename_i b' hb;cases hw;simp [yielded,ht,key _ hb]
  ·rename_i b' hb;cases hw;simp [yielded,ht,key _ hb]
theorem AGz9 {r:Option Nat} {K:Act→World→Prop} {Q:Exit→Act→World→Prop} (hcall:AGy9 P call) (h:RelS S X yv w m B hv s a) (hx:xStep P call ops s o=some s') (hK:Nx S X yv w m B s' a K):
 if Region.wanted o (yielded ops a.tmps) then o.wpIn (Fn r) 0 P a w K Q else (∀f,o.about P w a.eval=some f→(Fn r).fn f)∧K (a.put o.dst undef) w:=by
 unfold xStep at hx;split at hx
 ·rename_i hw;cases hx;rw [ACk9 h hw];simp only [Zbt,if_false];refine ⟨fun f _=>trivial, ?_⟩;obtain ⟨hl,hr,hpv⟩:=h;exact Nx.of hK (Gs.refl S X none w m) hl (hr.cons (.d (.s undef)) rfl) (AFf9 hpv _ _)
 ·rename_i hw;rw [ACk9 h hw];simp only [if_true];split at hx
  ·rename_i s1 hs1;cases hx;exact BNm9 h hs1 hK
  ·split at hx
   ·rename_i s1 hs1;cases hx;exact BNl9 hcall h hs1 hK
   ·split at hx<;>try (cases hx;done)
    rename_i x hq;cases hx;obtain ⟨hl,hr,hpv⟩:=h;have hr':Rel S X yv w m ((s.tm.zip a.tmps.toList++B)++AAa9 s.hp hv) s.hp hv:=by simpa using hr
    obtain ⟨v,w',S',g1,g2,g3,g4⟩:=BAo9 hr' (BEv9 (o:=o) ⟨hl,hr,hpv⟩) hq;have hd:∀c,o.op≠ .defer c:=by
     intro c hc;simp [xq,hc] at hq
    refine ABa9 hd g1 (.inl rfl) ?_;exact Nx.of hK (Gs.below hr g2 g3) hl (by simpa using g4) ((AWk9 ⟨hl,hr,hpv⟩ g1).app (AFf9 hpv _ _))
 ·cases hx
def qStep (P:Program) (call:CallT) (ops:Array Oper) (s:RS) (o:Oper) (s':RS):Prop:=
 xStep P call ops s o=some s'∨(ABc9 ops o s.tm=some true∧∃x,xq P s.hp (evalA s.tm) o=some x∧s'= {s with tm:=putA s.tm o.dst x,pv:=(AEe9 P s o).toList++pvPut s.pv o.dst})∨
 (ABc9 ops o s.tm=some true∧∃(c:Call) (ro:Operand) (name:String) (k:Nat) (args:List AV) (res:AV),o.op= .call c∧c.callee= .invoke ro name∧AOt9 P s.tm ro name c.args=some (k,args)∧ABy9 args=true∧call.p o.dst k args=some res∧
  s'= {tm:=putA s.tm o.dst res.view,hp:=s.hp,pv:=pvPut s.pv o.dst})
theorem BIt9 {r:Option Nat} {K:Act→World→Prop} {Q:Exit→Act→World→Prop} (hcall:AGy9 P call) (h:RelS S X yv w m B hv s a) {c:Call} {ro:Operand} {name:String} {k:Nat} {args:List AV} {res:AV} (ho:o.op= .call c) (hc:c.callee= .invoke ro name)
 (hargs:AOt9 P s.tm ro name c.args=some (k,args)) (hcl:ABy9 args=true) (hres:call.p o.dst k args=some res) (hK:Nx S X yv w m B {tm:=putA s.tm o.dst res.view,hp:=s.hp,pv:=pvPut s.pv o.dst} a K):o.wpIn (Fn r) 0 P a w K Q:=by
 have hev:=AAj9 h;obtain ⟨hl,hr0,hpv⟩:=h;have hr:Rel S X yv w m ((s.tm.zip a.tmps.toList++B)++AAa9 s.hp hv) s.hp hv:=by simpa using hr0
 unfold AOt9 at hargs;split at hargs<;>try (cases hargs;done)
 rename_i t v hr0;split at hargs<;>try (cases hargs;done)
 rename_i k' rv hm;cases hargs;have hre:=AFk9 hr0 (hev ro);have hmr:=fun w=>AHc9 P _ _ hm w;obtain ⟨hent,hcon⟩:=hcall.p _ _ _ _ hres;have hexec:(execOp a.eval o).run P w= .ok (.enter k (rv::c.args.toList.map a.eval).toArray) w:=by
  have e0:(rv::c.args.toList.map a.eval).toArray=#[rv]++c.args.map a.eval:=by apply Array.ext';simp
  have e1:(#[Zee t v]++c.args.map a.eval)[0]? =some (Zee t v):=by simp [Array.getElem?_append]
  have e2:(#[Zee t v]++c.args.map a.eval).extract 1 (#[Zee t v]++c.args.map a.eval).size=c.args.map a.eval:=by apply Array.ext';simp;exact List.take_of_length_le (by simp)
  rw [e0];unfold execOp;rw [ho];simp only [resolve,hc,hre];show (invoke (.fn (.method name) #[]) (#[Zee t v]++c.args.map a.eval)).run P w=_;unfold invoke;simp only [e1,e2];unfold callMethod;simp [hmr,hent]
 refine ⟨fun f' _=>trivial, ?_⟩;rw [Oper.semAt_eq _ _ _ (by simp [ho]),hexec];refine ⟨fun hd=>(by cases hd), ?_⟩;refine (CallsIn.mono (hcon S w (rv::c.args.toList.map a.eval) (by simp) (fun i y u h1 h2=> ?_) (fun b i hb=>hr.lt b i (.inl hb)) hr.gl) ?_:CallsIn Zdi 0 P k _ w _)
 ·refine RV.closed (m:=m) (yv:=yv) ?_ (ABj9 hcl i y h1);cases i with
  | zero=>
   simp only [List.getElem?_cons_zero,Option.some.injEq] at h1 h2;subst h1 h2;exact RV.ofVal rv
  | succ i=>
   simp only [List.getElem?_cons_succ,Zbf,Zaj] at h1 h2;obtain ⟨z,⟨q,h1,rfl⟩,rfl⟩:=h1;obtain ⟨q',h2,rfl⟩:=h2;rw [h1] at h2;cases h2;exact (hev q).view
 ·rintro e w' ⟨v',S',rfl,g1,g2,g3,g4⟩;have hrel:=(hr.below g1 g2 g3).cons (x:=res.view) (v:=v') g4.opened (AAs9 _ _);exact Nx.of hK (Gs.below hr g1 ⟨g2,g3⟩) hl (by simpa using hrel) (AFf9 hpv _ _)
theorem AFp9 {r:Option Nat} {K:Act→World→Prop} {Q:Exit→Act→World→Prop} (hcall:AGy9 P call) (h:RelS S X yv w m B hv s a) (hx:qStep P call ops s o s') (hK:Nx S X yv w m B s' a K):
 if Region.wanted o (yielded ops a.tmps) then o.wpIn (Fn r) 0 P a w K Q else (∀f,o.about P w a.eval=some f→(Fn r).fn f)∧K (a.put o.dst undef) w:=by
 rcases hx with hx|⟨hw,x,hq,rfl⟩|⟨hw,c,ro,name,k,args,res,ho,hc,hargs,hcl,hres,rfl⟩
 ·exact AGz9 hcall h hx hK
 rotate_left
 ·rw [ACk9 h hw];simp only [if_true];exact BIt9 hcall h ho hc hargs hcl hres hK
 rw [ACk9 h hw];simp only [if_true];obtain ⟨hl,hr,hpv⟩:=h;have hr':Rel S X yv w m ((s.tm.zip a.tmps.toList++B)++AAa9 s.hp hv) s.hp hv:=by simpa using hr
 obtain ⟨v,w',S',g1,g2,g3,g4⟩:=BAo9 hr' (BEv9 (o:=o) ⟨hl,hr,hpv⟩) hq;have hd:∀c,o.op≠ .defer c:=by
  intro c hc;simp [xq,hc] at hq
 refine ABa9 hd g1 (.inl rfl) ?_;exact Nx.of hK (Gs.below hr g2 g3) hl (by simpa using g4) ((AWk9 ⟨hl,hr,hpv⟩ g1).app (AFf9 hpv _ _))
def xOps (P:Program) (call:CallT) (ops:Array Oper):List Oper→RS→Option RS
 | [],s=>some s
 | o::l,s=>match xStep P call ops s o with
  |some s'=>xOps P call ops l s'
  |none=>none
end
def ADr9 (o:Oper):Bool:=
 match o.op with
 | .alloc _| .box .. | .store .. | .select .. | .defer _| .go _=>false
 | .call c=>match c.callee with
  | .builtin .copy=>false
  |_=>true
 |_=>true
def isApp (o:Oper):Bool:=
 match o.op with
 | .call c=>match c.callee with
  | .builtin .append=>true
  |_=>false
 |_=>false
def isMk (o:Oper):Bool:=
 match o.op with
 | .makeSlice .. =>true
 |_=>false
def xp (P:Program) (call:CallT) (ops:Array Oper) (hp:List Blk) (tm:List AV) (o:Oper):Option AV:=
 match ABc9 ops o tm with
 |some false=>some (.d (.s undef))
 | some true=>match o.op with
  | .call c=>match c.callee with
   | .value f=>match AJw9 tm (evalA tm f) c.args with
    |some (k,args)=>if ABy9 args then (call.p o.dst k args).map AV.view else none
    |none=>none
   | .invoke r name=>match AOt9 P tm r name c.args with
    |some (k,args)=>if ABy9 args then (call.p o.dst k args).map AV.view else none
    |none=>none
   |_=>xq P hp (evalA tm) o
  |_=>xq P hp (evalA tm) o
 |none=>none
def xPre (P:Program) (call:CallT) (ops:Array Oper) (hp:List Blk):List Oper→List AV→Option (List AV)
 | [],tm=>some tm
 | o::l,tm=>match xp P call ops hp tm o with
  |some x=>xPre P call ops hp l (putA tm o.dst x)
  |none=>none
def AAp9 (o:Oper):List Nat:=(o.after.toList.filter fun e=>Region.binds .any e).map (·.on)
def APb9 (ops:Array Oper):Nat→List Nat→List Nat
 |0,l=>l
 | t+1,l=>APb9 ops t (if l.contains t then (match ops[t]? with
  |some o=>AAp9 o++l
  |none=>l) else l)
def ancOf (ops:Array Oper) (n i:Nat):List Nat:=
 match ops[i]? with
 |some o=>APb9 ops i (AAp9 o)
 |none=> []
def ASr9 (ops:Array Oper) (k:Nat):Bool:=
 (Zay ops.size).all (fun i=>match ops[i]? with
  |some o=>(AAp9 o).all (· <i)&&
   (if i<k then ADr9 o&&(o.looksAt ops).all (fun t=>(Zay k).all fun j=>match ops[j]? with
    |some o'=>o'.dst !=some t||(AAp9 o).contains j
    |none=>true)&&
    (Zay i).all (fun j=>match ops[j]? with
     |some o'=>o.dst==none||o'.dst !=o.dst
     |none=>true)
   else (Zay i).all fun j=>(ancOf ops ops.size i).contains j)
  |none=>true)
section
variable {P:Program} {hp:List Blk} {hv:List (List Value)} {call:CallT} {a:Act} {o:Oper} {ops:Array Oper}
theorem AEj9 {k i:Nat} {o:Oper} (h:ASr9 ops k=true) (hi:ops[i]? =some o):
 (∀j∈AAp9 o,j<i)∧
 (i<k→ADr9 o=true∧(∀t∈o.looksAt ops,∀(j:Nat) (o':Oper),j<k→ops[j]? =some o'→o'.dst=some t→j∈AAp9 o)∧
  (∀(j:Nat) (o':Oper),j<i→ops[j]? =some o'→o.dst≠none→o'.dst≠o.dst))∧
 (k≤i→∀j,j<i→j∈ancOf ops ops.size i):=by
 have hil:i<ops.size:=(Zah.1 hi).1;have h1:=Zav.1 h i (Zbs.2 hil);simp only [hi,Zal,Zav,decide_eq_true_eq] at h1;obtain ⟨h2,h3⟩:=h1;refine ⟨h2,fun hk=> ?_,fun hk j hj=> ?_⟩
 ·rw [if_pos hk] at h3;simp only [Zal,Zav,Zbs] at h3;obtain ⟨⟨h4,h5⟩,h6⟩:=h3;refine ⟨h4,fun t ht j o' hj ho' hd=> ?_,fun j o' hj ho' hd=> ?_⟩
  ·have:=h5 t ht j hj;simp only [ho',hd,bne_self_eq_false,Bool.false_or,List.contains_iff_mem] at this;exact this
  ·have:=h6 j hj;simp only [ho',Bool.or_eq_true,beq_iff_eq,bne_iff_ne] at this;exact this.resolve_left hd
 ·rw [if_neg (by omega)] at h3;simp only [Zav,Zbs,List.contains_iff_mem] at h3;exact h3 j hj
theorem AJe9 {listed:Array Bool} (hdown:∀(j:Nat) (o':Oper),ops[j]? =some o'→listed.getD j false=true→∀e∈AAp9 o',listed.getD e false=true):
 ∀(t:Nat) (l:List Nat),(∀j∈l,listed.getD j false=true)→∀j∈APb9 ops t l,listed.getD j false=true
 |0,l,h,j,hj=>h j hj
 | t+1,l,h,j,hj=>by
  simp only [APb9] at hj;refine AJe9 hdown t _ (fun j' hj'=> ?_) j hj;split at hj'
  ·rename_i hc;have ht:=h t (List.contains_iff_mem.1 hc);split at hj'
   ·rename_i o ho;rcases Zco.1 hj' with h1|h1
    ·exact hdown t o ho ht j' h1
    ·exact h j' h1
   ·exact h j' hj'
  ·exact h j' hj'
theorem AFy9 {listed:Array Bool} (hdown:∀(j:Nat) (o':Oper),ops[j]? =some o'→listed.getD j false=true→∀e∈AAp9 o',listed.getD e false=true) (n i:Nat) (o:Oper) (hi:ops[i]? =some o)
 (he:∀e∈AAp9 o,listed.getD e false=true):∀j∈ancOf ops n i,listed.getD j false=true:=by
 intro j hj;simp only [ancOf,hi] at hj;exact AJe9 hdown i _ he j hj
theorem ACe9 {listed:Array Bool} {i:Nat} (h:i∈Zek .any ops listed):∃o,ops[i]? =some o∧listed.getD i true=false∧∀e∈AAp9 o,listed.getD e false=true:=by
 obtain ⟨h0,o,ho,hall⟩:=mem_ready.1 h;refine ⟨o,ho,h0,fun e he=> ?_⟩;unfold AAp9 at he;simp only [Zbd,List.mem_filter,Array.mem_toList_iff] at he;obtain ⟨ed,⟨h1,h2⟩,rfl⟩:=he;exact hall ed h1 h2
theorem ABg9 {listed:Array Bool} {i:Nat} {o:Oper} (ho:ops[i]? =some o) (h0:listed.getD i true=false) (hall:∀e∈AAp9 o,listed.getD e false=true):i∈Zek .any ops listed:=by
 refine mem_ready.2 ⟨h0,o,ho,fun e he hb=>hall e.on ?_⟩;unfold AAp9;simp only [Zbd,List.mem_filter,Array.mem_toList_iff];exact ⟨e,⟨he,hb⟩,rfl⟩
theorem AFs9 {tm tm':List AV} (h:∀t∈o.looksAt ops,tm.getD t .bad=tm'.getD t .bad):∀y∈o.op.operands,evalA tm y=evalA tm' y:=by
 intro y hy;cases y with
 |tmp t=>exact h t (Zbc _ (Zdx.2 ⟨.tmp t,by simpa using hy,rfl⟩))
 |_=>rfl
theorem BAw9 {ρ ρ':Operand→AV} (hs:∀cs b,o.op≠ .select cs b) (h:∀y∈o.op.operands,ρ y=ρ' y):xVal P ρ o=xVal P ρ' o:=by
 unfold xVal;have h1:o.op.operands.all (fun x=>(ρ x).toVal?.isSome)=o.op.operands.all (fun x=>(ρ' x).toVal?.isSome):=by
  rw [Bool.eq_iff_iff,Zds,Zds];constructor
  ·intro hh x hx;rw [←h x hx];exact hh x hx
  ·intro hh x hx;rw [h x hx];exact hh x hx
 have h2:=execOp_congr (ρ:=fun x=>((ρ x).toVal?).getD undef) (ρ':=fun x=>((ρ' x).toVal?).getD undef) o hs (fun y hy=>by rw [h y hy]);rw [h1,h2]
theorem BAp9 {ρ ρ':Operand→AV} (h:∀y∈o.op.operands,ρ y=ρ' y):xq P hp ρ o=xq P hp ρ' o:=by
 have hv:(∀cs b,o.op≠ .select cs b)→xVal P ρ o=xVal P ρ' o:=fun hs=>BAw9 hs h;have pairs:∀ps:Array (Nat×Operand),(∀x∈ps.map (·.2),ρ x=ρ' x)→(ps.toList.map fun p=>(p.1,ρ p.2))=(ps.toList.map fun p=>(p.1,ρ' p.2)):=fun ps hp=>
  List.map_congr_left fun p hm=>by rw [hp p.2 (Array.mem_map.2 ⟨p,by simpa using hm,rfl⟩)]
 have views:∀xs:Array Operand,(∀x∈xs,ρ x=ρ' x)→(xs.toList.map fun x=>(ρ x).view)=(xs.toList.map fun x=>(ρ' x).view):=fun xs hp=>
  List.map_congr_left fun p hm=>by rw [hp p (by simpa using hm)]
 unfold xq;cases ho:o.op<;>simp only [ho,Zbg] at h hv ⊢;case move x=>rw [h x (by simp)]
 case assign x=>rw [h x (by simp)]
 case pick c a b=>rw [h c (by simp),h a (by simp),h b (by simp)]
 case extract x i=>rw [h x (by simp)]
 case load t a=>rw [h a (by simp)]
 case nilCheck x=>rw [h x (by simp)]
 case binOp op t x y ty=>rw [h x (by simp),h y (by simp),hv (by simp)]
 case makeFunc f first caps=>rw [views first fun x hx=>h x (by simp [hx]),views caps fun x hx=>h x (by simp [hx])]
 case slice t x lo hi mx=>
  have e1:lo.map ρ=lo.map ρ':=by cases lo<;>simp;exact h _ (by simp)
  have e2:hi.map ρ=hi.map ρ':=by cases hi<;>simp;exact h _ (by simp)
  have e3:mx.map ρ=mx.map ρ':=by cases mx<;>simp;exact h _ (by simp)
  rw [h x (by simp),e1,e2,e3,hv (by simp)]
 case fieldAddr t x f=>rw [h x (by simp)]
 case field t x f=>rw [h x (by simp)]
 case indexAddr t x ix=>rw [h x (by simp),h ix (by simp)]
 case sliceToArrayPointer t x=>rw [h x (by simp)]
 case index t x ix=>rw [h x (by simp),h ix (by simp),hv (by simp)]
 case makeSlice t l c=>rw [h l (by simp),h c (by simp)]
 case build t parts=>rw [pairs parts fun x hx=>h x (by simpa using hx)]
 case buildSlice t n parts=>rw [pairs parts fun x hx=>h x (by simpa using hx)]
 case call c=>
  split
  ·split
   ·rename_i x hx;rw [h x (by have:=Array.mem_of_getElem? hx;simp [Call.operands,this]),hv (by simp)]
   ·rfl
  ·split
   ·rename_i x y hx hy;rw [h x (by have:=Array.mem_of_getElem? hx;simp [Call.operands,this]),h y (by have:=Array.mem_of_getElem? hy;simp [Call.operands,this])]
   ·rfl
  ·exact hv (by simp)
  ·rfl
 case unOp=>exact hv (by simp)
 case convert=>exact hv (by simp)
 case makeInterface=>exact hv (by simp)
theorem AQs9 {tm tm':List AV} (h:∀t∈o.looksAt ops,tm.getD t .bad=tm'.getD t .bad):ABc9 ops o tm=ABc9 ops o tm':=by
 unfold ABc9;cases hg:o.guard with
 |none=>rfl
 | some gw=>
  obtain ⟨j,want⟩:=gw;simp only;cases ht:(ops[j]?).bind (·.dst) with
  |none=>rfl
  | some t=>
   have:t∈o.looksAt ops:=by simp [Oper.looksAt,hg,ht]
   simp only [h t this]
theorem AGa9 {tm tm':List AV} (h:∀t∈o.looksAt ops,tm.getD t .bad=tm'.getD t .bad):xp P call ops hp tm o=xp P call ops hp tm' o:=by
 have he:=AFs9 (ops:=ops) h;unfold xp;rw [AQs9 h,BAp9 he];cases hw:ABc9 ops o tm' with
 |none=>rfl
 | some b=>
  cases b with
  |false=>rfl
  | true=>
   simp only;cases ho:o.op<;>try rfl
   rename_i c;simp only;cases hc:c.callee<;>try rfl
   rotate_left
   ·rename_i r name;have hf:evalA tm r=evalA tm' r:=he r (by simp [ho,Zbg,Call.operands,hc]);have hargs:c.args.toList.map (evalA tm)=c.args.toList.map (evalA tm'):=List.map_congr_left fun x hx=>he x (by simp [ho,Zbg,Call.operands,hc];exact .inr (by simpa using hx));simp only [AOt9,hf,hargs]
   rename_i f;have hf:evalA tm f=evalA tm' f:=he f (by simp [ho,Zbg,Call.operands,hc]);have hargs:c.args.toList.map (evalA tm)=c.args.toList.map (evalA tm'):=List.map_congr_left fun x hx=>he x (by simp [ho,Zbg,Call.operands,hc];exact .inr (by simpa using hx));simp only [hf];unfold AJw9;cases (evalA tm' f).asFn<;>try rfl
   rename_i fn first caps
   cases fn<;>simp only [hargs]
theorem ACh9 {tm:List AV} {d:Option Nat} {x:AV} {t:Nat} (h:d≠some t):(putA tm d x)[t]? =tm[t]? :=by
 cases d with
 |none=>rfl
 | some d=>
  have:d≠t:=fun e=>h (by rw [e]);simp [putA,Zcg this]
theorem AEb9 {tm tm':List AV} {t:Nat} (h:tm[t]? =tm'[t]?):tm.getD t .bad=tm'.getD t .bad:=by simp [List.getD,h]
theorem AVq9 {k:Nat} (hd:ASr9 ops k=true) (hk:k≤ops.size):∀(n:Nat) {i:Nat} {tm tmK:List AV},n=k - i→i≤k→xPre P call ops hp ((ops.toList.take k).drop i) tm=some tmK→
 (∀(j:Nat) (o:Oper),i≤j→j<k→ops[j]? =some o→∃x,xp P call ops hp tmK o=some x∧∀d,o.dst=some d→d<tm.length→tmK[d]? =some x)∧
 (∀t,(∀(j:Nat) (o:Oper),i≤j→j<k→ops[j]? =some o→o.dst≠some t)→tmK[t]? =tm[t]?)∧tmK.length=tm.length
 | 0,i,tm,tmK,hn,hi,hx=>by
  have hdrop:(ops.toList.take k).drop i= []:=List.drop_eq_nil_of_le (by simp;omega);rw [hdrop] at hx;simp only [xPre,Option.some.injEq] at hx;subst hx;exact ⟨fun j o h1 h2=>by omega,fun t _=>rfl,rfl⟩
 | n+1,i,tm,tmK,hn,hi,hx=>by
  have hil:i<ops.size:=by omega
  have hoi:ops[i]? =some ops[i]:=by simp [hil]
  have hdrop:(ops.toList.take k).drop i=ops[i]::(ops.toList.take k).drop (i+1):=by
   rw [List.drop_eq_getElem_cons (by simp;omega)];simp
  rw [hdrop] at hx;simp only [xPre] at hx;split at hx<;>try (cases hx;done)
  rename_i x hxp;obtain ⟨h1,h2,h3⟩:=AVq9 hd hk n (i:=i+1) (by omega) (by omega) hx;obtain ⟨hedge,hpre,_⟩:=AEj9 hd hoi;obtain ⟨hpk,hlook,hdist⟩:=hpre (by omega);have hlen:(putA tm ops[i].dst x).length=tm.length:=ABh9 _ _ _;have hsame:∀t∈ops[i].looksAt ops,tmK[t]? =tm[t]? :=by
   intro t ht;have hno:∀(j:Nat) (o:Oper),i≤j→j<k→ops[j]? =some o→o.dst≠some t:=by
    intro j o hij hjk ho hdst;have:=hedge j (hlook t ht j o hjk ho hdst);omega
   rw [h2 t (fun j o hij hjk ho=>hno j o (by omega) hjk ho),ACh9 (hno i ops[i] (Zas _) (by omega) hoi)]
  refine ⟨fun j o hij hjk ho=> ?_,fun t ht=> ?_,h3.trans hlen⟩
  ·rcases Nat.eq_or_lt_of_le hij with rfl|hlt
   ·rw [hoi] at ho;cases ho;refine ⟨x,by rw [AGa9 (tm':=tm) (fun t ht=>AEb9 (hsame t ht))];exact hxp,fun d hdst hdl=> ?_⟩;rw [h2 d (fun j o hij hjk ho hdd=> ?_)]
    ·rw [hdst];simp [putA,hdl]
    ·have:=((AEj9 hd ho).2.1 hjk).2.2 i ops[i] (by omega) hoi (by rw [hdd];simp);exact this (by rw [hdst,hdd])
   ·obtain ⟨x',h4,h5⟩:=h1 j o (by omega) hjk ho;exact ⟨x',h4,fun d hdst hdl=>h5 d hdst (by rw [hlen];exact hdl)⟩
  ·rw [h2 t (fun j o hij hjk ho=>ht j o (by omega) hjk ho),ACh9 (ht i ops[i] (Zas _) (by omega) hoi)]
end
def unl (N:Nat) (listed:Array Bool):List Nat:=(Zay N).filter fun j=> !listed.getD j false
theorem AJk9 {N i:Nat} {listed:Array Bool} (hs:listed.size=N) (hi:i<N) (h0:listed.getD i false=false):(unl N (listed.setIfInBounds i true)).length+1=(unl N listed).length:=by
 have e:unl N (listed.setIfInBounds i true)=(unl N listed).erase i:=by
  have hnd:(unl N listed).Nodup:=List.Pairwise.filter _ List.nodup_range;rw [hnd.erase_eq_filter];unfold unl;rw [List.filter_filter];refine List.filter_congr fun j hj=> ?_;have hjl:j<N:=Zbs.1 hj;simp only [Array.getD_eq_getD_getElem?,Array.getElem?_setIfInBounds];by_cases hji:i=j
  ·subst hji;simp [hs,hjl]
  ·simp [hji,Ne.symm hji]
 have hm:i∈unl N listed:=by simp only [unl,List.mem_filter,Zbs,h0];exact ⟨hi,rfl⟩
 rw [e,List.length_erase_of_mem hm];have:=List.length_pos_of_mem hm;omega
section
variable {P:Program} {S S' S'' X:Pr} {yv:Option Nat} {w w' w'':World} {m m' m'':List MB} {B:List (AV×Value)} {hp hp':List Blk} {hv:List (List Value)} {call:CallT} {a:Act} {o:Oper} {ops:Array Oper}
def pvOf (P:Program) (hp:List Blk) (tm:List AV) (o:Oper):Option (Nat×Loc):=
 match o.guard with
 |none=>AEe9 P ⟨tm,hp, []⟩ o
 |some _=>none
theorem BHt9 {tm:List AV} {pv:List (Nat×Loc)}:AEe9 P ⟨tm,hp,pv⟩ o=AEe9 P ⟨tm,hp, []⟩ o:=by
 unfold AEe9;rfl
theorem AVp9 {tm:List AV} {pv:List (Nat×Loc)} {x:AV} (hk:ADr9 o=true) (h:xp P call ops hp tm o=some x):
 ∃pv',qStep P call ops ⟨tm,hp,pv⟩ o ⟨putA tm o.dst x,hp,pv'⟩∧(∀p∈pvPut pv o.dst,p∈pv')∧(∀p,pvOf P hp tm o=some p→p∈pv'):=by
 unfold xp at h;split at h
 ·rename_i hw;cases h;refine ⟨pvPut pv o.dst, .inl (by simp [xStep,hw]),fun p h=>h,fun p hp=> ?_⟩;unfold pvOf at hp;cases hg:o.guard with
  |none=>simp [ABc9,hg] at hw
  |some g=>simp [hg] at hp
 ·rename_i hw;split at h
  ·rename_i c ho;have hpv:pvOf P hp tm o=none:=by
    unfold pvOf;split
    ·unfold AEe9;rw [ho];cases o.dst<;>rfl
    ·rfl
   split at h
   ·rename_i f hc;split at h<;>try (cases h;done)
    rename_i k args hargs;split at h<;>try (cases h;done)
    rename_i hcl;simp only [Zaj] at h;obtain ⟨r,hr,rfl⟩:=h;have hxa:xa P ⟨tm,hp,pv⟩ o=none:=by simp [xa,ho,hc]
    refine ⟨pvPut pv o.dst, .inl ?_,fun p h=>h,fun p hp=>(by rw [hpv] at hp;cases hp)⟩;simp only [xStep,hw,hxa];simp [xh,ho,hc,hargs,hcl,hr]
   ·rename_i ro name hc;split at h<;>try (cases h;done)
    rename_i k args hargs;split at h<;>try (cases h;done)
    rename_i hcl;simp only [Zaj] at h;obtain ⟨r,hr,rfl⟩:=h;exact ⟨pvPut pv o.dst, .inr (.inr ⟨hw,c,ro,name,k,args,r,ho,hc,hargs,hcl,hr,rfl⟩),fun p h=>h,fun p hp=>(by rw [hpv] at hp;cases hp)⟩
   ·rename_i hc;exact ⟨(AEe9 P ⟨tm,hp,pv⟩ o).toList++pvPut pv o.dst, .inr (.inl ⟨hw,x,h,rfl⟩),fun p h=>List.mem_append_right _ h,fun p hp=>(by rw [hpv] at hp;cases hp)⟩
  ·rename_i hno;by_cases hmk:isMk o=true
   ·have hpv:pvOf P hp tm o=none:=by
     unfold isMk at hmk;split at hmk<;>try (cases hmk;done)
     rename_i ho;unfold pvOf;split
     ·unfold AEe9;rw [ho];cases o.dst<;>rfl
     ·rfl
    exact ⟨(AEe9 P ⟨tm,hp,pv⟩ o).toList++pvPut pv o.dst, .inr (.inl ⟨hw,x,h,rfl⟩),fun p h=>List.mem_append_right _ h,fun p hp=>(by rw [hpv] at hp;cases hp)⟩
   have hxa:xa P ⟨tm,hp,pv⟩ o=none:=by
    unfold xa;split
    ·rename_i c ho;exact absurd ho (hno c)
    ·rfl
   have hxh:xh P call ⟨tm,hp,pv⟩ o=none:=by
    unfold xh;split<;>rename_i ho<;>first|(simp [ADr9,ho] at hk;done)|(simp [isMk,ho] at hmk;done)|(exact absurd ho (hno _))|rfl|(simp only [xq,ho] at h;split at h<;>simp_all)
   refine ⟨(AEe9 P ⟨tm,hp,pv⟩ o).toList++pvPut pv o.dst, .inl (by simp only [xStep,hw,hxa,hxh,h]),fun p h=>List.mem_append_right _ h,fun p hpp=>Zbc _ ?_⟩;unfold pvOf at hpp;split at hpp
   ·rw [BHt9,hpp];simp
   ·cases hpp
 ·cases h
theorem AUk9 {tm tm':List AV} (h:∀t∈o.looksAt ops,tm.getD t .bad=tm'.getD t .bad) (hl:tm.length=tm'.length):AEe9 P ⟨tm,hp, []⟩ o=AEe9 P ⟨tm',hp, []⟩ o:=by
 have hs:∀d:Nat,(tm[d]?).isSome=(tm'[d]?).isSome:=by
  intro d;by_cases hd:d<tm.length
  ·simp [hd,show d<tm'.length by omega]
  ·simp [hd,show ¬d<tm'.length by omega]
 have hop:∀t,Operand.tmp t∈o.op.operands→tm.getD t .bad=tm'.getD t .bad:=fun t ht=>
  h t (Zbc _ (Zdx.2 ⟨.tmp t,by simpa using ht,rfl⟩))
 unfold AEe9;split
 ·rename_i d x hd ho;simp only [hop x (by simp [ho,Zbg]),hs d]
 ·rename_i d t q hd ho;simp only [hop q (by simp [ho,Zbg]),hs d]
 ·rfl
theorem BDb9 {tm tm':List AV} (h:∀t∈o.looksAt ops,tm.getD t .bad=tm'.getD t .bad) (hl:tm.length=tm'.length):pvOf P hp tm o=pvOf P hp tm' o:=by
 unfold pvOf;rw [AUk9 h hl]
def pvAll (P:Program) (hp:List Blk) (tmK:List AV) (pre:List Oper):List (Nat×Loc):=
 (pre.filterMap (pvOf P hp tmK)).filter fun p=>match p.2 with
  | .slot x=>pre.all fun o=>o.dst !=some x
  |_=>true
theorem BOy9 {tm:List AV} {p:Nat×Loc} (h:pvOf P hp tm o=some p):o.dst=some p.1:=by
 unfold pvOf at h;split at h<;>try (cases h;done)
 unfold AEe9 at h;split at h
 ·rename_i d x hd ho;split at h<;>try (cases h;done)
  cases h;exact hd
 ·rename_i d t q hd ho;split at h<;>try (cases h;done)
  split at h<;>try (cases h;done)
  split at h<;>try (cases h;done)
  cases h;exact hd
 ·cases h
theorem BHx9 {r:Option Nat} {Q:Exit→Act→World→Prop} {k:Nat} (hcall:AGy9 P call) (hd:ASr9 ops k=true) (hk:k≤ops.size) {tm0 tmK:List AV}
 (hx1:xPre P call ops hp (ops.toList.take k) tm0=some tmK):
 ∀(n:Nat) {S:Pr} {w:World} {m:List MB} {hv:List (List Value)} {a:Act} {listed:Array Bool} {tm:List AV} {pv:List (Nat×Loc)},
 n=(unl ops.size listed).length→listed.size=ops.size→(∀j,k≤j→listed.getD j false=false)→
 (∀(j:Nat) (o':Oper),ops[j]? =some o'→listed.getD j false=true→∀e∈AAp9 o',listed.getD e false=true)→
 tm.length=tm0.length→
 (∀(j:Nat) (o:Oper) (d:Nat),j<k→ops[j]? =some o→o.dst=some d→listed.getD j false=true→tm[d]? =tmK[d]?)→
 (∀t,(∀(j:Nat) (o:Oper),j<k→ops[j]? =some o→listed.getD j false=true→o.dst≠some t)→tm[t]? =tm0[t]?)→
 (∀(j:Nat) (o:Oper) (p:Nat×Loc),j<k→ops[j]? =some o→listed.getD j false=true→pvOf P hp tmK o=some p→p∈pvAll P hp tmK (ops.toList.take k)→p∈pv)→
 RelS S X yv w m B hv ⟨tm,hp,pv⟩ a→
 Nx S X yv w m B ⟨tmK,hp,pvAll P hp tmK (ops.toList.take k)⟩ a (fun a w=>∀listed:Array Bool,listed.size=ops.size→(∀j,j<ops.size→listed.getD j false=decide (j<k))→wpAnyIn (Fn r) 0 P .any ops Q (ops.size - k) listed a w)→
 wpAnyIn (Fn r) 0 P .any ops Q n listed a w:=by
 obtain ⟨sp1,sp2,sp3⟩:=AVq9 (call:=call) hd hk k (i:=0) (tm:=tm0) (tmK:=tmK) rfl (Nat.zero_le _) (by simpa using hx1);intro n;induction n with
 | zero=>
  intro S w m hv a listed tm pv hn hls hlk hdown htl h1 h2 h3 hr hK;have hall:∀j,j<ops.size→listed.getD j false=true:=by
   intro j hj;cases hh:listed.getD j false with
   |true=>rfl
   | false=>
    have:j∈unl ops.size listed:=by simp only [unl,List.mem_filter,Zbs,hh];exact ⟨hj,rfl⟩
    rw [List.length_eq_zero_iff.1 hn.symm] at this;cases this
  have hkk:k=ops.size:=by
   rcases Nat.lt_or_ge k ops.size with h'|h'
   ·have:=hall k h';rw [hlk k (Zas _)] at this;cases this
   ·omega
  subst hkk;have htm:tm=tmK:=by
   apply List.ext_getElem?;intro t;by_cases hc:∃(j:Nat) (o:Oper),j<ops.size∧ops[j]? =some o∧o.dst=some t
   ·obtain ⟨j,o,g1,g2,g3⟩:=hc;exact h1 j o t g1 g2 g3 (hall j g1)
   ·rw [h2 t (fun j o g1 g2 _ g3=>hc ⟨j,o,g1,g2,g3⟩),sp2 t (fun j o _ g1 g2 g3=>hc ⟨j,o,g1,g2,g3⟩)]
  subst htm;have hpv:∀p∈pvAll P hp tm (ops.toList.take ops.size),p∈pv:=by
   intro p hp';have hp0:=hp';simp only [pvAll,List.mem_filter,Zdx] at hp';obtain ⟨⟨o,ho,hpo⟩,_⟩:=hp';obtain ⟨j,hj⟩:=Zak.1 (List.mem_of_mem_take ho);have hjo:ops[j]? =some o:=by simpa using hj
   exact h3 j o p (Zah.1 hjo).1 hjo (hall j (Zah.1 hjo).1) hpo hp0
  have:=hK S w m hv a (Gs.refl _ _ _ _ _) ⟨hr.1,hr.2.1,fun p hp=>hr.2.2 p (hpv p hp)⟩ rfl rfl listed hls (fun j hj=>by rw [hall j hj];simp [hj]);rw [Nat.sub_self] at this;exact this
 | succ n ih=>
  intro S w m hv a listed tm pv hn hls hlk hdown htl h1 h2 h3 hr hK;by_cases hdone:∀j,j<k→listed.getD j false=true
  ·
   have htm:tm=tmK:=by
    apply List.ext_getElem?;intro t;by_cases hc:∃(j:Nat) (o:Oper),j<k∧ops[j]? =some o∧o.dst=some t
    ·obtain ⟨j,o,g1,g2,g3⟩:=hc;exact h1 j o t g1 g2 g3 (hdone j g1)
    ·rw [h2 t (fun j o g1 g2 _ g3=>hc ⟨j,o,g1,g2,g3⟩),sp2 t (fun j o _ g1 g2 g3=>hc ⟨j,o,g1,g2,g3⟩)]
   subst htm;have hpv:∀p∈pvAll P hp tm (ops.toList.take k),p∈pv:=by
    intro p hp';have hp0:=hp';simp only [pvAll,List.mem_filter,Zdx] at hp';obtain ⟨⟨o,ho,hpo⟩,_⟩:=hp';obtain ⟨j,hj⟩:=Zak.1 ho;rw [Zaq] at hj;split at hj<;>try (cases hj;done)
    rename_i hjk;have hjo:ops[j]? =some o:=by simpa using hj
    exact h3 j o p hjk hjo (hdone j hjk) hpo hp0
   have hlist:∀j,j<ops.size→listed.getD j false=decide (j<k):=by
    intro j hj;by_cases hjk:j<k
    ·rw [hdone j hjk];simp [hjk]
    ·rw [hlk j (by omega)];simp [hjk]
   have hcount:(unl ops.size listed).length=ops.size - k:=by
    have e:unl ops.size listed=(Zay ops.size).filter fun j=> !decide (j<k):=by
     unfold unl;refine List.filter_congr fun j hj=> ?_;rw [hlist j (Zbs.1 hj)]
    rw [e];have e2:Zay ops.size=Zay k++(Zay (ops.size - k)).map (k+ ·):=by
     rw [←List.range_add];congr 1;omega
    rw [e2,List.filter_append];have e3:(Zay k).filter (fun j=> !decide (j<k))= []:=by
     rw [List.filter_eq_nil_iff];intro j hj;simp [Zbs.1 hj]
    rw [e3,List.filter_eq_self.2]
    ·simp
    ·intro j hj;obtain ⟨i,_,rfl⟩:=Zbd.1 hj;simp
   rw [hn,hcount];exact hK S w m hv a (Gs.refl _ _ _ _ _) ⟨hr.1,hr.2.1,fun p hp=>hr.2.2 p (hpv p hp)⟩ rfl rfl listed hls hlist
  ·
   have hex:∃j,j<k∧listed.getD j false=false:=by
    apply Classical.byContradiction;intro hno;exact hdone fun j hj=>by
     cases hh:listed.getD j false with
     |true=>rfl
     |false=>exact absurd ⟨j,hj,hh⟩ hno
   have hmin:∃j,j<k∧listed.getD j false=false∧∀i,i<j→listed.getD i false=true:=by
    obtain ⟨j,hj⟩:=hex;induction j using Nat.strongRecOn with
    | ind j ihj=>
     by_cases hall:∀i,i<j→listed.getD i false=true
     ·exact ⟨j,hj.1,hj.2,hall⟩
     ·have:∃i,i<j∧listed.getD i false=false:=by
       apply Classical.byContradiction;intro hno;exact hall fun i hi=>by
        cases hh:listed.getD i false with
        |true=>rfl
        |false=>exact absurd ⟨i,hi,hh⟩ hno
      obtain ⟨i,hi,hi0⟩:=this;exact ihj i hi ⟨by omega,hi0⟩
   obtain ⟨j0,hj0k,hj00,hj0all⟩:=hmin;have hgt:∀j,j<ops.size→listed.getD j true=listed.getD j false:=by
    intro j hj;simp [hls,hj]
   have hmem:j0∈Zek .any ops listed:=by
    have hj0:j0<ops.size:=by omega
    refine ABg9 (o:=ops[j0]) (by simp [hj0]) (by rw [hgt j0 hj0];exact hj00) fun e he=> ?_;exact hj0all e ((AEj9 hd (by simp [hj0])).1 e he)
   refine ⟨fun h0=>(by rw [h0] at hmem;cases hmem),fun j hj=> ?_⟩;obtain ⟨oj,hoj,hj0,hje⟩:=ACe9 hj;have hjl:j<ops.size:=(Zah.1 hoj).1;rw [hgt j hjl] at hj0;have hjk:j<k:=by
    rcases Nat.lt_or_ge j k with h'|h'
    ·exact h'
    ·have:=AFy9 hdown ops.size j oj hoj hje j0 ((AEj9 hd hoj).2.2 h' j0 (by omega));rw [hj00] at this;cases this
   obtain ⟨hedge,hpre,_⟩:=AEj9 hd hoj;obtain ⟨hpk,hlook,_⟩:=hpre hjk;have hsame:∀t∈oj.looksAt ops,tm[t]? =tmK[t]? :=by
    intro t ht;by_cases hc:∃(i:Nat) (o:Oper),i<k∧ops[i]? =some o∧o.dst=some t
    ·obtain ⟨i,o,g1,g2,g3⟩:=hc;exact h1 i o t g1 g2 g3 (hje i (hlook t ht i o g1 g2 g3))
    ·rw [h2 t (fun j o g1 g2 _ g3=>hc ⟨j,o,g1,g2,g3⟩),sp2 t (fun j o _ g1 g2 g3=>hc ⟨j,o,g1,g2,g3⟩)]
   obtain ⟨x,hxp,hxd⟩:=sp1 j oj (Nat.zero_le _) hjk hoj;have hxp':xp P call ops hp tm oj=some x:=by
    rw [AGa9 (tm':=tmK) (fun t ht=>AEb9 (hsame t ht))];exact hxp
   obtain ⟨pv',hst,hpv1,hpv2⟩:=AVp9 (pv:=pv) hpk hxp';rw [BDb9 (ops:=ops) (tm':=tmK) (fun t ht=>AEb9 (hsame t ht)) (htl.trans sp3.symm)] at hpv2;unfold wpOpIn;simp only [hoj];have hget:∀i,(listed.setIfInBounds j true).getD i false=(if i=j then true else listed.getD i false):=by
    intro i;simp only [Array.getD_eq_getD_getElem?,Array.getElem?_setIfInBounds];by_cases hij:j=i
    ·subst hij;simp [hls,hjl]
    ·simp [hij,Ne.symm hij]
   have hdst:∀(i:Nat) (o:Oper),i<k→i≠j→ops[i]? =some o→oj.dst≠none→o.dst≠oj.dst:=by
    intro i o hik hij ho hne he;rcases Nat.lt_or_ge i j with h'|h'
    ·exact ((AEj9 hd hoj).2.1 hjk).2.2 i o h' ho hne he
    ·exact ((AEj9 hd ho).2.1 hik).2.2 j oj (by omega) hoj (by rw [he];exact hne) he.symm
   refine AFp9 hcall hr hst fun S' w' m' hv' a' hg hr' hdd hsz=> ?_;refine ih (by have:=AJk9 hls hjl hj0;omega) (by simp [hls]) ?_ ?_ (by rw [ABh9];exact htl) ?_ ?_ ?_ hr'
    fun S'' w'' m'' hv'' a'' hg' hr'' hd' hsz'=>hK S'' w'' m'' hv'' a'' (hg.trans hg') hr'' (hd'.trans hdd) (hsz'.trans hsz)
   ·intro i hi;rw [hget,if_neg (by omega)];exact hlk i hi
   ·intro i o' ho' hi e he;rw [hget] at hi ⊢;split at hi
    ·rename_i hij;subst hij;rw [hoj] at ho';cases ho';split
     ·rfl
     ·exact hje e he
    ·split
     ·rfl
     ·exact hdown i o' ho' hi e he
   ·intro i o d hik ho hod hi;rw [hget] at hi;by_cases hij:i=j
    ·subst hij;rw [hoj] at ho;cases ho;rw [hod];by_cases hdl:d<tm.length
     ·rw [hxd d hod (by rw [←htl];exact hdl)];simp [putA,hdl]
     ·simp only [putA];rw [Zby (by simp;omega),Zby (by omega)]
    ·rw [if_neg hij] at hi;rw [ACh9]
     ·exact h1 i o d hik ho hod hi
     ·intro he;exact hdst i o hik hij ho (by rw [he];simp) (by rw [hod,he])
   ·intro t ht;rw [ACh9 (ht j oj hjk hoj (by rw [hget,if_pos rfl]))];exact h2 t fun i o hik ho hi=>ht i o hik ho (by rw [hget];split<;>simp_all)
   ·intro i o p hik ho hi hpo hpa;rw [hget] at hi;by_cases hij:i=j
    ·subst hij;rw [hoj] at ho;cases ho;exact hpv2 p hpo
    ·rw [if_neg hij] at hi;have hin:=h3 i o p hik ho hi hpo hpa;refine hpv1 p ?_;cases hjd:oj.dst with
     |none=>exact hin
     | some d=>
      simp only [pvPut,List.mem_filter,Zal,bne_iff_ne,ne_eq];refine ⟨hin,fun he=> ?_,fun he=> ?_⟩
      ·exact hdst i o hik hij ho (by rw [hjd];simp) (by rw [BOy9 hpo,he,hjd])
      ·simp only [pvAll,List.mem_filter] at hpa;have hpa2:=hpa.2;rw [he] at hpa2;simp only [Zav,bne_iff_ne,ne_eq] at hpa2;have hmem':oj∈ops.toList.take k:=by
        refine Zak.2 ⟨j, ?_⟩;rw [Zaq,if_pos hjk];simpa using hoj
       exact hpa2 oj hmem' hjd
end
end Go.Proofs.YtibhflogmbfpcaaGreatDoor.Am