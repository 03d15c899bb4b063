import Derived.Test.YtibhflogmbfpcaaGreatDoorPoJ0
import Derived.RangeFuncNested
import Derived.Lib.AppendZeros
set_option linter.unusedSimpArgs false
set_option linter.unusedVariables false
namespace Go.Proofs.YtibhflogmbfpcaaGreatDoor.Am
open Go Go.RowKit
open AV renaming toVal? → Zdq, view → Zck
open _root_.Array renaming ext_getElem? → Zcf, getElem?_eq_none → Zcu, getElem?_eq_some_iff → Zah
open Bool renaming and_eq_true → Zal, false_eq_true → Zbt
open Go.Builtin renaming append_ → Zcb, zeroCells → Zaz
open Go.Fence renaming wide → Zdi
open Go.Instr renaming sliceAt → Zdf
open List renaming all_eq_true → Zav, getElem?_append_left → Zan, getElem?_append_right → Zao, getElem?_drop → Zbm, getElem?_eq_getElem → Zbk, getElem?_eq_none → Zby, getElem?_eq_some_iff → Zaa, getElem?_map → Zbf, getElem?_set_ne → Zcg, getElem?_set_self → Zbw, getElem?_take → Zaq, getElem?_take_of_lt → Zci, getElem?_zip_eq_some → Zar, length → Zab, length_nil → Zdm, length_take → Zel, map_cons → Zdu, map_set → Zej, mem_append → Zco, mem_append_left → Zbc, mem_cons → Zbx, mem_cons_of_mem → Zaw, mem_cons_self → Zbb, mem_iff_getElem? → Zak, mem_map → Zbd, mem_of_getElem? → Zbi, mem_or_eq_of_mem_set → Zct, mem_range → Zbs, perm_append_comm_assoc → Zbu, range → Zay, replicate → Zaf
open MStep renaming push → Zed, refl → Zdo
open Nat renaming add_mul → Zca, le_refl → Zas, le_trans → Zch, min_eq_left → Zec, mul_le_mul_right → Zdv
open Go.Obj renaming cells → Zeb
open Go.Op renaming equalIn → Zdt, operands → Zbg
open Option renaming map_eq_some_iff → Zaj, map_none → Zeg, map_some → Zdl
open Go.Region renaming ready → Zek
open Go.Value renaming func → Zcd
open Go.World renaming alloc_heap_new → Zdn, cell?_of_block → Zde, putObj_heap_other → Zbp, putObj_heap_same → Zcv
open AV (bad)
set_option linter.unusedVariables false
def ANh9 (o o':Obj):Prop:=∃(r:Loop) (st:LoopState) (pd:Option Code),o= .loop r∧o'= .loop {r with state:=st,pending:=pd}
theorem ANh9.trans {a b c:Obj} (h:ANh9 a b) (k:ANh9 b c):ANh9 a c:=by
 obtain ⟨r,st,pd,rfl,rfl⟩:=h;obtain ⟨r',st',pd',h1,rfl⟩:=k;cases h1;exact ⟨r,st',pd',rfl,rfl⟩
def BQh9:Obj→Bool
 | .map .. =>true
 | .mapIter .. =>true
 |_=>false
inductive ANg9:Obj→Obj→Prop
 |map (es:Array MapEntry) (c:Nat) (es':Array MapEntry) (c':Nat):ANg9 (.map es c) (.map es' c')
 |iter (b:Option Nat) (since:Nat) (s:Array Nat) (c:Nat) (s':Array Nat) (c':Nat):ANg9 (.mapIter b since s c) (.mapIter b since s' c')
theorem ANg9.trans {a b c:Obj} (h:ANg9 a b) (k:ANg9 b c):ANg9 a c:=by
 cases h<;>cases k<;>constructor
structure Tr (Z:Pr) (L:Nat→Prop) (S:Pr) (w:World) (S':Pr) (w':World):Prop where
 os:w'.os=w.os
 tape:w'.tape=w.tape
 output:w'.output=w.output
 size:w.heap.size≤w'.heap.size
 cells:∀(b:Nat) (c:Array Value) (e:TypeId) (f:Nat×Nat),w.heap[b]? =some (Zeb c e f)→∃c':Array Value,w'.heap[b]? =some (Zeb c' e f)∧c'.size=c.size
 objs:∀(b:Nat) (o:Obj),w.heap[b]? =some o→o.isCells=false→w'.heap[b]? =some o∨(L (b+1)∧∃o',w'.heap[b]? =some o'∧ANh9 o o')∨(L 0∧∃o',w'.heap[b]? =some o'∧ANg9 o o')
 same:∀b i v,(S b i∨¬Z b i)→w.cell? ⟨b,i,none⟩=some v→w'.cell? ⟨b,i,none⟩=some v
 up:∀b i,S b i→S' b i
 new:∀b i,S' b i→S b i∨Z b i∨w.heap.size≤b
 lt:∀b i,S' b i→b<w'.heap.size
structure Tr0 (Z:Pr) (S:Pr) (w:World) (S':Pr) (w':World):Prop where
 size:w.heap.size≤w'.heap.size
 cells:∀(b:Nat) (c:Array Value) (e:TypeId) (f:Nat×Nat),w.heap[b]? =some (Zeb c e f)→∃c':Array Value,w'.heap[b]? =some (Zeb c' e f)∧c'.size=c.size
 same:∀b i v,(S b i∨¬Z b i)→w.cell? ⟨b,i,none⟩=some v→w'.cell? ⟨b,i,none⟩=some v
 up:∀b i,S b i→S' b i
 new:∀b i,S' b i→S b i∨Z b i∨w.heap.size≤b
 lt:∀b i,S' b i→b<w'.heap.size
theorem Tr.tr0 {Z:Pr} {L:Nat→Prop} {S S':Pr} {w w':World} (h:Tr Z L S w S' w'):Tr0 Z S w S' w':=⟨h.size,h.cells,h.same,h.up,h.new,h.lt⟩
section
variable {S S' S'' X X' Z Z':Pr} {L L':Nat→Prop} {yv:Option Nat} {w w' w'':World} {m m':List MB} {A:List (AV×Value)} {hp:List Blk} {hv:List (List Value)}
theorem Tr.refl (Z:Pr) (L:Nat→Prop) (hS:∀b i,S b i→b<w.heap.size):Tr Z L S w S w:=
 ⟨rfl,rfl,rfl,Zas _,fun _ c _ _ h=>⟨c,h,rfl⟩,fun _ _ h _=> .inl h,fun _ _ _ _ h=>h,fun _ _ h=>h,fun _ _ h=> .inl h,hS⟩
theorem Tr.trans (h:Tr Z L S w S' w') (k:Tr Z' L' S' w' S'' w'') (hZ:∀b i,b<w.heap.size→Z' b i→Z b i) (hL:∀b,b≤w.heap.size→L' b→L b):Tr Z L S w S'' w'':=by
 refine ⟨k.os.trans h.os,k.tape.trans h.tape,k.output.trans h.output,Zch h.size k.size,fun b c e f hb=> ?_,fun b o hb ho=> ?_,fun b i v hs hv=> ?_,fun b i hs=>k.up b i (h.up b i hs),fun b i hs=> ?_,k.lt⟩
 ·obtain ⟨c',h1,h2⟩:=h.cells b c e f hb;obtain ⟨c'',h3,h4⟩:=k.cells b c' e f h1;exact ⟨c'',h3,h4.trans h2⟩
 ·have hbl:b<w.heap.size:=(Zah.1 hb).1;rcases h.objs b o hb ho with h1|⟨h1,o',h2,h3⟩|⟨h1,o',h2,h3⟩
  ·rcases k.objs b o h1 ho with h4|⟨h4,h5⟩|⟨h4,h5⟩
   ·exact .inl h4
   ·exact .inr (.inl ⟨hL (b+1) hbl h4,h5⟩)
   ·exact .inr (.inr ⟨hL 0 (Nat.zero_le _) h4,h5⟩)
  ·have ho':o'.isCells=false:=by obtain ⟨_,_,_,_,rfl⟩:=h3;rfl
   rcases k.objs b o' h2 ho' with h4|⟨_,o'',h5,h6⟩|⟨_,o'',h5,h6⟩
   ·exact .inr (.inl ⟨h1,o',h4,h3⟩)
   ·exact .inr (.inl ⟨h1,o'',h5,h3.trans h6⟩)
   ·obtain ⟨_,_,_,_,rfl⟩:=h3;cases h6
  ·have ho':o'.isCells=false:=by cases h3<;>rfl
   rcases k.objs b o' h2 ho' with h4|⟨_,o'',h5,h6⟩|⟨_,o'',h5,h6⟩
   ·exact .inr (.inr ⟨h1,o',h4,h3⟩)
   ·obtain ⟨_,_,_,h7,_⟩:=h6;cases h3<;>cases h7
   ·exact .inr (.inr ⟨h1,o'',h5,h3.trans h6⟩)
 ·have hbl:b<w.heap.size:=World.block_lt_of_cell? w ⟨b,i,none⟩ hv;exact k.same b i v (hs.imp (h.up b i) fun hz hz'=>hz (hZ b i hbl hz')) (h.same b i v hs hv)
 ·rcases k.new b i hs with h1|h1|h1
  ·exact h.new b i h1
  ·by_cases hb:b<w.heap.size
   ·exact .inr (.inl (hZ b i hb h1))
   ·exact .inr (.inr (by omega))
  ·exact .inr (.inr (Zch h.size h1))
theorem Tr.mono' (h:Tr Z L S w S' w') (hZ:∀b i,b<w.heap.size→Z b i→Z' b i) (hL:∀b,L b→L' b):Tr Z' L' S w S' w':=
 ⟨h.os,h.tape,h.output,h.size,h.cells,fun b o hb ho=>(h.objs b o hb ho).imp id fun h1=>h1.imp (fun h1=>⟨hL _ h1.1,h1.2⟩) fun h1=>⟨hL _ h1.1,h1.2⟩,
  fun b i v hs hv=>h.same b i v (hs.imp id fun hz hz'=>hz (hZ b i (World.block_lt_of_cell? w ⟨b,i,none⟩ hv) hz')) hv,
  h.up,fun b i hs=>(h.new b i hs).imp id fun h1=>if hb:b<w.heap.size then h1.imp (hZ b i hb) id else .inr (Nat.le_of_not_lt hb),h.lt⟩
theorem Tr.mono (h:Tr Z L S w S' w') (hZ:∀b i,Z b i→Z' b i) (hL:∀b,L b→L' b):Tr Z' L' S w S' w':=h.mono' (fun b i _=>hZ b i) hL
theorem Tr.putLoop (h:Tr Z L S w S' w') {l:Nat} {rc:Loop} (st:LoopState) (pd:Option Code) (hl:w'.heap[l]? =some (.loop rc)):Tr Z (fun x=>x=l+1∨L x) S w S' (w'.putObj l (.loop {rc with state:=st,pending:=pd})):=by
 have hll:l<w'.heap.size:=(Zah.1 hl).1;have hcell:∀(b i:Nat) (v:Value),w'.cell? ⟨b,i,none⟩=some v→(w'.putObj l (.loop {rc with state:=st,pending:=pd})).cell? ⟨b,i,none⟩=some v:=by
  intro b i v hv;have hbd:b≠l:=by
   rintro rfl;obtain ⟨o1,h1,h2⟩:=cells_of_cell hv;simp only at h1;rw [hl] at h1;cases h1;cases h2
  rw [Zde (w:=w') (a:=⟨b,i,none⟩) (Zbp hbd)];exact hv
 refine ⟨h.os,h.tape,h.output,by simpa using h.size,fun b c e f hb=> ?_,fun b o hb ho=> ?_,fun b i v hs hv=>hcell b i v (h.same b i v hs hv),h.up,h.new,fun b i hs=>by simpa using h.lt b i hs⟩
 ·obtain ⟨c',h1,h2⟩:=h.cells b c e f hb;have hbd:b≠l:=by rintro rfl;rw [hl] at h1;cases h1
  exact ⟨c',by rw [Zbp hbd];exact h1,h2⟩
 ·by_cases hbl:b=l
  ·subst hbl;refine .inr (.inl ⟨.inl rfl,_,Zcv hll, ?_⟩);rcases h.objs b o hb ho with h1|⟨_,o',h1,h2⟩|⟨_,o',h1,h2⟩
   ·rw [hl] at h1;cases h1;exact ⟨rc,st,pd,rfl,rfl⟩
   ·rw [hl] at h1;cases h1;exact h2.trans ⟨rc,st,pd,rfl,rfl⟩
   ·rw [hl] at h1;cases h1;cases h2
  ·rw [Zbp hbl];exact (h.objs b o hb ho).imp id fun h1=>h1.imp (fun h1=>⟨.inr h1.1,h1.2⟩) fun h1=>⟨.inr h1.1,h1.2⟩
theorem Gs.tr (h:Gs S X none w m S' w' m') (hlt:∀b i,S' b i→b<w'.heap.size):Tr (fun b i=>¬X b i) (fun _=>False) S w S' w':=
 ⟨h.ag.os,h.ag.tape,h.ag.output,h.ag.size,h.ag.cells,fun b o hb ho=> .inl (h.ag.objs b o hb ho (by simp)),fun b i v hs hv=>h.ag.same b i v (hs.imp id fun hx=>Classical.not_not.1 hx) hv,
  h.up,fun b i hs=>(h.new b i hs).imp id .inl,hlt⟩
theorem RV.tr0 (h:Tr0 Z S w S' w') {x:AV} {v:Value} (hr:RV S w m yv x v):RV S' w' m yv x v:=by
 have hdr:∀ {x v},DR S w x v→DR S' w' x v:=fun hd=>hd.ext h.up fun b i v hs hv=>h.same b i v (.inl hs) hv;induction hr with
 |d h1=>exact .d (hdr h1)
 |agg hl _ ih=>exact .agg hl (fun i c v h h'=>ih i c v h h')
 |tup hl _ ih=>exact .tup hl (fun i c v h h'=>ih i c v h h')
 | own h1 ho=>
  obtain ⟨cur,h2,h3,h4⟩:=ho;obtain ⟨cur',h5,h6⟩:=h.cells _ _ _ _ h2;exact .own (hdr h1) ⟨cur',h5,h3,h6.trans h4⟩
 |ownNil=>exact .ownNil
 |full h1=>exact .full (hdr h1)
 | rptr vals hne hsp hs hc hr h1=>
  exact .rptr vals hne hsp (fun j c h'=>h.up _ _ (hs j c h')) (fun j c h'=>h.same _ _ _ (.inl (hs j c h')) (hc j c h')) (fun j c h'=>hdr (hr j c h')) h1
 |ref h1 hfit hn=>exact .ref h1 hfit hn
 |ptr h1=>exact .ptr h1
 | gref h1 hv' h2 hc=>
  refine .gref h1 hv' h2 fun he=> ?_;obtain ⟨hl,cap,h1',h2,h3,cur,e,h4,h5⟩:=hc he;obtain ⟨cur',h6,h7⟩:=h.cells _ _ _ _ h4;exact ⟨hl,cap,h1',h2,h3,cur',e,h6,h7.trans h5⟩
 |gptr h1 hv' h2 hc=>exact .gptr h1 hv' h2 hc
 |fn hf hl hl' _ _ ih ih'=>exact .fn hf hl hl' (fun i c v h h'=>ih i c v h h') (fun i c v h h'=>ih' i c v h h')
 |yl h1=>exact .yl h1
 |bad=>exact .bad
theorem RV.tr (h:Tr Z L S w S' w') {x:AV} {v:Value} (hr:RV S w m yv x v):RV S' w' m yv x v:=hr.tr0 h.tr0
theorem BVp9 {x:AV} {v:Value} {b:Nat} (hr:RV S w m yv x v) (ho:ownB (x,v)=some b):b<w.heap.size:=by
 cases hr<;>simp only [ownB] at ho<;>try (cases ho)
 rename_i ho;obtain ⟨cur,h1,_⟩:=ho;exact (Zah.1 h1).1
theorem Rel.still0 (h:Rel S X yv w m A hp hv) (ht:Tr0 Z S w S' w') (hZm:∀(g:Nat) (blk:Blk) (p:MB),hp[g]? =some blk→m[g]? =some p→blk.fro=false→∀i,¬Z p.b i)
 (hZo:∀p∈A,∀b,ownB p=some b→∀i,¬Z b i) (hX:∀b i,X' b i→X b i∨(w.heap.size≤b∧b<w'.heap.size)):Rel S' X' yv w' m A hp hv:=by
 refine ⟨?_,fun p hp=>(h.rv p hp).tr0 ht,h.pw,h.nm, ?_,h.mnd,h.ml,h.hl, ?_,fun g j v hv=>by
  obtain ⟨g1,g2,g3⟩:=h.gl g j v hv;exact ⟨ht.up _ _ g1,ht.same _ _ _ (.inl g1) g2,g3⟩⟩
 ·intro b i hbi;rcases hbi with h1|h1
  ·exact ht.lt b i h1
  ·rcases hX b i h1 with h2|⟨_,h2⟩
   ·exact Nat.lt_of_lt_of_le (h.lt b i (.inr h2)) ht.size
   ·exact h2
 ·intro p hp b hb;have hbl:=BVp9 (h.rv p hp) (x:=p.1) (v:=p.2) hb;refine ⟨fun i hx=> ?_,fun i hi hs=> ?_⟩
  ·rcases hX b i hx with h2|⟨h2,_⟩
   ·exact (h.sp p hp b hb).1 i h2
   ·omega
  ·rcases ht.new b i hs with h2|h2|h2
   ·exact (h.sp p hp b hb).2 i hi h2
   ·exact hZo p hp b hb i h2
   ·omega
 ·intro g blk p vs h1 h2 h3;obtain ⟨a1,a2,a3,a4,a5,⟨cur,e,a6,a7,a8⟩,a9,a10⟩:=h.bl g blk p vs h1 h2 h3;have hlt:p.b<w.heap.size:=(Zah.1 a6).1;obtain ⟨cur',c1,c2⟩:=ht.cells _ _ _ _ a6;refine ⟨a1,a2,a3,a4,a5,⟨cur',e,c1, ?_,by omega⟩,fun hf i=>⟨fun hs=> ?_,fun hx=> ?_⟩,fun hf i hi=>ht.up _ _ (a10 hf i hi)⟩
  ·rw [←a7];apply List.ext_getElem?;intro i;simp only [Zaq];split
   ·rename_i hi;have hcur:i<cur.size:=by omega
    have hce:w.cell? ⟨p.b,i,none⟩=some cur[i]:=by simp [World.cell?,a6,hcur]
    have hs:S p.b i∨¬Z p.b i:=by
     cases hfr:blk.fro with
     |true=>exact .inl (a10 hfr i hi)
     |false=>exact .inr (hZm g blk p h1 h2 hfr i)
    have hce':=ht.same _ _ _ hs hce;have hcur':i<cur'.size:=by omega
    simp only [World.cell?,c1] at hce';simp [hcur'] at hce';simp [hcur,hcur',hce']
   ·rfl
  ·rcases ht.new _ _ hs with h4|h4|h4
   ·exact (a9 hf i).1 h4
   ·exact hZm g blk p h1 h2 hf i h4
   ·omega
  ·rcases hX _ _ hx with h4|⟨h4,_⟩
   ·exact (a9 hf i).2 h4
   ·omega
theorem Rel.still (h:Rel S X yv w m A hp hv) (ht:Tr Z L S w S' w') (hZm:∀(g:Nat) (blk:Blk) (p:MB),hp[g]? =some blk→m[g]? =some p→blk.fro=false→∀i,¬Z p.b i)
 (hZo:∀p∈A,∀b,ownB p=some b→∀i,¬Z b i) (hX:∀b i,X' b i→X b i∨(w.heap.size≤b∧b<w'.heap.size)):Rel S' X' yv w' m A hp hv:=h.still0 ht.tr0 hZm hZo hX
theorem BBp9 {d:Nat} {o o':Obj} (hd:w.heap[d]? =some o) (ho:o.isCells=false) (hS:∀b i,S b i→b<w.heap.size):Tr0 Z S w S (w.putObj d o'):=by
 have hcell:∀(b i:Nat) (v:Value),w.cell? ⟨b,i,none⟩=some v→(w.putObj d o').cell? ⟨b,i,none⟩=some v:=by
  intro b i v hv;have hbd:b≠d:=by
   rintro rfl;obtain ⟨o1,h1,h2⟩:=cells_of_cell hv;simp only at h1;rw [hd] at h1;cases h1;rw [ho] at h2;cases h2
  rw [Zde (w:=w) (a:=⟨b,i,none⟩) (Zbp hbd)];exact hv
 refine ⟨by simp,fun b c e f hb=>⟨c, ?_,rfl⟩,fun b i v _ hv=>hcell b i v hv,fun _ _ h=>h,fun _ _ h=> .inl h,fun b i h=>by simpa using hS b i h⟩;have hbd:b≠d:=by rintro rfl;rw [hd] at hb;cases hb;cases ho
 rw [Zbp hbd];exact hb
theorem Rel.putObj (h:Rel S X yv w m A hp hv) {d:Nat} {o o':Obj} (hd:w.heap[d]? =some o) (ho:o.isCells=false):Rel S X yv (w.putObj d o') m A hp hv:=
 h.still0 (Z:=fun _ _=>False) (BBp9 hd ho fun b i hs=>h.lt b i (.inl hs)) (fun _ _ _ _ _ _ _ h=>h) (fun _ _ _ _ _ h=>h) (fun _ _ h=> .inl h)
structure Went (L:Nat→Prop) (S X V:Pr) (w:World) (S' X' V':Pr) (w':World):Prop where
 tr:Tr (fun b i=>¬X b i∨V b i) L S w S' w'
 xs:∀b i,X b i→X' b i
 vs:∀b i,V' b i→V b i∨w.heap.size≤b
theorem Went.refl {V:Pr} (hS:∀b i,S b i→b<w.heap.size):Went L S X V w S X V w:=⟨Tr.refl _ _ hS,fun _ _ h=>h,fun _ _ h=> .inl h⟩
theorem Went.trans {V V' V'' X'':Pr} (h:Went L S X V w S' X' V' w') (k:Went L S' X' V' w' S'' X'' V'' w''):Went L S X V w S'' X'' V'' w'':=
 ⟨h.tr.trans k.tr (fun b i hb hz=>hz.elim (fun h1=> .inl fun h2=>h1 (h.xs b i h2)) fun h1=>(h.vs b i h1).elim .inr fun h2=>absurd h2 (by omega)) (fun _ _ h=>h),
  fun b i hx=>k.xs b i (h.xs b i hx),fun b i hv=>(k.vs b i hv).elim (h.vs b i) fun h1=> .inr (Zch h.tr.size h1)⟩
theorem Gs.went {V:Pr} (h:Gs S X none w m S' w' m') (hlt:∀b i,S' b i→b<w'.heap.size):Went L S X V w S' X V w':=
 ⟨(h.tr hlt).mono (fun _ _ h=> .inl h) (fun _ h=>h.elim),fun _ _ h=>h,fun _ _ h=> .inl h⟩
theorem Rel.lessX (h:Rel S X yv w m A hp hv) (hX:∀b i,X' b i→X b i):Rel S X' yv w m A hp hv:=
 ⟨fun b i hbi=>h.lt b i (hbi.imp id (hX b i)),h.rv,h.pw,h.nm,fun p hp b hb=>⟨fun i hx=>(h.sp p hp b hb).1 i (hX b i hx),(h.sp p hp b hb).2⟩,h.mnd,h.ml,h.hl,
  fun g blk p vs h1 h2 h3=>let ⟨a1,a2,a3,a4,a5,a6,a9,a10⟩:=h.bl g blk p vs h1 h2 h3;⟨a1,a2,a3,a4,a5,a6,fun hf i=>⟨(a9 hf i).1,fun hx=>(a9 hf i).2 (hX _ _ hx)⟩,a10⟩,h.gl⟩
end
structure Env (P:Program) where
 β:Type
 N:Nat
 yl:Option Nat
 L:Nat→Prop
 E:β→Pr→Pr→World→Prop
 Y:β→List AV→(Bool→β→Prop)→Prop
 Llt:∀ {x},L (x+1)→x<N
 Ymono:∀ {b args} {Q Q':Bool→β→Prop},Y b args Q→(∀c b',Q c b'→Q' c b')→Y b args Q'
 stable:∀ {b S V w S' w'},E b S V w→Tr (fun b i=>¬V b i) (fun _=>False) S w S' w'→E b S' V w'
 stableO:∀ {b S V w d o} (o':Obj),E b S V w→N≤d→w.heap[d]? =some o→o.isCells=false→BQh9 o=false→E b S V (w.putObj d o')
 yok:∀ {b args Qy S V w vs l},Y b args Qy→E b S V w→yl=some l→args.length=Zab vs→(∀(i:Nat) (x:AV) (v:Value),args[i]? =some x→vs[i]? =some v→RV S w [] none x v)→(∀b i,S b i→b<w.heap.size)→
  ∃ f tmps assign body,(Instr.yield l (List.toArray vs)).run P w= .ok (.round l f tmps assign body) w∧
   RoundIn Zdi 0 P l f tmps assign body w (fun e w'=>∃cont b' S' V',e= .returned (.bool cont)∧Qy cont b'∧E b' S' V' w'∧Tr V L S w S' w'∧
    (∀b i,V b i→V' b i)∧(∀b i,V' b i→V b i∨(w.heap.size≤b∧b<w'.heap.size)))
def Env.alone (P:Program) (yl:Option Nat) (N:Nat) (E:Pr→Pr→World→Prop) (h:∀ {S V w S' w'},E S V w→Tr (fun b i=>¬V b i) (fun _=>False) S w S' w'→E S' V w')
 (h':∀ {S V w d o} (o':Obj),E S V w→N≤d→w.heap[d]? =some o→o.isCells=false→BQh9 o=false→E S V (w.putObj d o')):Env P:=
 {β:=Unit,N:=N,yl:=yl,L:=fun _=>False,E:=fun _=>E,Y:=fun _ _ _=>False,Llt:=fun h=>h.elim,Ymono:=fun h _=>h,stable:=h,stableO:=h',yok:=fun h=>h.elim}
def Marks (lo:Nat) (w:World) (ds:List Deferred):Prop:=∃bs:List Nat,ds=bs.map (fun b=> {target:= .collected b,args:=#[]})∧bs.Nodup∧∀b∈bs,lo≤b∧w.heap[b]? =some (.deferred (some []))
def APc9 (r:Option Nat) (w:World):Prop:=∀l,r=some l→∃rec,w.heap[l]? =some (.loop rec)
section
variable {P:Program} {S S' S'' X X' V V' Z:Pr} {L:Nat→Prop} {r:Option Nat} {lo:Nat} {yv:Option Nat} {w w' w'':World} {m m' m'':List MB} {B:List (AV×Value)} {hp hp':List Blk} {hv hv':List (List Value)} {call:CallT} {s s':RS} {a a':Act} {o:Oper} {ops:Array Oper} {Ev:Env P}
theorem Marks.tr {lo:Nat} {ds:List Deferred} (h:Marks lo w ds) (ht:Tr Z L S w S' w'):Marks lo w' ds:=by
 obtain ⟨bs,h1,h2,h3⟩:=h;refine ⟨bs,h1,h2,fun b hb=>⟨(h3 b hb).1, ?_⟩⟩;rcases ht.objs b _ (h3 b hb).2 rfl with h4|⟨_,o',h4,_,_,_,h5,_⟩|⟨_,o',h4,h5⟩
 ·exact h4
 ·cases h5
 ·cases h5
theorem APc9.tr (h:APc9 r w) (ht:Tr Z L S w S' w'):APc9 r w':=by
 intro l hl;obtain ⟨rec,h1⟩:=h l hl;rcases ht.objs l _ h1 rfl with h4|⟨_,o',h4,_,_,_,h5,h6⟩|⟨_,o',h4,h5⟩
 ·exact ⟨rec,h4⟩
 ·exact ⟨_,by rw [h4,h6]⟩
 ·cases h5
structure Tie (Ev:Env P) (lo:Nat) (r:Option Nat) (S X V:Pr) (w:World) (m:List MB) (B:List (AV×Value)) (hv:List (List Value)) (s:RS) (b:Ev.β) (a:Act):Prop where
 rel:RelS S X Ev.yl w m B hv s a
 sub:∀b i,V b i→X b i
 env:Ev.E b S V w
 round:APc9 r w
 marks:Marks lo w a.defers
 base:Ev.N≤lo∧lo≤w.heap.size
theorem RelS.slt {yv:Option Nat} (h:RelS S X yv w m B hv s a):∀b i,S b i→b<w.heap.size:=fun b i hs=>h.2.1.lt b i (.inl hs)
theorem Tie.step {b:Ev.β} (h:Tie Ev lo r S X V w m B hv s b a) (hg:Gs S X none w m S' w' m') (hr:RelS S' X Ev.yl w' m' B hv' s' a') (hd:a'.defers=a.defers):Tie Ev lo r S' X V w' m' B hv' s' b a':=by
 have ht:=hg.tr hr.slt;exact ⟨hr,h.sub,Ev.stable h.env (ht.mono (fun b i hx hv=>hx (h.sub b i hv)) (fun _ h=>h)),h.round.tr ht,hd▸h.marks.tr ht,h.base.1,Zch h.base.2 ht.size⟩
def Goes (Ev:Env P) (lo:Nat) (r:Option Nat) (S X V:Pr) (w:World) (m:List MB) (B:List (AV×Value)) (s':RS) (b':Ev.β) (K:Act→World→Prop):Prop:=
 ∀S' X' V' w' m' hv' a',Went Ev.L S X V w S' X' V' w'→MStep m m'→Tie Ev lo r S' X' V' w' m' B hv' s' b' a'→K a' w'
theorem Goes.nx {b:Ev.β} {K:Act→World→Prop} (h:Tie Ev lo r S X V w m B hv s b a) (hK:Goes Ev lo r S X V w m B s' b K):Nx S X Ev.yl w m B s' a K:=
 fun S' w' m' hv' a' hg hr hd hsz=>hK S' X V w' m' hv' a' (hg.went hr.slt) hg.ms (h.step hg hr hd)
def AKn9 (tm:List AV) (o:Oper):Option (List AV):=
 match o.op with
 | .call c=>match c.callee with
  | .value f=>match evalA tm f with
   | .yl=>some ((c.args.toList.map (evalA tm)).map Zck)
   |_=>none
  |_=>none
 |_=>none
def AMb9 (tm:List AV) (o:Oper):Option (Nat×List AV):=
 match o.op with
 | .call c=>match c.callee with
  | .value f=>AJw9 tm (evalA tm f) c.args
  |_=>none
 |_=>none
def AHz9:CallT:=⟨fun _ _ _=>none,fun _ _ _=>none⟩
theorem AKu9:AGy9 P AHz9:=⟨fun _ _ _ _ h=>(by cases h),fun _ _ _ _ _ h=>(by cases h)⟩
def ExtOk (P:Program) (o:Oper) (s s':RS):Prop:=∀(r:Option Nat) (S X:Pr) (yv:Option Nat) (w:World) (m:List MB) (B:List (AV×Value)) (hv:List (List Value)) (a:Act) (K:Act→World→Prop) (Q:Exit→Act→World→Prop),
 RelS S X yv w m B hv s a→Nx S X yv w m B s' a K→o.wpIn (Fn r) 0 P a w K Q
def DemOk (P:Program) (o:Oper) (s:RS) (T:RS→Prop):Prop:=∀(r:Option Nat) (S X:Pr) (yv:Option Nat) (w:World) (m:List MB) (B:List (AV×Value)) (hv:List (List Value)) (a:Act) (K:Act→World→Prop) (Q:Exit→Act→World→Prop),
 RelS S X yv w m B hv s a→(∀s',T s'→Nx S X yv w m B s' a K)→o.wpIn (Fn r) 0 P a w K Q
theorem ExtOk.dem {s s':RS} (h:ExtOk P o s s'):DemOk P o s (fun t=>t=s'):=fun r S X yv w m B hv a K Q hr hK=>h r S X yv w m B hv a K Q hr (hK s' rfl)
def FrzOk (s s1:RS):Prop:=∀(S X:Pr) (yv:Option Nat) (w:World) (m:List MB) (B:List (AV×Value)) (hv:List (List Value)) (a:Act),
 RelS S X yv w m B hv s a→∃S',Gs S X none w m S' w m∧RelS S' X yv w m B hv s1 a
theorem FrzOk.rfl {s:RS}:FrzOk s s:=fun S X yv w m B hv a h=>⟨S,Gs.refl S X none w m,h⟩
def EnvOk (Ev:Env P) (o:Oper) (s:RS) (b:Ev.β) (T:RS→Ev.β→Prop):Prop:=∀(lo:Nat) (r:Option Nat) (S X V:Pr) (w:World) (m:List MB) (B:List (AV×Value)) (hv:List (List Value)) (a:Act) (K:Act→World→Prop) (Q:Exit→Act→World→Prop),
 Tie Ev lo r S X V w m B hv s b a→(∀s' b',T s' b'→Goes Ev lo r S X V w m B s' b' K)→o.wpIn (Fn r) 0 P a w K Q
def wOps (Ev:Env P) (ops:Array Oper):List Oper→RS→Ev.β→(RS→Ev.β→Prop)→Prop
 | [],s,b,Q=>Q s b
 | o::l,s,b,Q=>∃s0,FrzOk s s0∧(
  (∃s',xStep P AHz9 ops s0 o=some s'∧wOps Ev ops l s' b Q)∨
  (ABc9 ops o s0.tm=some true∧∃k args,AMb9 s0.tm o=some (k,args)∧
   ((ABy9 args=true∧∃x,PCall P k args x∧wOps Ev ops l {tm:=putA s0.tm o.dst x.view,hp:=s0.hp,pv:=pvPut s0.pv o.dst} b Q)∨
    (∃x hp',SCall P k args s0.hp x hp'∧wOps Ev ops l {tm:=putA s0.tm o.dst x.view,hp:=hp',pv:= []} b Q)))∨
  (ABc9 ops o s0.tm=some true∧∃args,AKn9 s0.tm o=some args∧ABy9 args=true∧
   Ev.Y b args fun cont b'=>wOps Ev ops l {tm:=putA s0.tm o.dst (.d (.s (.bool cont))),hp:=s0.hp,pv:= []} b' Q)∨
  (ABc9 ops o s0.tm=some true∧((∃T:RS→Prop,DemOk P o s0 T∧∀s',T s'→wOps Ev ops l s' b Q)∨
   (∃T:RS→Ev.β→Prop,EnvOk Ev o s0 b T∧∀s' b',T s' b'→wOps Ev ops l s' b' Q))))
theorem AWs9 {k:Nat} {args:List AV} (h:AMb9 s.tm o=some (k,args)):xa P s o=none:=by
 unfold AMb9 at h;split at h<;>try (cases h;done)
 rename_i c ho;split at h<;>try (cases h;done)
 rename_i f hc;simp [xa,ho,hc]
theorem BQc9 {k:Nat} {args:List AV} {x:AV} (hw:ABc9 ops o s.tm=some true) (h:AMb9 s.tm o=some (k,args)) (hcl:ABy9 args=true) (hr:call.p o.dst k args=some x):
 xStep P call ops s o=some {tm:=putA s.tm o.dst x.view,hp:=s.hp,pv:=pvPut s.pv o.dst}:=by
 have hxa:=AWs9 (P:=P) h;unfold AMb9 at h;split at h<;>try (cases h;done)
 rename_i c ho;split at h<;>try (cases h;done)
 rename_i f hc;simp only [xStep,hw,hxa];simp [xh,ho,hc,h,hcl,hr]
theorem BQb9 {k:Nat} {args:List AV} {x:AV} {hp':List Blk} (hw:ABc9 ops o s.tm=some true) (h:AMb9 s.tm o=some (k,args)) (hp:call.p o.dst k args=none) (hr:call.s k args s.hp=some (x,hp')):
 xStep P call ops s o=some {tm:=putA s.tm o.dst x.view,hp:=hp',pv:= []}:=by
 have hxa:=AWs9 (P:=P) h;unfold AMb9 at h;split at h<;>try (cases h;done)
 rename_i c ho;split at h<;>try (cases h;done)
 rename_i f hc;simp only [xStep,hw,hxa];simp [xh,ho,hc,h,hp,hr]
open Classical in
noncomputable def oneP (k:Nat) (args:List AV) (x:AV):CallT:=⟨fun _ k' args'=>if k'=k∧args'=args then some x else none,fun _ _ _=>none⟩
open Classical in
noncomputable def oneS (k:Nat) (args:List AV) (hp:List Blk) (x:AV) (hp':List Blk):CallT:=⟨fun _ _ _=>none,fun k' args' hp0=>if k'=k∧args'=args∧hp0=hp then some (x,hp') else none⟩
theorem BVr9 {k:Nat} {args:List AV} {x:AV} (h:PCall P k args x):AGy9 P (oneP k args x):=by
 refine ⟨fun d f azz r hr=> ?_,fun _ _ _ _ _ h=>by cases h⟩;simp only [oneP] at hr;split at hr
 ·rename_i hc;obtain ⟨rfl,rfl⟩:=hc;cases hr;exact h
 ·cases hr
theorem BVq9 {k:Nat} {args:List AV} {x:AV} {hp':List Blk} (h:SCall P k args hp x hp'):AGy9 P (oneS k args hp x hp'):=by
 refine ⟨fun _ _ _ _ h=>by (cases h),fun f azz hp0 r hp1 hr=> ?_⟩;simp only [oneS] at hr;split at hr
 ·rename_i hc;obtain ⟨rfl,rfl,rfl⟩:=hc;cases hr;exact h
 ·cases hr
theorem AYi9 {b:Ev.β} {K:Act→World→Prop} {Q:Exit→Act→World→Prop} {args:List AV} {Qy:Bool→Ev.β→Prop} (h:Tie Ev lo r S X V w m B hv s b a) (hw:ABc9 ops o s.tm=some true)
 (hy:AKn9 s.tm o=some args) (hcl:ABy9 args=true) (hY:Ev.Y b args Qy)
 (hK:∀cont b',Qy cont b'→Goes Ev lo r S X V w m B {tm:=putA s.tm o.dst (.d (.s (.bool cont))),hp:=s.hp,pv:= []} b' K):o.wpIn (Fn r) 0 P a w K Q:=by
 unfold AKn9 at hy;split at hy<;>try (cases hy;done)
 rename_i c ho;split at hy<;>try (cases hy;done)
 rename_i f hc;split at hy<;>try (cases hy;done)
 rename_i hf;simp only [Option.some.injEq] at hy;subst hy;have hev:=AAj9 h.rel;have hfv:=hev f;rw [hf] at hfv;generalize hfe:a.eval f=fv at hfv;cases hfv with
 | yl hyl=>
  rename_i l;have hl:((c.args.toList.map (evalA s.tm)).map Zck).length=(c.args.map a.eval).toList.length:=by simp
  have hargs:∀(i:Nat) (x:AV) (v:Value),((c.args.toList.map (evalA s.tm)).map Zck)[i]? =some x→((c.args.map a.eval).toList)[i]? =some v→RV S w [] none x v:=by
   intro i x v h1 h2;have hcx:=ABj9 hcl i x h1;simp only [Zbf,Zaj,Array.getElem?_toList,Array.getElem?_map] at h1 h2;obtain ⟨y,⟨z,h3,rfl⟩,rfl⟩:=h1;obtain ⟨z',h4,rfl⟩:=h2;rw [h3] at h4;cases h4;exact (RV.view (hev z)).closed hcx
  obtain ⟨f',tmps,assign,body,hrun,hround⟩:=Ev.yok hY h.env hyl hl hargs h.rel.slt;refine ⟨fun f _=>trivial, ?_⟩;have hexec:(execOp a.eval o).run P w= .ok (.round l f' tmps assign body) w:=by
   unfold execOp;rw [ho];rw [Array.toArray_toList] at hrun;simp [resolve,hc,hfe,Deferred.ofValue,invoke,hrun]
  rw [Oper.semAt_eq _ _ _ (by simp [ho]),hexec];refine ⟨fun hd=>(by cases hd), ?_⟩;refine (RoundIn.mono hround ?_:RoundIn Zdi 0 P l f' tmps assign body w _);rintro e w' ⟨cont,b',S',V',rfl,g1,g2,g3,g4,g5⟩;have hrel:Rel S' (fun b i=>X b i∨V' b i) Ev.yl w' m (s.tm.zip a.tmps.toList++(B++AAa9 s.hp hv)) s.hp hv:=by
   refine h.rel.2.1.still g3 (fun g blk p h1 h2 hfr i hv'=> ?_) (fun p hp b hb i hv'=> ?_) (fun b i hx=>hx.elim .inl fun h1=>(g5 b i h1).imp (h.sub b i) id)
   ·obtain ⟨vs,hvs⟩:∃vs,hv[g]? =some vs:=by
     have:g<hv.length:=by rw [h.rel.2.1.hl];exact (Zaa.1 h1).1
     exact ⟨hv[g],by simp [this]⟩
    exact ((h.rel.2.1.bl g blk p vs h1 h2 hvs).2.2.2.2.2.2.1 hfr i).2 (h.sub _ _ hv')
   ·exact (h.rel.2.1.sp p hp b hb).1 i (h.sub _ _ hv')
  refine hK cont b' g1 S' (fun b i=>X b i∨V' b i) V' w' m hv _ ⟨g3.mono (fun _ _ h=> .inr h) (fun _ h=>h),fun _ _ h=> .inl h,fun b i h=>(g5 b i h).imp id fun h=>h.1⟩ (Zdo m) ⟨⟨by rw [ABh9,AUl9];exact h.rel.1, ?_,by intro p hp;cases hp⟩,fun b i hv'=> .inr hv',g2,h.round.tr g3, ?_,h.base.1,Zch h.base.2 g3.size⟩
  ·exact (hrel.cons (x:= .d (.s (.bool cont))) (v:= .bool cont) (.d (.s _)) rfl).putTmp h.rel.1 o.dst
  ·rw [ARn9];exact h.marks.tr g3
theorem AVs9 {l:List Oper} {b:Ev.β} {K:Act→World→Prop} {Q:Exit→Act→World→Prop} {R:RS→Ev.β→Prop} (h:Tie Ev lo r S X V w m B hv s b a) (hx:wOps Ev ops (o::l) s b R)
 (hK:∀s' b',wOps Ev ops l s' b' R→Goes Ev lo r S X V w m B s' b' K):
 if Region.wanted o (yielded ops a.tmps) then o.wpIn (Fn r) 0 P a w K Q else (∀f,o.about P w a.eval=some f→(Fn r).fn f)∧K (a.put o.dst undef) w:=by
 simp only [wOps] at hx;obtain ⟨s0,hfz,hx⟩:=hx;obtain ⟨S0,hg0,hr0⟩:=hfz S X Ev.yl w m B hv a h.rel;have h0:Tie Ev lo r S0 X V w m B hv s0 b a:=h.step hg0 hr0 rfl;have hK0:∀s' b',wOps Ev ops l s' b' R→Goes Ev lo r S0 X V w m B s' b' K:=fun s' b' hw S' X' V' w' m' hv' a' h1 h2 h3=>hK s' b' hw S' X' V' w' m' hv' a' ((hg0.went hr0.slt).trans h1) h2 h3;rcases hx with ⟨s',h1,h2⟩|⟨hw,k,args,h1,h2⟩|⟨hw,args,h1,h2,h3⟩|⟨hw,⟨T,h1,h2⟩|⟨T,h1,h2⟩⟩
 ·exact AGz9 AKu9 h0.rel h1 ((hK0 s' b h2).nx h0)
 ·rcases h2 with ⟨hcl,x,hp,h2⟩|⟨x,hp',hs,h2⟩
  ·exact AGz9 (BVr9 hp) h0.rel (BQc9 hw h1 hcl (by simp [oneP])) ((hK0 _ b h2).nx h0)
  ·exact AGz9 (BVq9 hs) h0.rel (BQb9 hw h1 rfl (by simp [oneS])) ((hK0 _ b h2).nx h0)
 ·rw [ACk9 h0.rel hw];simp only [if_true];exact AYi9 h0 hw h1 h2 h3 fun cont b' hq=>hK0 _ b' hq
 ·rw [ACk9 h0.rel hw];simp only [if_true];exact h1 r S0 X Ev.yl w m B hv a K Q h0.rel fun s' hs=>(hK0 s' b (h2 s' hs)).nx h0
 ·rw [ACk9 h0.rel hw];simp only [if_true];exact h1 lo r S0 X V w m B hv a K Q h0 fun s' b' hs=>hK0 s' b' (h2 s' b' hs)
theorem AQt9 {b:Ev.β} {Q:Exit→Act→World→Prop} {R:RS→Ev.β→Prop}:∀ {l:List Oper} {s:RS} {b:Ev.β} {S X V:Pr} {w:World} {m:List MB} {hv:List (List Value)} {a:Act},Tie Ev lo r S X V w m B hv s b a→wOps Ev ops l s b R→
 (∀s' b',R s' b'→Goes Ev lo r S X V w m B s' b' (Q .normal))→wpListIn (Fn r) 0 P ops Q l a w
 | [],s,b,S,X,V,w,m,hv,a,h,hx,hK=>hK s b hx S X V w m hv a (Went.refl h.rel.slt) (Zdo m) h
 | o::l,s,b,S,X,V,w,m,hv,a,h,hx,hK=>by
  exact AVs9 h hx fun s' b' hx' S' X' V' w' m' hv' a' hw hm ht=>AQt9 (b:=b) ht hx' fun s'' b'' hr S'' X'' V'' w'' m'' hv'' a'' hw' hm' ht'=>hK s'' b'' hr S'' X'' V'' w'' m'' hv'' a'' (hw.trans hw') (hm.trans hm') ht'
end
structure St (β:Type) where
 tm:List AV
 hp:List Blk
 b:β
abbrev St.rs {β:Type} (s:St β):RS:=⟨s.tm,s.hp, []⟩
def Beh {P:Program} (Ev:Env P) (lo:Nat) (r:Option Nat) (S X V:Pr) (w:World) (m:List MB) (B:List (AV×Value)) (Q:Exit→St Ev.β→Prop) (e:Exit) (a':Act) (w':World):Prop:=
 ∃s' S' X' V' m' hv',Q e s'∧(Went Ev.L S X V w S' X' V' w'∧MStep m m')∧Tie Ev lo r S' X' V' w' m' B hv' s'.rs s'.b a'
def W {P:Program} (Ev:Env P) (c:Code) (s:St Ev.β) (Q:Exit→St Ev.β→Prop):Prop:=
 ∀ (lo:Nat) (r:Option Nat) (S X V:Pr) (w:World) (m:List MB) (B:List (AV×Value)) (hv:List (List Value)) (a:Act),Tie Ev lo r S X V w m B hv s.rs s.b a→
  c.wpIn (Fn r) 0 P (Beh Ev lo r S X V w m B Q) a w
def WA {P:Program} (Ev:Env P) (ops:Array Oper) (s:St Ev.β) (Q:Exit→St Ev.β→Prop):Prop:=
 ∀ (lo:Nat) (r:Option Nat) (S X V:Pr) (w:World) (m:List MB) (B:List (AV×Value)) (hv:List (List Value)) (a:Act),Tie Ev lo r S X V w m B hv s.rs s.b a→
  wpAnyIn (Fn r) 0 P .any ops (Beh Ev lo r S X V w m B Q) ops.size (Array.replicate ops.size false) a {w with drawn:=w.drawn+1}
theorem W.ofWA {P:Program} {Ev:Env P} {id:Nat} {ops:Array Oper} {s:St Ev.β} {Q:Exit→St Ev.β→Prop} (hm:P.follows .mixedOrders=true) (h:WA Ev ops s Q):W Ev (.region id ops true) s Q:=
 fun lo r S X V w m B hv a ht=>wpIn_region_any hm (h lo r S X V w m B hv a ht)
def AJd9 {α:Type} (id:Nat) (Q:Exit→α→Prop):Exit→α→Prop
 | .exit id',s=>if id'=id then Q .normal s else Q (.exit id') s
 |e,s=>Q e s
def thenW {α:Type} (K:α→Prop) (Q:Exit→α→Prop):Exit→α→Prop
 | .normal,s=>K s
 |e,s=>Q e s
section
variable {P:Program} {S S' S'' X X' V V':Pr} {L:Nat→Prop} {r:Option Nat} {lo:Nat} {w w' w'':World} {m m' m'':List MB} {B:List (AV×Value)} {hp:List Blk} {hv hv':List (List Value)} {call:CallT} {a a':Act} {o:Oper} {ops:Array Oper} {Ev:Env P} {s:St Ev.β} {Q Q':Exit→St Ev.β→Prop} {c c':Code}
theorem Beh.from {e:Exit} (hm:Went Ev.L S X V w S' X' V' w'∧MStep m m') (h:Beh Ev lo r S' X' V' w' m' B Q e a w''):Beh Ev lo r S X V w m B Q e a w'':=by
 obtain ⟨s',S',X',V',m'',hv',h1,h2,h3⟩:=h;exact ⟨s',S',X',V',m'',hv',h1,⟨hm.1.trans h2.1,hm.2.trans h2.2⟩,h3⟩
theorem W.mono (h:W Ev c s Q) (hq:∀e s,Q e s→Q' e s):W Ev c s Q':=fun lo r S X V w m B hv a ht=>
 wpIn_mono (h lo r S X V w m B hv a ht) fun e a' w' ⟨s',S',X',V',m',hv',h1,h2⟩=>⟨s',S',X',V',m',hv',hq _ _ h1,h2⟩
theorem W.skip (h:Q .normal s):W Ev .skip s Q:=fun lo r S X V w m B hv a ht=>wpIn_skip ⟨s,S,X,V,m,hv,h,⟨Went.refl ht.rel.slt,Zdo m⟩,ht⟩
theorem W.label {l:Nat} (h:Q .normal s):W Ev (.label l) s Q:=fun lo r S X V w m B hv a ht=>wpIn_label ⟨s,S,X,V,m,hv,h,⟨Went.refl ht.rel.slt,Zdo m⟩,ht⟩
theorem W.exit {id:Nat} (h:Q (.exit id) s):W Ev (.exit id) s Q:=fun lo r S X V w m B hv a ht=>wpIn_exit ⟨s,S,X,V,m,hv,h,⟨Went.refl ht.rel.slt,Zdo m⟩,ht⟩
theorem W.goto {l:Nat} (h:Q (.goto l) s):W Ev (.goto l) s Q:=fun lo r S X V w m B hv a ht=>wpIn_goto ⟨s,S,X,V,m,hv,h,⟨Went.refl ht.rel.slt,Zdo m⟩,ht⟩
theorem W.ret (h:Q .ret s):W Ev .ret s Q:=fun lo r S X V w m B hv a ht=>wpIn_ret ⟨s,S,X,V,m,hv,h,⟨Went.refl ht.rel.slt,Zdo m⟩,ht⟩
theorem W.seq (h:W Ev c s (thenW (fun s'=>W Ev c' s' Q) Q)):W Ev (.seq c c') s Q:=by
 intro lo r S X V w m B hv a ht;refine wpIn_seq (wpIn_mono (h lo r S X V w m B hv a ht) fun e a' w' ⟨s',S',X',V',m',hv',h1,h2,h3⟩=> ?_);cases e with
 |normal=>exact wpIn_mono (h1 lo r S' X' V' w' m' B hv' a' h3) fun e a'' w'' hb=>hb.from h2
 |exit id=>exact ⟨s',S',X',V',m',hv',h1,h2,h3⟩
 |goto l=>exact ⟨s',S',X',V',m',hv',h1,h2,h3⟩
 |ret=>exact ⟨s',S',X',V',m',hv',h1,h2,h3⟩
 |panic ch=>exact ⟨s',S',X',V',m',hv',h1,h2,h3⟩
 |outgrown=>exact ⟨s',S',X',V',m',hv',h1,h2,h3⟩
theorem W.block {id:Nat} (h:W Ev c s (AJd9 id Q)):W Ev (.block id c) s Q:=by
 intro lo r S X V w m B hv a ht;refine wpIn_block (wpIn_mono (h lo r S X V w m B hv a ht) fun e a' w' ⟨s',S',X',V',m',hv',h1,h2,h3⟩=> ?_);cases e with
 | exit id'=>
  simp only [Exit.inBlock,AJd9] at h1 ⊢;split at h1
  ·rename_i hid;rw [if_pos hid];exact ⟨s',S',X',V',m',hv',h1,h2,h3⟩
  ·rename_i hid;rw [if_neg hid];exact ⟨s',S',X',V',m',hv',h1,h2,h3⟩
 |normal=>exact ⟨s',S',X',V',m',hv',h1,h2,h3⟩
 |goto l=>exact ⟨s',S',X',V',m',hv',h1,h2,h3⟩
 |ret=>exact ⟨s',S',X',V',m',hv',h1,h2,h3⟩
 |panic ch=>exact ⟨s',S',X',V',m',hv',h1,h2,h3⟩
 |outgrown=>exact ⟨s',S',X',V',m',hv',h1,h2,h3⟩
theorem W.cond {x:Operand} {t:Bool} (hx:evalA s.tm x= .d (.s (.bool t))) (h:W Ev (if t then c else c') s Q):W Ev (.cond x c c') s Q:=by
 intro lo r S X V w m B hv a ht;have hv':=AAj9 ht.rel x;have:a.eval x= .bool t:=AFk9 (x:=evalA s.tm x) (by rw [hx];rfl) hv';exact wpIn_cond this (h lo r S X V w m B hv a ht)
theorem W.region {id:Nat} (h:wOps Ev ops ops.toList s.rs s.b (fun s' b'=>Q .normal ⟨s'.tm,s'.hp,b'⟩)):W Ev (.region id ops false) s Q:=by
 intro lo r S X V w m B hv a ht;refine wpIn_region_list (AQt9 (b:=s.b) ht h fun s' b' hq S' X' V' w' m' hv' a' hw hm ht'=> ?_);exact ⟨⟨s'.tm,s'.hp,b'⟩,S',X',V',m',hv',hq,⟨hw,hm⟩,⟨⟨ht'.rel.1,ht'.rel.2.1,by intro p hp;cases hp⟩,ht'.sub,ht'.env,ht'.round,ht'.marks,ht'.base⟩⟩
theorem AIn9 {QQ:Exit→Act→World→Prop} {R:RS→Ev.β→Prop} {k:Nat} (he:∀(i:Nat) (o:Oper),ops[i]? =some o→∀j∈AAp9 o,j<i) (ha:∀(i:Nat) (o:Oper),ops[i]? =some o→k≤i→∀j,j<i→j∈ancOf ops ops.size i):∀(n:Nat) {i:Nat} {s:RS} {b:Ev.β} {S X V:Pr} {w:World} {m:List MB} {hv:List (List Value)} {a:Act} {listed:Array Bool},
 n=ops.size - i→k≤i→listed.size=ops.size→(∀j,j<ops.size→listed.getD j false=decide (j<i))→Tie Ev lo r S X V w m B hv s b a→wOps Ev ops (ops.toList.drop i) s b R→
 (∀s' b',R s' b'→Goes Ev lo r S X V w m B s' b' (QQ .normal))→wpAnyIn (Fn r) 0 P .any ops QQ n listed a w
 | 0,i,s,b,S,X,V,w,m,hv,a,listed,hn,hk,hls,hl,h,hx,hK=>by
  have hi:ops.size≤i:=by omega
  have hdrop:ops.toList.drop i= []:=List.drop_eq_nil_of_le (by simpa using hi);rw [hdrop] at hx;simp only [wOps] at hx;have hready:Zek .any ops listed= []:=by
   rw [List.eq_nil_iff_forall_not_mem];intro j hj;obtain ⟨o,ho,h0,_⟩:=ACe9 hj;have hjl:j<ops.size:=(Zah.1 ho).1;have:=hl j hjl;simp [hls,hjl] at h0 this;rw [h0] at this;simp at this;omega
  exact ⟨hready,hK s b hx S X V w m hv a (Went.refl h.rel.slt) (Zdo m) h⟩
 | n+1,i,s,b,S,X,V,w,m,hv,a,listed,hn,hk,hls,hl,h,hx,hK=>by
  have hi:i<ops.size:=by omega
  have hoi:ops[i]? =some ops[i]:=by simp [hi]
  have hdrop:ops.toList.drop i=ops[i]::ops.toList.drop (i+1):=by
   rw [List.drop_eq_getElem_cons (by simpa using hi)];simp
  rw [hdrop] at hx;have hdown:∀(j:Nat) (o':Oper),ops[j]? =some o'→listed.getD j false=true→∀e∈AAp9 o',listed.getD e false=true:=by
   intro j o' ho' hj e hee;have hjl:j<ops.size:=(Zah.1 ho').1;have h1:=he _ _ ho' e hee;rw [hl j hjl] at hj;simp at hj;rw [hl e (by omega)];simp;omega
  have hmem:i∈Zek .any ops listed:=by
   refine ABg9 hoi ?_ (fun e hee=> ?_)
   ·have:=hl i hi;simp [hls,hi] at this ⊢;exact this
   ·have h1:=he _ _ hoi e hee;rw [hl e (by omega)];simp;omega
  refine ⟨fun h0=>(by rw [h0] at hmem;cases hmem),fun j hj=> ?_⟩;obtain ⟨oj,hoj,hj0,hje⟩:=ACe9 hj;have hjl:j<ops.size:=(Zah.1 hoj).1;have hji:j=i:=by
   rcases Nat.lt_trichotomy j i with h1|h1|h1
   ·have:=hl j hjl;simp [hls,hjl] at hj0 this;rw [hj0] at this;simp at this;omega
   ·exact h1
   ·have:=AFy9 hdown ops.size j oj hoj hje i (ha _ _ hoj (by omega) i h1);rw [hl i hi] at this;simp at this
  subst hji;unfold wpOpIn;simp only [hoi];refine AVs9 h hx fun s' b' hx' S' X' V' w' m' hv' a' hw hm ht=> ?_;refine AIn9 he ha n (i:=j+1) (by omega) (by omega) (by simp [hls]) (fun j' hj'=> ?_) ht hx'
   fun s'' b'' hr S'' X'' V'' w'' m'' hv'' a'' hw' hm' ht'=>hK s'' b'' hr S'' X'' V'' w'' m'' hv'' a'' (hw.trans hw') (hm.trans hm') ht'
  have:=hl j' hj';simp [hls,hj'] at this ⊢;rw [Array.getElem_setIfInBounds (by rw [hls];exact hj')];split
  ·subst_vars;simp
  ·rw [this];simp;omega
theorem AIk9 {L:Nat→Prop} {V:Pr} (hS:∀b i,S b i→b<w.heap.size):Went L S X V w S X V {w with drawn:=w.drawn+1}:=
 ⟨⟨rfl,rfl,rfl,Zas _,fun _ c _ _ h=>⟨c,h,rfl⟩,fun _ _ h _=> .inl h,fun _ _ _ _ h=>h,fun _ _ h=>h,fun _ _ h=> .inl h,hS⟩,fun _ _ h=>h,fun _ _ h=> .inl h⟩
theorem Tie.drew {s:RS} {b:Ev.β} (h:Tie Ev lo r S X V w m B hv s b a):Tie Ev lo r S X V {w with drawn:=w.drawn+1} m B hv s b a:=by
 have hb:Below w.heap.size w {w with drawn:=w.drawn+1}:=⟨rfl,rfl,rfl,Zas _,fun _ _=>rfl⟩;exact h.step (Gs.below h.rel.2.1 hb ⟨fun _ _ h=>h,fun _ _ h=> .inl h⟩) ⟨h.rel.1,h.rel.2.1.below hb (fun _ _ h=>h) (fun _ _ h=> .inl h),h.rel.2.2⟩ rfl
theorem WA.draw (k:Nat) {tmK:List AV} (call:CallT) (hcall:AGy9 P call) (hd:ASr9 ops k=true) (hk:k≤ops.size) (hx:xPre P call ops s.hp (ops.toList.take k) s.tm=some tmK)
 (h:wOps Ev ops (ops.toList.drop k) ⟨tmK,s.hp,pvAll P s.hp tmK (ops.toList.take k)⟩ s.b (fun s' b'=>Q .normal ⟨s'.tm,s'.hp,b'⟩)):WA Ev ops s Q:=by
 intro lo r S X V w m B hv a ht;have ht':=ht.drew;have hget:∀j,(Array.replicate ops.size false).getD j false=false:=by intro j;simp [Array.getElem?_replicate];split<;>rfl
 refine BHx9 hcall hd hk hx ops.size (tm:=s.tm) (pv:= []) ?_ (by simp) (fun j _=>hget j) (fun j o' _ hj=>by rw [hget] at hj;cases hj) rfl
  (fun j o d _ _ _ hj=>by rw [hget] at hj;cases hj) (fun _ _=>rfl) (fun j o p _ _ hj=>by rw [hget] at hj;cases hj) ht'.rel ?_
 ·have:unl ops.size (Array.replicate ops.size false)=Zay ops.size:=by
   unfold unl;rw [List.filter_eq_self];intro j _;rw [hget];rfl
  rw [this];simp
 ·intro S' w' m' hv' a' hg hr hd' hsz listed hls hl;refine AIn9 (s:=⟨tmK,s.hp,pvAll P s.hp tmK (ops.toList.take k)⟩) (b:=s.b) (fun i o ho=>(AEj9 hd ho).1) (fun i o ho=>(AEj9 hd ho).2.2) _ rfl (Zas _) hls hl (ht'.step hg hr hd') h fun s' b' hq S'' X'' V'' w'' m'' hv'' a'' hw hm' ht''=> ?_;exact ⟨⟨s'.tm,s'.hp,b'⟩,S'',X'',V'',m'',hv'',hq,⟨((AIk9 ht.rel.slt).trans (hg.went hr.slt)).trans hw,hg.ms.trans hm'⟩,⟨⟨ht''.rel.1,ht''.rel.2.1,by intro p hp;cases hp⟩,ht''.sub,ht''.env,ht''.round,ht''.marks,ht''.base⟩⟩
end
def posOf (i:Nat):List Nat→Nat
 | []=>0
 |j::l=>if Nat.beq j i then 0 else posOf i l+1
theorem AHd9 {i:Nat}:∀ {l:List Nat},i∈l→l[posOf i l]? =some i
 | j::l,h=>by
  unfold posOf;cases hb:Nat.beq j i with
  |true=>simp [Nat.eq_of_beq_eq_true hb]
  | false=>
   have hne:j≠i:=Nat.ne_of_beq_eq_false hb;have h':i∈l:=by
    rcases Zbx.1 h with h|h
    ·exact absurd h.symm hne
    ·exact h
   simpa using AHd9 h'
theorem AWm9 {i:Nat}:∀ {l:List Nat},i∉l→posOf i l=l.length
 | [],_=>rfl
 | j::l,h=>by
  unfold posOf;have hne:j≠i:=fun e=>h (by simp [e]);have hb:Nat.beq j i=false:=by
   cases hb:Nat.beq j i with
   |true=>exact absurd (Nat.eq_of_beq_eq_true hb) hne
   |false=>rfl
  rw [hb];simp [AWm9 (fun h'=>h (Zaw _ h'))]
def renum (σ:List Nat) (o:Oper):Oper:= {o with after:=o.after.map fun e=> {e with on:=posOf e.on σ},guard:=o.guard.map fun p=>(posOf p.1 σ,p.2)}
def AAv9 (σ:List Nat) (ops:Array Oper):Array Oper:=(σ.map fun i=>renum σ (ops.getD i default)).toArray
def AUm9 (ops:Array Oper) (σ:List Nat):Bool:=
 Nat.beq σ.length ops.size&&(Zay ops.size).all (fun i=>σ.contains i)&&(Zay ops.size).all fun j=>match σ[j]? with
  |some i=>Nat.blt i ops.size&&Nat.beq (posOf i σ) j
  |none=>false
structure AGn9 (ops:Array Oper) (σ:List Nat):Prop where
 len:σ.length=ops.size
 mem:∀i,i<ops.size→i∈σ
 inv:∀j,j<ops.size→∃i,σ[j]? =some i∧i<ops.size∧posOf i σ=j
theorem AOh9 {ops:Array Oper} {σ:List Nat} (h:AUm9 ops σ=true):AGn9 ops σ:=by
 simp only [AUm9,Zal,Zav,Zbs,List.contains_iff_mem] at h;obtain ⟨⟨h1,h2⟩,h3⟩:=h;refine ⟨Nat.eq_of_beq_eq_true h1,h2,fun j hj=> ?_⟩;have:=h3 j hj;split at this
 ·rename_i i hi;simp only [Zal] at this;exact ⟨i,hi,by rw [←Nat.blt_eq];exact this.1,Nat.eq_of_beq_eq_true this.2⟩
 ·cases this
section
variable {F:Fence} {n:Nat} {P:Program} {ops:Array Oper} {σ:List Nat} {Q:Exit→Act→World→Prop} {md:Region.Mode}
theorem AGn9.pos_lt (h:AGn9 ops σ) {i:Nat} (hi:i<ops.size):posOf i σ<ops.size:=by
 rw [←h.len];exact (Zaa.1 (AHd9 (h.mem i hi))).1
theorem AGn9.pos_lt' (h:AGn9 ops σ) {i:Nat} (hi:posOf i σ<ops.size):i<ops.size:=by
 have hm:i∈σ:=by
  apply Classical.byContradiction;intro hn;rw [AWm9 hn,h.len] at hi;omega
 obtain ⟨i',h1,h2,_⟩:=h.inv _ hi;have:=AHd9 hm;rw [h1] at this;cases this;exact h2
theorem AGn9.inj (h:AGn9 ops σ) {i j:Nat} (hi:i<ops.size) (hj:j<ops.size) (he:posOf i σ=posOf j σ):i=j:=by
 have h1:=AHd9 (h.mem i hi);have h2:=AHd9 (h.mem j hj);rw [he] at h1;rw [h1] at h2;cases h2;rfl
theorem ADs9:(AAv9 σ ops).size=σ.length:=by simp [AAv9]
theorem AGn9.get (h:AGn9 ops σ) {i:Nat} {o:Oper} (ho:ops[i]? =some o):(AAv9 σ ops)[posOf i σ]? =some (renum σ o):=by
 have hi:=(Zah.1 ho).1;have h1:=AHd9 (h.mem i hi);simp [AAv9,h1,Array.getD_eq_getD_getElem?,ho]
theorem AGn9.get_none (h:AGn9 ops σ) {i:Nat} (ho:ops[i]? =none):(AAv9 σ ops)[posOf i σ]? =none:=by
 rw [Array.getElem?_eq_none_iff] at ho ⊢;rw [ADs9,h.len];apply Classical.byContradiction;intro hn;have:=h.pos_lt' (Nat.lt_of_not_le hn);omega
theorem ATr9 (h:AGn9 ops σ) (tmps:Array Value) (j:Nat):yielded (AAv9 σ ops) tmps (posOf j σ)=yielded ops tmps j:=by
 unfold yielded;cases hj:ops[j]? with
 |none=>rw [h.get_none hj]
 |some o=>rw [h.get hj];rfl
theorem AYo9 (h:AGn9 ops σ) (tmps:Array Value) (o:Oper):Region.wanted (renum σ o) (yielded (AAv9 σ ops) tmps)=Region.wanted o (yielded ops tmps):=by
 unfold Region.wanted;cases hg:o.guard with
 |none=>simp [renum,hg]
 | some p=>
  obtain ⟨g,v⟩:=p;simp [renum,hg,ATr9 h]
theorem AYn9 (h:AGn9 ops σ) {i:Nat} {K:Act→World→Prop} {a:Act} {w:World} (hi:i<ops.size) (hw:wpOpIn F n P (AAv9 σ ops) Q (posOf i σ) K a w):wpOpIn F n P ops Q i K a w:=by
 have ho:ops[i]? =some ops[i]:=by simp [hi]
 unfold wpOpIn at hw ⊢;rw [h.get ho] at hw;rw [ho];simp only [AYo9 h] at hw ⊢;split
 ·rename_i hc;rw [if_pos hc] at hw;exact hw
 ·rename_i hc;rw [if_neg hc] at hw;exact hw
theorem ALv9 (h:AGn9 ops σ) {listed listed':Array Bool} (hs:listed.size=ops.size) (hs':listed'.size=ops.size) (hl:∀i,i<ops.size→listed'.getD (posOf i σ) false=listed.getD i false) {i:Nat}:
 i∈Zek md ops listed↔i<ops.size∧posOf i σ∈Zek md (AAv9 σ ops) listed':=by
 have hgt:∀(l:Array Bool) (j:Nat),j<l.size→l.getD j true=l.getD j false:=fun l j hj=>by simp [hj]
 rw [mem_ready,mem_ready];constructor
 ·rintro ⟨h0,o,ho,hall⟩;have hi:=(Zah.1 ho).1;refine ⟨hi,by rw [hgt _ _ (by rw [hs'];exact h.pos_lt hi),hl i hi,←hgt _ _ (by rw [hs];exact hi)];exact h0,renum σ o,h.get ho,fun e he hb=> ?_⟩;simp only [renum,Array.mem_map] at he;obtain ⟨e0,he0,rfl⟩:=he;have h1:=hall e0 he0 hb;have hlt:e0.on<ops.size:=by
   apply Classical.byContradiction;intro hn;rw [Array.getD_eq_getD_getElem?,Zcu (by omega)] at h1;cases h1
  rw [hl _ hlt];exact h1
 ·rintro ⟨hi,h0,o',ho',hall⟩;have ho:ops[i]? =some ops[i]:=by simp [hi]
  rw [h.get ho] at ho';cases ho';refine ⟨by rw [hgt _ _ (by rw [hs];exact hi),←hl i hi,←hgt _ _ (by rw [hs'];exact h.pos_lt hi)];exact h0,_,ho,fun e he hb=> ?_⟩;have h1:=hall {e with on:=posOf e.on σ} (by simp only [renum,Array.mem_map];exact ⟨e,he,rfl⟩) hb;simp only at h1;have hlt:posOf e.on σ<ops.size:=by
   apply Classical.byContradiction;intro hn;rw [Array.getD_eq_getD_getElem?,Zcu (by omega)] at h1;cases h1
  rw [←hl _ (h.pos_lt' hlt)];exact h1
theorem ALg9 (h:AGn9 ops σ):∀(fuel:Nat) (listed listed':Array Bool) (a:Act) (w:World),listed.size=ops.size→listed'.size=ops.size→(∀i,i<ops.size→listed'.getD (posOf i σ) false=listed.getD i false)→
 wpAnyIn F n P md (AAv9 σ ops) Q fuel listed' a w→wpAnyIn F n P md ops Q fuel listed a w:=by
 have hnil:∀ {listed listed':Array Bool},listed.size=ops.size→listed'.size=ops.size→(∀i,i<ops.size→listed'.getD (posOf i σ) false=listed.getD i false)→
  (Zek md (AAv9 σ ops) listed'= []↔Zek md ops listed= []):=by
  intro listed listed' hs hs' hl;rw [List.eq_nil_iff_forall_not_mem,List.eq_nil_iff_forall_not_mem];constructor
  ·intro h1 i hi;exact h1 _ ((ALv9 h hs hs' hl).1 hi).2
  ·intro h1 j hj;have hjl:j<ops.size:=by
    obtain ⟨_,o,ho,_⟩:=mem_ready.1 hj;have:=(Zah.1 ho).1
    rwa [ADs9,h.len] at this
   obtain ⟨i,_,h3,rfl⟩:=h.inv j hjl;exact h1 i ((ALv9 h hs hs' hl).2 ⟨h3,hj⟩)
 intro fuel;induction fuel with
 | zero=>
  intro listed listed' a w hs hs' hl hw;exact ⟨(hnil hs hs' hl).1 hw.1,hw.2⟩
 | succ fuel ih=>
  intro listed listed' a w hs hs' hl hw;refine ⟨fun h0=>hw.1 ((hnil hs hs' hl).2 h0),fun i hi=> ?_⟩;obtain ⟨hil,hj⟩:=(ALv9 h hs hs' hl).1 hi;refine AYn9 h hil (wpOpIn_mono (fun a' w' hw'=> ?_) (hw.2 _ hj));refine ih _ _ a' w' (by simp [hs]) (by simp [hs']) (fun j hjl=> ?_) hw';have e1:∀(l:Array Bool) (x y:Nat),l.size=ops.size→x<ops.size→y<ops.size→(l.setIfInBounds x true).getD y false=(if x=y then true else l.getD y false):=by
   intro l x y hl' hx hy;simp only [Array.getD_eq_getD_getElem?,Array.getElem?_setIfInBounds];by_cases hxy:x=y
   ·subst hxy;simp [hl',hx]
   ·simp [hxy]
  rw [e1 _ _ _ hs' (h.pos_lt hil) (h.pos_lt hjl),e1 _ _ _ hs hil hjl];by_cases hij:i=j
  ·subst hij;simp
  ·rw [if_neg hij,if_neg (fun he=>hij (h.inj hil hjl he)),hl j hjl]
end
section
variable {P:Program} {Ev:Env P} {ops:Array Oper} {s:St Ev.β} {Q:Exit→St Ev.β→Prop}
theorem WA.perm {σ:List Nat} (h:AUm9 ops σ=true) (hw:WA Ev (AAv9 σ ops) s Q):WA Ev ops s Q:=by
 have hp:=AOh9 h;intro lo r S X V w m B hv a ht;have hget:∀(n j:Nat),(Array.replicate n false).getD j false=false:=by intro n j;simp [Array.getElem?_replicate];split<;>rfl
 have:=hw lo r S X V w m B hv a ht;rw [ADs9,hp.len] at this;exact ALg9 hp _ _ _ _ _ (by simp) (by simp) (fun i _=>by rw [hget,hget]) this
end
section
variable {S S' X:Pr} {yv:Option Nat} {w w':World} {m:List MB} {A B:List (AV×Value)} {hp:List Blk} {hv:List (List Value)}
theorem Rel.ownLt (h:Rel S X yv w m A hp hv):∀p∈A,∀b,ownB p=some b→b<w.heap.size:=by
 intro p hp b hb';have:=h.rv p hp;obtain ⟨x,v⟩:=p;cases this<;>simp only [ownB] at hb'<;>try (cases hb')
 rename_i ho;obtain ⟨cur,h1,_⟩:=ho;exact (Zah.1 h1).1
theorem Rel.mLt (h:Rel S X yv w m A hp hv):∀q∈m,q.b<w.heap.size:=by
 intro q hq;obtain ⟨g,hg⟩:=Zak.1 hq;obtain ⟨blk,vs,cur,e',_,_,_,_,_,_,_,g6,_⟩:=h.block hg;exact (Zah.1 g6).1
theorem Rel.newGrow (h:Rel S X yv w m (A++(B++AAa9 hp hv)) hp hv) (xs:List AV) (vs:List Value) (hA:A=xs.zip vs) (hxl:xs.length=vs.length) {e:TypeId} {cur:Array Value}
 (h1:∀v∈vs,v.oneCell'=true) (hb:Below w.heap.size w w') (hcur:w'.heap[w.heap.size]? =some (.cells cur e (0,0))) (ht:cur.toList.take vs.length=vs) (hle:vs.length≤cur.size):
 Rel S X yv w' (m++ [⟨w.heap.size,xs.length,true,0⟩]) (B++AAa9 (hp++ [⟨xs,false,true,0⟩]) (hv++ [vs])) (hp++ [⟨xs,false,true,0⟩]) (hv++ [vs]):=by
 have h0:=h.below (S':=S) hb (fun _ _ h=>h) (fun _ _ h=> .inl h);have hmlt:=h.mLt;have hownlt:=h.ownLt;have hperm:(A++(B++AAa9 hp hv)).Perm (B++AAa9 (hp++ [⟨xs,false,true,0⟩]) (hv++ [vs])):=by
  rw [AJc9 h.hl,←List.append_assoc B,hA];exact List.perm_append_comm
 have h2:=h0.perm hperm;refine ⟨h2.lt,fun p hp=>(h2.rv p hp).blocks (Zed _ _),h2.pw, ?_,h2.sp, ?_,by simp [h.ml],by simp [h.hl], ?_,h2.gl⟩
 ·intro p hp b hbo x hx;rcases Zco.1 hx with hx|hx
  ·exact h2.nm p hp b hbo x hx
  ·simp only [List.mem_singleton] at hx;subst hx;have:=hownlt p (hperm.mem_iff.2 hp) b hbo;simp only;omega
 ·rw [List.map_append,List.nodup_append];refine ⟨h.mnd,by simp,fun a ha b hb'=> ?_⟩;simp only [Zdu,List.map_nil,List.mem_singleton] at hb';subst hb';obtain ⟨q,hq,rfl⟩:=Zbd.1 ha;have:=hmlt q hq;omega
 ·intro g blk p vs' g1 g2 g3;by_cases hg:g<hp.length
  ·rw [Zan hg] at g1;rw [Zan (by rw [h.ml];exact hg)] at g2;rw [Zan (by rw [h.hl];exact hg)] at g3;exact h2.bl g blk p vs' g1 g2 g3
  ·obtain rfl:g=hp.length:=by
    have:=(Zaa.1 g1).1;simp at this;omega
   rw [Zao (Zas _)] at g1;rw [Zao (by rw [h.ml];exact Zas _)] at g2;rw [Zao (by rw [h.hl];exact Zas _)] at g3;simp [h.ml,h.hl] at g1 g2 g3;subst g1;subst g2;subst g3;refine ⟨rfl,rfl,rfl,hxl.symm,h1,⟨cur,e,hcur,by simpa [hxl] using ht,by simpa [hxl] using hle⟩,fun _ i=>⟨fun hs=> ?_,fun hx=> ?_⟩,fun hf=>by cases hf⟩
   ·have:=h.lt _ _ (.inl hs);simp at this
   ·have:=h.lt _ _ (.inr hx);simp at this
theorem AWt9 {α:Type}:∀ {l:List α} {g:Nat} {x:α},l.Nodup→x∉l→(l.set g x).Nodup
 | [],_,_,_,_=>by simp
 | a::l,0,x,h,hx=>by
  rw [List.set_cons_zero];exact List.nodup_cons.2 ⟨fun hh=>hx (Zaw _ hh),(List.nodup_cons.1 h).2⟩
 | a::l,g+1,x,h,hx=>by
  rw [List.set_cons_succ];refine List.nodup_cons.2 ⟨fun hh=> ?_,AWt9 (List.nodup_cons.1 h).2 fun hh=>hx (Zaw _ hh)⟩;rcases Zct hh with hh|rfl
  ·exact (List.nodup_cons.1 h).1 hh
  ·exact hx (Zbb ..)
theorem Rel.regrow (h:Rel S X yv w m (A++(B++AAa9 hp hv)) hp hv) {xs:List AV} {us:List Value} (hA:A=xs.zip us) (hl:xs.length=us.length) (h1:∀u∈us,u.oneCell'=true)
 {g:Nat} {blk:Blk} {p:MB} {vs:List Value} (hg:hp[g]? =some blk) (hm:m[g]? =some p) (hvs:hv[g]? =some vs) (hf:blk.fro=false) (hgr:blk.grow=true)
 {b':Nat} {cur':Array Value} {e':TypeId} (hag:Agree (fun b i=>S b i∨X b i) none w w') (hb':b'=p.b∨w.heap.size≤b') (hcur':w'.heap[b']? =some (.cells cur' e' (0,0)))
 (ht:cur'.toList.take (p.len+us.length)=vs++us) (hle:p.len+us.length≤cur'.size) (hoth:∀q∈m,q.b≠p.b→w'.heap[q.b]? =w.heap[q.b]?):
 Rel S X yv w' (m.set g ⟨b',p.len+us.length,true,p.ver+1⟩) (B++AAa9 (hp.set g ⟨blk.cells++xs,false,true,blk.ver+1⟩) (hv.set g (vs++us))) (hp.set g ⟨blk.cells++xs,false,true,blk.ver+1⟩) (hv.set g (vs++us))∧
 MStep m (m.set g ⟨b',p.len+us.length,true,p.ver+1⟩):=by
 obtain ⟨a1,a2,a3,a4,a5,⟨cur,e,a6,a7,a8⟩,a9,a10⟩:=h.bl g blk p vs hg hm hvs;have hmlt:=h.mLt;have hgl:=(Zaa.1 hg).1;have hml:=(Zaa.1 hm).1;have hvl:=(Zaa.1 hvs).1;have hpg:p.grow=true:=a2.trans hgr;have hms:MStep m (m.set g ⟨b',p.len+us.length,true,p.ver+1⟩):=by
  intro g' q hq;by_cases hgg:g'=g
  ·subst hgg;rw [hm] at hq;cases hq;exact .inr ⟨hpg,_,by rw [Zbw hml],rfl,by simp⟩
  ·exact .inl (by rw [Zcg (Ne.symm hgg)];exact hq)
 refine ⟨?_,hms⟩;obtain ⟨pre,post,hc1,hc2⟩:=ACf9 (hp:=hp) (hv:=hv) hg hvs;have hnew:=hc2 ⟨blk.cells++xs,false,true,blk.ver+1⟩ (vs++us);have hlt':vs.length=blk.cells.length:=by omega
 simp only [List.zip_append hlt'.symm] at hnew;have hperm:(A++(B++AAa9 hp hv)).Perm (B++AAa9 (hp.set g ⟨blk.cells++xs,false,true,blk.ver+1⟩) (hv.set g (vs++us))):=by
  rw [hnew,hc1,hA];refine (Zbu _ _ _).trans (List.Perm.append_left B ?_);simp only [List.append_assoc];refine (Zbu _ _ _).trans (List.Perm.append_left pre ?_);exact (Zbu _ _ _)
 have h2:=h.perm hperm;have hAg:Agree S yv w w':=(hag.mono (fun _ _ h=> .inl h)).weaken;have hnS:=fun i=>(a9 hf i).1;have hnX:=fun i=>(a9 hf i).2;have hsz:=hag.size;refine ⟨fun b i hbi=>Nat.lt_of_lt_of_le (h.lt b i hbi) hsz,fun q hq=>((h2.rv q hq).ext (fun _ _ h=>h) hAg).blocks hms,h2.pw, ?_,h2.sp, ?_,by simp [h.ml],by simp [h.hl], ?_,h.gl.ext (fun _ _ h=>h) hAg⟩
 ·intro q hq b hbo x hx;rcases Zct hx with hx|rfl
  ·exact h2.nm q hq b hbo x hx
  ·rcases hb' with rfl|hb'
   ·exact h2.nm q hq b hbo p (Zbi hm)
   ·have:=h2.ownLt q hq b hbo;simp only;omega
 ·rw [Zej];rcases hb' with rfl|hb'
  ·have:(m.map (·.b)).set g p.b=m.map (·.b):=by
    apply List.ext_getElem?;intro j;by_cases hj:j=g
    ·subst hj;rw [Zbw (by simpa using hml)];simp [hm]
    ·rw [Zcg (Ne.symm hj)]
   rw [this];exact h.mnd
  ·have hnd:=h.mnd;have hlt:∀x∈m.map (·.b),x<w.heap.size:=by
    intro x hx;obtain ⟨q,hq,rfl⟩:=Zbd.1 hx;exact hmlt q hq
   exact AWt9 hnd fun hx=>by have:=hlt _ hx;simp only at this;omega
 ·intro g' blk' p' vs' e1 e2 e3;by_cases hgg:g'=g
  ·subst hgg;rw [Zbw hgl] at e1;rw [Zbw hml] at e2;rw [Zbw hvl] at e3;cases e1;cases e2;cases e3;refine ⟨by simp only [List.length_append];omega,rfl,by simp only;omega,by simp only [List.length_append];omega, ?_,⟨cur',e',hcur',ht,hle⟩,fun _ i=> ?_,fun hc=>by cases hc⟩
   ·intro v hv';rcases Zco.1 hv' with hv'|hv'
    ·exact a5 v hv'
    ·exact h1 v hv'
   ·rcases hb' with rfl|hb'
    ·exact ⟨hnS i,hnX i⟩
    ·exact ⟨fun hs=>by have:=h.lt _ _ (.inl hs);simp only at this;omega,fun hx=>by have:=h.lt _ _ (.inr hx);simp only at this;omega⟩
  ·rw [Zcg (Ne.symm hgg)] at e1 e2 e3;obtain ⟨b1,b2,b3,b4,b5,⟨cur2,e2',b6,b7,b8⟩,b9,b10⟩:=h.bl g' blk' p' vs' e1 e2 e3;have hne:p'.b≠p.b:=MB_ne h.mnd e2 hm hgg;exact ⟨b1,b2,b3,b4,b5,⟨cur2,e2',by rw [hoth p' (Zbi e2) hne];exact b6,b7,b8⟩,b9,b10⟩
end
def flatA (xs:List (List Dv)):List AV:=xs.flatten.map .d
theorem AUx9 (xs ys:List (List Dv)):flatA (xs++ys)=flatA xs++flatA ys:=by simp [flatA]
theorem AMk9 (r:List Dv) (xs:List (List Dv)):flatA (r::xs)=r.map .d++flatA xs:=by simp [flatA]
section
variable {P:Program} {S X:Pr} {yv:Option Nat} {w w':World} {m:List MB} {B:List (AV×Value)} {hp:List Blk} {hv:List (List Value)}
theorem Flat.pairs {k:Nat}:∀ {xs:List (List Dv)} {us:List Value},Flat S w k xs us→(flatA xs).length=us.length∧∀p∈(flatA xs).zip us,∃c,p.1= .d c∧DR S w c p.2
 | [],us,h=>by
  have:=h.len;simp only [Zdm,Nat.zero_mul,List.length_eq_zero_iff] at this;subst this;exact ⟨rfl,fun p hp=>by simp [flatA] at hp⟩
 | r::xs,us,h=>by
  have hr:r.length=k:=h.row 0 r rfl;have hl:us.length=(xs.length+1)*k:=h.len;rw [Zca,Nat.one_mul] at hl;have h2:Flat S w k xs (us.drop k):=by
   refine ⟨by simp;omega,fun i r hr=>h.row (i+1) r (by simpa using hr),fun i r j c v e1 e2 e3=> ?_,fun v hv=>h.one v (List.mem_of_mem_drop hv)⟩;rw [Zbm] at e3;refine h.rd (i+1) r j c v (by simpa using e1) e2 ?_;rw [←e3];congr 1;rw [Zca,Nat.one_mul];omega
  obtain ⟨g1,g2⟩:=h2.pairs;rw [AMk9];refine ⟨by simp [g1,hr];omega,fun p hp=> ?_⟩;rw [←List.take_append_drop k us,List.zip_append (by simp [hr];omega)] at hp;rcases Zco.1 hp with hp|hp
  ·obtain ⟨j,hj⟩:=Zak.1 hp;rw [Zar] at hj;obtain ⟨h3,h4⟩:=hj;simp only [Zbf,Zaj] at h3;obtain ⟨c,h3,h5⟩:=h3;have hjk:j<k:=hr▸(Zaa.1 h3).1;rw [Zci hjk] at h4;exact ⟨c,h5.symm,h.rd 0 r j c p.2 rfl h3 (by simpa using h4)⟩
  ·exact g2 p hp
theorem Flat.rvs {k:Nat} {xs:List (List Dv)} {us:List Value} (h:Flat S w k xs us):∀p∈(flatA xs).zip us,RV S w m yv p.1 p.2∧ownB p=none:=by
 intro p hp;obtain ⟨c,e,hd⟩:=h.pairs.2 p hp;obtain ⟨x,v⟩:=p;simp only at e hd;subst e;exact ⟨.d hd,rfl⟩
theorem ALt9 {t ty e e':TypeId} {i:TypeInfo} (ht:P.underlying t=some (.slice e)) (hi:P.info? e=some i)
 (g sLen sCap:Nat) (cur:Array Value) (hg:w.heap[g]? =some (.cells cur e' (0,0)))
 (a:Addr) (m c:Nat) (news:List Value) (hl:news.length=m*i.size) (hnews:∀(j:Nat) (u:Value),news[j]? =some u→w.cell? (a.add j)=some u) (h1:∀u∈news,u.oneCell'=true)
 (hroom:sLen+m≤sCap) (hfit:sLen*i.size+news.length≤cur.size):
 (Zcb #[t,t] ty #[.slice (some ⟨g,0,none⟩) sLen sCap, .slice (some a) m c]).run P w=
  .ok (.slice (some ⟨g,0,none⟩) (sLen+m) sCap) (w.setRow g (cur.toList.take (sLen*i.size)++news++cur.toList.drop (sLen*i.size+news.length)).toArray):=by
 have hf:=run_firstCells_some (P:=P) w i.size m a m c news hl hnews;have hst:=run_storeCells_at P g (sLen*i.size) e' news 0 cur w hg (by simpa using hfit) h1;simp only [Nat.add_zero] at hst;simp [Zcb,run_underlying ht,sizeOf,typeInfo,hi,Builtin.lenOf,hroom,hf,Addr.add_lit,hst]
theorem BAh9 {t e:TypeId} {i:TypeInfo} {ty:TypeId} {z:Value} (ht:P.underlying t=some (.slice e)) (hi:P.info? e=some i) (hz:i.zero=some z) (hzs:z.cells.size=i.size) (hby:0<i.bytes)
 {g ver n:Nat} {blk:Blk} {ys:List (List Dv)} {v u:Value} (h:Rel S X yv w m (B++AAa9 hp hv) hp hv) (hr:RV S w m yv (.gref g ver n i.size) v) (hu:DR S w (.sl i.size ys) u)
 (hg:hp[g]? =some blk) (hgr:blk.grow=true) (hver:blk.ver=ver) (hf:blk.fro=false) (hfit:(n+ys.length)*i.bytes≤140737488355328):
 ∃ v' w' m' hv',(Zcb #[t,t] ty #[v,u]).run P w= .ok v' w'∧Gs S X none w m S w' m'∧
  Rel S X yv w' m' ((.gref g (ver+1) (n+ys.length) i.size,v')::(B++AAa9 (hp.set g ⟨blk.cells++flatA ys,false,true,ver+1⟩) hv')) (hp.set g ⟨blk.cells++flatA ys,false,true,ver+1⟩) hv':=by
 obtain ⟨ub,uc,news,rfl,huc,hfl,hucell,hunil⟩:=hu.flat;cases hr with
 | gref hm hv0 h1 hcur=>
  rename_i b len ver';obtain ⟨blk0,vs,cur0,e0,g1,g2,g3,g4,g5,g6,g7,g8,g9,g10,g11,_⟩:=h.block hm;rw [hg] at g1;cases g1;simp only at g3 g4 g5 g6 g8 g9 g10;obtain ⟨hlen,cap,rfl,hcap,hcm,cur,e',hcur',hsz⟩:=hcur (by omega);have e8:cur=cur0∧e'=e0:=by rw [hcur'] at g8;cases g8;exact ⟨rfl,rfl⟩
  obtain ⟨rfl,rfl⟩:=e8;have h63:n+ys.length≤140737488355328:=Zch (Nat.le_mul_of_pos_right _ hby) hfit;have hml:(140737488355328:Nat)≤maxLen:=by decide
  have hone:∀x∈news,x.oneCell'=true:=hfl.one;have hA:=h.pushAll ((flatA ys).zip news) hfl.rvs;have hpl:=hfl.pairs.1;have hnl:=hfl.len;have hgl:=(Zaa.1 hg).1;have hml':=(Zaa.1 hm).1;have finish:∀(w':World) (b' cap':Nat) (cur2:Array Value) (e2:TypeId),Agree (fun b i=>S b i∨X b i) none w w'→(b'=b∨w.heap.size≤b')→w'.heap[b']? =some (.cells cur2 e2 (0,0))→
   cur2.toList.take (len+news.length)=vs++news→cur2.size=cap'*i.size→n+ys.length≤cap'→cap'≤maxLen→(∀q∈m,q.b≠b→w'.heap[q.b]? =w.heap[q.b]?)→
   (Zcb #[t,t] ty #[.slice (some ⟨b,0,none⟩) n cap, .slice ub ys.length uc]).run P w= .ok (.slice (some ⟨b',0,none⟩) (n+ys.length) cap') w'→
   ∃ v' w' m' hv',(Zcb #[t,t] ty #[.slice (some ⟨b,0,none⟩) n cap, .slice ub ys.length uc]).run P w= .ok v' w'∧Gs S X none w m S w' m'∧
    Rel S X yv w' m' ((.gref g (ver+1) (n+ys.length) i.size,v')::(B++AAa9 (hp.set g ⟨blk.cells++flatA ys,false,true,ver+1⟩) hv')) (hp.set g ⟨blk.cells++flatA ys,false,true,ver+1⟩) hv':=by
   intro w' b' cap' cur2 e2 hag hb' hc2 ht2 hs2 hcc hcc2 hoth hrun;have hle2:len+news.length≤cur2.size:=by
    rw [hs2,hlen,hnl,←Zca];exact Zdv _ hcc
   obtain ⟨hR,hMS⟩:=hA.regrow (p:=⟨b,len,true,ver'⟩) rfl hpl hone hg hm g2 hf hgr hag hb' hc2 ht2 hle2 hoth;rw [hver] at hR;refine ⟨_,w',_,_,hrun,⟨hag,fun _ _ h=>h,fun _ _ h=> .inl h,hMS⟩,hR.cons (.gref (b:=b') (len:=len+news.length) (ver':=ver'+1) (by rw [Zbw hml']) (by omega) rfl fun _=> ?_) rfl⟩;exact ⟨by rw [hlen,hnl,Zca],cap',rfl,hcc,hcc2,cur2,e2,hc2,hs2⟩
  by_cases hy:ys= []
  ·subst hy;have hn0:news= []:=by simpa using hnl
   subst hn0;have hrun:=ACr9 (P:=P) w t e i ty ht hi (some ⟨b,0,none⟩) ub n cap uc hcap;exact finish w b cap _ _ (Agree.refl _ _ _) (.inl rfl) hcur' (by simpa using g9) hsz (by simpa using hcap) hcm (fun _ _ _=>rfl) (by simpa using hrun)
  ·have hyl:0<ys.length:=List.length_pos_iff.2 hy;obtain ⟨ua,rfl⟩:∃ua,ub=some ua:=by
    cases ub with
    |none=>exact absurd (hunil rfl).1 hy
    |some ua=>exact ⟨ua,rfl⟩
   have hnews:∀(j:Nat) (x:Value),news[j]? =some x→w.cell? (ua.add j)=some x:=fun j x hx=>((hucell ua rfl).1 j x hx).1;by_cases hroom:n+ys.length≤cap
   ·have hfitc:n*i.size+news.length≤cur.size:=by rw [hnl,hsz,←Zca];exact Zdv _ hroom
    have hrun:=ALt9 (P:=P) (ty:=ty) ht hi b n cap cur hcur' ua ys.length uc news hnl hnews hone hroom hfitc;have hagr:=ANd9 (X:=fun b i=>S b i∨X b i) (yv:=none) (cs:=(cur.toList.take (n*i.size)++news++cur.toList.drop (n*i.size+news.length)).toArray) hcur' (by
     have:=ACz9 cur.toList news (n*i.size) (by simpa using hfitc);simpa using this) (fun j hj=>hj.elim (fun hs=>(g11 hf j).1 hs) fun hx=>(g11 hf j).2 hx)
    refine finish _ b cap _ e' hagr (.inl rfl) (setRow_heap w b cur _ e' (0,0) hcur') ?_ ?_ hroom hcm (fun q _ hq=>setRow_other _ _ _ _ hq) hrun
    ·rw [←hlen];have:=ANz9 cur.toList news len (len+news.length) (Zas _) (by rw [hlen];simpa using hfitc);simp only [List.toList_toArray];rw [this];have e1:(cur.toList.take (len+news.length)).take len=vs:=by rw [List.take_take,Zec (by omega)];exact g9
     rw [e1,List.drop_eq_nil_of_le (by simp;omega),List.append_nil]
    ·have:=ACz9 cur.toList news (n*i.size) (by simpa using hfitc);rw [←hsz];simpa using this
   ·have hus:∀(j:Nat) (x:Value),vs[j]? =some x→w.cell? ((⟨b,0,none⟩:Addr).add j)=some x:=by
     intro j x hx;rw [add_lit];have hj:j<len:=by rw [←g6];exact (Zaa.1 hx).1
     have h2:cur.toList[j]? =some x:=by
      rw [←g9,Zci hj] at hx;exact hx
     simp only [World.cell?,hcur',Option.isSome_none,Zbt,if_false,Nat.zero_add];simpa using h2
    have hrun:=run_append_grow (P:=P) w t ty e i z ht hi hz ⟨b,0,none⟩ n cap vs (by rw [g6,hlen]) hus ua ys.length uc news hnl hnews (by omega) (by omega) (growslice_fits (by omega) hfit);have hge:=grownCap_ge w (n+ys.length) cap e;have hcm2:=grownCap_le_maxLen w (n+ys.length) cap e (by omega);have hbel:Below w.heap.size w (w.drew.alloc (.cells (vs.toArray++news.toArray++Zaz z.cells (grownCap w (n+ys.length) cap e - (n+ys.length))) e)):=((Below.refl _ _).drew).alloc (Zas _) _;refine finish _ w.heap.size _ _ e (AAr9 hbel _) (.inr (Zas _)) (heap_alloc_new w.drew _) ?_ ?_ hge hcm2 (fun q hq _=>hbel.block _ (h.mLt q hq)) hrun
    ·rw [←g6];simp only [List.append_toArray,Array.toList_append,List.append_assoc];rw [←List.append_assoc,List.take_append_of_le_length (by simp),List.take_of_length_le (by simp)]
    ·simp [size_zeroCells,hzs,g6,hlen,hnl,←Zca];congr 1;omega
end
def AAz9 (ops:Array Oper) (k n:Nat):Bool:=
 (Zay ops.size).all (fun i=>match ops[i]? with
  |some o=>(AAp9 o).all (· <i)&&
   (if i<k+n then (o.looksAt ops).all (fun t=>(Zay (k+n)).all fun j=>match ops[j]? with
    |some o'=>o'.dst !=some t||(AAp9 o).contains j
    |none=>true)&&
    (Zay i).all (fun j=>match ops[j]? with
     |some o'=>o.dst==none||o'.dst !=o.dst
     |none=>true)&&
    (if i<k then ADr9 o else (Zay i).all fun j=>j<k||(ancOf ops ops.size i).contains j)
   else (Zay i).all fun j=>(ancOf ops ops.size i).contains j)
  |none=>true)
def AQq9 (P:Program) (hp:List Blk) (tm:List AV) (c:Call):Option (AV×List Blk):=
 match c.callee,c.args[0]?,c.args[1]? with
 | .builtin .append,some x,some y=>match AFw9 P c.argTypes with
  | some (_,i)=>match evalA tm x with
   | .gref g ver n k=>match hp[g]?,ADy9 i.size (evalA tm y) with
    |some blk,some ys=>if decide (c.args.size=2)&&decide (k=i.size)&&blk.grow&& !blk.fro then some (.gref g (ver+1) (n+ys.length) i.size,hp.set g ⟨blk.cells++flatA ys,false,true,ver+1⟩) else none
    |_,_=>none
   | ax=>if AAl9 ax then match ADy9 i.size (evalA tm y) with
    |some (y0::ys)=>if c.args.size=2 then some (.gref hp.length 0 (y0::ys).length i.size,hp++ [⟨flatA (y0::ys),false,true,0⟩]) else none
    |_=>none
    else none
  |none=>none
 |_,_,_=>none
def lateK (P:Program) (hp:List Blk) (tm:List AV) (o:Oper) (K:Prop):Prop:=
 match o.op with
 | .call c=>match c.args[0]?,c.args[1]? with
  | some x,some y=>match AFw9 P c.argTypes with
   | some (_,i)=>match evalA tm x with
    | .gref g ver n _=>match hp[g]?,ADy9 i.size (evalA tm y) with
     |some blk,some ys=>blk.ver=ver∧(n+ys.length)*i.bytes≤140737488355328∧K
     |_,_=>K
    | ax=>if AAl9 ax then match ADy9 i.size (evalA tm y) with
     |some ys=>ys.length*i.bytes≤140737488355328∧K
     |none=>K
     else K
   |none=>K
  |_,_=>K
 |_=>K
def lateQ (o:Oper):Bool:=
 match o.op,o.guard with
 | .fieldAddr ..,none| .load ..,none| .move ..,none| .assign ..,none| .nilCheck ..,none=>true
 |_,_=>false
theorem AZn9 {o:Oper} (h:lateQ o=true):o.guard=none:=by
 unfold lateQ at h;split at h<;>first|assumption|cases h
def xLate (P:Program) (hp:List Blk) (tm:List AV) (o:Oper):Option (AV×List Blk):=
 match o.op,o.guard,o.dst with
 | .store t a x,none,none=>if (evalA tm x).isOwn then none else match APh9 (evalA tm x) with
  |some xs=>(BAx9 P hp t (evalA tm a) xs).map fun h=>(.bad,h)
  |none=>none
 | .alloc t,none,some _=>match BGr9 P t with
  |some xs=>some (.ptr hp.length 0,hp++ [⟨xs,false,false,0⟩])
  |none=>none
 | .call c,none,some _=>AQq9 P hp tm c
 |_,_,_=>if lateQ o then (xq P hp (evalA tm) o).map fun x=>(x,hp) else none
def ACg9 (P:Program):List Oper→List AV→List Blk→Option (List (List AV×List Blk))
 | [],tm,hp=>some [(tm,hp)]
 | o::l,tm,hp=>match xLate P hp tm o with
  |some (x,hp')=>(ACg9 P l (putA tm o.dst x) hp').map ((tm,hp):: ·)
  |none=>none
def ASd9 (P:Program) (K:Prop):List Oper→List AV→List Blk→Prop
 | [],_,_=>K
 | o::l,tm,hp=>lateK P hp tm o (match xLate P hp tm o with
  |some (x,hp')=>ASd9 P K l (putA tm o.dst x) hp'
  |none=>False)
section
variable {P:Program} {S S' S'' X V:Pr} {r:Option Nat} {lo:Nat} {yv:Option Nat} {w w' w'':World} {m m' m'':List MB} {B:List (AV×Value)} {hp hp':List Blk} {hv hv':List (List Value)} {call:CallT} {a a':Act} {o:Oper} {ops:Array Oper} {Ev:Env P} {s:St Ev.β} {Q:Exit→St Ev.β→Prop} {c:Code}
theorem ADn9 {k n i:Nat} {o:Oper} (h:AAz9 ops k n=true) (hi:ops[i]? =some o):
 (∀j∈AAp9 o,j<i)∧
 (i<k+n→∀t∈o.looksAt ops,∀(j:Nat) (o':Oper),j<k+n→ops[j]? =some o'→o'.dst=some t→j∈AAp9 o)∧
 (i<k→ADr9 o=true)∧
 (i<k+n→∀(j:Nat) (o':Oper),j<i→ops[j]? =some o'→o.dst≠none→o'.dst≠o.dst)∧
 (k≤i→∀j,k≤j→j<i→j∈ancOf ops ops.size i)∧
 (k+n≤i→∀j,j<i→j∈ancOf ops ops.size i):=by
 have hil:i<ops.size:=(Zah.1 hi).1;have h1:=Zav.1 h i (Zbs.2 hil);simp only [hi,Zal,Zav,decide_eq_true_eq] at h1;obtain ⟨h2,h3⟩:=h1;refine ⟨h2,fun hk=> ?_,fun hk=> ?_,fun hk=> ?_,fun hk j hkj hj=> ?_,fun hk j hj=> ?_⟩
 ·rw [if_pos hk] at h3;simp only [Zal,Zav,Zbs] at h3;intro t ht j o' hj ho' hd;have:=h3.1.1 t ht j hj;simp only [ho',hd,bne_self_eq_false,Bool.false_or,List.contains_iff_mem] at this;exact this
 ·rw [if_pos (by omega),if_pos hk] at h3;simp only [Zal] at h3;exact h3.2
 ·rw [if_pos hk] at h3;simp only [Zal,Zav,Zbs] at h3;intro j o' hj ho' hd;have:=h3.1.2 j hj;simp only [ho',Bool.or_eq_true,beq_iff_eq,bne_iff_ne] at this;exact this.resolve_left hd
 ·by_cases hn:i<k+n
  ·rw [if_pos hn,if_neg (by omega)] at h3;simp only [Zal,Zav,Zbs,Bool.or_eq_true,decide_eq_true_eq,List.contains_iff_mem] at h3;exact (h3.2 j hj).resolve_left (by omega)
  ·rw [if_neg hn] at h3;simp only [Zav,Zbs,List.contains_iff_mem] at h3;exact h3 j hj
 ·rw [if_neg (by omega)] at h3;simp only [Zav,Zbs,List.contains_iff_mem] at h3;exact h3 j hj
theorem ASe9 {tm:List AV} {K K':Prop} (hK:K→K') (h:lateK P hp tm o K):lateK P hp tm o K':=by
 unfold lateK at h ⊢;split at h<;>try exact hK h
 split at h<;>try exact hK h
 split at h<;>try exact hK h
 split at h
 ·split at h<;>try exact hK h
  exact ⟨h.1,h.2.1,hK h.2.2⟩
 ·split at h
  ·rename_i hn;rw [if_pos hn];split at h
   ·exact ⟨h.1,hK h.2⟩
   ·exact hK h
  ·rename_i hn;rw [if_neg hn];exact hK h
theorem AXb9 {tm:List AV} {K:Prop} (h:lateK P hp tm o K):K:=by
 unfold lateK at h;split at h<;>try exact h
 split at h<;>try exact h
 split at h<;>try exact h
 split at h
 ·split at h<;>try exact h
  exact h.2.2
 ·split at h<;>try exact h
  split at h<;>try exact h
  exact h.2
def AppOk (P:Program):Prop:=∀(o:Oper) (c:Call) (tm:List AV) (hp hp':List Blk) (x:AV),o.op= .call c→lateK P hp tm o True→AQq9 P hp tm c=some (x,hp')→ExtOk P o ⟨tm,hp, []⟩ ⟨putA tm o.dst x,hp', []⟩
def BAl9 (P:Program) (call:CallT) (ops:Array Oper) (s:RS) (o:Oper) (s':RS):Prop:=qStep P call ops s o s'∨(ABc9 ops o s.tm=some true∧ExtOk P o s s')
theorem BAl9.sound {s s':RS} {K:Act→World→Prop} {Q:Exit→Act→World→Prop} (hcall:AGy9 P call) (h:RelS S X yv w m B hv s a) (hx:BAl9 P call ops s o s') (hK:Nx S X yv w m B s' a K):
 if Region.wanted o (yielded ops a.tmps) then o.wpIn (Fn r) 0 P a w K Q else (∀f,o.about P w a.eval=some f→(Fn r).fn f)∧K (a.put o.dst undef) w:=by
 rcases hx with hx|⟨hw,hx⟩
 ·exact AFp9 hcall h hx hK
 ·rw [ACk9 h hw];simp only [if_true];exact hx r S X yv w m B hv a K Q h hK
theorem AIi9 {tm:List AV} {x:AV} (hE:AppOk P) (hk:lateK P hp tm o True) (h:xLate P hp tm o=some (x,hp')):∃pv,BAl9 P call ops ⟨tm,hp, []⟩ o ⟨putA tm o.dst x,hp',pv⟩:=by
 unfold xLate at h;split at h<;>try (cases h;done)
 ·rename_i t a x ho hg hd;split at h<;>try (cases h;done)
  rename_i hown;split at h<;>try (cases h;done)
  rename_i xs hxs;simp only [Zaj,Prod.mk.injEq] at h;obtain ⟨h',h,rfl,rfl⟩:=h;have hw:ABc9 ops o tm=some true:=by simp [ABc9,hg]
  have hxa:xa P ⟨tm,hp, []⟩ o=none:=by simp [xa,ho]
  refine ⟨[], .inl (.inl ?_)⟩;simp only [xStep,hw,hxa];simp [xh,ho,AUe9,hown,hxs,h,hd,putA]
 ·rename_i t d ho hg hd;split at h<;>try (cases h;done)
  rename_i xs hxs;simp only [Option.some.injEq,Prod.mk.injEq] at h;obtain ⟨rfl,rfl⟩:=h;have hw:ABc9 ops o tm=some true:=by simp [ABc9,hg]
  have hxa:xa P ⟨tm,hp, []⟩ o=none:=by simp [xa,ho]
  refine ⟨pvPut [] o.dst, .inl (.inl ?_)⟩;simp only [xStep,hw,hxa];simp [xh,ho,hxs]
 ·rename_i c d ho hg hd;exact ⟨[], .inr ⟨by simp [ABc9,hg],hE o c tm hp hp' x ho hk h⟩⟩
 ·split at h<;>try (cases h;done)
  rename_i hq;simp only [Zaj,Prod.mk.injEq] at h;obtain ⟨x',h,rfl,rfl⟩:=h;exact ⟨_, .inl (.inr (.inl ⟨by simp [ABc9,AZn9 hq],_,h,rfl⟩))⟩
theorem AHa9 {tm tm':List AV} (h:∀t∈o.looksAt ops,tm.getD t .bad=tm'.getD t .bad):xLate P hp tm o=xLate P hp tm' o:=by
 have he:=AFs9 (ops:=ops) h;unfold xLate;split
 ·rename_i t a x ho hg hd;rw [he a (by simp [ho,Zbg]),he x (by simp [ho,Zbg])]
 ·rfl
 ·rename_i c d ho hg hd;have hm:∀(i:Nat) (x:Operand),c.args[i]? =some x→evalA tm x=evalA tm' x:=fun i x hx=>he x (by
   rw [ho];show x∈c.operands;unfold Call.operands;exact Array.mem_append_right _ (Array.mem_of_getElem? hx))
  unfold AQq9;split<;>try rfl
  rename_i x y hc h0 h1;rw [hm 0 x h0,hm 1 y h1]
 ·rw [BAp9 he]
theorem AHe9 {tm tm':List AV} {K:Prop} (h:∀t∈o.looksAt ops,tm.getD t .bad=tm'.getD t .bad):lateK P hp tm o K=lateK P hp tm' o K:=by
 have he:=AFs9 (ops:=ops) h;unfold lateK;split<;>try rfl
 rename_i c ho;have hm:∀(i:Nat) (x:Operand),c.args[i]? =some x→evalA tm x=evalA tm' x:=fun i x hx=>he x (by
  rw [ho];show x∈c.operands;unfold Call.operands;exact Array.mem_append_right _ (Array.mem_of_getElem? hx))
 split<;>try rfl
 rename_i x y h0 h1;rw [hm 0 x h0,hm 1 y h1]
theorem AEo9 {K:Prop}:∀ {l:List Oper} {tm:List AV} {hp:List Blk} {sts:List (List AV×List Blk)},ACg9 P l tm hp=some sts→ASd9 P K l tm hp→
 K∧∀(i:Nat) (o:Oper) (t:List AV) (h:List Blk),l[i]? =some o→sts[i]? =some (t,h)→lateK P h t o True
 | [],tm,hp,sts,h,hk=>⟨hk,fun i o t h' e=>by simp at e⟩
 | o::l,tm,hp,sts,h,hk=>by
  simp only [ACg9] at h;split at h<;>try (cases h;done)
  rename_i x hp' hl;simp only [Zaj] at h;obtain ⟨sts',h1,rfl⟩:=h;simp only [ASd9,hl] at hk;obtain ⟨h2,h3⟩:=AEo9 h1 (AXb9 hk);refine ⟨h2,fun i o' t h' e1 e2=> ?_⟩;cases i with
  |zero=>simp at e1 e2;obtain ⟨rfl,rfl⟩:=e2;subst e1;exact ASe9 (fun _=>trivial) hk
  |succ i=>exact h3 i o' t h' (by simpa using e1) (by simpa using e2)
theorem ABw9:∀ {l:List Oper} {tm:List AV} {hp:List Blk} {sts:List (List AV×List Blk)},ACg9 P l tm hp=some sts→
 sts.length=l.length+1∧sts[0]? =some (tm,hp)∧∀(i:Nat) (o:Oper),l[i]? =some o→∃t h x h',sts[i]? =some (t,h)∧sts[i+1]? =some (putA t o.dst x,h')∧xLate P h t o=some (x,h')
 | [],tm,hp,sts,h=>by simp only [ACg9,Option.some.injEq] at h;subst h;simp
 | o::l,tm,hp,sts,h=>by
  simp only [ACg9] at h;split at h<;>try (cases h;done)
  rename_i x hp' hl;simp only [Zaj] at h;obtain ⟨sts',h1,rfl⟩:=h;obtain ⟨h2,h3,h4⟩:=ABw9 h1;refine ⟨by simp [h2],rfl,fun i o' ho'=> ?_⟩;cases i with
  |zero=>simp at ho';subst ho';exact ⟨tm,hp,x,hp',rfl,by simpa using h3,hl⟩
  |succ i=>simp at ho';simpa using h4 i o' ho'
structure ANi9 (ops:Array Oper) (k n:Nat) (sts:List (List AV×List Blk)) (tm0 tmF tm:List AV) (hp:List Blk) (listed:Array Bool) (i:Nat):Prop where
 sz:listed.size=ops.size
 hi:i≤n
 far:∀j,k+n≤j→listed.getD j false=false
 mid:∀j,k≤j→j<k+n→listed.getD j false=decide (j<k+i)
 down:∀(j:Nat) (o':Oper),ops[j]? =some o'→listed.getD j false=true→∀e∈AAp9 o',listed.getD e false=true
 len:tm.length=tm0.length
 got:∀(j:Nat) (o:Oper) (d:Nat),j<k+n→ops[j]? =some o→o.dst=some d→listed.getD j false=true→tm[d]? =tmF[d]?
 old:∀t,(∀(j:Nat) (o:Oper),j<k+n→ops[j]? =some o→listed.getD j false=true→o.dst≠some t)→tm[t]? =tm0[t]?
 heap:∃tmi,sts[i]? =some (tmi,hp)
theorem AGi9 {k n:Nat} (hd:AAz9 ops k n=true) (hk:k≤ops.size):∀(c:Nat) {i:Nat} {tm tmK:List AV},c=k - i→i≤k→xPre P call ops hp ((ops.toList.take k).drop i) tm=some tmK→
 (∀(j:Nat) (o:Oper),i≤j→j<k→ops[j]? =some o→∃x,xp P call ops hp tmK o=some x∧∀d,o.dst=some d→d<tm.length→tmK[d]? =some x)∧
 (∀t,(∀(j:Nat) (o:Oper),i≤j→j<k→ops[j]? =some o→o.dst≠some t)→tmK[t]? =tm[t]?)∧tmK.length=tm.length
 | 0,i,tm,tmK,hn,hi,hx=>by
  have hdrop:(ops.toList.take k).drop i= []:=List.drop_eq_nil_of_le (by simp;omega);rw [hdrop] at hx;simp only [xPre,Option.some.injEq] at hx;subst hx;exact ⟨fun j o h1 h2=>by omega,fun t _=>rfl,rfl⟩
 | c+1,i,tm,tmK,hn,hi,hx=>by
  have hil:i<ops.size:=by omega
  have hoi:ops[i]? =some ops[i]:=by simp [hil]
  have hdrop:(ops.toList.take k).drop i=ops[i]::(ops.toList.take k).drop (i+1):=by
   rw [List.drop_eq_getElem_cons (by simp;omega)];simp
  rw [hdrop] at hx;simp only [xPre] at hx;split at hx<;>try (cases hx;done)
  rename_i x hxp;obtain ⟨h1,h2,h3⟩:=AGi9 hd hk c (i:=i+1) (by omega) (by omega) hx;obtain ⟨hedge,hlook,hpure,_,_,_⟩:=ADn9 hd hoi;have hlook:=hlook (by omega);have hlen:(putA tm ops[i].dst x).length=tm.length:=ABh9 _ _ _;have hsame:∀t∈ops[i].looksAt ops,tmK[t]? =tm[t]? :=by
   intro t ht;have hno:∀(j:Nat) (o:Oper),i≤j→j<k→ops[j]? =some o→o.dst≠some t:=by
    intro j o hij hjk ho hdst;have:=hedge j (hlook t ht j o (by omega) ho hdst);omega
   rw [h2 t (fun j o hij hjk ho=>hno j o (by omega) hjk ho),ACh9 (hno i ops[i] (Zas _) (by omega) hoi)]
  refine ⟨fun j o hij hjk ho=> ?_,fun t ht=> ?_,h3.trans hlen⟩
  ·rcases Nat.eq_or_lt_of_le hij with rfl|hlt
   ·rw [hoi] at ho;cases ho;refine ⟨x,by rw [AGa9 (tm':=tm) (fun t ht=>AEb9 (hsame t ht))];exact hxp,fun d hdst hdl=> ?_⟩;rw [h2 d (fun j o hij hjk ho hdd=> ?_)]
    ·rw [hdst];simp [putA,hdl]
    ·have:=(ADn9 hd ho).2.2.2.1 (by omega) i ops[i] (by omega) hoi (by rw [hdd];simp);exact this (by rw [hdst,hdd])
   ·obtain ⟨x',h4,h5⟩:=h1 j o (by omega) hjk ho;exact ⟨x',h4,fun d hdst hdl=>h5 d hdst (by rw [hlen];exact hdl)⟩
  ·rw [h2 t (fun j o hij hjk ho=>ht j o (by omega) hjk ho),ACh9 (ht i ops[i] (Zas _) (by omega) hoi)]
theorem AQa9 {k n:Nat} (hd:AAz9 ops k n=true) (hk:k+n≤ops.size) {tmK:List AV} {hp0:List Blk} {sts:List (List AV×List Blk)} (hls:ACg9 P ((ops.toList.drop k).take n) tmK hp0=some sts) {tmF:List AV} {hpn:List Blk} (hlast:sts[n]? =some (tmF,hpn)):
 (∀(i:Nat) (t:List AV) (h:List Blk),sts[i]? =some (t,h)→i≤n→t.length=tmK.length∧∀d,(∀(j:Nat) (o:Oper),j<i→ops[k+j]? =some o→o.dst≠some d)→t[d]? =tmK[d]?)∧
 (∀(i:Nat) (t:List AV) (h:List Blk),sts[i]? =some (t,h)→i≤n→∀d,(∀(j:Nat) (o:Oper),i≤j→j<n→ops[k+j]? =some o→o.dst≠some d)→t[d]? =tmF[d]?):=by
 obtain ⟨sl1,sl2,sl3⟩:=ABw9 hls;have hll:((ops.toList.drop k).take n).length=n:=by simp;omega
 rw [hll] at sl1;have hop:∀i,i<n→((ops.toList.drop k).take n)[i]? =ops[k+i]? :=by
  intro i hi;rw [Zaq,if_pos hi,Zbm];simp
 constructor
 ·intro i;induction i with
  |zero=>intro t h hs _;rw [sl2] at hs;cases hs;exact ⟨rfl,fun _ _=>rfl⟩
  | succ i ih=>
   intro t h hs hi;have ho:ops[k+i]? =some ops[k+i]:=by simp<;>omega
   obtain ⟨t1,h1,x,h2,e1,e2,e3⟩:=sl3 i ops[k+i] ((hop i (by omega)).trans ho);rw [e2] at hs;cases hs;obtain ⟨f1,f2⟩:=ih t1 h1 e1 (by omega);refine ⟨by rw [ABh9,f1],fun d hdd=> ?_⟩;rw [ACh9 (hdd i _ (by omega) ho)];exact f2 d fun j o hj ho'=>hdd j o (by omega) ho'
 ·intro i t h hs hi;have key:∀(c i:Nat) (t:List AV) (h:List Blk),c=n - i→i≤n→sts[i]? =some (t,h)→∀d,(∀(j:Nat) (o:Oper),i≤j→j<n→ops[k+j]? =some o→o.dst≠some d)→t[d]? =tmF[d]? :=by
   intro c;induction c with
   | zero=>
    intro i t h hc hi hs d _;have:i=n:=by omega
    subst this;rw [hlast] at hs;cases hs;rfl
   | succ c ih=>
    intro i t h hc hi hs d hdd;have ho:ops[k+i]? =some ops[k+i]:=by simp<;>omega
    obtain ⟨t1,h1,x,h2,e1,e2,e3⟩:=sl3 i ops[k+i] ((hop i (by omega)).trans ho);rw [hs] at e1;cases e1;have:=ih (i+1) _ h2 (by omega) (by omega) e2 d fun j o hj hj' ho'=>hdd j o (by omega) hj' ho';rw [←this,ACh9 (hdd i _ (Zas _) (by omega) ho)]
  exact key _ i t h rfl hi hs
set_option maxHeartbeats 1000000 in
theorem AMi9 {QQ:Exit→Act→World→Prop} {k n:Nat} (hE:AppOk P) (hcall:AGy9 P call) (hd:AAz9 ops k n=true) (hk:k+n≤ops.size) {tm0 tmK:List AV} {hp0:List Blk} {sts:List (List AV×List Blk)}
 (hls:ACg9 P ((ops.toList.drop k).take n) tmK hp0=some sts) (hLK:∀(i:Nat) (o:Oper) (t:List AV) (h:List Blk),((ops.toList.drop k).take n)[i]? =some o→sts[i]? =some (t,h)→lateK P h t o True) (hx0:xPre P call ops hp0 (ops.toList.take k) tm0=some tmK)
 (hfr:∀(i:Nat) (t:List AV) (h:List Blk),sts[i]? =some (t,h)→∀(j:Nat) (o:Oper),j<k→ops[j]? =some o→(∀(i':Nat) (o':Oper),i'<i→ops[k+i']? =some o'→j∉AAp9 o')→xp P call ops h tmK o=xp P call ops hp0 tmK o)
 {tmF:List AV} {hpn:List Blk} (hlast:sts[n]? =some (tmF,hpn)):
 ∀(u:Nat) {S:Pr} {w:World} {m:List MB} {hv:List (List Value)} {a:Act} {listed:Array Bool} {tm:List AV} {hp:List Blk} {i:Nat},u=(unl ops.size listed).length→ANi9 ops k n sts tm0 tmF tm hp listed i→
 RelS S X yv w m B hv ⟨tm,hp, []⟩ a→
 Nx S X yv w m B ⟨tmF,hpn, []⟩ a (fun a w=>∀listed:Array Bool,listed.size=ops.size→(∀j,j<ops.size→listed.getD j false=decide (j<k+n))→wpAnyIn (Fn r) 0 P .any ops QQ (ops.size - (k+n)) listed a w)→
 wpAnyIn (Fn r) 0 P .any ops QQ u listed a w:=by
 obtain ⟨sl1,sl2,sl3⟩:=ABw9 hls;have hll:((ops.toList.drop k).take n).length=n:=by simp;omega
 rw [hll] at sl1;obtain ⟨L1,L2⟩:=AQa9 hd hk hls hlast;have spec0:=AGi9 (call:=call) (P:=P) (hp:=hp0) hd (by omega) k (i:=0) (tm:=tm0) (tmK:=tmK) rfl (Nat.zero_le _) (by simpa using hx0);have sp2:=spec0.2.1;have sp3:=spec0.2.2;obtain ⟨lenF,L1n⟩:=L1 n tmF hpn hlast (Zas _);have hold:∀t,(∀(j:Nat) (o:Oper),j<k+n→ops[j]? =some o→o.dst≠some t)→tmF[t]? =tm0[t]? :=by
  intro t ht;rw [L1n t fun j o hj ho=>ht (k+j) o (by omega) ho,sp2 t fun j o _ hj ho=>ht j o (by omega) ho]
 have hfin:∀ {listed:Array Bool} {tm:List AV} {hp:List Blk} {i:Nat},ANi9 ops k n sts tm0 tmF tm hp listed i→(∀j,j<k+n→listed.getD j false=true)→tm=tmF∧hp=hpn∧i=n:=by
  intro listed tm hp i hI hall;have hin:i=n:=by
   rcases Nat.lt_or_ge i n with h'|h'
   ·have:=hI.mid (k+i) (by omega) (by omega);rw [hall _ (by omega)] at this;simp at this
   ·have:=hI.hi;omega
  subst hin;refine ⟨?_, ?_,rfl⟩
  ·apply List.ext_getElem?;intro t;by_cases hc:∃(j:Nat) (o:Oper),j<k+i∧ops[j]? =some o∧o.dst=some t
   ·obtain ⟨j,o,g1,g2,g3⟩:=hc;exact hI.got j o t g1 g2 g3 (hall j g1)
   ·rw [hI.old t (fun j o g1 g2 _ g3=>hc ⟨j,o,g1,g2,g3⟩),hold t (fun j o g1 g2 g3=>hc ⟨j,o,g1,g2,g3⟩)]
  ·obtain ⟨t,ht⟩:=hI.heap;rw [hlast] at ht;cases ht;rfl
 intro u;induction u with
 | zero=>
  intro S w m hv a listed tm hp i hn hI hr hK;have hall:∀j,j<ops.size→listed.getD j false=true:=by
   intro j hj;cases hh:listed.getD j false with
   |true=>rfl
   | false=>
    have:j∈unl ops.size listed:=by simp only [unl,List.mem_filter,Zbs,hh];exact ⟨hj,rfl⟩
    rw [List.length_eq_zero_iff.1 hn.symm] at this;cases this
  have hkk:k+n=ops.size:=by
   rcases Nat.lt_or_ge (k+n) ops.size with h'|h'
   ·have:=hall _ h';rw [hI.far _ (Zas _)] at this;cases this
   ·omega
  obtain ⟨rfl,rfl,rfl⟩:=hfin hI fun j hj=>hall j (by omega);have:=hK S w m hv a (Gs.refl _ _ _ _ _) hr rfl rfl listed hI.sz (fun j hj=>by rw [hall j hj];simp;omega);rw [hkk,Nat.sub_self] at this;exact this
 | succ u ih=>
  intro S w m hv a listed tm hp i hn hI hr hK;by_cases hdone:∀j,j<k+n→listed.getD j false=true
  ·obtain ⟨rfl,rfl,rfl⟩:=hfin hI hdone;have hlist:∀j,j<ops.size→listed.getD j false=decide (j<k+i):=by
    intro j hj;by_cases hjk:j<k+i
    ·rw [hdone j hjk];simp [hjk]
    ·rw [hI.far j (by omega)];simp [hjk]
   have hcount:(unl ops.size listed).length=ops.size - (k+i):=by
    have e:unl ops.size listed=(Zay ops.size).filter fun j=> !decide (j<k+i):=by
     unfold unl;refine List.filter_congr fun j hj=> ?_;rw [hlist j (Zbs.1 hj)]
    rw [e];have e2:Zay ops.size=Zay (k+i)++(Zay (ops.size - (k+i))).map (k+i+ ·):=by
     rw [←List.range_add];congr 1;omega
    rw [e2,List.filter_append];have e3:(Zay (k+i)).filter (fun j=> !decide (j<k+i))= []:=by
     rw [List.filter_eq_nil_iff];intro j hj;have:=Zbs.1 hj;simp [this]
    rw [e3,List.filter_eq_self.2]
    ·simp
    ·intro j hj;obtain ⟨l,_,rfl⟩:=Zbd.1 hj;simp
   rw [hn,hcount];exact hK S w m hv a (Gs.refl _ _ _ _ _) hr rfl rfl listed hI.sz hlist
  ·have hex:∃j,j<k+n∧listed.getD j false=false:=by
    apply Classical.byContradiction;intro hno;exact hdone fun j hj=>by
     cases hh:listed.getD j false with
     |true=>rfl
     |false=>exact absurd ⟨j,hj,hh⟩ hno
   have hmin:∃j,j<k+n∧listed.getD j false=false∧∀i,i<j→listed.getD i false=true:=by
    obtain ⟨j,hj⟩:=hex;induction j using Nat.strongRecOn with
    | ind j ihj=>
     by_cases hall:∀i,i<j→listed.getD i false=true
     ·exact ⟨j,hj.1,hj.2,hall⟩
     ·have:∃i,i<j∧listed.getD i false=false:=by
       apply Classical.byContradiction;intro hno;exact hall fun i hi=>by
        cases hh:listed.getD i false with
        |true=>rfl
        |false=>exact absurd ⟨i,hi,hh⟩ hno
      obtain ⟨i,hi,hi0⟩:=this;exact ihj i hi ⟨by omega,hi0⟩
   obtain ⟨j0,hj0k,hj00,hj0all⟩:=hmin;have hgt:∀j,j<ops.size→listed.getD j true=listed.getD j false:=by
    intro j hj;simp [hI.sz,hj]
   have hmem:j0∈Zek .any ops listed:=by
    have hj0:j0<ops.size:=by omega
    refine ABg9 (o:=ops[j0]) (by simp [hj0]) (by rw [hgt j0 hj0];exact hj00) fun e he=> ?_;exact hj0all e ((ADn9 hd (by simp [hj0])).1 e he)
   refine ⟨fun h0=>(by rw [h0] at hmem;cases hmem),fun j hj=> ?_⟩;obtain ⟨oj,hoj,hj0,hje⟩:=ACe9 hj;have hjl:j<ops.size:=(Zah.1 hoj).1;rw [hgt j hjl] at hj0;have hjk:j<k+n:=by
    rcases Nat.lt_or_ge j (k+n) with h'|h'
    ·exact h'
    ·have:=AFy9 hI.down ops.size j oj hoj hje j0 ((ADn9 hd hoj).2.2.2.2.2 h' j0 (by omega));rw [hj00] at this;cases this
   obtain ⟨hedge,hlook,hpure,huniq,hmidanc,_⟩:=ADn9 hd hoj;have hlk:=hlook hjk;have huq:=huniq hjk;have hsame:∀t∈oj.looksAt ops,tm[t]? =tmF[t]? :=by
    intro t ht;by_cases hc:∃(i:Nat) (o:Oper),i<k+n∧ops[i]? =some o∧o.dst=some t
    ·obtain ⟨i,o,g1,g2,g3⟩:=hc;exact hI.got i o t g1 g2 g3 (hje i (hlk t ht i o g1 g2 g3))
    ·rw [hI.old t (fun j o g1 g2 _ g3=>hc ⟨j,o,g1,g2,g3⟩),hold t (fun j o g1 g2 g3=>hc ⟨j,o,g1,g2,g3⟩)]
   have hget:∀i,(listed.setIfInBounds j true).getD i false=(if i=j then true else listed.getD i false):=by
    intro i;simp only [Array.getD_eq_getD_getElem?,Array.getElem?_setIfInBounds];by_cases hij:j=i
    ·subst hij;simp [hI.sz,hjl]
    ·simp [hij,Ne.symm hij]
   have hdown':∀(i:Nat) (o':Oper),ops[i]? =some o'→(listed.setIfInBounds j true).getD i false=true→∀e∈AAp9 o',(listed.setIfInBounds j true).getD e false=true:=by
    intro i o' ho' hi e he;rw [hget] at hi ⊢;split at hi
    ·rename_i hij;subst hij;rw [hoj] at ho';cases ho';split
     ·rfl
     ·exact hje e he
    ·split
     ·rfl
     ·exact hI.down i o' ho' hi e he
   have hdst:∀(i:Nat) (o:Oper),i<k+n→i≠j→ops[i]? =some o→oj.dst≠none→o.dst≠oj.dst:=by
    intro i o hik hij ho hne he;rcases Nat.lt_or_ge i j with h'|h'
    ·exact huq i o h' ho hne he
    ·exact (ADn9 hd ho).2.2.2.1 hik j oj (by omega) hoj (by rw [he];exact hne) he.symm
   have htl:tm.length=tmF.length:=by rw [hI.len,lenF,sp3]
   have hgot':∀(x:AV),(∀d,oj.dst=some d→d<tm.length→tmF[d]? =some x)→∀(i':Nat) (o:Oper) (d:Nat),i'<k+n→ops[i']? =some o→o.dst=some d→(listed.setIfInBounds j true).getD i' false=true→(putA tm oj.dst x)[d]? =tmF[d]? :=by
    intro x hxF i' o d hik ho hod hi';rw [hget] at hi';by_cases hij:i'=j
    ·subst hij;rw [hoj] at ho;cases ho;rw [hod];by_cases hdl:d<tm.length
     ·rw [hxF d hod hdl];simp [putA,hdl]
     ·simp only [putA];rw [Zby (by simp;omega),Zby (by omega)]
    ·rw [if_neg hij] at hi';rw [ACh9]
     ·exact hI.got i' o d hik ho hod hi'
     ·intro he;exact hdst i' o hik hij ho (by rw [he];simp) (by rw [hod,he])
   have hold':∀(x:AV) (t:Nat),(∀(j':Nat) (o:Oper),j'<k+n→ops[j']? =some o→(listed.setIfInBounds j true).getD j' false=true→o.dst≠some t)→(putA tm oj.dst x)[t]? =tm0[t]? :=by
    intro x t ht;rw [ACh9 (ht j oj hjk hoj (by rw [hget,if_pos rfl]))];exact hI.old t fun i' o hik ho hi'=>ht i' o hik ho (by rw [hget];split<;>simp_all)
   unfold wpOpIn;simp only [hoj];obtain ⟨tmi,hheap⟩:=hI.heap;by_cases hjp:j<k
   ·
    have hpk:=hpure hjp;obtain ⟨x,hxp0,hxd⟩:=spec0.1 j oj (Nat.zero_le _) hjp hoj;have hxp:xp P call ops hp tmK oj=some x:=(hfr i tmi hp hheap j oj hjp hoj fun i' o' hi' ho' he=>by
     have g1:=hI.mid (k+i') (by omega) (by have:=hI.hi;omega);have g2:=hI.down (k+i') o' ho' (by rw [g1];simp;omega) j he;rw [hj0] at g2;cases g2).trans hxp0
    have hKF:∀t∈oj.looksAt ops,tmF[t]? =tmK[t]? :=fun t ht=>L1n t fun j' o' hj' ho' hd'=>by
     have:=hedge _ (hlk t ht (k+j') o' (by omega) ho' hd');omega
    have hxp':xp P call ops hp tm oj=some x:=by
     rw [AGa9 (tm':=tmK) (fun t ht=>AEb9 ((hsame t ht).trans (hKF t ht)))];exact hxp
    obtain ⟨pv',hst,_,_⟩:=AVp9 (pv:= []) hpk hxp';have hxF:∀d,oj.dst=some d→d<tm.length→tmF[d]? =some x:=fun d hod hdl=>by
     rw [L1n d fun j' o' hj' ho' hd'=>(ADn9 hd ho').2.2.2.1 (by omega) j oj (by omega) hoj (by rw [hd'];simp) (by rw [hod,hd'])];exact hxd d hod (by rw [←hI.len];exact hdl)
    refine AFp9 hcall hr hst fun S' w' m' hv' a' hg hr' hdd hsz=> ?_;refine ih (i:=i) (by have:=AJk9 hI.sz hjl hj0;omega) ⟨by simp [hI.sz],hI.hi,fun i' hi'=>by rw [hget,if_neg (by omega)];exact hI.far i' hi',fun i' h1 h2=>by rw [hget,if_neg (by omega)];exact hI.mid i' h1 h2,hdown',
     by rw [ABh9];exact hI.len,hgot' x hxF,hold' x,hI.heap⟩ ⟨hr'.1,hr'.2.1,by intro p hp;cases hp⟩
     fun S'' w'' m'' hv'' a'' hg' hr'' hd' hsz'=>hK S'' w'' m'' hv'' a'' (hg.trans hg') hr'' (hd'.trans hdd) (hsz'.trans hsz)
   ·
    have hji:j=k+i:=by
     have h1:=hI.mid j (by omega) hjk;rw [hj0] at h1;have h1':¬j<k+i:=by simpa using h1.symm
     rcases Nat.lt_or_ge (k+i) j with h'|h'
     ·have:=AFy9 hI.down ops.size j oj hoj hje (k+i) (hmidanc (by omega) (k+i) (by omega) h');have h2:=hI.mid (k+i) (by omega) (by omega);rw [this] at h2;simp at h2
     ·omega
    subst hji;have hol:((ops.toList.drop k).take n)[i]? =some oj:=by
     rw [Zaq,if_pos (by omega),Zbm];simpa using hoj
    obtain ⟨t1,h1,x,h2,e1,e2,e3⟩:=sl3 i oj hol;rw [hheap] at e1;cases e1;have hTi:∀t∈oj.looksAt ops,tm[t]? =tmi[t]? :=fun t ht=>by
     rw [hsame t ht];exact (L2 i tmi hp hheap (by omega) t fun j' o' hj' hjn ho' hd'=>by
      have:=hedge _ (hlk t ht (k+j') o' (by omega) ho' hd');omega).symm
    obtain ⟨pv',hst⟩:=AIi9 (call:=call) (ops:=ops) (P:=P) (tm:=tm) (o:=oj) (x:=x) (hp:=hp) (hp':=h2) hE (by rw [AHe9 (ops:=ops) (tm':=tmi) (fun t ht=>AEb9 (hTi t ht))];exact hLK i oj tmi hp hol hheap) (by rw [AHa9 (ops:=ops) (tm':=tmi) (fun t ht=>AEb9 (hTi t ht))];exact e3);have hxF:∀d,oj.dst=some d→d<tm.length→tmF[d]? =some x:=fun d hod hdl=>by
     rw [←L2 (i+1) _ h2 e2 (by omega) d fun j' o' hj' hjn ho' hd'=>(ADn9 hd ho').2.2.2.1 (by omega) (k+i) oj (by omega) hoj (by rw [hd'];simp) (by rw [hod,hd']),hod];have hl:tmi.length=tm.length:=by rw [(L1 i tmi hp hheap (by omega)).1,hI.len,sp3]
     simp [putA,hl,hdl]
    refine hst.sound hcall hr fun S' w' m' hv' a' hg hr' hdd hsz=> ?_;refine ih (i:=i+1) (by have:=AJk9 hI.sz hjl hj0;omega) ⟨by simp [hI.sz],by omega,fun i' hi'=>by rw [hget,if_neg (by omega)];exact hI.far i' hi',fun i' g1 g2=> ?_,hdown',by rw [ABh9];exact hI.len,hgot' x hxF,hold' x,⟨_,e2⟩⟩ ⟨hr'.1,hr'.2.1,by intro p hp;cases hp⟩
     fun S'' w'' m'' hv'' a'' hg' hr'' hd' hsz'=>hK S'' w'' m'' hv'' a'' (hg.trans hg') hr'' (hd'.trans hdd) (hsz'.trans hsz)
    rw [hget];split
    ·subst_vars;simp
    ·rw [hI.mid i' g1 g2];simp;omega
theorem WA.late (k n:Nat) {tmK tmF:List AV} {sts:List (List AV×List Blk)} {hpn:List Blk} (call:CallT) (hE:AppOk P) (hcall:AGy9 P call) (hd:AAz9 ops k n=true) (hk:k+n≤ops.size)
 (hls:ACg9 P ((ops.toList.drop k).take n) tmK s.hp=some sts) (hlk:∀(i:Nat) (o:Oper) (t:List AV) (h:List Blk),((ops.toList.drop k).take n)[i]? =some o→sts[i]? =some (t,h)→lateK P h t o True) (hx:xPre P call ops s.hp (ops.toList.take k) s.tm=some tmK)
 (hfr:∀(i:Nat) (t:List AV) (h:List Blk),sts[i]? =some (t,h)→∀(j:Nat) (o:Oper),j<k→ops[j]? =some o→(∀(i':Nat) (o':Oper),i'<i→ops[k+i']? =some o'→j∉AAp9 o')→xp P call ops h tmK o=xp P call ops s.hp tmK o) (hlast:sts[n]? =some (tmF,hpn))
 (h:wOps Ev ops (ops.toList.drop (k+n)) ⟨tmF,hpn, []⟩ s.b (fun s' b'=>Q .normal ⟨s'.tm,s'.hp,b'⟩)):WA Ev ops s Q:=by
 intro lo r S X V w m B hv a ht;have ht':=ht.drew;have hget:∀j,(Array.replicate ops.size false).getD j false=false:=by intro j;simp [Array.getElem?_replicate];split<;>rfl
 have h0:sts[0]? =some (tmK,s.hp):=(ABw9 hls).2.1;refine AMi9 hE hcall hd hk hls hlk hx hfr hlast ops.size (i:=0) (tm:=s.tm) ?_ ⟨by simp,Nat.zero_le _,fun j _=>hget j,fun j h1 _=>(by rw [hget];simp;omega),fun j o' _ hj=>(by rw [hget] at hj;cases hj),rfl,
  fun j o d _ _ _ hj=>(by rw [hget] at hj;cases hj),fun _ _=>rfl,⟨_,h0⟩⟩ ht'.rel ?_
 ·have:unl ops.size (Array.replicate ops.size false)=Zay ops.size:=by
   unfold unl;rw [List.filter_eq_self];intro j _;rw [hget];rfl
  rw [this];simp
 ·intro S' w' m' hv' a' hg hr hd' hsz listed hls' hl;refine AIn9 (s:=⟨tmF,hpn, []⟩) (b:=s.b) (k:=k+n) (fun i o ho=>(ADn9 hd ho).1) (fun i o ho=>(ADn9 hd ho).2.2.2.2.2) _ rfl (Zas _) hls' hl (ht'.step hg hr hd') h fun s' b' hq S'' X'' V'' w'' m'' hv'' a'' hw hm' ht''=> ?_;exact ⟨⟨s'.tm,s'.hp,b'⟩,S'',X'',V'',m'',hv'',hq,⟨((AIk9 ht.rel.slt).trans (hg.went hr.slt)).trans hw,hg.ms.trans hm'⟩,⟨⟨ht''.rel.1,ht''.rel.2.1,by intro p hp;cases hp⟩,ht''.sub,ht''.env,ht''.round,ht''.marks,ht''.base⟩⟩
end
def resA (P:Program) (hp:List Blk) (tm:List AV):ResultVar→Option AV
 | .tmp t=>some (tm.getD t .bad).view
 | .cell a t=>xLoad P hp t (tm.getD a .bad)
def resAs (P:Program) (hp:List Blk) (tm:List AV):List ResultVar→Option (List AV)
 | []=>some []
 | x::l=>match resA P hp tm x,resAs P hp tm l with
  |some y,some ys=>some (y::ys)
  |_,_=>none
def BCo9 (tmps:Array Value):ResultVar→Sem Value
 | .tmp t=>pure (tmps.getD t undef)
 | .cell a t=>do loadVar t (←asAddr (tmps.getD a undef))
def resV:List AV→AV
 | [x]=>x
 |xs=> .tup xs
mutual
def sealV (hp:List Blk):AV→Option AV
 | .ref g off n cap k=>match hp[g]? with
  |some blk=>if blk.grow then none else (chunk k n ((blk.cells.drop off).take (n*k))).map fun xs=> .d (.sl k xs)
  |none=>none
 | .ptr g off=>match hp[g]? with
  | some blk=>if blk.grow then none else match toDs (blk.cells.drop off) with
   |some (d::ds)=>some (.rptr (d::ds))
   |_=>none
  |none=>none
 | .own _ k xs=>some (.d (.sl k xs))
 | .agg cs=>(ARk9 hp cs).map .agg
 | .tup cs=>(ARk9 hp cs).map .tup
 | .fn f a b=>match ARk9 hp a,ARk9 hp b with
  |some a,some b=>some (.fn f a b)
  |_,_=>none
 | .gref .. | .gptr .. | .yl=>none
 |x=>some x
def ARk9 (hp:List Blk):List AV→Option (List AV)
 | []=>some []
 | x::l=>match sealV hp x,ARk9 hp l with
  |some y,some ys=>some (y::ys)
  |_,_=>none
end
def ACq9 (S:Pr) (m:List MB):Pr:=fun b i=>S b i∨∃(g:Nat) (p:MB),m[g]? =some p∧p.b=b∧i<p.len
section
variable {P:Program} {S S' X X' V V' Z:Pr} {L:Nat→Prop} {lo:Nat} {yv:Option Nat} {w w':World} {m m':List MB} {B:List (AV×Value)} {hp hp':List Blk} {hv hv':List (List Value)} {a a':Act} {o:Oper} {Ev:Env P} {s:St Ev.β} {c c':Code}
theorem AFn9:∀ {cs ys:List AV},ARk9 hp cs=some ys→ys.length=cs.length∧∀(i:Nat) (x:AV),cs[i]? =some x→∃y,ys[i]? =some y∧sealV hp x=some y
 | [],ys,h=>by simp only [ARk9,Option.some.injEq] at h;subst h;simp
 | x::l,ys,h=>by
  simp only [ARk9] at h;split at h<;>try (cases h;done)
  rename_i y ys' h1 h2;cases h;obtain ⟨h3,h4⟩:=AFn9 h2;refine ⟨by simp [h3],fun i z hz=> ?_⟩;cases i with
  |zero=>simp at hz;subst hz;exact ⟨y,rfl,h1⟩
  |succ i=>simp at hz;simpa using h4 i z hz
theorem Rel.cellsOf (h:Rel S X yv w m (B++AAa9 hp hv) hp hv) {g off:Nat} {p:MB} {blk:Blk} (hm:m[g]? =some p) (hb:hp[g]? =some blk):
 ∃us:List Value,RVs S w m yv (blk.cells.drop off) us∧(∀(j:Nat) (u:Value),us[j]? =some u→w.cell? ⟨p.b,off+j,none⟩=some u∧off+j<p.len)∧(∀u∈us,u.oneCell'=true):=by
 obtain ⟨blk',vs,cur,e,g1,g2,g3,g4,g5,g6,g7,g8,g9,g10,_⟩:=h.block hm;rw [hb] at g1;cases g1;refine ⟨vs.drop off,⟨by simp;omega,fun i c u h1 h2=> ?_⟩,fun j u hu=> ?_,fun u hu=>g7 u (List.mem_of_mem_drop hu)⟩
 ·simp only [Zbm] at h1 h2;obtain ⟨pre,post,e1,_⟩:=ACf9 hb g2;refine h.rv (c,u) (List.mem_append_right _ ?_);rw [e1];refine Zbc _ (List.mem_append_right _ (Zak.2 ⟨off+i, ?_⟩));rw [Zar];exact ⟨h1,h2⟩
 ·simp only [Zbm] at hu;exact ⟨AGw9 g8 g9 _ u hu,by have:=(Zaa.1 hu).1;omega⟩
theorem RVs.take {cs:List AV} {us:List Value} (h:RVs S w m yv cs us) (n:Nat):RVs S w m yv (cs.take n) (us.take n):=by
 refine ⟨by simp [h.1],fun i c v h1 h2=> ?_⟩;rw [Zaq] at h1 h2;split at h1<;>try (cases h1;done)
 rename_i hi;rw [if_pos hi] at h2;exact h.2 i c v h1 h2
theorem tm_rv {s:RS} (h:RelS S X yv w m B hv s a) (t:Nat):RV S w m yv (s.tm.getD t .bad) (a.tmps.getD t undef):=by
 have:=AAj9 h (.tmp t);simpa [evalA,Act.eval] using this
theorem BCp9 {s:RS} (h:RelS S X yv w m B hv s a) {x:ResultVar} {y:AV} (hx:resA P s.hp s.tm x=some y):
 ∃v,(BCo9 a.tmps x).run P w= .ok v w∧RV S w m yv y v∧ownB (y,v)=none:=by
 cases x with
 | tmp t=>
  simp only [resA,Option.some.injEq] at hx;subst hx;exact ⟨a.tmps.getD t undef,rfl,(tm_rv h t).view,AAs9 _ _⟩
 | cell p t=>
  simp only [resA,xLoad] at hx;split at hx<;>try (cases hx;done)
  rename_i cs hcs;have hr:Rel S X yv w m ((s.tm.zip a.tmps.toList++B)++AAa9 s.hp hv) s.hp hv:=by simpa using h.2.1
  obtain ⟨b,o,us,e1,e2,e3,e4,e5⟩:=AGx9 hr (tm_rv h p) hcs;obtain ⟨v,h1,h2,h3⟩:=ARw9 (P:=P) e2 e3 e5 hx;refine ⟨v, ?_,h2,h3⟩;simp only [BCo9,Sem.run_bind,e1,asAddr,Sem.run_pure,Result.andThen_ok,h1]
theorem AOd9 {s:RS} (h:RelS S X yv w m B hv s a):∀ {l:List ResultVar} {ys:List AV},resAs P s.hp s.tm l=some ys→
 ∃vs:List Value,(l.mapM (BCo9 a.tmps)).run P w= .ok vs w∧RVs S w m yv ys vs
 | [],ys,hx=>by simp only [resAs,Option.some.injEq] at hx;subst hx;exact ⟨[],rfl,rfl,by simp⟩
 | x::l,ys,hx=>by
  simp only [resAs] at hx;split at hx<;>try (cases hx;done)
  rename_i y ys' h1 h2;cases hx;obtain ⟨v,h3,h4,_⟩:=BCp9 h h1;obtain ⟨vs,h5,h6⟩:=AOd9 h h2;refine ⟨v::vs, ?_,by simp [h6.1],fun i c u hc hu=> ?_⟩
  ·simp only [List.mapM_cons,Sem.run_bind,h3,Result.andThen_ok,h5,Sem.run_pure]
  ·cases i with
   |zero=>simp at hc hu;subst hc;subst hu;exact h4
   |succ i=>simp at hc hu;exact h6.2 i c u hc hu
theorem AKb9 {s:RS} {fn:Func} (h:RelS S X yv w m B hv s a) {ys:List AV} (hx:resAs P s.hp s.tm fn.results.toList=some ys):∃v,(results fn a.tmps).run P w= .ok v w∧RV S w m yv (resV ys) v:=by
 obtain ⟨vs,h1,h2⟩:=AOd9 h hx;refine ⟨if h:vs.toArray.size=1 then vs.toArray[0] else .tuple vs.toArray, ?_, ?_⟩
 ·have e0:results fn a.tmps=(do let vs ←fn.results.mapM (BCo9 a.tmps);pure (if h:vs.size=1 then vs[0] else .tuple vs)):=by
   unfold results;congr
  rw [e0,Array.mapM_eq_mapM_toList];simp only [Sem.run_bind];have e:(List.toArray<$>fn.results.toList.mapM (BCo9 a.tmps)).run P w= .ok vs.toArray w:=by
   rw [map_eq_pure_bind,Sem.run_bind,h1];rfl
  rw [e];rfl
 ·match ys,vs,h2 with
  | [],vs,h2=>
   have:vs= []:=by simpa using h2.1.symm
   subst this;simp only [resV];exact .tup rfl (by simp)
  | [y],vs,h2=>
   obtain ⟨v,rfl⟩:∃v,vs= [v]:=by
    have:=h2.1
    match vs,this with
    | [v],_=>exact ⟨v,rfl⟩
   exact h2.2 0 y v rfl rfl
  | y::y'::ys,vs,h2=>
   have hne:¬vs.toArray.size=1:=by have:=h2.1;simp at this ⊢;omega
   rw [dif_neg hne];simp only [resV];exact .tup (by simpa using h2.1) (fun i c v hc hv=>h2.2 i c v hc (by simpa using hv))
theorem AWy9 {fn:Func} {tmps:Array Value} {R:Ending→World→Prop} {K:World→Prop} (hK:∀w d,K w→lo≤d→w.heap[d]? =some (.deferred (some []))→K (w.putObj d (.deferred none)))
 (hend:∀w,K w→∃v,(results fn tmps).run P w= .ok v w∧R (.returned v) w):∀ {ds:List Deferred} {w:World},Marks lo w ds→K w→LeavesInM (Fn none) 0 P fn tmps R ds .returning w:=by
 intro ds w ⟨bs,h1,h2,h3⟩ hk;subst h1;induction bs generalizing w with
 |nil=>exact hend w hk
 | cons b bs ih=>
  simp only [List.nodup_cons] at h2;refine ⟨by simp, .inl ⟨b,w.putObj b (.deferred none),rfl,run_takeDeferred (h3 b (by simp)).2,ih h2.2 (fun b' hb'=>⟨(h3 b' (by simp [hb'])).1, ?_⟩) (hK w b hk (h3 b (by simp)).1 (h3 b (by simp)).2)⟩⟩;have hne:b'≠b:=fun e=>h2.1 (e▸hb');rw [Zbp hne];exact (h3 b' (by simp [hb'])).2
def AIg9 {β:Type} (P:Program) (fn:Func) (R:AV→List Blk→β→Prop) (e:Exit) (s:St β):Prop:=
 (e= .ret∨e= .normal)∧∃ys,resAs P s.hp s.tm fn.results.toList=some ys∧R (resV ys) s.hp s.b
def AAw9 (fn:Func) (args:List AV):List AV:=args++Zaf (fn.ntmps - args.length) .bad
theorem AWd9 {fn:Func} {args:List AV} {vs:List Value} {tmps:Array Value} {C:List (AV×Value)} (ht:tmps=vs.toArray++Array.replicate (fn.ntmps - vs.toArray.size) undef) (hl:args.length=vs.length)
 (h:Rel S X yv w m (args.zip vs++C) hp hv):(AAw9 fn args).length=tmps.size∧Rel S X yv w m ((AAw9 fn args).zip tmps.toList++C) hp hv:=by
 subst ht;refine ⟨by simp [AAw9,hl], ?_⟩;have e:(AAw9 fn args).zip (vs.toArray++Array.replicate (fn.ntmps - vs.toArray.size) undef).toList=args.zip vs++(Zaf (fn.ntmps - args.length) AV.bad).zip (Zaf (fn.ntmps - args.length) undef):=by
  simp [AAw9,hl,List.zip_append hl]
 rw [e];have h1:=h.pushAll ((Zaf (fn.ntmps - args.length) AV.bad).zip (Zaf (fn.ntmps - args.length) undef)) (fun p hp=>by
  obtain ⟨p1,p2⟩:=p;have:=(List.of_mem_zip hp).1;have:p1= .bad:=List.eq_of_mem_replicate this;subst this;exact ⟨.bad,rfl⟩)
 refine h1.perm ?_;rw [←List.append_assoc];exact List.Perm.append_right _ List.perm_append_comm
theorem AFi9 {f:Nat} {fn:Func} {c:Code} (hf:P.funcs[f]? =some fn) (hb:fn.body=some c) (hn:(fn.name== "runtime.NumGoroutine")=false) (azz:Array Value) (w:World):(callFunc f azz).run P w= .ok (.enter f azz) w:=by
 unfold callFunc;simp only [Sem.run_bind,run_program,Result.andThen_ok,hf,hn,hb];rfl
theorem Tr.putObj (h2:Tr Z L S w S' w') {d:Nat} {o o':Obj} (hd:w.heap.size≤d) (hdef:w'.heap[d]? =some o):Tr Z L S w S' (w'.putObj d o'):=by
 refine ⟨h2.os,h2.tape,h2.output,by simpa using h2.size,fun b c e f hb=> ?_,fun b o hb ho=> ?_,fun b i v hs hv=> ?_,h2.up,h2.new,fun b i hs=>by simpa using h2.lt b i hs⟩
 ·obtain ⟨c',h3,h4⟩:=h2.cells b c e f hb;have hne:b≠d:=fun he=>by have:=(Zah.1 hb).1;omega
  exact ⟨c',by rw [Zbp hne];exact h3,h4⟩
 ·have hne:b≠d:=fun he=>by have:=(Zah.1 hb).1;omega
  rw [Zbp hne];exact h2.objs b o hb ho
 ·have hne:b≠d:=fun he=>by have:=World.block_lt_of_cell? w ⟨b,i,none⟩ hv;simp at this;omega
  rw [Zde (w:=w') (a:=⟨b,i,none⟩) (Zbp hne)];exact h2.same b i v hs hv
theorem ADm9 {f:Nat} {fn:Func} {c:Code} {args:List AV} {vs:List Value} {b:Ev.β} {R:AV→List Blk→Ev.β→Prop} {RR:Ending→World→Prop} (hf:P.funcs[f]? =some fn) (hb:fn.body=some c) (hl:args.length=vs.length)
 (hW:W Ev c ⟨AAw9 fn args,hp,b⟩ (AIg9 P fn R)) (hr:Rel S X Ev.yl w m (args.zip vs++(B++AAa9 hp hv)) hp hv) (hV:∀b i,V b i→X b i) (hE:Ev.E b S V w) (hN:Ev.N≤w.heap.size)
 (hR:∀ {x S' X' V' w' m' hv' hp' v b'},R x hp' b'→Tr (fun b i=>¬X b i∨V b i) Ev.L S w S' w'→(∀b i,X b i→X' b i)→MStep m m'→Rel S' X' Ev.yl w' m' (B++AAa9 hp' hv') hp' hv'→Ev.E b' S' V' w'→RV S' w' m' Ev.yl x v→RR (.returned v) w'):
 CallsIn Zdi 0 P f vs.toArray w RR:=by
 refine callsIn_of_wp_marks (F:=Fn none) hf hb trivial ?_;obtain ⟨h1,h2⟩:=AWd9 (fn:=fn) rfl hl hr;refine wpIn_mono (hW w.heap.size none S X V w m B hv _ ⟨⟨h1,h2,by intro p hp;cases hp⟩,hV,hE,(fun l hl=>by cases hl),⟨[],rfl,List.nodup_nil,by simp⟩,hN,Zas _⟩) fun e a' w' ⟨s',S',X',V',m',hv',hq,hm,ht⟩=> ?_;obtain ⟨he,ys,hys,hRy⟩:=hq;have hleave:LeavesInM (Fn none) 0 P fn a'.tmps RR a'.defers .returning w':=by
  refine AWy9 (lo:=w.heap.size) (K:=fun w'=>RelS S' X' Ev.yl w' m' B hv' s'.rs a'∧Ev.E s'.b S' V' w'∧Tr (fun b i=>¬X b i∨V b i) Ev.L S w S' w') (fun w' d ⟨k1,k2,k3⟩ hd hdef=> ?_) (fun w' ⟨k1,k2,k3⟩=> ?_) ht.marks ⟨ht.rel,ht.env,hm.1.tr⟩
  ·exact ⟨⟨k1.1,k1.2.1.putObj hdef rfl,k1.2.2⟩,Ev.stableO _ k2 (Zch hN hd) hdef rfl rfl,k3.putObj hd hdef⟩
  ·obtain ⟨v,h3,h4⟩:=AKb9 (P:=P) (fn:=fn) k1 hys;exact ⟨v,h3,hR hRy k3 hm.1.xs hm.2 (k1.2.1.sub (List.sublist_append_right _ _)) k2 h4⟩
 rcases he with rfl|rfl
 ·exact hleave
 ·exact hleave
def Env.none (P:Program) (yl:Option Nat):Env P:=Env.alone P yl 0 (fun _ _ _=>True) (fun _ _=>trivial) (fun _ _ _ _ _ _=>trivial)
theorem AEq9 (h:Tr Z L S w S' w') (hZ:∀b i,b<w.heap.size→¬Z b i) (hL:∀b,¬L b):Below w.heap.size w w':=by
 refine ⟨h.os,h.tape,h.output,h.size,fun k hk=> ?_⟩;have hk1:w.heap[k]? =some w.heap[k]:=by simp [hk]
 cases ho:w.heap[k] with
 | cells c e f=>
  rw [ho] at hk1;obtain ⟨c',h1,h2⟩:=h.cells k c e f hk1;rw [hk1,h1];congr 2;apply Array.ext h2;intro i hi hi';have h3:w.cell? ⟨k,i,none⟩=some c[i]:=by simp [World.cell?,hk1,hi']
  have h4:=h.same k i _ (.inr (hZ k i hk)) h3;simp only [World.cell?,h1] at h4;simpa [hi] using h4
 | _=>
  rw [ho] at hk1;rcases h.objs k _ hk1 rfl with h1|⟨h1,_⟩|⟨h1,_⟩
  ·rw [hk1,h1]
  ·exact absurd h1 (hL _)
  ·exact absurd h1 (hL _)
theorem SCall.ofW {f:Nat} {fn:Func} {c:Code} {args:List AV} {x:AV} {hp':List Blk} (hf:P.funcs[f]? =some fn) (hb:fn.body=some c) (hn:(fn.name== "runtime.NumGoroutine")=false)
 (hW:∀(Ev:Env P) (b:Ev.β),W Ev c ⟨AAw9 fn args,hp,b⟩ (AIg9 P fn fun y hp1 _=>y=x∧hp1=hp')):SCall P f args hp x hp':=by
 refine ⟨AFi9 hf hb hn,fun S X yv w m B hv vs hl hrel=> ?_⟩;refine ADm9 (Ev:=Env.none P yv) (V:=fun _ _=>False) (b:=(():Unit)) hf hb hl (hW (Env.none P _) (():Unit)) hrel (fun _ _ h=>h.elim) trivial (Nat.zero_le _) ?_;intro y S' X' V' w' m' hv' hp1 v b' hy htr0 hxs hm hr _ hyv;have htr:Tr (fun b i=>¬X b i) (fun _=>False) S w S' w':=htr0.mono (fun b i h=>h.resolve_right id) (fun _ h=>h);obtain ⟨rfl,rfl⟩:=hy;refine ⟨v,S',m',hv',rfl,⟨⟨⟨htr.os,htr.tape,htr.output,htr.size,htr.cells,fun b o hb ho _=>(htr.objs b o hb ho).resolve_right (fun h=>h.elim (fun h=>h.1) fun h=>h.1)⟩,fun b i v hs hv=>htr.same b i v (hs.imp id fun h h'=>h' h) hv⟩,htr.up,fun b i hs=> ?_,hm⟩,(hr.lessX hxs).cons hyv.view (AAs9 _ _)⟩;rcases htr.new b i hs with h1|h1|h1
 ·exact .inl h1
 ·exact .inr h1
 ·exact .inr fun hx=>by have:=hrel.lt b i (.inr hx);omega
end
mutual
def occ:AV→List Nat
 | .ref g .. | .ptr g _| .gref g .. | .gptr g .. => [g]
 | .agg cs=>occs cs
 | .tup cs=>occs cs
 | .fn _ a b=>occs a++occs b
 |_=> []
def occs:List AV→List Nat
 | []=> []
 |x::l=>occ x++occs l
end
theorem AFh9:∀ {cs:List AV} {i:Nat} {c:AV},cs[i]? =some c→∀g∈occ c,g∈occs cs
 |x::l,0,c,h,g,hg=>by simp at h;subst h;exact Zbc _ hg
 |x::l,i+1,c,h,g,hg=>List.mem_append_right _ (AFh9 (by simpa using h) g hg)
inductive SealR (hp:List Blk):AV→AV→Prop
 |v {x y:AV} (h:sealV hp x=some y):SealR hp x y
 |gref {g ver n k:Nat} {blk:Blk} {xs:List (List Dv)} (hg:hp[g]? =some blk) (hgr:blk.grow=true) (hv:blk.ver=ver) (hc:blk.cells=flatA xs) (hn:xs.length=n) (hk:∀r∈xs,r.length=k):SealR hp (.gref g ver n k) (.d (.sl k xs))
 |agg {cs ys:List AV} (hl:cs.length=ys.length) (h:∀(i:Nat) (c y:AV),cs[i]? =some c→ys[i]? =some y→SealR hp c y):SealR hp (.agg cs) (.agg ys)
 |tup {cs ys:List AV} (hl:cs.length=ys.length) (h:∀(i:Nat) (c y:AV),cs[i]? =some c→ys[i]? =some y→SealR hp c y):SealR hp (.tup cs) (.tup ys)
 |fn {f:Go.Fn} {a b a' b':List AV} (hl:a.length=a'.length) (hl':b.length=b'.length) (h:∀(i:Nat) (c y:AV),a[i]? =some c→a'[i]? =some y→SealR hp c y) (h':∀(i:Nat) (c y:AV),b[i]? =some c→b'[i]? =some y→SealR hp c y):SealR hp (.fn f a b) (.fn f a' b')
section
variable {P:Program} {S S' T X V:Pr} {yv:Option Nat} {w w':World} {m m':List MB} {A B:List (AV×Value)} {hp hp':List Blk} {hv hv':List (List Value)}
theorem DR.to (hS:∀b i,S b i→T b i) {x:Dv} {v:Value} (h:DR S w x v):DR T w x v:=h.ext hS (fun _ _ _ _ h=>h)
theorem ASl9 {k:Nat}:∀ {xs:List (List Dv)} {us:List Value},(∀r∈xs,r.length=k)→us.length=(flatA xs).length→(∀(i:Nat) (c:AV) (v:Value),(flatA xs)[i]? =some c→us[i]? =some v→RV S w m yv c v)→(∀u∈us,u.oneCell'=true)→Flat S w k xs us:=by
 intro xs us hk hl hrv h1;have hlen:∀(xs:List (List Dv)),(∀r∈xs,r.length=k)→(flatA xs).length=xs.length*k:=by
  intro xs;induction xs with
  |nil=>intro _;simp [flatA]
  | cons r xs ih=>
   intro h;rw [AMk9,List.length_append,ih fun r hr=>h r (Zaw _ hr),List.length_map,h r (Zbb ..),List.length_cons,Zca];omega
 have hget:∀(xs:List (List Dv)),(∀r∈xs,r.length=k)→∀(i:Nat) (r:List Dv) (j:Nat) (c:Dv),xs[i]? =some r→r[j]? =some c→(flatA xs)[i*k+j]? =some (.d c):=by
  intro xs;induction xs with
  |nil=>intro _ i r j c h;simp at h
  | cons r0 xs ih=>
   intro hk i r j c h1 h2;rw [AMk9];have hr0:=hk r0 (Zbb ..);cases i with
   | zero=>
    simp at h1;subst h1;have hj:=(Zaa.1 h2).1;rw [Nat.zero_mul,Nat.zero_add,Zan (by simpa using hj)];simp [h2]
   | succ i=>
    rw [Zao (by simp [hr0,Zca];omega)];have:=ih (fun r hr=>hk r (Zaw _ hr)) i r j c (by simpa using h1) h2;rw [←this];congr 1;simp [hr0,Zca];omega
 refine ⟨by rw [hl,hlen xs hk],fun i r hr=>hk r (Zbi hr),fun i r j c v e1 e2 e3=> ?_,h1⟩;have:=hrv _ _ v (hget xs hk i r j c e1 e2) e3;cases this with
 |d h=>exact h
theorem AOb9 (h:Rel S X yv w m (B++AAa9 hp hv) hp hv) (hST:∀b i,S b i→T b i) {x y:AV} (hs:SealR hp x y):(∀g∈occ x,∀p,m[g]? =some p→∀i,i<p.len→T p.b i)→∀ {v:Value},RV S w m yv x v→RV T w [] none y v:=by
 induction hs with
 | v hy=>
  rename_i x y;intro hT v hr;revert hy y hT;induction hr with
  |d h1=>intro y hy hT;simp only [sealV,Option.some.injEq] at hy;subst hy;exact .d (h1.to hST)
  | agg hl h1 ih=>
   rename_i cs vs;intro y hy hT;simp only [sealV,Zaj] at hy;obtain ⟨ys,h2,rfl⟩:=hy;obtain ⟨h3,h4⟩:=AFn9 h2;refine .agg (h3.trans hl) fun i c v hc hv=> ?_;have hi:i<ys.length:=(Zaa.1 hc).1;have hci:cs[i]? =some (cs[i]'(by omega)):=Zbk _;obtain ⟨y,h5,h6⟩:=h4 i _ hci;rw [hc] at h5;cases h5;exact ih i _ v hci hv h6 fun g hg=>hT g (by simp only [occ];exact AFh9 hci g hg)
  | tup hl h1 ih=>
   rename_i cs vs;intro y hy hT;simp only [sealV,Zaj] at hy;obtain ⟨ys,h2,rfl⟩:=hy;obtain ⟨h3,h4⟩:=AFn9 h2;refine .tup (h3.trans hl) fun i c v hc hv=> ?_;have hi:i<ys.length:=(Zaa.1 hc).1;have hci:cs[i]? =some (cs[i]'(by omega)):=Zbk _;obtain ⟨y,h5,h6⟩:=h4 i _ hci;rw [hc] at h5;cases h5;exact ih i _ v hci hv h6 fun g hg=>hT g (by simp only [occ];exact AFh9 hci g hg)
  |own h1 h2=>intro y hy hT;simp only [sealV,Option.some.injEq] at hy;subst hy;exact .d (h1.to hST)
  |ownNil=>intro y hy hT;simp only [sealV,Option.some.injEq] at hy;subst hy;exact .d (.nil _)
  |full h1=>intro y hy hT;simp only [sealV,Option.some.injEq] at hy;subst hy;exact .full (h1.to hST)
  | rptr vals hne hsp hs hc hr h1=>
   intro y hy hT;simp only [sealV,Option.some.injEq] at hy;subst hy;exact .rptr vals hne hsp (fun j c h=>hST _ _ (hs j c h)) hc (fun j c h=>(hr j c h).to hST) h1
  | ref hm hfit hn=>
   rename_i g off n cap k b len ver;intro y hy hT;have hT':=hT g (by simp [occ]) _ hm;simp only [sealV] at hy;split at hy<;>try (cases hy;done)
   rename_i blk hb;split at hy<;>try (cases hy;done)
   simp only [Zaj] at hy;obtain ⟨xs,h1,rfl⟩:=hy;obtain ⟨us,h2,h3,h4⟩:=h.cellsOf (off:=off) hm hb;obtain ⟨blk',vs,cur,e,g1,g2,g3,_⟩:=h.block hm;rw [hb] at g1;cases g1;simp only at g3;have hnk:n*k≤cap*k:=Zdv k hn;have hul:(us.take (n*k)).length=n*k:=by
    have:=h2.1;simp at this ⊢;omega
   obtain ⟨h5,h6⟩:=AMt9 h1 (h2.take (n*k)) hul (fun u hu=>h4 u (List.mem_of_mem_take hu));have h7:Flat T w k xs (us.take (n*k)):=h6.ext hST (fun _ _ _ _ h=>h);subst h5;refine .d (DR.ofFlat (a:=⟨b,off,none⟩) h7 (fun j u hu=> ?_) hn (.inl rfl));rw [Zaq] at hu;split at hu<;>try (cases hu;done)
   obtain ⟨h8,h9⟩:=h3 j u hu;exact ⟨h8,hT' _ h9⟩
  | ptr hm=>
   rename_i g off b len ver;intro y hy hT;have hT':=hT g (by simp [occ]) _ hm;simp only [sealV] at hy;split at hy<;>try (cases hy;done)
   rename_i blk hb;split at hy<;>try (cases hy;done)
   split at hy<;>try (cases hy;done)
   rename_i d ds h1;cases hy;obtain ⟨us,h2,h3,h4⟩:=h.cellsOf (off:=off) hm hb;obtain ⟨h5,h6⟩:=AKq9 h1;have hget:∀(j:Nat) (x:Dv),(d::ds)[j]? =some x→us[j]? =some (us.getD j default):=by
    intro j x hx;have:j<us.length:=by rw [←h2.1,←h5];exact (Zaa.1 hx).1
    simp [List.getD,this]
   refine .rptr (fun j=>us.getD j default) (by simp) rfl (fun j x hx=>hT' _ (h3 j _ (hget j x hx)).2) (fun j x hx=>(h3 j _ (hget j x hx)).1) (fun j x hx=> ?_) (fun j x hx=>h4 _ (Zbi (hget j x hx)));have hj:j<(blk.cells.drop off).length:=by rw [←h5];exact (Zaa.1 hx).1
   have hc:(blk.cells.drop off)[j]? =some (blk.cells.drop off)[j]:=Zbk hj;exact (APk9 (h6 j _ x hc hx) (h2.2 j _ _ hc (hget j x hx))).to hST
  |gref=>intro y hy hT;simp [sealV] at hy
  |gptr=>intro y hy hT;simp [sealV] at hy
  | fn hf hl hl' h1 h1' ih ih'=>
   rename_i f0 fa fb fs cs;intro y hy hT;simp only [sealV] at hy;split at hy<;>try (cases hy;done)
   rename_i ya yb h2 h2';cases hy;obtain ⟨h3,h4⟩:=AFn9 h2;obtain ⟨h3',h4'⟩:=AFn9 h2';refine .fn hf (h3.trans hl) (h3'.trans hl') (fun i c v hc hv=> ?_) (fun i c v hc hv=> ?_)
   ·have hi:=(Zaa.1 hc).1;have hci:fa[i]? =some (fa[i]'(by omega)):=Zbk _;obtain ⟨y,h5,h6⟩:=h4 i _ hci;rw [hc] at h5;cases h5;exact ih i _ v hci hv h6 fun g hg=>hT g (by simp only [occ];exact Zbc _ (AFh9 hci g hg))
   ·have hi:=(Zaa.1 hc).1;have hci:fb[i]? =some (fb[i]'(by omega)):=Zbk _;obtain ⟨y,h5,h6⟩:=h4' i _ hci;rw [hc] at h5;cases h5;exact ih' i _ v hci hv h6 fun g hg=>hT g (by simp only [occ];exact List.mem_append_right _ (AFh9 hci g hg))
  |yl=>intro y hy hT;simp [sealV] at hy
  |bad=>intro y hy hT;simp only [sealV,Option.some.injEq] at hy;subst hy;exact .bad
 | gref hg hgr hver hc hn hk=>
  intro hT v hr;cases hr with
  | gref hm hv0 h1 hcur=>
   rename_i g ver n k blk xs b len ver';have hT':=hT g (by simp [occ]) _ hm;obtain ⟨us,h2,h3,h4⟩:=h.cellsOf (off:=0) hm hg;obtain ⟨blk',vs,cur,e,g1,g2,g3,g4,g5,_⟩:=h.block hm;rw [hg] at g1;cases g1;simp only at g3 g5;obtain ⟨hlen,cap,rfl,hcap,_⟩:=hcur (by omega);rw [List.drop_zero,hc] at h2;have h7:=ASl9 hk h2.1.symm h2.2 h4;have h8:Flat T w k xs us:=h7.ext hST (fun _ _ _ _ h=>h);subst hn;refine .d (DR.ofFlat (a:=⟨b,0,none⟩) h8 (fun j u hu=> ?_) hcap (.inl rfl));obtain ⟨h9,h10⟩:=h3 j u hu;exact ⟨h9,hT' _ h10⟩
 | agg hl h ih=>
  rename_i cs ys;intro hT v hr;cases hr with
  | agg hl' h'=>
   refine .agg (by omega) fun i c v hc hv=> ?_;have hci:cs[i]? =some (cs[i]'(by have:=(Zaa.1 hc).1;omega)):=Zbk _;exact ih i _ c hci hc (fun g hg=>hT g (by simp only [occ];exact AFh9 hci g hg)) (h' i _ v hci hv)
 | tup hl h ih=>
  rename_i cs ys;intro hT v hr;cases hr with
  | tup hl' h'=>
   refine .tup (by omega) fun i c v hc hv=> ?_;have hci:cs[i]? =some (cs[i]'(by have:=(Zaa.1 hc).1;omega)):=Zbk _;exact ih i _ c hci hc (fun g hg=>hT g (by simp only [occ];exact AFh9 hci g hg)) (h' i _ v hci hv)
 | fn hl hl' h h' ih ih'=>
  rename_i f0 fa fb fa' fb';intro hT v hr;cases hr with
  | fn hf k1 k2 k3 k4=>
   refine .fn hf (by omega) (by omega) (fun i c v hc hv=> ?_) (fun i c v hc hv=> ?_)
   ·have hci:fa[i]? =some (fa[i]'(by have:=(Zaa.1 hc).1;omega)):=Zbk _;exact ih i _ c hci hc (fun g hg=>hT g (by simp only [occ];exact Zbc _ (AFh9 hci g hg))) (k3 i _ v hci hv)
   ·have hci:fb[i]? =some (fb[i]'(by have:=(Zaa.1 hc).1;omega)):=Zbk _;exact ih' i _ c hci hc (fun g hg=>hT g (by simp only [occ];exact List.mem_append_right _ (AFh9 hci g hg))) (k4 i _ v hci hv)
inductive SealD (hp:List Blk):AV→AV→Prop
 |r {x y:AV} (h:SealR hp x y):SealD hp x y
 |ptr {g off:Nat} {blk:Blk} {ys:List AV} {d:Dv} {ds:List Dv} (hg:hp[g]? =some blk) (hgr:blk.grow=false) (hl:(blk.cells.drop off).length=ys.length)
  (h:∀(i:Nat) (c y:AV),(blk.cells.drop off)[i]? =some c→ys[i]? =some y→SealD hp c y) (hds:toDs ys=some (d::ds)):SealD hp (.ptr g off) (.rptr (d::ds))
 |agg {cs ys:List AV} (hl:cs.length=ys.length) (h:∀(i:Nat) (c y:AV),cs[i]? =some c→ys[i]? =some y→SealD hp c y):SealD hp (.agg cs) (.agg ys)
 |tup {cs ys:List AV} (hl:cs.length=ys.length) (h:∀(i:Nat) (c y:AV),cs[i]? =some c→ys[i]? =some y→SealD hp c y):SealD hp (.tup cs) (.tup ys)
 |fn {f:Go.Fn} {a b a' b':List AV} (hl:a.length=a'.length) (hl':b.length=b'.length) (h:∀(i:Nat) (c y:AV),a[i]? =some c→a'[i]? =some y→SealD hp c y) (h':∀(i:Nat) (c y:AV),b[i]? =some c→b'[i]? =some y→SealD hp c y):SealD hp (.fn f a b) (.fn f a' b')
theorem AHb9 (h:Rel S X yv w m (B++AAa9 hp hv) hp hv) (hST:∀b i,S b i→T b i) {x y:AV} (hs:SealD hp x y) (hT:∀g:Nat,True→∀p,m[g]? =some p→∀i,i<p.len→T p.b i):∀ {v:Value},RV S w m yv x v→RV T w [] none y v:=by
 induction hs with
 |r h0=>exact fun hr=>AOb9 h hST h0 (fun g _=>hT g trivial) hr
 | ptr hg hgr hl0 h0 hds ih=>
  rename_i g off blk ys d ds;intro v hr;cases hr with
  | ptr hm=>
   rename_i b len ver;have hT':=hT g trivial _ hm;obtain ⟨us,h2,h3,h4⟩:=h.cellsOf (off:=off) hm hg;obtain ⟨h5,h6⟩:=AKq9 hds;have hget:∀(j:Nat) (x:Dv),(d::ds)[j]? =some x→us[j]? =some (us.getD j default):=by
    intro j x hx;have:j<us.length:=by rw [←h2.1,hl0,←h5];exact (Zaa.1 hx).1
    simp [List.getD,this]
   refine .rptr (fun j=>us.getD j default) (by simp) rfl (fun j x hx=>hT' _ (h3 j _ (hget j x hx)).2) (fun j x hx=>(h3 j _ (hget j x hx)).1) (fun j x hx=> ?_) (fun j x hx=>h4 _ (Zbi (hget j x hx)));have hj':j<ys.length:=by rw [←h5];exact (Zaa.1 hx).1
   have hj:j<(blk.cells.drop off).length:=by rw [hl0];exact hj'
   have hc:(blk.cells.drop off)[j]? =some (blk.cells.drop off)[j]:=Zbk hj;have hy:ys[j]? =some ys[j]:=Zbk hj';exact APk9 (h6 j _ x hy hx) (ih j _ _ hc hy (h2.2 j _ _ hc (hget j x hx)))
 | agg hl h ih=>
  rename_i cs ys;intro v hr;cases hr with
  | agg hl' h'=>
   refine .agg (by omega) fun i c v hc hv=> ?_;have hci:cs[i]? =some (cs[i]'(by have:=(Zaa.1 hc).1;omega)):=Zbk _;exact ih i _ c hci hc (h' i _ v hci hv)
 | tup hl h ih=>
  rename_i cs ys;intro v hr;cases hr with
  | tup hl' h'=>
   refine .tup (by omega) fun i c v hc hv=> ?_;have hci:cs[i]? =some (cs[i]'(by have:=(Zaa.1 hc).1;omega)):=Zbk _;exact ih i _ c hci hc (h' i _ v hci hv)
 | fn hl hl' h h' ih ih'=>
  rename_i f0 fa fb fa' fb';intro v hr;cases hr with
  | fn hf k1 k2 k3 k4=>
   refine .fn hf (by omega) (by omega) (fun i c v hc hv=> ?_) (fun i c v hc hv=> ?_)
   ·have hci:fa[i]? =some (fa[i]'(by have:=(Zaa.1 hc).1;omega)):=Zbk _;exact ih i _ c hci hc (k3 i _ v hci hv)
   ·have hci:fb[i]? =some (fb[i]'(by have:=(Zaa.1 hc).1;omega)):=Zbk _;exact ih' i _ c hci hc (k4 i _ v hci hv)
def frz (hp:List Blk):List Nat→List Blk
 | []=>hp
 |g::gs=>frz (match hp[g]? with|some blk=>hp.set g {blk with fro:=true}|none=>hp) gs
theorem AXd9:∀(gs:List Nat) (hp:List Blk),(frz hp gs).map (·.cells)=hp.map (·.cells)
 | [],hp=>rfl
 | g::gs,hp=>by
  simp only [frz];rw [AXd9 gs];split
  ·rename_i blk hb;rw [Zej];exact ACn9 (by simp [hb])
  ·rfl
theorem AHw9:∀ {hp hp':List Blk} (hv:List (List Value)),hp'.map (·.cells)=hp.map (·.cells)→AAa9 hp' hv=AAa9 hp hv
 | [], [],_,_=>rfl
 | [],b::hp',_,h=>by simp at h
 |a::hp, [],_,h=>by simp at h
 |a::hp,b::hp', [],h=>by simp [AAa9]
 | a::hp,b::hp',v::hv,h=>by
  simp only [Zdu,List.cons.injEq] at h;have:=AHw9 (hp:=hp) (hp':=hp') hv h.2;simp only [AAa9,List.zip_cons_cons,List.flatMap_cons,h.1] at this ⊢;rw [this]
theorem Rel.frzAll:∀(gs:List Nat) {hp:List Blk} {S:Pr},Rel S X yv w m A hp hv→
 ∃S':Pr,(∀b i,S b i→S' b i)∧(∀b i,S' b i→S b i∨¬X b i)∧Rel S' X yv w m A (frz hp gs) hv∧∀g∈gs,∀p,m[g]? =some p→∀i,i<p.len→S' p.b i
 | [],hp,S,h=>⟨S,fun _ _ h=>h,fun _ _ h=> .inl h,h,fun g hg=>by cases hg⟩
 | g::gs,hp,S,h=>by
  simp only [frz];cases hb:hp[g]? with
  | none=>
   obtain ⟨S',h1,h2,h3,h4⟩:=Rel.frzAll gs h;refine ⟨S',h1,h2,h3,fun g' hg' p hp'=> ?_⟩;rcases Zbx.1 hg' with rfl|hg'
   ·have:=(Zaa.1 hp').1;have h5:hp.length≤g':=List.getElem?_eq_none_iff.1 hb;rw [h.ml] at this;omega
   ·exact h4 g' hg' p hp'
  | some blk=>
   have hgl:=(Zaa.1 hb).1;have hm:m[g]? =some (m[g]'(by rw [h.ml];exact hgl)):=Zbk _;generalize m[g]'(by rw [h.ml];exact hgl)=p at hm;have hvl:g<hv.length:=by rw [h.hl];exact hgl
   obtain ⟨a1,a2,a3,a4,a5,a6,a9,a10⟩:=h.bl g blk p hv[g] hb hm (by simp [hvl]);have h0:=h.freeze hb hm;obtain ⟨S',h1,h2,h3,h4⟩:=Rel.frzAll gs h0;refine ⟨S',fun b i hs=>h1 b i (.inl hs),fun b i hs=> ?_,h3,fun g' hg' q hq i hi=> ?_⟩
   ·rcases h2 b i hs with (h5|⟨rfl,h5⟩)|h5
    ·exact .inl h5
    ·cases hf:blk.fro with
     |true=>exact .inl (a10 hf i h5)
     |false=>exact .inr (a9 hf i).2
    ·exact .inr h5
   ·rcases Zbx.1 hg' with rfl|hg'
    ·rw [hm] at hq;cases hq;exact h1 _ _ (.inr ⟨rfl,hi⟩)
    ·exact h4 g' hg' q hq i hi
theorem PCall.ofWS {f:Nat} {fn:Func} {c:Code} {args:List AV} {x:AV} (hf:P.funcs[f]? =some fn) (hb:fn.body=some c) (hn:(fn.name== "runtime.NumGoroutine")=false) (hargs:args.map Zck=args)
 (hW:∀(Ev:Env P) (b:Ev.β),W Ev c ⟨AAw9 fn args, [],b⟩ (AIg9 P fn fun y hp _=>SealD hp y x)):PCall P f args x:=by
 refine ⟨AFi9 hf hb hn,fun S w vs hl hvs hlt hgl=> ?_⟩;have hrel:Rel S (fun b _=>b<w.heap.size) none w [] (args.zip vs++([]++AAa9 [] [])) [] []:=by
  have h0:Rel S (fun b _=>b<w.heap.size) none w [] [] [] []:=⟨fun b i h=>h.elim (hlt b i) id,by simp,List.Pairwise.nil,by simp,by simp,by simp,rfl,rfl,by simp,hgl⟩;have:=h0.pushAll (args.zip vs) (fun p hp=>by
   obtain ⟨j,hj⟩:=Zak.1 hp;rw [Zar] at hj;refine ⟨hvs j p.1 p.2 hj.1 hj.2, ?_⟩;have hp1:p.1.view=p.1:=by
    have h1:(args.map Zck)[j]? =some p.1.view:=by simp [hj.1]
    rw [hargs,hj.1] at h1;exact (Option.some.inj h1).symm
   obtain ⟨p1,p2⟩:=p;simp only at hp1;rw [←hp1];exact AAs9 _ _)
  simpa [AAa9] using this
 refine ADm9 (Ev:=Env.none P none) (V:=fun _ _=>False) (b:=(():Unit)) hf hb hl (hW (Env.none P _) (():Unit)) hrel (fun _ _ h=>h.elim) trivial (Nat.zero_le _) ?_;intro y S' X' V' w' m' hv' hp' v b' hy htr0 hxs hm hr _ hyv;have htr:Tr (fun b i=>¬b<w.heap.size) (fun _=>False) S w S' w':=htr0.mono (fun b i h=>h.resolve_right id) (fun _ h=>h);refine ⟨v,ACq9 S' m',rfl,AEq9 htr (fun b i hb hz=>hz hb) (fun _ h=>h),fun b i hs=> .inl (htr.up b i hs),fun b i hs=> ?_,(AHb9 (B:= []) (T:=ACq9 S' m') (by simpa using hr) (fun _ _ h=> .inl h) hy (fun g _ p hp i hi=> .inr ⟨g,p,hp,rfl,hi⟩) hyv).view⟩;rcases hs with hs|⟨g,p,hg,rfl,hi⟩
 ·rcases htr.new b i hs with h1|h1|h1
  ·exact .inl h1
  ·exact .inr ⟨Nat.le_of_not_lt h1,htr.lt b i hs⟩
  ·exact .inr ⟨h1,htr.lt b i hs⟩
 ·have hr':Rel S' X' none w' m' (([]:List (AV×Value))++AAa9 hp' hv') hp' hv':=hr;obtain ⟨blk,us,cur,e,g1,g2,g3,g4,g5,g6,g7,g8,g9,g10,g11,g12⟩:=hr'.block hg;have hlt':p.b<w'.heap.size:=(Zah.1 g8).1;cases hfr:blk.fro with
  | true=>
   have hs:=g12 hfr i hi;rcases htr.new _ _ hs with h1|h1|h1
   ·exact .inl h1
   ·exact .inr ⟨Nat.le_of_not_lt h1,hlt'⟩
   ·exact .inr ⟨h1,hlt'⟩
  | false=>
   refine .inr ⟨Nat.le_of_not_lt fun hb=> ?_,hlt'⟩;exact (g11 hfr i).2 (hxs _ _ hb)
end
section
variable {P:Program} {S S' X:Pr} {yv:Option Nat} {w w':World} {m m':List MB} {A A' B:List (AV×Value)} {hp:List Blk} {hv hv':List (List Value)} {o:Oper} {s:RS} {a:Act}
theorem AUp9 {y:AV} {v:Value} (h:y.isOwn=false):ownB (y,v)=none:=by
 cases y<;>first|rfl|cases h
inductive RP (S:Pr) (w:World) (m:List MB) (yv:Option Nat):List (AV×Value)→List (AV×Value)→Prop
 |nil:RP S w m yv [] []
 |keep {p:AV×Value} {A A':List (AV×Value)} (hs:RP S w m yv A A'):RP S w m yv (p::A) (p::A')
 |turn {x y:AV} {v:Value} {A A':List (AV×Value)} (hr:RV S w m yv y v) (ho:ownB (y,v)=none) (hs:RP S w m yv A A'):RP S w m yv ((x,v)::A) ((y,v)::A')
theorem Rel.rp (h:RP S w m yv A A'):∀ {C:List (AV×Value)},Rel S X yv w m (A++C) hp hv→Rel S X yv w m (A'++C) hp hv:=by
 induction h with
 |nil=>intro C h;exact h
 | @keep p A1 A2 _ ih=>
  intro C h;have h2:Rel S X yv w m (A1++(p::C)) hp hv:=h.perm (by simpa using (List.perm_middle (a:=p) (l₁:=A1) (l₂:=C)).symm);exact (ih h2).perm List.perm_middle
 | @turn x y v A1 A2 hr ho _ ih=>
  intro C h;have h2:Rel S X yv w m (A1++((x,v)::C)) hp hv:=h.perm (by simpa using (List.perm_middle (a:=(x,v)) (l₁:=A1) (l₂:=C)).symm);have h4:Rel S X yv w m ((x,v)::(A2++C)) hp hv:=(ih h2).perm List.perm_middle;exact (h4.sub (List.sublist_cons_self _ _)).cons hr ho
def FrzTm (hp:List Blk) (gs:List Nat):List AV→List AV→Prop
 | [], []=>True
 |x::l,y::l'=>(x=y∨(SealR hp x y∧(∀g∈occ x,g∈gs)∧y.isOwn=false))∧FrzTm hp gs l l'
 |_,_=>False
theorem FrzTm.len {gs:List Nat}:∀ {l l':List AV},FrzTm hp gs l l'→l'.length=l.length
 | [], [],_=>rfl
 |_::_,_::_,h=>by simp [FrzTm.len h.2]
 | [],_::_,h=>h.elim
 |_::_, [],h=>h.elim
theorem BQv9 {gs:List Nat} {tm1:List AV} (ht:FrzTm s.hp gs s.tm tm1):FrzOk s ⟨tm1,frz s.hp gs,s.pv⟩:=by
 intro S X yv w m B hv a hr;obtain ⟨hl,hr,hpv⟩:=hr;obtain ⟨S',h1,h2,h3,h4⟩:=Rel.frzAll gs hr;refine ⟨S',⟨Agree.refl _ _ _,h1,h2,Zdo m⟩,by rw [ht.len];exact hl, ?_,hpv⟩;rw [AHw9 hv (AXd9 gs s.hp)];have hr':Rel S X yv w m ((s.tm.zip a.tmps.toList++B)++AAa9 s.hp hv) s.hp hv:=by simpa using hr
 refine Rel.rp ?_ h3;have hrv:∀p∈s.tm.zip a.tmps.toList,RV S w m yv p.1 p.2:=fun p hp=>hr.rv p (Zbc _ hp);have key:∀(l l':List AV) (vs:List Value),FrzTm s.hp gs l l'→(∀p∈l.zip vs,RV S w m yv p.1 p.2)→RP S' w m yv (l.zip vs) (l'.zip vs):=by
  intro l;induction l with
  | nil=>
   intro l' vs h _;cases l' with
   |nil=>exact .nil
   |cons _ _=>exact h.elim
  | cons x l ih=>
   intro l' vs h hv;cases l' with
   |nil=>exact h.elim
   | cons y l'=>
    cases vs with
    |nil=>exact .nil
    | cons v vs=>
     simp only [List.zip_cons_cons] at hv ⊢;have ih:=ih l' vs h.2 fun p hp=>hv p (Zaw _ hp);rcases h.1 with rfl|⟨hs,hg,ho⟩
     ·exact .keep ih
     ·refine .turn ?_ (AUp9 ho) ih;exact (AOb9 hr' h1 hs (fun g hgg p hp i hi=>h4 g (hg g hgg) p hp i hi) (hv (x,v) (Zbb ..))).opened
 exact key _ _ _ ht hrv
theorem ALj9 {c:Call} {x y:Operand} (hsz:c.args.size=2) (h0:c.args[0]? =some x) (h1:c.args[1]? =some y):c.args=#[x,y]:=by
 apply Zcf;intro j
 match j with
 |0=>simpa using h0
 |1=>simpa using h1
 |j+2=>simp [Zcu (by omega:c.args.size≤j+2)]
theorem ASp9 {c:Call} {x y:Operand} {e:TypeId} {i:TypeInfo} {g ver n:Nat} {ys:List (List Dv)} {blk:Blk} (ho:o.op= .call c) (hc:c.callee= .builtin .append) (hsz:c.args.size=2) (h0:c.args[0]? =some x) (h1:c.args[1]? =some y)
 (hinf:AFw9 P c.argTypes=some (e,i)) (hx:evalA s.tm x= .gref g ver n i.size) (hys:ADy9 i.size (evalA s.tm y)=some ys) (hg:s.hp[g]? =some blk) (hgr:blk.grow=true) (hver:blk.ver=ver) (hf:blk.fro=false)
 (hfit:(n+ys.length)*i.bytes≤140737488355328):ExtOk P o s {tm:=putA s.tm o.dst (.gref g (ver+1) (n+ys.length) i.size),hp:=s.hp.set g ⟨blk.cells++flatA ys,false,true,ver+1⟩,pv:= []}:=by
 intro r S X yv w m B hv a K Q h hK;obtain ⟨ty,z,hts,ht,hi,hz,hzs,hsz',hby⟩:=AEx9 hinf;have hsrc:DR S w (.sl i.size ys) (a.eval y):=ADo9 hys (AAj9 h y);have hbase:=AAj9 h x;rw [hx] at hbase;obtain ⟨hl,hr,hpv⟩:=h;have hr':Rel S X yv w m ((s.tm.zip a.tmps.toList++B)++AAa9 s.hp hv) s.hp hv:=by simpa using hr
 obtain ⟨v',w',m',hv',g1,g2,g3⟩:=BAh9 (ty:=o.type) ht hi hz hzs hby hr' hbase hsrc hg hgr hver hf hfit;obtain ⟨consts,hb⟩:=ACb9 (P:=P) (ρ:=a.eval) ho hc w;refine ABa9 (by simp [ho]) (nx:= .value v') (v:=v') (w':=w') ?_ (.inl rfl) ?_
 ·rw [hb];simp [builtin,ALj9 hsz h0 h1,hts,g1]
 ·exact Nx.of hK g2 hl (by simpa using g3) (by intro p hp;cases hp)
theorem BQx9 {c:Call} {x y:Operand} {e:TypeId} {i:TypeInfo} (ho:o.op= .call c) (hc:c.callee= .builtin .append) (hsz:c.args.size=2) (h0:c.args[0]? =some x) (h1:c.args[1]? =some y)
 (hinf:AFw9 P c.argTypes=some (e,i)) (hx:AAl9 (evalA s.tm x)=true∨evalA s.tm x= .full i.size []) (hys:ADy9 i.size (evalA s.tm y)=some []):ExtOk P o s {tm:=putA s.tm o.dst (evalA s.tm x),hp:=s.hp,pv:= []}:=by
 intro r S X yv w m B hv a K Q h hK;obtain ⟨ty,z,hts,ht,hi,hz,hzs,hsz',hby⟩:=AEx9 hinf;have hsrc:DR S w (.sl i.size []) (a.eval y):=ADo9 hys (AAj9 h y);have hbase:=AAj9 h x;obtain ⟨hl,hr,hpv⟩:=h;obtain ⟨ub,uc,news,hu,huc,hfl,hucell,hunil⟩:=hsrc.flat;have hb2:∃base n cap,a.eval x= .slice base n cap∧n≤cap:=by
  rcases hx with hx|hx
  ·exact ⟨_,_,_,AAq9 hx hbase,Zas _⟩
  ·rw [hx] at hbase;generalize a.eval x=vx at hbase;cases hbase with
   |full hd=>exact ⟨_,_,_,rfl,Zas _⟩
 obtain ⟨base,n,cap,hvx,hn⟩:=hb2;obtain ⟨consts,hb⟩:=ACb9 (P:=P) (ρ:=a.eval) ho hc w;have hrun:=ACr9 (P:=P) w ty e i o.type ht hi base ub n cap uc hn;have hexec:(execOp a.eval o).run P w= .ok (.value (a.eval x)) w:=by
  rw [hb];simp only [builtin,ALj9 hsz h0 h1,hts];simp only [List.map_toArray,Zdu,List.map_nil,hu,hvx,Zdm] at hrun ⊢;simp [hrun]
 have hown:ownB (evalA s.tm x,a.eval x)=none:=by
  rcases hx with hx|hx
  ·unfold AAl9 at hx;split at hx
   ·rename_i he;rw [he];rfl
   ·cases hx
  ·rw [hx];rfl
 exact ABa9 (by simp [ho]) hexec (.inl rfl) (Nx.of hK (Gs.refl S X none w m) hl (hr.cons hbase hown) (by intro p hp;cases hp))
theorem AXn9 {c:Call} {x y:Operand} {e:TypeId} {i:TypeInfo} {ys:List (List Dv)} (ho:o.op= .call c) (hc:c.callee= .builtin .append) (hsz:c.args.size=2) (h0:c.args[0]? =some x) (h1:c.args[1]? =some y)
 (hinf:AFw9 P c.argTypes=some (e,i)) (hx:AAl9 (evalA s.tm x)=true∨evalA s.tm x= .full i.size []) (hys:ADy9 i.size (evalA s.tm y)=some ys) (hne:ys≠ [])
 (hfit:ys.length*i.bytes≤140737488355328):ExtOk P o s {tm:=putA s.tm o.dst (.gref s.hp.length 0 ys.length i.size),hp:=s.hp++ [⟨flatA ys,false,true,0⟩],pv:= []}:=by
 intro r S X yv w m B hv a K Q h hK;obtain ⟨ty,z,hts,ht,hi,hz,hzs,hsz',hby⟩:=AEx9 hinf;have hsrc:DR S w (.sl i.size ys) (a.eval y):=ADo9 hys (AAj9 h y);have hbase:=AAj9 h x;obtain ⟨hl,hr,hpv⟩:=h;have hr':Rel S X yv w m ((s.tm.zip a.tmps.toList++B)++AAa9 s.hp hv) s.hp hv:=by simpa using hr
 have h63:ys.length≤140737488355328:=Zch (Nat.le_mul_of_pos_right _ hby) hfit;have hml:(140737488355328:Nat)≤maxLen:=by decide
 have hyl:0<ys.length:=List.length_pos_iff.2 hne;obtain ⟨ub,uc,news,hu,huc,hfl,hucell,hunil⟩:=hsrc.flat;obtain ⟨ua,rfl⟩:∃ua,ub=some ua:=by
  cases ub with
  |none=>exact absurd (hunil rfl).1 hne
  |some ua=>exact ⟨ua,rfl⟩
 have hnews:∀(j:Nat) (x:Value),news[j]? =some x→w.cell? (ua.add j)=some x:=fun j x hx=>((hucell ua rfl).1 j x hx).1;have hge:=grownCap_ge w ys.length 0 e;have hcm:=grownCap_le_maxLen w ys.length 0 e (by omega);have hbel:Below w.heap.size w (w.drew.alloc (.cells (news.toArray++Zaz z.cells (grownCap w ys.length 0 e - ys.length)) e)):=((Below.refl _ _).drew).alloc (Zas _) _;have hpl:=hfl.pairs.1;have hA:=hr'.pushAll ((flatA ys).zip news) hfl.rvs;have hcur:(w.drew.alloc (.cells (news.toArray++Zaz z.cells (grownCap w ys.length 0 e - ys.length)) e)).heap[w.heap.size]? =some (.cells (news.toArray++Zaz z.cells (grownCap w ys.length 0 e - ys.length)) e (0,0)):=heap_alloc_new w.drew _;have hR:=hA.newGrow (flatA ys) news rfl hpl hfl.one hbel hcur (by simp) (by simp);have hrun:(Zcb #[ty,ty] o.type #[a.eval x,a.eval y]).run P w= .ok (.slice (some ⟨w.heap.size,0,none⟩) ys.length (grownCap w ys.length 0 e)) (w.drew.alloc (.cells (news.toArray++Zaz z.cells (grownCap w ys.length 0 e - ys.length)) e)):=by
  rw [hu];have hgrow:∀ad:Addr,(Zcb #[ty,ty] o.type #[.slice (some ad) 0 0, .slice (some ua) ys.length uc]).run P w= .ok (.slice (some ⟨w.heap.size,0,none⟩) ys.length (grownCap w ys.length 0 e)) (w.drew.alloc (.cells (news.toArray++Zaz z.cells (grownCap w ys.length 0 e - ys.length)) e)):=by
   intro ad;have:=run_append_grow (P:=P) w ty o.type e i z ht hi hz ad 0 0 [] (by simp) (by simp) ua ys.length uc news hfl.len hnews (by omega) (by omega) (growslice_fits (by omega) (by simpa using hfit));simpa using this
  have hnil:=run_append_nil (P:=P) w ty o.type e i z ht hi hz ua ys.length uc news hfl.len hnews hyl (by omega) (by omega);rcases hx with hx|hx
  ·rw [AAq9 hx hbase];exact hnil
  ·rw [hx] at hbase;generalize a.eval x=vx at hbase;cases hbase with
   | full hd=>
    rename_i ad;cases ad with
    |none=>exact hnil
    |some ad=>exact hgrow ad
 obtain ⟨consts,hb⟩:=ACb9 (P:=P) (ρ:=a.eval) ho hc w;have hexec:(execOp a.eval o).run P w= .ok (.value (.slice (some ⟨w.heap.size,0,none⟩) ys.length (grownCap w ys.length 0 e))) (w.drew.alloc (.cells (news.toArray++Zaz z.cells (grownCap w ys.length 0 e - ys.length)) e)):=by
  rw [hb];simp [builtin,ALj9 hsz h0 h1,hts,hrun]
 refine ABa9 (by simp [ho]) hexec (.inl rfl) ?_
 ·refine Nx.of hK (S':=S) (m':=m++ [⟨w.heap.size,(flatA ys).length,true,0⟩]) (hv':=hv++ [news]) ⟨AAr9 hbel _,fun _ _ h=>h,fun _ _ h=> .inl h,Zed _ _⟩ hl ?_ (by intro p hp;cases hp);refine Rel.cons (by simpa using hR) (.gref (b:=w.heap.size) (len:=(flatA ys).length) (ver':=0) (by rw [Zao (by rw [hr.ml];exact Zas _),hr.ml];simp) (Zas _) rfl fun _=> ?_) rfl;refine ⟨by rw [hpl,hfl.len],_,rfl,hge,hcm,_,e,hcur, ?_⟩;simp [size_zeroCells,hzs,hfl.len,←Zca];congr 1;omega
end
def zrow (i:TypeInfo):Option (List Dv):=i.zero.map fun z=>z.cells.toList.map .s
section
variable {P:Program} {S S' X:Pr} {yv:Option Nat} {w:World} {m m':List MB} {B:List (AV×Value)} {hp:List Blk} {hv hv':List (List Value)} {o:Oper} {s:RS} {a:Act}
theorem BQy9 {t e:TypeId} {lo co:Operand} {kl kc:IntKind} {l c:Int} {i:TypeInfo} {zr:List Dv} (ho:o.op= .makeSlice t lo co) (hu:P.underlying t=some (.slice e)) (hi:P.info? e=some i)
 (hl:evalA s.tm lo= .d (.s (.int kl l))) (hc:evalA s.tm co= .d (.s (.int kc c))) (hz:zrow i=some zr) (h0:0≤l) (h1:l≤c) (h2:(i.bytes:Int)*c≤281474976710656) (h3:c≤9223372036854775807)
 (hsz:zr.length=i.size) (hpos:0<i.size) (hone:(zr.map AV.d).all AV.one=true):
 ExtOk P o s {tm:=putA s.tm o.dst (.gref s.hp.length 0 l.toNat i.size),hp:=s.hp++ [⟨flatA (Zaf l.toNat zr),false,true,0⟩],pv:= []}:=by
 intro r S X yv w m B hv a K Q h hK;have hel:=AAj9 h lo;have hec:=AAj9 h co;rw [hl] at hel;rw [hc] at hec;obtain ⟨hln,hr,hpv⟩:=h;have hr':Rel S X yv w m ((s.tm.zip a.tmps.toList++B)++AAa9 s.hp hv) s.hp hv:=by simpa using hr
 simp only [zrow,Zaj] at hz;obtain ⟨z,hz,rfl⟩:=hz;have hzs:z.cells.size=i.size:=by simpa using hsz
 have hvl:a.eval lo= .int kl l:=by
  generalize a.eval lo=u at hel;cases hel with|d h=>cases h;rfl
 have hvc:a.eval co= .int kc c:=by
  generalize a.eval co=u at hec;cases hec with|d h=>cases h;rfl
 have hrun:=run_make (P:=P) w t e i z hu hi hz kl kc l c h0 h1 h2 h3;have hle:l.toNat≤c.toNat:=by omega
 have hlek:l.toNat*i.size≤c.toNat*i.size:=Zdv _ hle;have hat:∀j,j<l.toNat*i.size→((madeCells z.cells (c.toNat*i.size)).toList.take (l.toNat*i.size))[j]? =some (z.cells[j % i.size]!):=by
  intro j hj;rw [Zci hj];have hjc:j<c.toNat*i.size:=by omega
  simp [madeCells,hzs,hjc]
 have hlen:((madeCells z.cells (c.toNat*i.size)).toList.take (l.toNat*i.size)).length=l.toNat*i.size:=by
  rw [Zel,Array.length_toList,size_madeCells];exact Zec hlek
 generalize hnews:(madeCells z.cells (c.toNat*i.size)).toList.take (l.toNat*i.size)=news at hat hlen;have hfl:Flat S w i.size (Zaf l.toNat (z.cells.toList.map Dv.s)) news:=by
  refine ⟨by simp [hlen],fun j r hr=> ?_,fun j r k x v e1 e2 e3=> ?_,fun v hv=> ?_⟩
  ·rw [List.getElem?_replicate] at hr;split at hr<;>cases hr;simpa using hsz
  ·rw [List.getElem?_replicate] at e1;split at e1<;>cases e1;rename_i hj;simp only [Zbf,Zaj] at e2;obtain ⟨u,e2,rfl⟩:=e2;have hk:k<i.size:=by rw [←hzs];have:=(Zaa.1 e2).1;simpa using this
   rw [hat _ (BEj9 hj hk)] at e3;have hmod:(j*i.size+k) % i.size=k:=by rw [Nat.mul_comm,Nat.mul_add_mod,Nat.mod_eq_of_lt hk]
   rw [hmod] at e3;have:z.cells[k]! =u:=by
    have h5:z.cells[k]? =some u:=by simpa using e2
    rw [getElem!_pos z.cells k (by rw [hzs];exact hk)];exact (Zah.1 h5).2
   rw [this] at e3;cases e3;exact .s _
  ·obtain ⟨j,hj⟩:=Zak.1 hv;have hjl:=(Zaa.1 hj).1;rw [hat j (by omega)] at hj;have hk:j % i.size<z.cells.size:=by rw [hzs];exact Nat.mod_lt _ hpos
   have hv':v=z.cells[j % i.size]:=by
    rw [getElem!_pos z.cells _ hk] at hj;exact (Option.some.inj hj).symm
   have:=Zav.1 hone (.d (.s z.cells[j % i.size])) (Zbd.2 ⟨.s z.cells[j % i.size],Zbd.2 ⟨_,by simp,rfl⟩,rfl⟩);rw [hv'];exact this
 have hbel:Below w.heap.size w (w.alloc (.cells (madeCells z.cells (c.toNat*i.size)) e)):=(Below.refl _ _).alloc (Zas _) _;have hcur:(w.alloc (.cells (madeCells z.cells (c.toNat*i.size)) e)).heap[w.heap.size]? =some (.cells (madeCells z.cells (c.toNat*i.size)) e (0,0)):=Array.getElem?_push_size;have hpl:=hfl.pairs.1;have hA:=hr'.pushAll ((flatA (Zaf l.toNat (z.cells.toList.map Dv.s))).zip news) hfl.rvs;have hR:=hA.newGrow _ news rfl hpl hfl.one hbel hcur (by rw [hlen,←hnews]) (by rw [hlen];simp [size_madeCells];omega);have hexec:(execOp a.eval o).run P w= .ok (.value (.slice (some ⟨w.heap.size,0,none⟩) l.toNat c.toNat)) (w.alloc (.cells (madeCells z.cells (c.toNat*i.size)) e)):=by
  unfold execOp;rw [ho];simp only [hvl,hvc];simp [hrun]
 refine ABa9 (by simp [ho]) hexec (.inl rfl) ?_;refine Nx.of hK (S':=S) (m':=m++ [⟨w.heap.size,(flatA (Zaf l.toNat (z.cells.toList.map Dv.s))).length,true,0⟩]) (hv':=hv++ [news]) ⟨AAr9 hbel _,fun _ _ h=>h,fun _ _ h=> .inl h,Zed _ _⟩ hln ?_ (by intro p hp;cases hp);refine Rel.cons (by simpa using hR) (.gref (b:=w.heap.size) (len:=(flatA (Zaf l.toNat (z.cells.toList.map Dv.s))).length) (ver':=0) (by rw [Zao (by rw [hr.ml];exact Zas _),hr.ml];simp) (Zas _) rfl fun _=> ?_) rfl;refine ⟨by rw [hpl,hlen],c.toNat,rfl,hle, ?_,_,e,hcur,by simp [size_madeCells]⟩;have:maxLen=9223372036854775807:=rfl;omega
theorem BJn9 {t:TypeId} {ax x:Operand} {i:TypeInfo} {g ver off:Nat} {blk:Blk} {xs:List AV} (ho:o.op= .store t ax x) (hi:P.info? t=some i) (hax:evalA s.tm ax= .gptr g ver off) (hxs:APh9 (evalA s.tm x)=some xs) (hg:s.hp[g]? =some blk)
 (hsz:xs.length=i.size) (hgr:blk.grow=true) (hver:blk.ver=ver) (hf:blk.fro=false) (hoff:off+xs.length≤blk.cells.length):
 ExtOk P o s {tm:=putA s.tm o.dst .bad,hp:=s.hp.set g {blk with cells:=blk.cells.take off++xs++blk.cells.drop (off+xs.length)},pv:= []}:=by
 intro r S X yv w m B hv a K Q h hK;have hea:=AAj9 h ax;rw [hax] at hea;obtain ⟨q1,q2,q3⟩:=AJg9 hxs (AAj9 h x);obtain ⟨hl,hr,hpv⟩:=h;have hr':Rel S X yv w m ((s.tm.zip a.tmps.toList++B)++AAa9 s.hp hv) s.hp hv:=by simpa using hr
 generalize hva:a.eval ax=va at hea;cases hea with
 | gptr hm hv0 h1 hcur=>
  rename_i b len ver';obtain ⟨blk',vs,cur,e,g1,g2,g3,g4,g5,g6,g7,g8,g9,g10,_⟩:=hr'.block hm;rw [hg] at g1;cases g1;simp only at g3 g5 g6 g8 g9 g10;have hvp:=hcur (by omega);have hone:∀u∈(a.eval x).cells.toList,u.oneCell'=true:=fun u hu=>by
   obtain ⟨j,hj⟩:=Zak.1 hu;have hjl:j<xs.length:=by rw [q1.1];exact (Zaa.1 hj).1
   exact (q1.2 j xs[j] u (by simp [hjl]) hj).one (Zav.1 q2 _ (List.getElem_mem hjl))
  have hA:=hr'.pushAll (xs.zip (a.eval x).cells.toList) fun p hp=>by
   obtain ⟨j,hj⟩:=Zak.1 hp;have hj':=hj;rw [Zar] at hj';exact ⟨q1.2 j _ _ hj'.1 hj'.2,q3 p hp⟩
  obtain ⟨h2,h3⟩:=hA.storeBlock (us:=(a.eval x).cells.toList) (off:=off) q1.1 hone hg hm g2 hf (by rw [←q1.1];exact hoff) g8;rw [←q1.1] at h2 h3;have hst:=run_storeCells_at P b off e (a.eval x).cells.toList 0 cur w g8 (by rw [←q1.1];omega) hone;simp only [Nat.add_zero] at hst;rw [←q1.1] at hst;have hszv:(a.eval x).cells.size=i.size:=by have:=q1.1;simp at this;omega
  have hexec:(execOp a.eval o).run P w= .ok .skip (w.setRow b (cur.toList.take off++(a.eval x).cells.toList++cur.toList.drop (off+xs.length)).toArray):=by
   rw [ARe9 _ ho,hva,hvp];simp only [Instr.storeAt,Instr.sureAddr,Sem.run_bind,Sem.run_pure,Result.andThen_ok,storeVar,sizeOf,typeInfo,run_program,hi,hszv,ne_eq,not_true_eq_false,if_false,hst]
  exact ABa9 (by simp [ho]) hexec (.inr ⟨rfl,rfl⟩) (Nx.of (x:= .bad) hK ⟨h3,fun _ _ h=>h,fun _ _ h=> .inl h,Zdo m⟩ hl (by simpa using h2.cons (x:= .bad) (v:=undef) .bad rfl) (by intro p hp;cases hp))
theorem BQz9 {c:Call} {x y:Operand} {t e:TypeId} {i:TypeInfo} {g ver n:Nat} {ys:List (List Dv)} {blk:Blk} (ho:o.op= .call c) (hc:c.callee= .builtin .copy) (hsz:c.args.size=2) (h0:c.args[0]? =some x) (h1:c.args[1]? =some y)
 (hts:c.argTypes.size=2) (ht:c.argTypes[0]? =some t) (hu:P.underlying t=some (.slice e)) (hi:P.info? e=some i) (his:i.size=1) (hx:evalA s.tm x= .gref g ver n 1) (hys:ADy9 1 (evalA s.tm y)=some ys) (hg:s.hp[g]? =some blk)
 (hgr:blk.grow=true) (hver:blk.ver=ver) (hf:blk.fro=false):
 ExtOk P o s {tm:=putA s.tm o.dst (.d (.s (goInt ((ys.take n).length:Nat)))),hp:=s.hp.set g {blk with cells:=flatA (ys.take n)++blk.cells.drop (ys.take n).length},pv:= []}:=by
 intro r S X yv w m B hv a K Q h hK;have hsrc:DR S w (.sl 1 ys) (a.eval y):=ADo9 hys (AAj9 h y);have hbase:=AAj9 h x;rw [hx] at hbase;obtain ⟨hl,hr,hpv⟩:=h;have hr':Rel S X yv w m ((s.tm.zip a.tmps.toList++B)++AAa9 s.hp hv) s.hp hv:=by simpa using hr
 obtain ⟨t',ht'⟩:∃t',c.argTypes[1]? =some t':=⟨c.argTypes[1],by simp [hts]⟩;have htse:c.argTypes=#[t,t']:=by
  apply Zcf;intro j
  match j with
  |0=>simpa using ht
  |1=>simpa using ht'
  |j+2=>simp [Zcu (by omega:c.argTypes.size≤j+2)]
 obtain ⟨ub,uc,us,hue,huc,hfl,hucell,hunil⟩:=hsrc.flat;generalize hva:a.eval x=va at hbase;cases hbase with
 | gref hm hv0 h1' hcur=>
  rename_i b len ver';obtain ⟨blk',vs,cur,e',g1,g2,g3,g4,g5,g6,g7,g8,g9,g10,_⟩:=hr'.block hm;rw [hg] at g1;cases g1;simp only at g3 g5 g6 g8 g9 g10;obtain ⟨hlen,cap,rfl,hncap,_,_⟩:=hcur (by omega);have hul:us.length=ys.length:=by have:=hfl.len;omega
  have hflt:Flat S w 1 (ys.take n) (us.take n):=by
   refine ⟨by simp [hul],fun j row hj=> ?_,fun j row k cc v e1 e2 e3=> ?_,fun v hv=>hfl.one v (List.mem_of_mem_take hv)⟩
   ·rw [Zaq] at hj;split at hj<;>try (cases hj;done)
    exact hfl.row j row hj
   ·rw [Zaq] at e1 e3;split at e1<;>try (cases e1;done)
    split at e3<;>try (cases e3;done)
    exact hfl.rd j row k cc v e1 e2 e3
  have hpl:=hflt.pairs.1;have hle:(ys.take n).length≤n:=List.length_take_le n ys;have hlu:(us.take n).length=(ys.take n).length:=by simp [hul]
  have hA:=hr'.pushAll ((flatA (ys.take n)).zip (us.take n)) hflt.rvs;have hbl:len=blk.cells.length:=by omega
  obtain ⟨h2,h3⟩:=hA.storeBlock (us:=us.take n) (off:=0) hpl hflt.one hg hm g2 hf (by rw [hlu];omega) g8;have hkey:(Builtin.copy_ #[t,t'] o.type #[.slice (some ⟨b,0,none⟩) n cap, .slice ub ys.length uc]).run P w=
   .ok (goInt (us.take n).length) (w.setRow b (cur.toList.take 0++us.take n++cur.toList.drop (0+(us.take n).length)).toArray):=by
   cases ub with
   | none=>
    obtain ⟨rfl,rfl⟩:=hunil rfl;have hus:us= []:=by simpa using hul
    subst hus;have hrun:=run_copy_nil (P:=P) w t t' o.type e ⟨b,0,none⟩ n cap hu (by rw [hi];rfl);simp only [Zdm,List.take_nil,Nat.add_zero,List.append_nil,List.take_append_drop,Array.toArray_toList];rw [setRow_self w b cur e' (0,0) g8];exact hrun
   | some ua=>
    refine run_copy_row (P:=P) w t t' o.type e b 0 n cap ua ys.length uc cur e' (us.take n) hu (by rw [hi];simp [his]) g8 (by rw [Zel,hul,Nat.min_comm]) (fun j v hj=> ?_) (by rw [hlu];omega) hflt.one;rw [Zaq] at hj;split at hj<;>try (cases hj;done)
    exact ((hucell ua rfl).1 j v hj).1
  obtain ⟨consts,hb⟩:=ACb9 (P:=P) (ρ:=a.eval) ho hc w;have hexec:(execOp a.eval o).run P w= .ok (.value (goInt (us.take n).length)) (w.setRow b (cur.toList.take 0++us.take n++cur.toList.drop (0+(us.take n).length)).toArray):=by
   rw [hb];simp only [builtin,ALj9 hsz h0 h1,htse];simp only [List.map_toArray,Zdu,List.map_nil,hue,hva];simp only [Sem.run_bind,hkey];rfl
  simp only [List.take_zero,List.nil_append,Nat.zero_add] at h2;refine ABa9 (by simp [ho]) hexec (.inl rfl) ?_;rw [hlu];rw [hlu] at h2 h3;refine Nx.of (x:= .d (.s (goInt ((ys.take n).length:Nat)))) (hv':=hv.set g (us.take n++vs.drop (ys.take n).length)) hK ⟨h3,fun _ _ h=>h,fun _ _ h=> .inl h,Zdo m⟩ hl ?_ (by intro p hp;cases hp);simpa using h2.cons (x:= .d (.s (goInt ((ys.take n).length:Nat)))) (.d (.s _)) rfl
theorem Rel.cut (h:Rel S X yv w m (B++AAa9 hp hv) hp hv) {g n:Nat} {blk:Blk} {p:MB} {vs:List Value} (hg:hp[g]? =some blk) (hm:m[g]? =some p) (hvs:hv[g]? =some vs) (hf:blk.fro=false) (hgr:blk.grow=true) (hn:n≤p.len):
 Rel S X yv w (m.set g ⟨p.b,n,true,p.ver+1⟩) (B++AAa9 (hp.set g ⟨blk.cells.take n,false,true,blk.ver+1⟩) (hv.set g (vs.take n))) (hp.set g ⟨blk.cells.take n,false,true,blk.ver+1⟩) (hv.set g (vs.take n))∧
 MStep m (m.set g ⟨p.b,n,true,p.ver+1⟩):=by
 obtain ⟨a1,a2,a3,a4,a5,⟨cur,e,a6,a7,a8⟩,a9,a10⟩:=h.bl g blk p vs hg hm hvs;have hgl:=(Zaa.1 hg).1;have hml:=(Zaa.1 hm).1;have hvl:=(Zaa.1 hvs).1;have hpg:p.grow=true:=a2.trans hgr;have hms:MStep m (m.set g ⟨p.b,n,true,p.ver+1⟩):=by
  intro g' q hq;by_cases hgg:g'=g
  ·subst hgg;rw [hm] at hq;cases hq;exact .inr ⟨hpg,_,by rw [Zbw hml],rfl,by simp⟩
  ·exact .inl (by rw [Zcg (Ne.symm hgg)];exact hq)
 refine ⟨?_,hms⟩;obtain ⟨pre,post,hc1,hc2⟩:=ACf9 (hp:=hp) (hv:=hv) hg hvs;have hnew:=hc2 ⟨blk.cells.take n,false,true,blk.ver+1⟩ (vs.take n);have hzip:(blk.cells.take n).zip (vs.take n)=(blk.cells.zip vs).take n:=by
  apply List.ext_getElem?;intro j;simp only [Zaq];by_cases hj:j<n
  ·rw [if_pos hj];cases hz:(blk.cells.zip vs)[j]? with
   | none=>
    rw [List.getElem?_eq_none_iff] at hz ⊢;simp only [List.length_zip,Zel] at hz ⊢;omega
   | some q=>
    rw [Zar] at hz ⊢;rw [Zaq,Zaq,if_pos hj,if_pos hj];exact hz
  ·rw [if_neg hj,List.getElem?_eq_none_iff];simp only [List.length_zip,Zel];omega
 have hsub:(B++AAa9 (hp.set g ⟨blk.cells.take n,false,true,blk.ver+1⟩) (hv.set g (vs.take n))).Sublist (B++AAa9 hp hv):=by
  refine List.Sublist.append (List.Sublist.refl _) ?_;rw [hnew,hc1];simp only [hzip];exact List.Sublist.append (List.Sublist.append (List.Sublist.refl _) (List.take_sublist _ _)) (List.Sublist.refl _)
 have h2:=h.sub hsub;refine ⟨h.lt,fun q hq=>(h2.rv q hq).blocks hms,h2.pw, ?_,h2.sp, ?_,by simp [h.ml],by simp [h.hl], ?_,h.gl⟩
 ·intro q hq b hbo x hx;rcases Zct hx with hx|rfl
  ·exact h2.nm q hq b hbo x hx
  ·exact h2.nm q hq b hbo p (Zbi hm)
 ·rw [Zej];have:(m.map (·.b)).set g p.b=m.map (·.b):=by
   apply List.ext_getElem?;intro j;by_cases hj:j=g
   ·subst hj;rw [Zbw (by simpa using hml)];simp [hm]
   ·rw [Zcg (Ne.symm hj)]
  rw [this];exact h.mnd
 ·intro g' blk' p' vs' e1 e2 e3;by_cases hgg:g'=g
  ·subst hgg;rw [Zbw hgl] at e1;rw [Zbw hml] at e2;rw [Zbw hvl] at e3;cases e1;cases e2;cases e3;refine ⟨by simp only [Zel];omega,rfl,by simp only;omega,by simp only [Zel];omega,fun v hv'=>a5 v (List.mem_of_mem_take hv'),⟨cur,e,a6, ?_,by simp only;omega⟩,fun _ i=>a9 hf i,fun hc=>by cases hc⟩;simp only;rw [←a7,List.take_take,Zec hn]
  ·rw [Zcg (Ne.symm hgg)] at e1 e2 e3;exact h.bl g' blk' p' vs' e1 e2 e3
theorem BWr9 {t e:TypeId} {x hi:Operand} {i:TypeInfo} {g ver n:Nat} {blk:Blk} {kk:IntKind} {j:Int} (ho:o.op= .slice t x none (some hi) none) (hu:P.underlying t=some (.slice e)) (hi':P.info? e=some i)
 (hx:evalA s.tm x= .gref g ver n i.size) (hj:evalA s.tm hi= .d (.s (.int kk j))) (hg:s.hp[g]? =some blk) (hgr:blk.grow=true) (hver:blk.ver=ver) (hf:blk.fro=false) (h0:0≤j) (hn:j≤n):
 ExtOk P o s {tm:=putA s.tm o.dst (.gref g (ver+1) j.toNat i.size),hp:=s.hp.set g ⟨blk.cells.take (j.toNat*i.size),false,true,ver+1⟩,pv:= []}:=by
 intro r S X yv w m B hv a K Q h hK;have hbase:=AAj9 h x;have hej:=AAj9 h hi;rw [hx] at hbase;rw [hj] at hej;obtain ⟨hl,hr,hpv⟩:=h;have hr':Rel S X yv w m ((s.tm.zip a.tmps.toList++B)++AAa9 s.hp hv) s.hp hv:=by simpa using hr
 have hvj:a.eval hi= .int kk j:=by
  generalize a.eval hi=u at hej;cases hej with|d h=>cases h;rfl
 generalize hva:a.eval x=va at hbase;cases hbase with
 | gref hm hv0 h1' hcur=>
  rename_i b len ver';obtain ⟨blk',vs,cur,e',g1,g2,g3,g4,g5,g6,g7,g8,g9,g10,_⟩:=hr'.block hm;rw [hg] at g1;cases g1;simp only at g3 g5 g6 g8 g9 g10;obtain ⟨hlen,cap,rfl,hncap,hcm,cur',e2,hc2,hsz⟩:=hcur (by omega);have e8:cur'=cur∧e2=e':=by rw [hc2] at g8;cases g8;exact ⟨rfl,rfl⟩
  obtain ⟨rfl,rfl⟩:=e8;have hjn:j.toNat≤n:=by omega
  have hjk:j.toNat*i.size≤len:=by rw [hlen];exact Zdv _ hjn
  obtain ⟨hR,hMS⟩:=hr'.cut (n:=j.toNat*i.size) (p:=⟨b,len,true,ver'⟩) hg hm g2 hf hgr hjk;simp only [hver] at hR hMS;have hb:bnds n cap none (some (kk,j)) none=some (0,j.toNat,cap):=by
   unfold bnds;simp only [numOr];refine (if_pos ⟨by omega,h0,by omega,by omega,fun h=>by simp at h⟩).trans ?_;simp
  obtain ⟨hb1,hb2,hb3,hb4⟩:=AJp9 (P:=P) true hb w;have hrun:(do pure (Next.value (←Zdf t (.slice (some ⟨b,0,none⟩) n cap) none (some (.int kk j)) none)):Sem Next).run P w= .ok (.value (.slice (some ⟨b,0,none⟩) j.toNat cap)) w:=by
   simp only [Zeg,Zdl] at hb1;simp only [Zdf,Sem.run_bind,run_underlying hu,Result.andThen_ok,Instr.slice,hb1,sizeOf,typeInfo,run_program,hi',Sem.run_pure];by_cases hc:cap=0
   ·simp [hc]
   ·simp [hc,Addr.add]
  have hexec:(execOp a.eval o).run P w= .ok (.value (.slice (some ⟨b,0,none⟩) j.toNat cap)) w:=by
   unfold execOp;rw [ho];simp only [Zeg,Zdl,hva,hvj];exact hrun
  refine ABa9 (by simp [ho]) hexec (.inl rfl) ?_;refine Nx.of hK (S':=S) (hv':=hv.set g (vs.take (j.toNat*i.size))) ⟨Agree.refl _ _ _,fun _ _ h=>h,fun _ _ h=> .inl h,hMS⟩ hl ?_ (by intro p hp;cases hp);have hml:=(Zaa.1 hm).1;have hfin:=hR.cons (x:= .gref g (ver+1) j.toNat i.size) (v:= .slice (some ⟨b,0,none⟩) j.toNat cap) (.gref (b:=b) (len:=j.toNat*i.size) (ver':=ver'+1) (by rw [Zbw hml]) (by omega) rfl fun _=> ?_) rfl
  ·simpa using hfin
  ·exact ⟨rfl,cap,rfl,by omega,hcm,cur',e2,hc2,hsz⟩
theorem BJm9 {c:Call} {x y:Operand} {t tn e:TypeId} {i:TypeInfo} {k kn:IntKind} {n:Int} {zr:List Dv} (ho:o.op= .call c) (hc:c.callee= .builtin .append) (hsz2:c.args.size=2) (h0:c.args[0]? =some x) (h1:c.args[1]? =some y)
 (hts:c.argTypes.size=2) (ht:c.argTypes[0]? =some t) (htn:c.argTypes[1]? =some tn) (hu:P.underlying t=some (.slice e)) (hun:P.underlying tn=some (.int kn)) (hi:P.info? e=some i) (hx:AAl9 (evalA s.tm x)=true)
 (hy:evalA s.tm y= .d (.s (.int k n))) (hz:zrow i=some zr) (hn:0<n) (hfit:n*(i.bytes:Int)≤281474976710656) (h63:n≤9223372036854775807) (hsz:zr.length=i.size) (hpos:0<i.size) (hby:0<i.bytes) (hone:(zr.map AV.d).all AV.one=true):
 ExtOk P o s {tm:=putA s.tm o.dst (.gref s.hp.length 0 n.toNat i.size),hp:=s.hp++ [⟨flatA (Zaf n.toNat zr),false,true,0⟩],pv:= []}:=by
 intro r S X yv w m B hv a K Q h hK;have hel:=AAj9 h x;have hec:=AAj9 h y;rw [hy] at hec;obtain ⟨hln,hr,hpv⟩:=h;have hr':Rel S X yv w m ((s.tm.zip a.tmps.toList++B)++AAa9 s.hp hv) s.hp hv:=by simpa using hr
 simp only [zrow,Zaj] at hz;obtain ⟨z,hz,rfl⟩:=hz;have hzs:z.cells.size=i.size:=by simpa using hsz
 have hvl:a.eval x= .slice none 0 0:=AAq9 hx hel;obtain ⟨l,rfl⟩:=Int.eq_ofNat_of_zero_le (by omega:0≤n);have hvc:a.eval y= .int k l:=by
  generalize a.eval y=u at hec;cases hec with|d h=>cases h;rfl
 have hl0:0<l:=by omega
 have hfit':l*i.bytes≤281474976710656:=by rw [←Int.natCast_mul] at hfit;omega
 rw [Int.toNat_natCast] at hK;have htse:c.argTypes=#[t,tn]:=by
  apply Zcf;intro j
  match j with
  |0=>simpa using ht
  |1=>simpa using htn
  |j+2=>simp [Zcu (by omega:c.argTypes.size≤j+2)]
 have hrun:=Lib.run_append_nil_zeros (P:=P) w t tn o.type e i z k kn hu hun hi hz l hl0 hpos h63 hfit';have hge:=grownCap_ge w l 0 e;have hcm:=grownCap_le_maxLen w l 0 e (by have:maxLen=9223372036854775807:=rfl;omega);have hat:∀j,j<l*i.size→((Zaz z.cells l).toList)[j]? =some (z.cells[j % i.size]!):=by
  intro j hj;simp [Zaz,hzs,hj]
 have hlen:((Zaz z.cells l).toList).length=l*i.size:=by
  rw [Array.length_toList,size_zeroCells,hzs]
 have hnews0:(Zaz z.cells l)=((Zaz z.cells l).toList).toArray:=by simp
 generalize hnews:(Zaz z.cells l).toList=news at hat hlen hnews0;rw [hnews0] at hrun;have hfl:Flat S w i.size (Zaf l (z.cells.toList.map Dv.s)) news:=by
  refine ⟨by simp [hlen],fun j r hr=> ?_,fun j r k x v e1 e2 e3=> ?_,fun v hv=> ?_⟩
  ·rw [List.getElem?_replicate] at hr;split at hr<;>cases hr;simpa using hsz
  ·rw [List.getElem?_replicate] at e1;split at e1<;>cases e1;rename_i hj;simp only [Zbf,Zaj] at e2;obtain ⟨u,e2,rfl⟩:=e2;have hk:k<i.size:=by rw [←hzs];have:=(Zaa.1 e2).1;simpa using this
   rw [hat _ (BEj9 hj hk)] at e3;have hmod:(j*i.size+k) % i.size=k:=by rw [Nat.mul_comm,Nat.mul_add_mod,Nat.mod_eq_of_lt hk]
   rw [hmod] at e3;have:z.cells[k]! =u:=by
    have h5:z.cells[k]? =some u:=by simpa using e2
    rw [getElem!_pos z.cells k (by rw [hzs];exact hk)];exact (Zah.1 h5).2
   rw [this] at e3;cases e3;exact .s _
  ·obtain ⟨j,hj⟩:=Zak.1 hv;have hjl:=(Zaa.1 hj).1;rw [hat j (by omega)] at hj;have hk:j % i.size<z.cells.size:=by rw [hzs];exact Nat.mod_lt _ hpos
   have hv':v=z.cells[j % i.size]:=by
    rw [getElem!_pos z.cells _ hk] at hj;exact (Option.some.inj hj).symm
   have:=Zav.1 hone (.d (.s z.cells[j % i.size])) (Zbd.2 ⟨.s z.cells[j % i.size],Zbd.2 ⟨_,by simp,rfl⟩,rfl⟩);rw [hv'];exact this
 have hbel:Below w.heap.size w (w.drew.alloc (.cells (news.toArray++Zaz z.cells (grownCap w l 0 e - l)) e)):=((Below.refl _ _).drew).alloc (Zas _) _;have hpl:=hfl.pairs.1;have hA:=hr'.pushAll ((flatA (Zaf l (z.cells.toList.map Dv.s))).zip news) hfl.rvs;have hcur:(w.drew.alloc (.cells (news.toArray++Zaz z.cells (grownCap w l 0 e - l)) e)).heap[w.heap.size]? =some (.cells (news.toArray++Zaz z.cells (grownCap w l 0 e - l)) e (0,0)):=heap_alloc_new w.drew _;have hR:=hA.newGrow _ news rfl hpl hfl.one hbel hcur (by simp) (by simp);obtain ⟨consts,hb⟩:=ACb9 (P:=P) (ρ:=a.eval) ho hc w;have hexec:(execOp a.eval o).run P w= .ok (.value (.slice (some ⟨w.heap.size,0,none⟩) l (grownCap w l 0 e))) (w.drew.alloc (.cells (news.toArray++Zaz z.cells (grownCap w l 0 e - l)) e)):=by
  rw [hb];simp only [builtin,ALj9 hsz2 h0 h1,htse];simp only [List.map_toArray,Zdu,List.map_nil,hvl,hvc,Sem.run_bind,hrun];rfl
 refine ABa9 (by simp [ho]) hexec (.inl rfl) ?_;refine Nx.of hK (S':=S) (m':=m++ [⟨w.heap.size,(flatA (Zaf l (z.cells.toList.map Dv.s))).length,true,0⟩]) (hv':=hv++ [news]) ⟨AAr9 hbel _,fun _ _ h=>h,fun _ _ h=> .inl h,Zed _ _⟩ hln ?_ (by intro p hp;cases hp);refine Rel.cons (by simpa using hR) (.gref (b:=w.heap.size) (len:=(flatA (Zaf l (z.cells.toList.map Dv.s))).length) (ver':=0) (by rw [Zao (by rw [hr.ml];exact Zas _),hr.ml];simp) (Zas _) rfl fun _=> ?_) rfl;refine ⟨by rw [hpl,hlen],_,rfl,hge,hcm,_,e,hcur, ?_⟩;simp [size_zeroCells,hzs,hlen,←Zca];congr 1;omega
end
mutual
def shift (n:Nat):AV→AV
 | .ref g off l c k=> .ref (n+g) off l c k
 | .ptr g off=> .ptr (n+g) off
 | .gref g ver l k=> .gref (n+g) ver l k
 | .gptr g ver off=> .gptr (n+g) ver off
 | .agg cs=> .agg (AKk9 n cs)
 | .tup cs=> .tup (AKk9 n cs)
 | .fn f a b=> .fn f (AKk9 n a) (AKk9 n b)
 | .d x=> .d x
 | .own e k xs=> .own e k xs
 | .full k xs=> .full k xs
 | .rptr cs=> .rptr cs
 | .yl=> .yl
 | .bad=> .bad
def AKk9 (n:Nat):List AV→List AV
 | []=> []
 |x::l=>shift n x::AKk9 n l
end
theorem AEt9 (n:Nat):∀l:List AV,AKk9 n l=l.map (shift n)
 | []=>rfl
 |x::l=>by simp [AKk9,AEt9 n l]
def AUh9 (n:Nat) (b:Blk):Blk:= {b with cells:=AKk9 n b.cells}
def AJn9 (n:Nat) (hp:List Blk):List Blk:=hp.map (AUh9 n)
def FCall (P:Program) (f:Nat) (args:List AV) (r:AV) (hp1:List Blk):Prop:=
 (∀(azz:Array Value) (w:World),(callFunc f azz).run P w= .ok (.enter f azz) w)∧
 ∀ (S:Pr) (w:World) (vs:List Value),args.length=vs.length→(∀(i:Nat) (x:AV) (v:Value),args[i]? =some x→vs[i]? =some v→RV S w [] none x v)→(∀b i,S b i→b<w.heap.size)→Glob S w→
  CallsIn Zdi 0 P f vs.toArray w fun e w'=>∃v S' m1 hv1,e= .returned v∧Below w.heap.size w w'∧(∀b i,S b i→S' b i)∧(∀b i,S' b i→S b i∨(w.heap.size≤b∧b<w'.heap.size))∧
   (∀p∈m1,w.heap.size≤p.b)∧Rel S' (fun b _=>b<w.heap.size) none w' m1 ((r.view,v)::AAa9 hp1 hv1) hp1 hv1
section
variable {P:Program} {S S' X V:Pr} {yv:Option Nat} {w w':World} {m m' m1:List MB} {A A' B:List (AV×Value)} {hp hp' hp1:List Blk} {hv hv' hv1:List (List Value)}
theorem RV.shift {x:AV} {v:Value} (h:RV S w m1 none x v):RV S w (m++m1) yv (shift m.length x) v:=by
 have hat:∀ {g:Nat} {p:MB},m1[g]? =some p→(m++m1)[m.length+g]? =some p:=fun h=>by
  rw [Zao (by omega)];simpa using h
 induction h with
 |d h=>exact .d h
 | agg hl _ ih=>
  simp only [Am.shift,AEt9];refine .agg (by simpa using hl) fun i c v h h'=> ?_;simp only [Zbf,Zaj] at h;obtain ⟨c,h,rfl⟩:=h;exact ih i c v h h'
 | tup hl _ ih=>
  simp only [Am.shift,AEt9];refine .tup (by simpa using hl) fun i c v h h'=> ?_;simp only [Zbf,Zaj] at h;obtain ⟨c,h,rfl⟩:=h;exact ih i c v h h'
 |own h ho=>exact .own h ho
 |ownNil=>exact .ownNil
 |full h=>exact .full h
 |rptr vals hne hsp hs hc hr h1=>exact .rptr vals hne hsp hs hc hr h1
 |ref h hfit hn=>exact .ref (hat h) hfit hn
 |ptr h=>exact .ptr (hat h)
 |gref h hv h1 hc=>exact .gref (hat h) hv h1 hc
 |gptr h hv h1 hc=>exact .gptr (hat h) hv h1 hc
 | fn hf hl hl' _ _ ih ih'=>
  simp only [Am.shift,AEt9];refine .fn hf (by simpa using hl) (by simpa using hl') (fun i c v h h'=> ?_) (fun i c v h h'=> ?_)
  ·simp only [Zbf,Zaj] at h;obtain ⟨c,h,rfl⟩:=h;exact ih i c v h h'
  ·simp only [Zbf,Zaj] at h;obtain ⟨c,h,rfl⟩:=h;exact ih' i c v h h'
 |yl h=>cases h
 |bad=>exact .bad
theorem AIt9 (n:Nat) (x:AV) (v:Value):ownB (shift n x,v)=ownB (x,v):=by
 cases x<;>simp only [shift]<;>rfl
theorem AUq9 (n:Nat) (x:AV):ANq9 (shift n x)=ANq9 x:=by cases x<;>simp only [shift]<;>rfl
theorem BBh9 (n:Nat) (x:AV):(shift n x).view=shift n x.view:=by
 cases x<;>simp only [shift,Zck]
theorem Rel.merge {lo:Nat} (h:Rel S X yv w m A hp hv) (h1:Rel S (fun b _=>b<lo) none w m1 A' hp1 hv1) (hX:∀b i,X b i→b<lo) (hm:∀q∈m,q.b<lo) (hm1:∀q∈m1,lo≤q.b) (hA:∀p∈A,∀b,ownB p=some b→b<lo):
 Rel S X yv w (m++m1) (A++A'.map fun p=>(shift m.length p.1,p.2)) (hp++AJn9 m.length hp1) (hv++hv1):=by
 have hA':∀p∈A',∀b,ownB p=some b→lo≤b:=fun p hp b hb=>Nat.le_of_not_lt ((h1.sp p hp b hb).1 0);refine ⟨h.lt,fun p hp=> ?_, ?_,fun p hp b hb x hx=> ?_,fun p hp b hb=> ?_, ?_,by simp [AJn9,h.ml,h1.ml],by simp [AJn9,h.hl,h1.hl],fun g blk p vs e1 e2 e3=> ?_,h.gl⟩
 ·rcases Zco.1 hp with hp|hp
  ·exact (h.rv p hp).blocks fun g q hq=> .inl (by rw [Zan (Zaa.1 hq).1];exact hq)
  ·obtain ⟨q,hq,rfl⟩:=Zbd.1 hp;exact (h1.rv q hq).shift
 ·rw [List.pairwise_append];refine ⟨h.pw, ?_,fun p hp q hq b hb hqb=> ?_⟩
  ·rw [List.pairwise_map];refine h1.pw.imp fun {p q} hd b hb=> ?_;obtain ⟨x,v⟩:=p;obtain ⟨y,u⟩:=q;simp only [AIt9] at hb ⊢;exact hd b hb
  ·obtain ⟨q',hq',rfl⟩:=Zbd.1 hq;obtain ⟨y,u⟩:=q';simp only [AIt9] at hqb;have:=hA p hp b hb;have:=hA' (y,u) hq' b hqb;omega
 ·rcases Zco.1 hp with hp|hp
  ·rcases Zco.1 hx with hx|hx
   ·exact h.nm p hp b hb x hx
   ·have:=hA p hp b hb;have:=hm1 x hx;omega
  ·obtain ⟨q,hq,he⟩:=Zbd.1 hp;subst he;obtain ⟨y,u⟩:=q;simp only [AIt9] at hb;rcases Zco.1 hx with hx|hx
   ·have:=hA' (y,u) hq b hb;have:=hm x hx;omega
   ·exact h1.nm (y,u) hq b hb x hx
 ·rcases Zco.1 hp with hp|hp
  ·exact h.sp p hp b hb
  ·obtain ⟨q,hq,he⟩:=Zbd.1 hp;subst he;obtain ⟨y,u⟩:=q;simp only [AIt9] at hb;have hlo:=hA' (y,u) hq b hb;refine ⟨fun i hx=>by have:=hX b i hx;omega,fun i hi=> ?_⟩;simp only [AUq9] at hi;exact (h1.sp (y,u) hq b hb).2 i hi
 ·rw [List.map_append,List.nodup_append];refine ⟨h.mnd,h1.mnd,fun a ha b hb=> ?_⟩;obtain ⟨p,hp,rfl⟩:=Zbd.1 ha;obtain ⟨q,hq,rfl⟩:=Zbd.1 hb;have:=hm p hp;have:=hm1 q hq;omega
 ·by_cases hg:g<hp.length
  ·rw [Zan hg] at e1;rw [Zan (by rw [h.ml];exact hg)] at e2;rw [Zan (by rw [h.hl];exact hg)] at e3;exact h.bl g blk p vs e1 e2 e3
  ·rw [Zao (by omega)] at e1;rw [Zao (by rw [h.ml];omega),h.ml] at e2;rw [Zao (by rw [h.hl];omega),h.hl] at e3;simp only [AJn9,Zbf,Zaj] at e1;obtain ⟨blk1,e1,rfl⟩:=e1;obtain ⟨a1,a2,a3,a4,a5,a6,a9,a10⟩:=h1.bl _ blk1 p vs e1 e2 e3;refine ⟨by simp [AUh9,AEt9,a1],a2,a3,a4,a5,a6,fun hf i=>⟨(a9 hf i).1,fun hx=>(a9 hf i).2 (hX _ _ hx)⟩,a10⟩
theorem AHv9 (n:Nat):∀(hp:List Blk) (hv:List (List Value)),AAa9 (AJn9 n hp) hv=(AAa9 hp hv).map fun p=>(shift n p.1,p.2)
 | [],_=>rfl
 |b::hp, []=>by simp [AAa9,AJn9]
 | b::hp,v::hv=>by
  have:=AHv9 n hp hv;simp only [AAa9,AJn9,Zdu,List.zip_cons_cons,List.flatMap_cons,List.map_append,AUh9,AEt9] at this ⊢;rw [this];congr 1;rw [List.zip_map_left];rfl
theorem ATb9 (hl:hv.length=hp.length) (hp1:List Blk) (hv1:List (List Value)):AAa9 (hp++hp1) (hv++hv1)=AAa9 hp hv++AAa9 hp1 hv1:=by
 unfold AAa9;rw [List.zip_append hl.symm];simp
theorem FCall.toS {f:Nat} {args:List AV} {r:AV} (h:FCall P f args r hp1) (hcl:ABy9 args=true) (hp:List Blk):SCall P f args hp (shift hp.length r) (hp++AJn9 hp.length hp1):=by
 refine ⟨h.1,fun S X yv w m B hv vs hl hrel=> ?_⟩;have hargs:∀(i:Nat) (x:AV) (v:Value),args[i]? =some x→vs[i]? =some v→RV S w [] none x v:=by
  intro i x v h1 h2;have:(x,v)∈args.zip vs:=Zak.2 ⟨i,by rw [Zar];exact ⟨h1,h2⟩⟩;exact (hrel.rv _ (Zbc _ this)).closed (ABj9 hcl i x h1)
 refine CallsIn.mono (h.2 S w vs hl hargs (fun b i hs=>hrel.lt b i (.inl hs)) hrel.gl) ?_;rintro e w' ⟨v,S',m1,hv1,rfl,hb,h1,h2,h3,h4⟩;have hr0:Rel S X yv w m (B++AAa9 hp hv) hp hv:=hrel.sub (List.sublist_append_right _ _);have hr1:=hr0.below hb h1 h2;have hM:=hr1.merge h4 (fun b i hx=>hrel.lt b i (.inr hx)) hrel.mLt h3 hr0.ownLt;refine ⟨v,S',m++m1,hv++hv1,rfl,⟨AAr9 hb _,h1,fun b i hs=>(h2 b i hs).imp id fun hh hx=>by have:=hrel.lt b i (.inr hx);omega,fun g q hq=> .inl (by rw [Zan (Zaa.1 hq).1];exact hq)⟩, ?_⟩;rw [←hrel.ml,BBh9];refine hM.perm ?_;rw [Zdu,←AHv9,ATb9 hrel.hl];simp only;refine (List.perm_middle).trans (List.Perm.cons _ ?_);rw [List.append_assoc]
theorem FCall.ofW {f:Nat} {fn:Func} {c:Code} {args:List AV} {x:AV} (hf:P.funcs[f]? =some fn) (hb:fn.body=some c) (hn:(fn.name== "runtime.NumGoroutine")=false) (hargs:args.map Zck=args) (hfro:hp1.all (fun b=> !b.fro)=true)
 (hW:∀(Ev:Env P) (b:Ev.β),W Ev c ⟨AAw9 fn args, [],b⟩ (AIg9 P fn fun y hp _=>y=x∧hp=hp1)):FCall P f args x hp1:=by
 refine ⟨AFi9 hf hb hn,fun S w vs hl hvs hlt hgl=> ?_⟩;have hrel:Rel S (fun b _=>b<w.heap.size) none w [] (args.zip vs++([]++AAa9 [] [])) [] []:=by
  have h0:Rel S (fun b _=>b<w.heap.size) none w [] [] [] []:=⟨fun b i h=>h.elim (hlt b i) id,by simp,List.Pairwise.nil,by simp,by simp,by simp,rfl,rfl,by simp,hgl⟩;have:=h0.pushAll (args.zip vs) (fun p hp=>by
   obtain ⟨j,hj⟩:=Zak.1 hp;rw [Zar] at hj;refine ⟨hvs j p.1 p.2 hj.1 hj.2, ?_⟩;have hp1:p.1.view=p.1:=by
    have h1:(args.map Zck)[j]? =some p.1.view:=by simp [hj.1]
    rw [hargs,hj.1] at h1;exact (Option.some.inj h1).symm
   obtain ⟨p1,p2⟩:=p;simp only at hp1;rw [←hp1];exact AAs9 _ _)
  simpa [AAa9] using this
 refine ADm9 (Ev:=Env.none P none) (V:=fun _ _=>False) (b:=(():Unit)) hf hb hl (hW (Env.none P _) (():Unit)) hrel (fun _ _ h=>h.elim) trivial (Nat.zero_le _) ?_;intro y S' X' V' w' m' hv' hp' v b' hy htr0 hxs hm hr _ hyv;obtain ⟨rfl,rfl⟩:=hy;have htr:Tr (fun b i=>¬b<w.heap.size) (fun _=>False) S w S' w':=htr0.mono (fun b i h=>h.resolve_right id) (fun _ h=>h);have hr':Rel S' X' none w' m' (AAa9 hp' hv') hp' hv':=by
  have h0:=hr;simp only [List.nil_append] at h0;exact h0
 refine ⟨v,S',m',hv',rfl,AEq9 htr (fun b i hb hz=>hz hb) (fun _ h=>h),htr.up,fun b i hs=> ?_,fun p hp=> ?_,(hr'.lessX hxs).cons hyv.view (AAs9 _ _)⟩
 ·rcases htr.new b i hs with h1|h1|h1
  ·exact .inl h1
  ·exact .inr ⟨Nat.le_of_not_lt h1,htr.lt b i hs⟩
  ·exact .inr ⟨h1,htr.lt b i hs⟩
 ·obtain ⟨g,hg⟩:=Zak.1 hp;have hr2:Rel S' X' none w' m' (([]:List (AV×Value))++AAa9 hp' hv') hp' hv':=hr';obtain ⟨blk,us,cur,e,g1,g2,g3,g4,g5,g6,g7,g8,g9,g10,g11,g12⟩:=hr2.block hg;have hfr:blk.fro=false:=by
   have:=Zav.1 hfro blk (Zbi g1);simpa using this
  exact Nat.le_of_not_lt fun hb=>(g11 hfr 0).2 (hxs _ _ hb)
theorem AUg9 (n:Nat) (xs:List (List Dv)):AKk9 n (flatA xs)=flatA xs:=by
 rw [AEt9];unfold flatA;rw [List.map_map];exact List.map_congr_left fun d _=>by simp [shift]
end
set_option linter.unusedSimpArgs false
mutual
def AV.low (n:Nat):AV→Bool
 | .ref g .. | .ptr g _| .gref g .. | .gptr g .. =>g<n
 | .agg cs=>lows n cs
 | .tup cs=>lows n cs
 | .fn _ a b=>lows n a&&lows n b
 |_=>true
def lows (n:Nat):List AV→Bool
 | []=>true
 |x::r=>x.low n&&lows n r
end
def lowHp (n:Nat) (hp:List Blk):Bool:=(hp.take n).all fun blk=>lows n blk.cells
abbrev ACx9 (β:Type):=β→List AV→(Bool→β→Prop)→Prop
abbrev SpT:=∀ {β:Type},ACx9 β→β→(β→Prop)→Prop
def ICall (P:Program) (f:Nat) (args:List AV) (Sp:SpT):Prop:=
 (∀(azz:Array Value) (w:World),(callFunc f azz).run P w= .ok (.enter f azz) w)∧
 ∀ (Ev:Env P) (b:Ev.β) (Q:Ev.β→Prop),Sp Ev.Y b Q→∀(S X V:Pr) (w:World) (m:List MB) (hv:List (List Value)) (vs:List Value),args.length=vs.length→
  Rel S X Ev.yl w m (args.zip vs++([]++AAa9 [] hv)) [] hv→(∀b i,V b i→X b i)→Ev.E b S V w→Ev.N≤w.heap.size→
  CallsIn Zdi 0 P f vs.toArray w fun e w'=>∃v b' S' V',e= .returned v∧Q b'∧Ev.E b' S' V' w'
def YList {β:Type} (Y:ACx9 β):List (List AV)→β→(β→Prop)→Prop
 | [],b,Q=>Q b
 |x::xs,b,Q=>Y b x fun cont b'=>if cont then YList Y xs b' Q else Q b'
def APn9 (tm:List AV) (ps:Array Tmp) (args:List AV):List AV:=(ps.toList.zip args).foldl (fun tm p=>tm.set p.1 p.2) tm
def AGv9:Exit→Code
 | .exit id=> .exit id
 | .goto t=> .goto t
 |_=> .ret
def YBody {P:Program} (Ev:Env P) (tm:List AV) (ps:Array Tmp) (assign body:Code) (n:Nat):ACx9 (List Blk×Ev.β×Option Exit):=fun b args Qy=>
 b.2.2=none∧args.length=ps.size∧W Ev assign ⟨APn9 (tm.map Zck) ps (args.map Zck),b.1,b.2.1⟩ fun e s1=>e= .normal∧W Ev body s1 fun e s2=>∃k:Nat,b.1.length≤k∧lowHp k s2.hp=true∧match e with
  | .normal=>Qy true (s2.hp.take k,s2.b,none)
  | .ret=>Qy false (s2.hp.take k,s2.b,some .ret)
  | .exit id=>Qy false (s2.hp.take k,s2.b,some (.exit id))
  | .goto t=>Qy false (s2.hp.take k,s2.b,some (.goto t))
  |_=>False
section
variable {P:Program} {S S' X X' V V':Pr} {L:Nat→Prop} {r:Option Nat} {lo:Nat} {yv:Option Nat} {w w':World} {m m':List MB} {A B T:List (AV×Value)} {hp hp':List Blk} {hv hv':List (List Value)} {a:Act} {o:Oper} {Ev:Env P} {s:St Ev.β} {Q Q':Exit→St Ev.β→Prop} {c:Code}
theorem AIb9 {n:Nat}:∀ {cs:List AV},lows n cs=true→∀(i:Nat) (c:AV),cs[i]? =some c→c.low n=true
 | [],_,i,c,h=>by simp at h
 | x::r,hc,i,c,h=>by
  simp only [lows,Zal] at hc;cases i with
  |zero=>simp at h;subst h;exact hc.1
  |succ i=>simp at h;exact AIb9 hc.2 i c h
theorem RV.low {n:Nat} {x:AV} {v:Value} (h:RV S w m yv x v):x.low n=true→RV S w (m.take n) yv x v:=by
 induction h with
 |d h=>exact fun _=> .d h
 |agg hl h ih=>exact fun hc=> .agg hl fun i c v h1 h2=>ih i c v h1 h2 (AIb9 (by simpa [AV.low] using hc) i c h1)
 |tup hl h ih=>exact fun hc=> .tup hl fun i c v h1 h2=>ih i c v h1 h2 (AIb9 (by simpa [AV.low] using hc) i c h1)
 |own h1 h2=>exact fun _=> .own h1 h2
 |ownNil=>exact fun _=> .ownNil
 |full h=>exact fun _=> .full h
 |rptr vals hne hsp hs hcc hr h1=>exact fun _=> .rptr vals hne hsp hs hcc hr h1
 |ref h hfit hn=>exact fun hc=> .ref (by rw [Zaq,if_pos (by simpa [AV.low] using hc)];exact h) hfit hn
 |ptr h=>exact fun hc=> .ptr (by rw [Zaq,if_pos (by simpa [AV.low] using hc)];exact h)
 |gref h hv h1 hcc=>exact fun hc=> .gref (by rw [Zaq,if_pos (by simpa [AV.low] using hc)];exact h) hv h1 hcc
 |gptr h hv h1 hcc=>exact fun hc=> .gptr (by rw [Zaq,if_pos (by simpa [AV.low] using hc)];exact h) hv h1 hcc
 | fn hf hl hl' h h' ih ih'=>
  intro hc;simp only [AV.low,Zal] at hc;exact .fn hf hl hl' (fun i c v h1 h2=>ih i c v h1 h2 (AIb9 hc.1 i c h1)) (fun i c v h1 h2=>ih' i c v h1 h2 (AIb9 hc.2 i c h1))
 |yl h=>exact fun _=> .yl h
 |bad=>exact fun _=> .bad
theorem MStep.take {n:Nat} (h:MStep m m') (hl:m.length≤n):MStep m (m'.take n):=by
 intro g p hp;have hg:g<n:=Nat.lt_of_lt_of_le (Zaa.1 hp).1 hl;simp only [Zaq,if_pos hg];exact h g p hp
theorem MStep.len (h:MStep m m'):m.length≤m'.length:=by
 rcases Nat.lt_or_ge m'.length m.length with hl|hl
 ·have:=h m'.length m[m'.length] (by simp [hl]);simp at this
 ·exact hl
theorem Rel.trunc {n:Nat} (h:Rel S X yv w m (T++AAa9 hp hv) hp hv) (hT:∀p∈T,RV S w (m.take n) yv p.1 p.2) (hlow:lowHp n hp=true):
 Rel S X yv w (m.take n) (T++AAa9 (hp.take n) (hv.take n)) (hp.take n) (hv.take n):=by
 have hsub:(T++AAa9 (hp.take n) (hv.take n)).Sublist (T++AAa9 hp hv):=by
  refine List.Sublist.append (List.Sublist.refl _) ?_;unfold AAa9;have:(hp.take n).zip (hv.take n)=(hp.zip hv).take n:=by simp [List.zip,List.take_zipWith]
  rw [this]
  conv=>rhs;rw [←List.take_append_drop n (hp.zip hv)]
  rw [List.flatMap_append];exact List.sublist_append_left _ _
 have hcell:∀p∈AAa9 (hp.take n) (hv.take n),p.1.low n=true:=by
  intro p hp';simp only [AAa9,List.mem_flatMap] at hp';obtain ⟨q,hq,hpq⟩:=hp';obtain ⟨q1,q2⟩:=q;have hq1:=(List.of_mem_zip hq).1;have hlq:=Zav.1 hlow q1 hq1;obtain ⟨j,hj⟩:=Zak.1 hpq;rw [Zar] at hj;exact AIb9 hlq j _ hj.1
 refine ⟨h.lt,fun p hp'=> ?_,h.pw.sublist hsub,fun p hp' b hb x hx=>h.nm p (hsub.subset hp') b hb x (List.mem_of_mem_take hx),fun p hp'=>h.sp p (hsub.subset hp'), ?_,by simp [h.ml],by simp [h.hl],fun g blk p vs h1 h2 h3=> ?_,h.gl⟩
 ·rcases Zco.1 hp' with hp1|hp1
  ·exact hT p hp1
  ·exact (h.rv p (hsub.subset hp')).low (hcell p hp1)
 ·rw [List.map_take];exact h.mnd.sublist (List.take_sublist _ _)
 ·simp only [Zaq] at h1 h2 h3;split at h1<;>try (cases h1;done)
  rename_i hg;rw [if_pos hg] at h2 h3;exact h.bl g blk p vs h1 h2 h3
theorem Rel.setX (h:Rel S X yv w m A hp hv) (hlt:∀b i,X' b i→b<w.heap.size) (hm:∀(g:Nat) (blk:Blk) (p:MB),hp[g]? =some blk→m[g]? =some p→blk.fro=false→∀i,¬X' p.b i)
 (ho:∀p∈A,∀b,ownB p=some b→∀i,¬X' b i):Rel S X' yv w m A hp hv:=
 ⟨fun b i hbi=>hbi.elim (fun h1=>h.lt b i (.inl h1)) (hlt b i),h.rv,h.pw,h.nm,fun p hp b hb=>⟨ho p hp b hb,(h.sp p hp b hb).2⟩,h.mnd,h.ml,h.hl,
  fun g blk p vs h1 h2 h3=>let ⟨a1,a2,a3,a4,a5,a6,a9,a10⟩:=h.bl g blk p vs h1 h2 h3;⟨a1,a2,a3,a4,a5,a6,fun hf i=>⟨(a9 hf i).1,hm g blk p h1 h2 hf i⟩,a10⟩,h.gl⟩
def Owned (hp:List Blk) (m:List MB) (A:List (AV×Value)) (b:Nat):Prop:=
 (∃(g:Nat) (blk:Blk) (p:MB),hp[g]? =some blk∧m[g]? =some p∧blk.fro=false∧p.b=b)∨∃p∈A,ownB p=some b
theorem Rel.notX (h:Rel S X yv w m A hp hv) {b:Nat} (ho:Owned hp m A b) (i:Nat):¬X b i:=by
 rcases ho with ⟨g,blk,p,h1,h2,h3,rfl⟩|⟨p,hp,hb⟩
 ·have hg:g<hv.length:=by rw [h.hl];exact (Zaa.1 h1).1
  exact ((h.bl g blk p hv[g] h1 h2 (by simp [hg])).2.2.2.2.2.2.1 h3 i).2
 ·exact (h.sp p hp b hb).1 i
theorem Rel.ownedLt (h:Rel S X yv w m A hp hv) {b:Nat} (ho:Owned hp m A b):b<w.heap.size:=by
 rcases ho with ⟨g,blk,p,h1,h2,h3,rfl⟩|⟨p,hp,hb⟩
 ·have hg:g<hv.length:=by rw [h.hl];exact (Zaa.1 h1).1
  obtain ⟨_,_,_,_,_,⟨cur,e,h4,_⟩,_⟩:=h.bl g blk p hv[g] h1 h2 (by simp [hg]);exact (Zah.1 h4).1
 ·exact BVp9 (h.rv p hp) (x:=p.1) (v:=p.2) hb
def ANu9 (Ev:Env P) (r:Option Nat) (S0 X V0:Pr) (w0:World) (m0:List MB) (T:List (AV×Value)) (n:Nat) (bs:List Nat) (l:Nat) (rec:Loop) (b:List Blk×Ev.β×Option Exit) (S V:Pr) (w:World):Prop:=
 ∃ (Xc Vc:Pr) (mC:List MB) (hvC:List (List Value)),n≤b.1.length∧Rel S Xc Ev.yl w mC (T++AAa9 b.1 hvC) b.1 hvC∧(∀b i,Vc b i→Xc b i)∧Ev.E b.2.1 S Vc w∧MStep m0 mC∧APc9 r w∧
  (∀b∈bs,w.heap[b]? =some (.deferred (some [])))∧(∀c,Owned b.1 mC (T++AAa9 b.1 hvC) c→∀i,V c i)∧(∀b i,Vc b i→V b i)∧(∀b i,V b i→b<w.heap.size)∧(∀b i,X b i→V b i)∧
  w.heap[l]? =some (.loop {rec with state:=if b.2.2.isNone then .ready else .done,pending:=b.2.2.map AGv9})∧Went Ev.L S0 X V0 w0 S Xc Vc w
theorem Rel.zm (h:∀c,Owned hp m A c→∀i,V c i):(∀(g:Nat) (blk:Blk) (p:MB),hp[g]? =some blk→m[g]? =some p→blk.fro=false→∀i,¬¬V p.b i)∧(∀p∈A,∀b,ownB p=some b→∀i,¬¬V b i):=
 ⟨fun g blk p h1 h2 h3 i hn=>hn (h p.b (.inl ⟨g,blk,p,h1,h2,h3,rfl⟩) i),fun p hp b hb i hn=>hn (h b (.inr ⟨p,hp,hb⟩) i)⟩
theorem ANu9.stable {S0 X V0:Pr} {w0:World} {m0:List MB} {n:Nat} {bs:List Nat} {l:Nat} {rec:Loop} {b:List Blk×Ev.β×Option Exit} (h:ANu9 Ev r S0 X V0 w0 m0 T n bs l rec b S V w)
 (ht:Tr (fun b i=>¬V b i) (fun _=>False) S w S' w'):ANu9 Ev r S0 X V0 w0 m0 T n bs l rec b S' V w':=by
 obtain ⟨Xc,Vc,mC,hvC,h0,h1,h2,h3,h4,h5,h6,h7,h8,h9,hXV,h10,h11⟩:=h;obtain ⟨z1,z2⟩:=Rel.zm h7;refine ⟨Xc,Vc,mC,hvC,h0,h1.still ht z1 z2 (fun _ _ h=> .inl h),h2,Ev.stable h3 (ht.mono (fun b i hn hc=>hn (h8 b i hc)) (fun _ h=>h)),h4,h5.tr ht,fun b hb=> ?_,h7,h8,fun b i hv=>Nat.lt_of_lt_of_le (h9 b i hv) ht.size,hXV, ?_, ?_⟩
 ·rcases ht.objs b _ (h6 b hb) rfl with h12|⟨h12,_⟩|⟨h12,_⟩
  ·exact h12
  ·exact h12.elim
  ·exact h12.elim
 ·rcases ht.objs l _ h10 rfl with h12|⟨h12,_⟩|⟨h12,_⟩
  ·exact h12
  ·exact h12.elim
  ·exact h12.elim
 ·exact ⟨h11.tr.trans ht (fun b i hb hz=> .inl fun hx=>hz (hXV b i hx)) (fun _ _ h=>h.elim),h11.xs,h11.vs⟩
theorem ABk9 {d k:Nat} {o' o1:Obj} (hk:w.heap[k]? =some o1) (hne:k≠d):(w.putObj d o').heap[k]? =some o1:=by rw [Zbp hne];exact hk
theorem ANu9.putObj {S0 X V0:Pr} {w0:World} {m0:List MB} {n N:Nat} {bs:List Nat} {l:Nat} {rec:Loop} {b:List Blk×Ev.β×Option Exit} (h:ANu9 Ev r S0 X V0 w0 m0 T n bs l rec b S V w)
 {d:Nat} {o:Obj} (o':Obj) (hd:N≤d) (hdo:w.heap[d]? =some o) (ho:o.isCells=false) (hm:BQh9 o=false) (hN:Ev.N≤N) (hw0:w0.heap.size≤N) (hbs:∀b∈bs,b<N) (hl:l<N) (hr:∀l0,r=some l0→l0<N):
 ANu9 Ev r S0 X V0 w0 m0 T n bs l rec b S V (w.putObj d o'):=by
 obtain ⟨Xc,Vc,mC,hvC,h0,h1,h2,h3,h4,h5,h6,h7,h8,h9,hXV,h10,h11⟩:=h;refine ⟨Xc,Vc,mC,hvC,h0,h1.putObj hdo ho,h2,Ev.stableO o' h3 (Zch hN hd) hdo ho hm,h4,fun l0 hl0=> ?_,fun b hb=> ?_,h7,h8,fun b i hv=>by simpa using h9 b i hv,hXV, ?_,⟨h11.tr.putObj (Zch hw0 hd) hdo,h11.xs,h11.vs⟩⟩
 ·obtain ⟨rc,h12⟩:=h5 l0 hl0;exact ⟨rc,ABk9 h12 (by have:=hr l0 hl0;omega)⟩
 ·exact ABk9 (h6 b hb) (by have:=hbs b hb;omega)
 ·exact ABk9 h10 (by omega)
theorem Went.lessX {V V' X1:Pr} (h:Went L S X V w S' X' V' w') (hx:∀b i,X1 b i→X b i):Went L S X1 V w S' X' V' w':=
 ⟨h.tr.mono (fun b i hz=>hz.imp (fun h1 h2=>h1 (hx b i h2)) id) (fun _ h=>h),fun b i h1=>h.xs b i (hx b i h1),h.vs⟩
theorem Went.putObj {V V':Pr} (h:Went L S X V w S' X' V' w') {d:Nat} {o o':Obj} (hd:w.heap.size≤d) (hdo:w'.heap[d]? =some o):Went L S X V w S' X' V' (w'.putObj d o'):=⟨h.tr.putObj hd hdo,h.xs,h.vs⟩
theorem AHp9 {G:AV×Value→Prop}:∀(ps:List Tmp) (xs:List AV) (vs:List Value) (tm:List AV) (tmps:Array Value),tm.length=tmps.size→(∀p∈tm.zip tmps.toList,G p)→xs.length=vs.length→
 (∀(i:Nat) (x:AV) (v:Value),xs[i]? =some x→vs[i]? =some v→G (x,v))→
 ((ps.zip xs).foldl (fun tm p=>tm.set p.1 p.2) tm).length=((ps.zip vs).foldl (fun tmps p=>tmps.setIfInBounds p.1 p.2) tmps).size∧
  ∀p∈((ps.zip xs).foldl (fun tm p=>tm.set p.1 p.2) tm).zip ((ps.zip vs).foldl (fun tmps p=>tmps.setIfInBounds p.1 p.2) tmps).toList,G p
 | [],xs,vs,tm,tmps,hl,hG,hlx,hx=>by simpa using ⟨hl,fun a b h=>hG (a,b) h⟩
 | p::ps, [],vs,tm,tmps,hl,hG,hlx,hx=>by
  have:vs= []:=by simpa using hlx.symm
  subst this;simpa using ⟨hl,fun a b h=>hG (a,b) h⟩
 |p::ps,x::xs, [],tm,tmps,hl,hG,hlx,hx=>by simp at hlx
 | p::ps,x::xs,v::vs,tm,tmps,hl,hG,hlx,hx=>by
  simp only [List.zip_cons_cons,List.foldl_cons];refine AHp9 ps xs vs _ _ (by simp [hl]) (fun q hq=> ?_) (by simpa using hlx) (fun i y u h1 h2=>hx (i+1) y u h1 h2);rw [Array.toList_setIfInBounds,ANv9] at hq;rcases Zct hq with h1|rfl
  ·exact hG q h1
  ·exact hx 0 x v rfl rfl
theorem Tie.putLoop {s:RS} {b:Ev.β} (h:Tie Ev lo r S X V w m B hv s b a) {l:Nat} {rc:Loop} (rc':Loop) (hl:w.heap[l]? =some (.loop rc)) (hN:Ev.N≤l):Tie Ev lo r S X V (w.putObj l (.loop rc')) m B hv s b a:=by
 have hll:l<w.heap.size:=(Zah.1 hl).1;refine ⟨⟨h.rel.1,h.rel.2.1.putObj hl rfl,h.rel.2.2⟩,h.sub,Ev.stableO _ h.env hN hl rfl rfl,fun l0 hl0=> ?_, ?_,h.base.1,by simpa using h.base.2⟩
 ·obtain ⟨rc0,h1⟩:=h.round l0 hl0;by_cases he:l0=l
  ·subst he;exact ⟨rc',Zcv hll⟩
  ·exact ⟨rc0,ABk9 h1 he⟩
 ·obtain ⟨bs,h1,h2,h3⟩:=h.marks;refine ⟨bs,h1,h2,fun b hb=>⟨(h3 b hb).1,ABk9 (h3 b hb).2 ?_⟩⟩;rintro rfl;have:=(h3 _ hb).2;rw [hl] at this;cases this
theorem YBody.mono {tm:List AV} {ps:Array Tmp} {assign body:Code} {n:Nat} {b:List Blk×Ev.β×Option Exit} {args:List AV} {Q Q':Bool→(List Blk×Ev.β×Option Exit)→Prop} (h:YBody Ev tm ps assign body n b args Q)
 (hq:∀c b',Q c b'→Q' c b'):YBody Ev tm ps assign body n b args Q':=by
 refine ⟨h.1,h.2.1,W.mono h.2.2 fun e s1 h1=>⟨h1.1,W.mono h1.2 fun e s2 ⟨k,hk,hlow,h3⟩=>⟨k,hk,hlow, ?_⟩⟩⟩;cases e<;>first|exact hq _ _ h3|exact h3
theorem AZg9 {S0 X V0:Pr} {w0:World} {m0:List MB} {n:Nat} {bs:List Nat} {l:Nat} {rec:Loop} {b:List Blk×Ev.β×Option Exit} {args:List AV} {vs:List Value} {tm:List AV} {a:Act} {B:List (AV×Value)}
 {Qy:Bool→List Blk×Ev.β×Option Exit→Prop} (htm:tm.length=a.tmps.size) (hrec:rec.tmps=a.tmps) (hY:YBody Ev tm rec.params rec.assign rec.body n b args Qy)
 (hE:ANu9 Ev r S0 X V0 w0 m0 (tm.zip a.tmps.toList++B) n bs l rec b S V w) (hl:args.length=vs.length) (hvs:∀(i:Nat) (x:AV) (v:Value),args[i]? =some x→vs[i]? =some v→RV S w [] none x v)
 (hNw:Ev.N≤w0.heap.size) (hlw:w0.heap.size≤l) (hm0:m0.length≤n):
 ∃ f tmps assign body,(Instr.yield l vs.toArray).run P w= .ok (.round l f tmps assign body) w∧
  RoundIn Zdi 0 P l f tmps assign body w (fun e w'=>∃cont b' S' V',e= .returned (.bool cont)∧Qy cont b'∧ANu9 Ev r S0 X V0 w0 m0 (tm.zip a.tmps.toList++B) n bs l rec b' S' V' w'∧Tr V (fun x=>x=l+1∨Ev.L x) S w S' w'∧
   (∀b i,V b i→V' b i)∧(∀b i,V' b i→V b i∨(w.heap.size≤b∧b<w'.heap.size))):=by
 obtain ⟨hpC,bC,st⟩:=b;obtain ⟨Xc,Vc,mC,hvC,h0,h1,h2,h3,h4,h5,h6,h7,h8,h9,hXV,h10,h11⟩:=hE;obtain ⟨y1,y2,y3⟩:=hY;simp only at y1 y2 y3 h0 h1 h3 h7 h10;subst y1;simp only [Option.isNone_none,if_true,Zeg] at h10;have hw0:w0.heap.size≤w.heap.size:=h11.tr.size;have hLl:¬Ev.L (l+1):=fun h=>by have:=Ev.Llt h;omega
 refine ⟨_,_,_,_,run_yield h10 (by simp [←hl,y2]),roundIn_of_wpIn (F:=Zdi) trivial ?_⟩;have hXb:∀b i,Xc b i→(b<w.heap.size∧¬Owned hpC mC ((tm.zip a.tmps.toList++B)++AAa9 hpC hvC) b):=fun b i hx=>⟨h1.lt b i (.inr hx),fun ho=>h1.notX ho i hx⟩;have hrelb:Rel S (fun b _=>b<w.heap.size∧¬Owned hpC mC ((tm.zip a.tmps.toList++B)++AAa9 hpC hvC) b) Ev.yl w mC ((tm.zip a.tmps.toList++B)++AAa9 hpC hvC) hpC hvC:=
  h1.setX (fun b i h=>h.1) (fun g blk p g1 g2 g3 i h=>h.2 (.inl ⟨g,blk,p,g1,g2,g3,rfl⟩)) (fun p hp b hb i h=>h.2 (.inr ⟨p,hp,hb⟩))
 have hpairs:=AHp9 (G:=fun p=>RV S w mC Ev.yl p.1 p.2∧ownB p=none) rec.params.toList (args.map Zck) vs (tm.map Zck) a.tmps (by simpa using htm) (fun p hp=>by
  obtain ⟨j,hj⟩:=Zak.1 hp;rw [Zar] at hj;obtain ⟨j1,j2⟩:=hj;simp only [Zbf,Zaj] at j1;obtain ⟨x,j1,j3⟩:=j1;obtain ⟨p1,p2⟩:=p;simp only at j2 j3;subst j3;refine ⟨(h1.rv (x,p2) (Zbc _ (Zbc _ (Zak.2 ⟨j, ?_⟩)))).view,AAs9 _ _⟩;rw [Zar];exact ⟨j1,j2⟩) (by simpa using hl) (fun i x v q1 q2=>by
  simp only [Zbf,Zaj] at q1;obtain ⟨y,q1,rfl⟩:=q1;exact ⟨(hvs i y v q1 q2).opened.view,AAs9 _ _⟩)
 have hfold:((rec.params.zip vs.toArray).foldl (fun tmps (x:Tmp×Value)=>tmps.setIfInBounds x.1 x.2) rec.tmps)=(rec.params.toList.zip vs).foldl (fun tmps p=>tmps.setIfInBounds p.1 p.2) a.tmps:=by
  rw [←Array.foldl_toList,Array.toList_zip,hrec]
 have hrecw:w.heap[l]? =some (.loop {rec with state:= .ready,pending:=none}):=h10;have tie0:Tie Ev w.heap.size (some l) S (fun b _=>b<w.heap.size∧¬Owned hpC mC ((tm.zip a.tmps.toList++B)++AAa9 hpC hvC) b) Vc w mC (tm.zip a.tmps.toList++B) hvC
  ⟨APn9 (tm.map Zck) rec.params (args.map Zck),hpC, []⟩ bC {tmps:=(rec.params.zip vs.toArray).foldl (fun tmps (x:Tmp×Value)=>tmps.setIfInBounds x.1 x.2) rec.tmps,defers:= []}:=by
  refine ⟨⟨?_, ?_,by intro p hp;cases hp⟩,fun b i hv=>hXb b i (h2 b i hv),h3,fun l0 hl0=> ?_,⟨[],rfl,List.nodup_nil,by simp⟩,by omega,Zas _⟩
  ·rw [hfold];exact hpairs.1
  ·rw [hfold];exact hrelb.pushAll _ hpairs.2
  ·cases hl0;exact ⟨_,hrecw⟩
 refine wpIn_mono (y3 w.heap.size (some l) S _ Vc w mC (tm.zip a.tmps.toList++B) hvC _ tie0) ?_;rintro e a1 w1 ⟨s1,S1,X1,V1,m1,hv1,⟨rfl,hWb⟩,⟨went1,ms1⟩,tie1⟩;have hrec1:w1.heap[l]? =some (.loop {rec with state:= .ready,pending:=none}):=(went1.tr.objs l _ hrecw rfl).resolve_right fun h=>h.elim (fun h=>hLl h.1) fun ⟨_,_,_,h⟩=>by cases h
 refine ⟨_,run_beginRound hrec1 rfl, ?_⟩;have tie1':=tie1.putLoop {rec with state:= .busy,pending:=none} hrec1 (Zch hNw hlw);refine wpIn_mono (hWb w.heap.size (some l) S1 X1 V1 _ m1 (tm.zip a.tmps.toList++B) hv1 a1 tie1') ?_;rintro e a2 w3 ⟨s2,S2,X2,V2,m2,hv2,⟨kk,hkk,hlow,hq⟩,⟨went2,ms2⟩,tie2⟩;have hl1:l<w1.heap.size:=(Zah.1 hrec1).1;have hrec3:w3.heap[l]? =some (.loop {rec with state:= .busy,pending:=none}):=(went2.tr.objs l _ (Zcv hl1) rfl).resolve_right fun h=>h.elim (fun h=>hLl h.1) fun ⟨_,_,_,h⟩=>by cases h
 have hl3:l<w3.heap.size:=(Zah.1 hrec3).1;have key:∀st':Option Exit,ANu9 Ev r S0 X V0 w0 m0 (tm.zip a.tmps.toList++B) n bs l rec (s2.hp.take kk,s2.b,st') S2 (fun b i=>V b i∨(w.heap.size≤b∧b<w3.heap.size))
  (w3.putObj l (.loop {rec with state:=if (st'.map AGv9).isNone then .ready else .done,pending:=st'.map AGv9}))∧
  Tr V (fun x=>x=l+1∨Ev.L x) S w S2 (w3.putObj l (.loop {rec with state:=if (st'.map AGv9).isNone then .ready else .done,pending:=st'.map AGv9})):=by
  intro st';have htr2:Tr (fun b i=>¬(b<w.heap.size∧¬Owned hpC mC ((tm.zip a.tmps.toList++B)++AAa9 hpC hvC) b)∨Vc b i) (fun x=>x=l+1∨Ev.L x) S w S1 (w1.putObj l (.loop {rec with state:= .busy,pending:=none})):=
   went1.tr.putLoop (rc:= {rec with state:= .ready,pending:=none}) .busy none hrec1
  have htr3:Tr (fun b i=>¬(b<w.heap.size∧¬Owned hpC mC ((tm.zip a.tmps.toList++B)++AAa9 hpC hvC) b)∨Vc b i) (fun x=>x=l+1∨Ev.L x) S w S2 w3:=
   htr2.trans went2.tr (fun b i hb hz=>hz.elim (fun h=> .inl fun hx=>h (went1.xs b i hx)) fun h=>(went1.vs b i h).elim .inr fun h'=>absurd h' (by omega)) (fun x _ h=> .inr h)
  have htr4:Tr V (fun x=>x=l+1∨Ev.L x) S w S2 (w3.putObj l (.loop {rec with state:=if (st'.map AGv9).isNone then .ready else .done,pending:=st'.map AGv9})):=
   (htr3.putLoop (rc:= {rec with state:= .busy,pending:=none}) (if (st'.map AGv9).isNone then .ready else .done) (st'.map AGv9) hrec3).mono' (fun b i hb hz=>hz.elim (fun h=>h7 b (Classical.byContradiction fun ho=>h ⟨hb,ho⟩) i) (h8 b i)) (fun x hx=>hx.elim .inl id)
  have hml:mC.length=hpC.length:=h1.ml;have hm2:=(ms1.trans ms2).len;have hhl:s2.hp.length=m2.length:=tie2.rel.2.1.ml.symm;have hrel3:Rel S2 X2 Ev.yl w3 (m2.take kk) ((tm.zip a.tmps.toList++B)++AAa9 (s2.hp.take kk) (hv2.take kk)) (s2.hp.take kk) (hv2.take kk):=
   (tie2.rel.2.1.sub (List.sublist_append_right _ _)).trunc (fun p hp=>((h1.rv p (Zbc _ hp)).tr htr3).blocks ((ms1.trans ms2).take (by omega))) hlow
  have hrel4:=hrel3.putObj (o':= .loop {rec with state:=if (st'.map AGv9).isNone then .ready else .done,pending:=st'.map AGv9}) hrec3 rfl;have hwent:Went Ev.L S0 X V0 w0 S2 X2 V2 w3:=((h11.trans (went1.lessX hXb)).putObj hlw hrec1).trans went2;have hXbX2:∀b i,(b<w.heap.size∧¬Owned hpC mC ((tm.zip a.tmps.toList++B)++AAa9 hpC hvC) b)→X2 b i:=fun b i h=>went2.xs b i (went1.xs b i h);refine ⟨⟨X2,V2,m2.take kk,hv2.take kk, ?_,hrel4,tie2.sub,Ev.stableO _ tie2.env (Zch hNw hlw) hrec3 rfl rfl,(h4.trans (ms1.trans ms2)).take (by omega),h5.tr htr4,fun b hb=> ?_,fun c hc i=> ?_,fun b i hv=> ?_,fun b i hv=> ?_,fun b i hx=> .inl (hXV b i hx), ?_,hwent.putObj hlw hrec3⟩,htr4⟩
  ·simp only [Zel];omega
  ·rcases htr4.objs b _ (h6 b hb) rfl with h12|⟨_,o',_,_,_,_,h13,_⟩|⟨_,o',_,h13⟩
   ·exact h12
   ·cases h13
   ·cases h13
  ·have hcl:=hrel3.ownedLt hc;by_cases hcw:c<w.heap.size
   ·refine .inl (h7 c (Classical.byContradiction fun ho=> ?_) i);exact hrel3.notX hc i (hXbX2 c i ⟨hcw,ho⟩)
   ·exact .inr ⟨by omega,hcl⟩
  ·have hb3:b<w3.heap.size:=hrel3.lt b i (.inr (tie2.sub b i hv));rcases went2.vs b i hv with h12|h12
   ·rcases went1.vs b i h12 with h13|h13
    ·exact .inl (h8 b i h13)
    ·exact .inr ⟨h13,hb3⟩
   ·refine .inr ⟨Zch went1.tr.size (by simpa using h12),hb3⟩
  ·rcases hv with h12|⟨_,h12⟩
   ·have:=h9 b i h12;have:=htr3.size;simp;omega
   ·simpa using h12
  ·rw [Zcv hl3];cases st'<;>rfl
 have hV1:∀b i,V b i→(V b i∨(w.heap.size≤b∧b<w3.heap.size)):=fun _ _ h=> .inl h;cases e with
 | normal=>
  obtain ⟨k1,k2⟩:=key none;exact ⟨_,_,run_endRound none hrec3,true,_,_,_,rfl,hq,k1,k2,hV1,fun b i h=>by simpa using h⟩
 | ret=>
  obtain ⟨k1,k2⟩:=key (some .ret);exact ⟨_,_,run_endRound (some .ret) hrec3,false,_,_,_,rfl,hq,k1,k2,hV1,fun b i h=>by simpa using h⟩
 | exit id=>
  obtain ⟨k1,k2⟩:=key (some (.exit id));exact ⟨_,_,run_endRound (some (.exit id)) hrec3,false,_,_,_,rfl,hq,k1,k2,hV1,fun b i h=>by simpa using h⟩
 | goto t=>
  obtain ⟨k1,k2⟩:=key (some (.goto t));exact ⟨_,_,run_endRound (some (.goto t)) hrec3,false,_,_,_,rfl,hq,k1,k2,hV1,fun b i h=>by simpa using h⟩
 |panic ch=>exact hq.elim
 |outgrown=>exact hq.elim
def AUj9 (Ev:Env P) (r:Option Nat) (S0 X V0:Pr) (w0:World) (m0:List MB) (tm:List AV) (a:Act) (B:List (AV×Value)) (n:Nat) (bs:List Nat) (l:Nat) (rec:Loop) (N:Nat) (htm:tm.length=a.tmps.size) (hrec:rec.tmps=a.tmps)
 (hNw:Ev.N≤w0.heap.size) (hlw:w0.heap.size≤l) (hm0:m0.length≤n) (hlN:l<N) (hbs:∀b∈bs,b<N) (hr:∀l0,r=some l0→l0<N):Env P:=
 { β:=List Blk×Ev.β×Option Exit,N:=N,yl:=some l,L:=fun x=>x=l+1∨Ev.L x,E:=ANu9 Ev r S0 X V0 w0 m0 (tm.zip a.tmps.toList++B) n bs l rec,Y:=YBody Ev tm rec.params rec.assign rec.body n,
   Llt:=fun h=>h.elim (fun h=>by omega) (fun h=>by have:=Ev.Llt h;omega)
   Ymono:=fun h hq=>YBody.mono h hq
   stable:=fun h ht=>h.stable ht
   stableO:=fun o' h hd hdo ho hm=>h.putObj o' hd hdo ho hm (by omega) (by omega) hbs hlN hr
   yok:=fun hY hE hl hlen hvs _=>by
    cases hl;exact AZg9 htm hrec hY hE hlen hvs hNw hlw hm0}
theorem AMp9 (fn:FuncId) (tmps:Array Value) (ps:Array Tmp) (assign body:Code) (hr:APc9 r w):
 ∃ (l:Nat) (bs:List Nat) (w1:World) (D:Nat),(Instr.enterLoop fn tmps ps assign body r).run P w= .ok (l,bs.map fun b=> {target:= .collected b,args:=#[]}) w1∧w1.heap[l]? =some (.loop {state:= .ready,pending:=none,fn,tmps,params:=ps,assign,body,defers:=D})∧
  Below w.heap.size w w1∧w.heap.size≤l∧bs.Nodup∧∀b∈bs,w.heap.size≤b∧b<w1.heap.size∧w1.heap[b]? =some (.deferred (some [])):=by
 cases r with
 | none=>
  refine ⟨w.heap.size+1, [w.heap.size],_,w.heap.size,run_enterLoop_outer fn tmps ps assign body, ?_,((Below.refl _ _).alloc (Zas _) _).alloc (by simp) _,by omega,by simp, ?_⟩
  ·have:=Zdn (w.alloc (.deferred (some []))) (.loop {state:= .ready,pending:=none,fn,tmps,params:=ps,assign,body,defers:=w.heap.size});simpa using this
  ·intro b hb;simp only [List.mem_singleton] at hb;subst hb;refine ⟨Zas _,by simp;omega, ?_⟩;rw [Below.heap_alloc _ _ _ (by simp)];exact Zdn w _
 | some l0=>
  obtain ⟨rc,h1⟩:=hr l0 rfl;refine ⟨w.heap.size, [],_,rc.defers,run_enterLoop_inner h1 fn tmps ps assign body,Zdn w _,(Below.refl _ _).alloc (Zas _) _,Zas _,List.nodup_nil,by simp⟩
def ADq9 {β:Type} (tm:List AV) (Q:Exit→St β→Prop) (b:List Blk×β×Option Exit):Prop:=
 match b.2.2 with
 |none=>Q .normal ⟨tm,b.1,b.2.1⟩
 |some (.exit id)=>Q (.exit id) ⟨tm,b.1,b.2.1⟩
 |some (.goto t)=>Q (.goto t) ⟨tm,b.1,b.2.1⟩
 |some _=>Q .ret ⟨tm,b.1,b.2.1⟩
theorem W.range {g:Operand} {ps:Array Tmp} {assign body:Code} {k:Nat} {first caps:List AV} {Sp:SpT} (hg:evalA s.tm g= .fn (.func k) first caps) (hcl:ABy9 (first.map Zck)=true) (hcl':ABy9 (caps.map Zck)=true)
 (hI:ICall P k ((first++ [AV.yl]++caps).map Zck) Sp) (h:Sp (YBody Ev s.tm ps assign body s.hp.length) (s.hp,s.b,none) (ADq9 s.tm Q)):W Ev (.rangeFunc g ps assign body) s Q:=by
 intro lo r S X V w m B hv a ht;refine wpIn_rangeFunc fun fn _=> ?_;obtain ⟨l,bs,w1,D,e1,e2,e3,e4,e5,e6⟩:=AMp9 (P:=P) fn a.tmps ps assign body ht.round;have hfv:=AAj9 ht.rel g;rw [hg] at hfv;generalize hfe:a.eval g=fv at hfv;cases hfv with
 | fn hne hl1 hl2 h1 h2=>
  rename_i fs cs;have hgs:=Gs.below ht.rel.2.1 e3 (S':=S) ⟨fun _ _ h=>h,fun _ _ h=> .inl h⟩;have hlt1:∀b i,S b i→b<w1.heap.size:=fun b i hs=>Nat.lt_of_lt_of_le (ht.rel.slt b i hs) e3.size;have htr:=hgs.tr hlt1;have hrel1:Rel S X Ev.yl w1 m (s.tm.zip a.tmps.toList++(B++AAa9 s.hp hv)) s.hp hv:=ht.rel.2.1.below e3 (fun _ _ h=>h) (fun _ _ h=> .inl h);have hl1w:l<w1.heap.size:=(Zah.1 e2).1;obtain ⟨bs0,m1,m2,m3⟩:=ht.marks;have hbs0:∀b∈bs0,b<w.heap.size:=fun b hb=>(Zah.1 (m3 b hb).2).1;have hr0:∀l0,r=some l0→l0<w.heap.size:=fun l0 hl0=>by
   obtain ⟨rc,h3⟩:=ht.round l0 hl0;exact (Zah.1 h3).1
  have hm0:m.length≤s.hp.length:=by rw [ht.rel.2.1.ml];exact Zas _
  have hbsN:∀b∈bs++bs0,b<w1.heap.size:=fun b hb=>(Zco.1 hb).elim (fun h=>(e6 b h).2.1) (fun h=>Nat.lt_of_lt_of_le (hbs0 b h) e3.size)
  let Er:=AUj9 Ev r S X V w m s.tm a B s.hp.length (bs++bs0) l {state:= .ready,pending:=none,fn,tmps:=a.tmps,params:=ps,assign,body,defers:=D} w1.heap.size ht.rel.1 rfl
   (Zch ht.base.1 ht.base.2) e4 hm0 hl1w hbsN (fun l0 hl0=>Nat.lt_of_lt_of_le (hr0 l0 hl0) e3.size)
  have hargs:((first++ [AV.yl]++caps).map Zck).length=(fs.toList++ [Zcd (.yield l) #[] #[]]++cs.toList).length:=by simp [hl1,hl2]
  have hpairs:∀p∈((first++ [AV.yl]++caps).map Zck).zip (fs.toList++ [Zcd (.yield l) #[] #[]]++cs.toList),RV S w1 [] (some l) p.1 p.2∧ownB p=none:=by
   intro p hp;have hp1:=(List.of_mem_zip hp).1;refine ⟨?_, ?_⟩
   ·obtain ⟨j,hj⟩:=Zak.1 hp;rw [Zar] at hj;obtain ⟨j1,j2⟩:=hj;simp only [List.map_append,Zdu,List.map_nil] at j1;by_cases c1:j<first.length
    ·rw [List.append_assoc,Zan (by simpa using c1)] at j1;rw [List.append_assoc,Zan (by simpa [←hl1] using c1)] at j2;have hc:=ABj9 hcl j _ j1;simp only [Zbf,Zaj] at j1;obtain ⟨y,j1,j3⟩:=j1;have hy:=((h1 j y p.2 j1 (by simpa using j2)).view);rw [j3] at hy;exact ((hy.tr htr).closed hc).opened
    ·by_cases c2:j=first.length
     ·subst c2;rw [Zan (by simp),Zao (by simp)] at j1;rw [Zan (by simp [←hl1]),Zao (by simp [←hl1])] at j2;simp [hl1] at j1 j2;rw [←j1,←j2];exact .yl rfl
     ·rw [Zao (by simp;omega)] at j1;rw [Zao (by simp [←hl1];omega)] at j2;simp only [List.length_append,List.length_map,List.length_cons,Zdm,Array.length_toList,←hl1] at j1 j2;have hc:=ABj9 hcl' _ _ j1;simp only [Zbf,Zaj] at j1;obtain ⟨y,j1,j3⟩:=j1;have hy:=((h2 _ y p.2 j1 (by simpa using j2)).view);rw [j3] at hy;exact ((hy.tr htr).closed hc).opened
   ·obtain ⟨p1,p2⟩:=p;obtain ⟨y,_,rfl⟩:=Zbd.1 hp1;exact AAs9 _ _
  have hrelI:Rel S (fun b _=>b<w1.heap.size) (some l) w1 [] (((first++ [AV.yl]++caps).map Zck).zip (fs.toList++ [Zcd (.yield l) #[] #[]]++cs.toList)++([]++AAa9 [] [])) [] []:=by
   have h0:Rel S (fun b _=>b<w1.heap.size) (some l) w1 [] [] [] []:=⟨fun b i h=>h.elim (hlt1 b i) id,by simp,List.Pairwise.nil,by simp,by simp,by simp,rfl,rfl,by simp,hrel1.gl⟩;simpa [AAa9] using h0.pushAll _ hpairs
  have hE:Er.E (s.hp,s.b,none) S (fun b _=>b<w1.heap.size) w1:=by
   refine ⟨X,V,m,hv,Zas _,by simpa using hrel1,ht.sub,Ev.stable ht.env (htr.mono (fun b i hx hv=>hx (ht.sub b i hv)) (fun _ h=>h)),Zdo m,ht.round.tr htr,fun b hb=> ?_,fun c hc i=> ?_,fun b i hv=> ?_,fun b i h=>h,fun b i hx=>hrel1.lt b i (.inr hx),e2,hgs.went hlt1⟩
   ·rcases Zco.1 hb with h3|h3
    ·exact (e6 b h3).2.2
    ·rw [e3.block b (hbs0 b h3)];exact (m3 b h3).2
   ·refine hrel1.ownedLt (b:=c) ?_;simpa using hc
   ·exact hrel1.lt b i (.inr (ht.sub b i hv))
  have hcalls:=hI.2 Er (s.hp,s.b,none) (ADq9 s.tm Q) h S _ (fun b _=>b<w1.heap.size) w1 [] [] _ hargs hrelI (fun _ _ h=>h) hE (Zas _);have hae:(fs.toList++ [Zcd (.yield l) #[] #[]]++cs.toList).toArray=fs++#[Zcd (.yield l) #[] #[]]++cs:=by apply Array.ext';simp
  refine ⟨l,bs.map fun b=> {target:= .collected b,args:=#[]},w1, {target:= .fn (.func k) cs,args:=fs++#[Zcd (.yield l) #[] #[]]},w1,k,fs++#[Zcd (.yield l) #[] #[]]++cs,w1,e1, ?_,fun _ _=>trivial, ?_,fun hd=>(by cases hd), ?_⟩
  ·have hm:Array.map a.eval #[Operand.const (Zcd (Fn.yield l) #[] #[])]=#[a.eval (Operand.const (Zcd (Fn.yield l) #[] #[]))]:=by simp
   simp only [resolve,hfe,Deferred.ofValue,hm];rfl
  ·simp only [invoke];exact hI.1 _ _
  ·rw [hae] at hcalls;refine (CallsIn.mono hcalls ?_:CallsIn Zdi 0 P k _ w1 _);rintro e w3 ⟨v,⟨hpE,bE,stE⟩,S',V',rfl,hQ,hE'⟩;obtain ⟨Xc,Vc,mC,hvC,g0,g1,g2,g3,g4,g5,g6,g7,g8,g9,gXV,g10,g11⟩:=hE';simp only at g0 g1 g3 g10;refine ⟨_,_,run_endLoop g10 (by cases stE<;>simp), ?_⟩;have hlN:Ev.N≤l:=Zch (Zch ht.base.1 ht.base.2) e4;have hbeh:∀e,Q e ⟨s.tm,hpE,bE⟩→Beh Ev lo r S X V w m B Q e {a with defers:=(bs.map fun b=> {target:= .collected b,args:=#[]})++a.defers}
    (w3.putObj l (.loop {state:= .exhausted,pending:=stE.map AGv9,fn,tmps:=a.tmps,params:=ps,assign,body,defers:=D})):=by
    intro e hQe;refine ⟨⟨s.tm,hpE,bE⟩,S',Xc,Vc,mC,hvC,hQe,⟨g11.putObj e4 g10,g4⟩,⟨⟨ht.rel.1, ?_,by intro p hp;cases hp⟩,g2,Ev.stableO _ g3 hlN g10 rfl rfl,fun l0 hl0=> ?_, ?_,ht.base.1, ?_⟩⟩
    ·simpa using g1.putObj (o':= .loop {state:= .exhausted,pending:=stE.map AGv9,fn,tmps:=a.tmps,params:=ps,assign,body,defers:=D}) g10 rfl
    ·obtain ⟨rc,h3⟩:=g5 l0 hl0;exact ⟨rc,ABk9 h3 (by have:=hr0 l0 hl0;omega)⟩
    ·refine ⟨bs++bs0,by simp [m1], ?_,fun b hb=>⟨?_,ABk9 (g6 b hb) ?_⟩⟩
     ·rw [List.nodup_append];refine ⟨e5,m2,fun x hx y hy hxy=> ?_⟩;have:=(e6 x hx).1;have:=hbs0 y hy;omega
     ·rcases Zco.1 hb with h3|h3
      ·exact Zch ht.base.2 (e6 b h3).1
      ·exact (m3 b h3).1
     ·rintro rfl;have:=g6 _ hb;rw [g10] at this;cases this
    ·simpa using Zch ht.base.2 g11.tr.size
   cases stE with
   |none=>exact hbeh .normal hQ
   | some e=>
    cases e with
    |exit id=>exact wpIn_exit (hbeh (.exit id) hQ)
    |goto t=>exact wpIn_goto (hbeh (.goto t) hQ)
    |ret=>exact wpIn_ret (hbeh .ret hQ)
    |normal=>exact wpIn_ret (hbeh .ret hQ)
    |panic ch=>exact wpIn_ret (hbeh .ret hQ)
    |outgrown=>exact wpIn_ret (hbeh .ret hQ)
theorem ICall.ofW {f:Nat} {fn:Func} {args:List AV} {Sp:SpT} (hf:P.funcs[f]? =some fn) (hb:fn.body=some c) (hn:(fn.name== "runtime.NumGoroutine")=false)
 (hW:∀(Ev:Env P) (b:Ev.β) (Q:Ev.β→Prop),Sp Ev.Y b Q→W Ev c ⟨AAw9 fn args, [],b⟩ (AIg9 P fn fun _ _ b'=>Q b')):ICall P f args Sp:=by
 refine ⟨AFi9 hf hb hn,fun Ev b Q hSp S X V w m hv vs hl hrel hV hE hN=> ?_⟩;refine ADm9 (Ev:=Ev) (V:=V) (B:= []) hf hb hl (hW Ev b Q hSp) hrel hV hE hN ?_;intro y S' X' V' w' m' hv' hp' v b' hq _ _ _ _ hE' _;exact ⟨v,b',S',V',rfl,hq,hE'⟩
end
def findK (ops:Array Oper):Nat→Option Nat
 |0=>if ASr9 ops 0 then some 0 else none
 |k+1=>if ASr9 ops (k+1) then some (k+1) else findK ops k
def ABz9:List Oper→Nat
 | []=>0
 |o::l=>if ADr9 o&& !isApp o&& !isMk o then ABz9 l+1 else 0
def AIw9:List Oper→Nat
 | []=>0
 |o::l=>if ADr9 o&& !isMk o then AIw9 l+1 else 0
def ASa9:List Oper→Nat
 | []=>0
 |o::l=>if ADr9 o then ASa9 l+1 else 0
def BHn9 (P:Program) (call:CallT) (ops:Array Oper) (draw:Bool) (tm:List AV) (hp:List Blk):Option (List AV×List Blk):=
 if draw then match findK ops (ABz9 ops.toList) with
  | some k=>if k≤ops.size then match xPre P call ops hp (ops.toList.take k) tm with
   |some tmK=>(xOps P call ops (ops.toList.drop k) ⟨tmK,hp,pvAll P hp tmK (ops.toList.take k)⟩).map fun s=>(s.tm,s.hp)
   |none=>none
   else none
  |none=>none
 else (xOps P call ops ops.toList ⟨tm,hp, []⟩).map fun s=>(s.tm,s.hp)
def run (P:Program) (call:CallT):Nat→Code→List AV→List Blk→Option (Exit×List AV×List Blk)
 |0,_,_,_=>none
 |n+1, .skip,tm,hp=>some (.normal,tm,hp)
 |n+1, .label _,tm,hp=>some (.normal,tm,hp)
 |n+1, .exit id,tm,hp=>some (.exit id,tm,hp)
 |n+1, .goto l,tm,hp=>some (.goto l,tm,hp)
 |n+1, .ret,tm,hp=>some (.ret,tm,hp)
 | n+1, .region _ ops d,tm,hp=>match BHn9 P call ops d tm hp with
  |some (tm',hp')=>some (.normal,tm',hp')
  |none=>none
 | n+1, .seq x y,tm,hp=>match run P call n x tm hp with
  |some (.normal,tm',hp')=>run P call n y tm' hp'
  |r=>r
 | n+1, .cond x c c',tm,hp=>match evalA tm x with
  | .d (.s (.bool true))=>run P call n c tm hp
  | .d (.s (.bool false))=>run P call n c' tm hp
  |_=>none
 | n+1, .block id c,tm,hp=>match run P call n c tm hp with
  |some (.exit id',tm',hp')=>if id'=id then some (.normal,tm',hp') else some (.exit id',tm',hp')
  |r=>r
 | n+1, .loop c,tm,hp=>match run P call n c tm hp with
  |some (.normal,tm',hp')=>run P call n (.loop c) tm' hp'
  |r=>r
 |_,_,_,_=>none
section
variable {ops:Array Oper}
theorem AGu9:∀ {n k:Nat},findK ops n=some k→ASr9 ops k=true
 | 0,k,h=>by
  simp only [findK] at h;split at h<;>try (cases h;done)
  rename_i h1;cases h;exact h1
 | n+1,k,h=>by
  simp only [findK] at h;split at h
  ·rename_i h1;cases h;exact h1
  ·exact AGu9 h
end
def lowTm (n:Nat) (tm:List AV):List AV:=tm.map fun x=>if x.low n then x else .bad
section
variable {P:Program} {S S' X X' V V':Pr} {r:Option Nat} {lo:Nat} {yv:Option Nat} {w w':World} {m m':List MB} {B:List (AV×Value)} {hp:List Blk} {tm:List AV} {hv hv':List (List Value)} {a a':Act} {Ev:Env P} {s:St Ev.β} {b:Ev.β} {Q:Exit→St Ev.β→Prop} {c:Code}
theorem Rel.lowered (n:Nat):∀ {tm:List AV} {vs:List Value} {C:List (AV×Value)},Rel S X yv w m (tm.zip vs++C) hp hv→Rel S X yv w m ((lowTm n tm).zip vs++C) hp hv
 | [],vs,C,h=>h
 |x::tm, [],C,h=>by simpa [lowTm] using h
 | x::tm,v::vs,C,h=>by
  have h1:Rel S X yv w m (tm.zip vs++((x,v)::C)) hp hv:=h.perm (by simpa using (List.perm_middle (a:=(x,v)) (l₁:=tm.zip vs) (l₂:=C)).symm);have h2:=Rel.lowered n h1;have h3:Rel S X yv w m ((x,v)::((lowTm n tm).zip vs++C)) hp hv:=h2.perm List.perm_middle;simp only [lowTm,Zdu,List.zip_cons_cons,List.cons_append];split
  ·exact h3
  ·exact (h3.sub (List.sublist_cons_self _ _)).cons .bad rfl
theorem W.scratch (h:W Ev c s fun e s'=>lowHp s.hp.length s'.hp=true∧Q e ⟨lowTm s.hp.length s'.tm,s'.hp.take s.hp.length,s'.b⟩):W Ev c s Q:=by
 intro lo r S X V w m B hv a ht;refine wpIn_mono (h lo r S X V w m B hv a ht) ?_;rintro e a' w' ⟨s',S',X',V',m',hv',⟨hlow,hq⟩,⟨hw,hm⟩,ht'⟩;refine ⟨_,S',X',V',m'.take s.hp.length,hv'.take s.hp.length,hq,⟨hw,hm.take (by rw [ht.rel.2.1.ml];exact Zas _)⟩,⟨⟨by simpa [lowTm] using ht'.rel.1, ?_,by intro p hp;cases hp⟩,ht'.sub,ht'.env,ht'.round,ht'.marks,ht'.base⟩⟩;have hn:m.length≤s.hp.length:=by rw [ht.rel.2.1.ml];exact Zas _
 have h1:=ht'.rel.2.1.lowered (n:=s.hp.length);rw [←List.append_assoc] at h1 ⊢;refine h1.trunc (fun p hp=> ?_) hlow;rcases Zco.1 hp with hp|hp
 ·have hp1:=(List.of_mem_zip hp).1;have hrv:=h1.rv p (Zbc _ (Zbc _ hp));refine hrv.low ?_;obtain ⟨x,_,hx⟩:=Zbd.1 hp1;rw [←hx];split
  ·assumption
  ·rfl
 ·have hB:=ht.rel.2.1.rv p (List.mem_append_right _ (Zbc _ hp));exact (hB.tr hw.tr).blocks (hm.take hn)
end
theorem AAd9 {P:Program} {α γ:Type} {a:α}:∀ {s:Sem α} (h:AAu9 P s=some a) (f:α→Sem γ),AAu9 P (s>>=f)=AAu9 P (f a)
 | .pure b,h,f=>by simp only [AAu9,Option.some.injEq] at h;subst h;rfl
 | .program k,h,f=>AAd9 (s:=k P) h f
 | .mark _ k,h,f=>AAd9 (s:=k) h f
 | .load ..,h,_=>by simp [AAu9] at h
 | .store ..,h,_=>by simp [AAu9] at h
 | .new ..,h,_=>by simp [AAu9] at h
 | .shape ..,h,_=>by simp [AAu9] at h
 | .freeze ..,h,_=>by simp [AAu9] at h
 | .frozen ..,h,_=>by simp [AAu9] at h
 | .getObj ..,h,_=>by simp [AAu9] at h
 | .setObj ..,h,_=>by simp [AAu9] at h
 | .choose ..,h,_=>by simp [AAu9] at h
 | .sys ..,h,_=>by simp [AAu9] at h
 | .halt ..,h,_=>by simp [AAu9] at h
def eqFs (P:Program) (eq:TypeId→Value→Value→Option Bool) (xs ys:Array Value):List Field→Option Bool
 | []=>some true
 | f ::l=>if f.name≠ "_" then match AAu9 P (part f.type xs f.offset),AAu9 P (part f.type ys f.offset) with
  | some a,some b=>match eq f.type a b,eqFs P eq xs ys l with
   |some r,some r'=>some (r&&r')
   |_,_=>none
  |_,_=>none
  else eqFs P eq xs ys l
def eqAs (P:Program) (eq:TypeId→Value→Value→Option Bool) (e:TypeId) (n:Nat) (xs ys:Array Value):List Nat→Option Bool
 | []=>some true
 | i ::l=>match AAu9 P (part e xs (i*n)),AAu9 P (part e ys (i*n)) with
  | some a,some b=>match eq e a b,eqAs P eq e n xs ys l with
   |some r,some r'=>some (r&&r')
   |_,_=>none
  |_,_=>none
def eqT (P:Program):Nat→TypeId→Value→Value→Option Bool
 |0,_,_,_=>none
 | d+1,t,x,y=>match P.underlying t,x,y with
  |some .bool, .bool a, .bool b=>some (a==b)
  |some (.int _), .int k a, .int k' b=>if k=k' then some (a==b) else none
  |some .string, .string a, .string b=>some (a==b)
  |some (.struct fs), .agg xs, .agg ys=>if P.stoodInHeld t then none else eqFs P (eqT P d) xs ys fs.toList
  | some (.array n e), .agg xs, .agg ys=>match P.info? e with
   |some i=>eqAs P (eqT P d) e i.size xs ys (List.range' 0 n)
   |none=>none
  |_,_,_=>none
section
variable {P:Program} {E:TypeId→Value→Value→Sem Bool} {eq:TypeId→Value→Value→Option Bool} {xs ys:Array Value}
theorem AMo9 {k:Option Bool×Unit→Sem Bool} (k1:∀r,k (some r,())=pure r) (k0:k (none,())=pure true) (he:∀t a b r,eq t a b=some r→AAu9 P (E t a b)=some r):∀ {l:List Field} {r:Bool},eqFs P eq xs ys l=some r→
 AAu9 P ((forIn l ((none,()):Option Bool×Unit) fun f _=>if f.name≠ "_" then do
  let a ←part f.type xs f.offset
  let b ←part f.type ys f.offset
  let c ←E f.type a b
  if (!c)=true then pure (ForInStep.done (some false,())) else pure (ForInStep.yield (none,()))
  else pure (ForInStep.yield (none,())))>>=k)=some r
 | [],r,h=>by
  simp only [eqFs,Option.some.injEq] at h;subst h;simp only [List.forIn_nil,pure_bind,k0];rfl
 | f::l,r,h=>by
  simp only [eqFs] at h;simp only [List.forIn_cons];split at h
  ·rename_i hf;rw [if_pos hf];split at h<;>try (cases h;done)
   rename_i a b ha hb;split at h<;>try (cases h;done)
   rename_i r1 r2 h1 h2;cases h;have h3:=he _ _ _ _ h1;cases r1 with
   | true=>
    have ih:=AMo9 k1 k0 he h2;simp only [bind_assoc];refine (AAd9 ha _).trans ((AAd9 hb _).trans ((AAd9 h3 _).trans ?_));simpa using ih
   | false=>
    simp only [bind_assoc];refine (AAd9 ha _).trans ((AAd9 hb _).trans ((AAd9 h3 _).trans ?_));simp [k1];rfl
  ·rename_i hf;rw [if_neg hf];simpa using AMo9 k1 k0 he h
theorem ASq9 {e:TypeId} {n:Nat} {k:Option Bool×Unit→Sem Bool} (k1:∀r,k (some r,())=pure r) (k0:k (none,())=pure true) (he:∀t a b r,eq t a b=some r→AAu9 P (E t a b)=some r):∀ {l:List Nat} {r:Bool},eqAs P eq e n xs ys l=some r→
 AAu9 P ((forIn l ((none,()):Option Bool×Unit) fun i _=>do
  let a ←part e xs (i*n)
  let b ←part e ys (i*n)
  let c ←E e a b
  if (!c)=true then pure (ForInStep.done (some false,())) else pure (ForInStep.yield (none,())))>>=k)=some r
 | [],r,h=>by
  simp only [eqAs,Option.some.injEq] at h;subst h;simp only [List.forIn_nil,pure_bind,k0];rfl
 | i::l,r,h=>by
  simp only [eqAs] at h;simp only [List.forIn_cons];split at h<;>try (cases h;done)
  rename_i a b ha hb;split at h<;>try (cases h;done)
  rename_i r1 r2 h1 h2;cases h;have h3:=he _ _ _ _ h1;cases r1 with
  | true=>
   have ih:=ASq9 k1 k0 he h2;simp only [bind_assoc];refine (AAd9 ha _).trans ((AAd9 hb _).trans ((AAd9 h3 _).trans ?_));simpa using ih
  | false=>
   simp only [bind_assoc];refine (AAd9 ha _).trans ((AAd9 hb _).trans ((AAd9 h3 _).trans ?_));simp [k1];rfl
theorem ARm9 {t:TypeId} {d:TypeDesc} (hu:P.underlying t=some d):AAu9 P (underlying t)=some d:=by
 unfold underlying;refine (AAd9 (a:=P) rfl _).trans ?_;simp only [hu];rfl
theorem AKy9:∀ {d:Nat} {t:TypeId} {x y:Value} {r:Bool},eqT P d t x y=some r→AAu9 P (Zdt d t x y)=some r
 |0,_,_,_,_,h=>by cases h
 | d+1,t,x,y,r,h=>by
  unfold eqT at h;split at h<;>try (cases h;done)
  ·rename_i hu;cases h;rw [Zdt];exact (AAd9 (ARm9 hu) _).trans rfl
  ·rename_i hu;split at h<;>try (cases h;done)
   rename_i hk;cases h;subst hk;rw [Zdt];refine (AAd9 (ARm9 hu) _).trans ?_;simp only [if_true];rfl
  ·rename_i hu;cases h;rw [Zdt];exact (AAd9 (ARm9 hu) _).trans rfl
  ·rename_i fs xs ys hu;split at h<;>try (cases h;done)
   rename_i hs;rw [Zdt];refine (AAd9 (ARm9 hu) _).trans ?_;simp only;refine (AAd9 (a:=P) rfl _).trans ?_;rw [if_neg hs];rw [←Array.forIn_toList];exact AMo9 (fun _=>rfl) rfl (fun _ _ _ _ h=>AKy9 h) h
  ·rename_i n e xs ys hu;split at h<;>try (cases h;done)
   rename_i i hi;rw [Zdt];refine (AAd9 (ARm9 hu) _).trans ?_;simp only;refine (AAd9 (a:=i.size) ?_ _).trans ?_
   ·unfold sizeOf typeInfo;refine (AAd9 (a:=i) ?_ _).trans rfl;refine (AAd9 (a:=P) rfl _).trans ?_;simp only [hi];rfl
   ·rw [Std.Legacy.Range.forIn_eq_forIn_range'];refine ASq9 ?_ ?_ (fun _ _ _ _ h=>AKy9 h) (?_:eqAs P (eqT P d) e i.size xs ys _=some r)
    ·exact fun _=>rfl
    ·rfl
    ·simpa [Std.Legacy.Range.size] using h
theorem BJa9 {op:BinOp} {t:TypeId} {x y:Operand} {a b:Array Value} (hg:P.eqGuardType P.depth t=false):AAu9 P (eqGuard op t x y (.agg a) (.agg b))=some ():=by
 have key:AAu9 P (do
  let __do_lift ←program
  let __do_lift_1 ←program
  if (!__do_lift.eqGuardType __do_lift_1.depth t)=true then pure ()
  else do
   let __do_lift ←Op.eqGuardIn Op.maxDepth t (Value.agg a) (Value.agg b)
   if __do_lift=true then unsupported (.noEntry "binop/eql: two nil values of an interface type with methods, in a part of a struct or an array")
   else pure ())=some ():=by
  refine (AAd9 (a:=P) rfl _).trans ?_;refine (AAd9 (a:=P) rfl _).trans ?_;rw [hg];rfl
 unfold eqGuard;cases op<;>first|rfl|(simp;simpa using key)
end
def i64 (x:Int):Dv:= .s (.int .i64 x)
def u64 (x:Int):Dv:= .s (.int .u64 x)
def u8 (x:Int):Dv:= .s (.int .u8 x)
def bo (x:Bool):Dv:= .s (.bool x)
def AWg9 (t:TypeId) (K:List Dv→Prop):Option Prop:=none
theorem AUi9 {t:TypeId} {K:List Dv→Prop} {p:Prop} (h:AWg9 t K=some p) (hp:p):∃row,K row:=by cases h
def BIf (t:Bool) (A B:Prop):Prop:= @Bool.rec (fun _=>Prop) B A t
theorem BIf.of {t:Bool} {A B:Prop} (h1:t=true→A) (h2:t=false→B):BIf t A B:=by
 cases t
 ·exact h2 rfl
 ·exact h1 rfl
theorem BIf.elim {t:Bool} {A B:Prop} (h:BIf t A B):(t=true∧A)∨(t=false∧B):=by
 cases t
 ·exact .inr ⟨rfl,h⟩
 ·exact .inl ⟨rfl,h⟩
theorem BIf.elim' {t:Bool} {A:Prop} (h:BIf t A False):t=true∧A:=by
 cases t
 ·exact False.elim h
 ·exact ⟨rfl,h⟩
theorem BIf.t {t:Bool} {A B:Prop} (h:t=true) (a:A):BIf t A B:=by subst h;exact a
theorem BIf.f {t:Bool} {A B:Prop} (h:t=false) (b:B):BIf t A B:=by subst h;exact b
theorem BSt9 (A B:Prop):BIf true A B=A:=rfl
theorem BKz9 (A B:Prop):BIf false A B=B:=rfl
mutual
def AZa9 (P:Program):Nat→TypeId→(List Dv→Prop)→Prop
 |0,_,_=>False
 | n+1,t,K=>match AWg9 t K with
  |some p=>p
  |none=>match P.underlying t with
  |some .bool=>∃b:Bool,K [.s (.bool b)]
  |some (.int k)=>∃x:Int,K [.s (.int k x)]
  |some .string=>∃x:ByteArray,K [.s (.string x)]
  | some (.slice e)=>match P.info? e with
   |some i=>∃xs:List (List Dv),K [.sl i.size xs]
   |none=>False
  |some (.struct fs)=>ALp9 P n (fs.toList.map (·.type)) K
  |some (.array len e)=>ALp9 P n (Zaf len e) K
  |_=>∃d:Dv,K [d]
def ALp9 (P:Program):Nat→List TypeId→(List Dv→Prop)→Prop
 |0,_,_=>False
 | n+1,ts,K=>match ts with
  | []=>K []
  |t::ts=>AZa9 P n t fun x=>ALp9 P n ts fun y=>K (x++y)
end
theorem AEl9 (P:Program):∀(n:Nat),(∀(t:TypeId) (K:List Dv→Prop),AZa9 P n t K→∃row,K row)∧∀(ts:List TypeId) (K:List Dv→Prop),ALp9 P n ts K→∃row,K row
 |0=>⟨fun _ _ h=>h.elim,fun _ _ h=>h.elim⟩
 | n+1=>by
  obtain ⟨ih1,ih2⟩:=AEl9 P n;refine ⟨fun t K h=> ?_,fun ts K h=> ?_⟩
  ·unfold AZa9 at h;split at h
   ·rename_i p hp;exact AUi9 hp h
   split at h
   ·obtain ⟨b,h⟩:=h;exact ⟨_,h⟩
   ·obtain ⟨b,h⟩:=h;exact ⟨_,h⟩
   ·obtain ⟨b,h⟩:=h;exact ⟨_,h⟩
   ·split at h
    ·obtain ⟨b,h⟩:=h;exact ⟨_,h⟩
    ·exact h.elim
   ·exact ih2 _ _ h
   ·exact ih2 _ _ h
   ·obtain ⟨b,h⟩:=h;exact ⟨_,h⟩
  ·unfold ALp9 at h;split at h
   ·exact ⟨_,h⟩
   ·obtain ⟨x,h⟩:=ih1 _ _ h;obtain ⟨y,h⟩:=ih2 _ _ h;exact ⟨_,h⟩
def numA (x:AV) (d:Int):Int:=
 match x with
 | .d (.s (.int _ n))=>n
 |_=>d
def ADt9 (tm:List AV) (x:Option Operand) (d:Int):Int:=
 match x with
 |some y=>numA (evalA tm y) d
 |none=>d
def AMa9 (tm:List AV) (x:Option Operand):Bool:=
 match x with
 |some y=>(evalA tm y).int?.isSome
 |none=>true
def AZp9:AV→Bool
 | .full .. =>true
 |_=>false
def shyOp:BinOp→Bool
 | .shl=>true
 | .shr=>true
 | .quo=>true
 | .rem=>true
 |_=>false
def BOk9 (op:BinOp) (k k':IntKind) (y:Int):Bool:=
 match op with
 | .shl=>decide (y<0)
 | .shr=>decide (y<0)
 |_=>decide (y=0)|| !decide (k=k')
def AYz9 (op:BinOp) (k:IntKind) (x y:Int):Value:=
 match op with
 | .shl=> .int k (k.wrap (x*2 ^ (min y.toNat k.bits)))
 | .shr=> .int k (x.fdiv (2 ^ (min y.toNat k.bits)))
 | .quo=> .int k (k.wrap (x.tdiv y))
 |_=> .int k (x.tmod y)
def aggEq (P:Program) (op:BinOp) (t:TypeId) (x y:AV):Option Bool:=
 match x,y with
 | .agg cs, .agg ds=>match ALk9 cs,ALk9 ds with
  | some vs,some ws=>match eqT P Op.maxDepth t (.agg vs.toArray) (.agg ws.toArray) with
   | some r=>if P.eqGuardType P.depth t then none else match op with
    | .eql=>some r
    | .neq=>some (!r)
    |_=>none
   |none=>none
  |_,_=>none
 |_,_=>none
def valG (P:Program) (hp:List Blk) (tm:List AV) (o:Oper) (K:AV→Prop):Option Prop:=
 match o.op with
 | .indexAddr t x ix=>match evalA tm x with
  | .gref g ver n k=>match (evalA tm ix).int?,P.underlying t,hp[g]? with
   | some (_,j),some (.slice e),some blk=>match P.info? e with
    |some i=>some (BIf (blk.grow&&decide (k=i.size)) (blk.ver=ver∧BIf (decide (0≤j)&&decide (j<n)) (K (.gptr g ver (j.toNat*i.size))) False) False)
    |none=>none
   |_,_,_=>none
  | .d (.s (.pointer (some a)))=>match (evalA tm ix).int?,P.underlying t with
   | some (_,j),some (.array len e)=>match P.info? e with
    |some i=>some (BIf (a.spot.isNone&&decide (0≤j)&&decide (j<len)) (K (.d (.s (.pointer (some ⟨a.block,a.off+j.toNat*i.size,none⟩))))) False)
    |none=>none
   |_,_=>none
  |_=>none
 | .fieldAddr t x f=>match evalA tm x with
  | .gptr g ver off=>match P.underlying t,hp[g]? with
   | some (.struct fields),some blk=>match fields[f]? with
    | some fd=>match P.info? fd.type with
     |some i=>some (BIf (blk.grow&&decide (i.size≠0)) (blk.ver=ver∧K (.gptr g ver (off+fd.offset))) False)
     |none=>none
    |none=>none
   |_,_=>none
  |_=>none
 | .load t x=>match evalA tm x with
  | .gptr g ver off=>match hp[g]?,P.info? t,P.underlying t with
   |some blk,some i,some _=>some (BIf blk.grow (blk.ver=ver∧AZa9 P 400 t fun row=>BIf (decide (row.length=i.size)&&decide (0<row.length)) ((blk.cells.drop off).take i.size=row.map .d∧K (if AJt9 P t then .agg (row.map .d) else .d (row.headD (.s undef)))) False) False)
   |_,_,_=>none
  | .d (.s (.pointer (some a)))=>if AJt9 P t then none else match P.info? t,P.underlying t with
   |some i,some _=>some (BIf a.spot.isNone (AZa9 P 400 t fun row=>BIf (decide (row.length=i.size)&&decide (0<row.length)) (((ABv9 a.block).drop a.off).take i.size=row.map (fun d=>match d with| .s v=>v|_=>undef)∧(∀d∈row,∃v,d= .s v)∧K (.d (row.headD (.s undef)))) False) False)
   |_,_=>none
  |_=>none
 | .call c=>match c.callee,c.args[0]? with
  | .builtin .len,some x=>match evalA tm x with
   | .gref g ver n k=>match hp[g]?,c.argTypes[0]? with
    | some blk,some t=>match P.underlying t with
     |some (.slice _)=>some (BIf (blk.grow&&decide (c.args.size=1)&&decide (c.argTypes.size=1)) (blk.ver=ver∧K (.d (.s (goInt (n:Int))))) False)
     |_=>none
    |_,_=>none
   |_=>none
  | .builtin .min,some _=>match xVal P (evalA tm) o with
   |some (.d (.s (.int k n)))=>some (∃z:Int,z=n∧K (.d (.s (.int k z))))
   |_=>none
  |_,_=>none
 | .slice t x none (some hi) none=>match evalA tm x with
  | .d (.s (.slice none 0 0))=>match (evalA tm hi).int?,P.underlying t with
   | some (_,j),some (.slice e)=>match P.info? e with
    |some _=>some (BIf (decide (j=0)) (K (.d (.s (.slice none 0 0)))) False)
    |none=>none
   |_,_=>none
  |_=>none
 |_=>none
theorem AQw9 {P:Program} {hp:List Blk} {tm:List AV} {o:Oper} {K:AV→Prop} {p:Prop} (h:valG P hp tm o K=some p) (hp0:p):∃x,xq P hp (evalA tm) o=some x∧K x:=by
 unfold valG at h;split at h
 ·rename_i t x ix ho;split at h<;>try (cases h;done)
  ·rename_i g ver n k hx;split at h<;>try (cases h;done)
   rename_i kk j e blk h1 h2 h3;split at h<;>try (cases h;done)
   rename_i i hi;cases h;obtain ⟨hc,hv,h4⟩:=hp0.elim';obtain ⟨hb,hK⟩:=h4.elim';simp only [Zal,decide_eq_true_eq] at hc hb;refine ⟨_, ?_,hK⟩;simp only [xq,ho,ADh9,h1,h2,hi,hx,h3,hc.1,hv,beq_self_eq_true,Bool.and_self,if_true,hb,hc.2,and_self]
  ·rename_i a hx;split at h<;>try (cases h;done)
   rename_i kk j len e h1 h2;split at h<;>try (cases h;done)
   rename_i i hi;cases h;obtain ⟨hc,hK⟩:=hp0.elim';simp only [Zal,decide_eq_true_eq] at hc;refine ⟨_, ?_,hK⟩;simp only [xq,ho,ADh9,h1,h2,hi,hx,hc.1.2,hc.2,and_self,if_true,ABt9,hc.1.1]
 ·rename_i t x f ho;split at h<;>try (cases h;done)
  rename_i g ver off hx;split at h<;>try (cases h;done)
  rename_i fields blk h1 h2;split at h<;>try (cases h;done)
  rename_i fd hfd;split at h<;>try (cases h;done)
  rename_i i hi;cases h;obtain ⟨hc,hv,hK⟩:=hp0.elim';simp only [Zal,decide_eq_true_eq] at hc;refine ⟨_, ?_,hK⟩;simp only [xq,ho,AEr9,h1,hfd,hi,hx,if_neg hc.2,ABt9,h2,hc.1,hv,beq_self_eq_true,Bool.and_self,if_true]
 ·rename_i t x ho;split at h<;>try (cases h;done)
  rotate_left
  ·rename_i a hx;split at h<;>try (cases h;done)
   rename_i hag;split at h<;>try (cases h;done)
   rename_i i d h2 h3;cases h;obtain ⟨hsp,hs⟩:=hp0.elim';obtain ⟨row,hrow⟩:=(AEl9 P 400).1 _ _ hs;obtain ⟨hlen,heq,hall,hK⟩:=hrow.elim';simp only [Zal,decide_eq_true_eq] at hlen;refine ⟨_, ?_,hK⟩;have hag:AJt9 P t=false:=by simpa using hag
   simp only [xq,ho,xLoad,hx,ADc9,hsp,if_true,ANl9,h2,h3,hag,Zbt,if_false];cases row with
   |nil=>simp at hlen
   | cons r0 rows=>
    obtain ⟨v,rfl⟩:=hall r0 (Zbb ..);have h0:(((ABv9 a.block).drop a.off).take i.size)[0]? =some v:=by rw [heq];rfl
    rw [Zaq] at h0;split at h0
    ·rw [Zbf,h0];rfl
    ·cases h0
  rename_i g ver off hx;split at h<;>try (cases h;done)
  rename_i blk i d h1 h2 h3;cases h;obtain ⟨hg,hv,hs⟩:=hp0.elim';obtain ⟨row,hrow⟩:=(AEl9 P 400).1 _ _ hs;obtain ⟨hlen,heq,hK⟩:=hrow.elim';simp only [Zal,decide_eq_true_eq] at hlen;obtain ⟨hlen,hpos⟩:=hlen;refine ⟨_, ?_,hK⟩;have hle:i.size≤(blk.cells.drop off).length:=by
   have:=congrArg Zab heq;simp only [Zel,List.length_map] at this;omega
  simp only [xq,ho,xLoad,hx,ADc9,h1,hg,hv,beq_self_eq_true,Bool.and_self,if_true,ANl9,h2,h3];by_cases ha:AJt9 P t=true
  ·simp only [ha,if_true,hle,heq,List.map_map];congr 2
  ·have ha:AJt9 P t=false:=by simpa using ha
   simp only [ha,Zbt,if_false];cases row with
   |nil=>simp at hpos
   | cons r0 rows=>
    have h0:((blk.cells.drop off).take i.size)[0]? =some (.d r0):=by rw [heq];rfl
    rw [Zaq] at h0;split at h0
    ·rw [h0];rfl
    ·cases h0
 ·rename_i c ho;split at h<;>try (cases h;done)
  ·rename_i x hc hx0;split at h<;>try (cases h;done)
   rename_i g ver n k hx;split at h<;>try (cases h;done)
   rename_i blk t h1 ht;split at h<;>try (cases h;done)
   rename_i e hu;cases h;obtain ⟨hcc,hv,hK⟩:=hp0.elim';simp only [Zal,decide_eq_true_eq] at hcc;refine ⟨_, ?_,hK⟩;simp only [xq,ho,hc,hx0,hcc.1.2,if_true,xLen,ht,hcc.2,hu,hx,AV.len?,h1,hcc.1.1,hv,beq_self_eq_true,Bool.and_self,Zdl]
  ·rename_i x hc hx0;split at h<;>try (cases h;done)
   rename_i k n hx;cases h;obtain ⟨z,rfl,hK⟩:=hp0;refine ⟨_, ?_,hK⟩;simp only [xq,ho,hc];exact hx
 ·rename_i t x hi ho;split at h<;>try (cases h;done)
  rename_i hx;split at h<;>try (cases h;done)
  rename_i kk j e h1 h2;split at h<;>try (cases h;done)
  rename_i i hi';cases h;obtain ⟨hc,hK⟩:=hp0.elim';have hj:j=0:=of_decide_eq_true hc;subst hj;refine ⟨_, ?_,hK⟩;simp only [xq,ho,APg9,Zeg,Zdl,APt9,h1,h2,hi',hx,bnds,numOr];rfl
 ·cases h
def valC (P:Program) (hp:List Blk) (tm:List AV) (o:Oper) (K:AV→Prop):Prop:=
 match valG P hp tm o K with
 |some p=>p
 |none=>
 let rest:Prop:=match xq P hp (evalA tm) o with
  |some x=>K x
  |none=>False
 match o.op with
 | .indexAddr t x ix=>match (evalA tm x).rows?,(evalA tm ix).int?,P.underlying t with
  | some (k,xs),some (_,n),some (.slice e)=>match P.info? e with
   |some i=>BIf (decide (k=i.size)&&decide (0<k)&&decide (0≤n)) (AZa9 P 400 e fun row=>xs[n.toNat]? =some row∧K (.rptr row)) False
   |none=>False
  |_,_,_=>rest
 | .sliceToArrayPointer t x=>match (evalA tm x).rows?,P.underlying t with
  | some (k,xs),some (.array n e)=>match P.info? e with
   |some i=>BIf (decide (k=i.size)&&decide (0<n*k)) (BIf (decide (n≤xs.length)) (ALp9 P 400 (Zaf n e) fun row=>(xs.take n).flatten=row∧K (.rptr row)) False) False
   |none=>False
  |_,_=>rest
 | .slice t x lo hi mx=>match (evalA tm x).rows?,P.underlying t with
  | some (k,xs),some (.slice e)=>match P.info? e with
   |some i=>BIf (decide (k=i.size)&&(AMa9 tm lo&&AMa9 tm hi&&AMa9 tm mx)&&(!mx.isSome||hi.isSome)&&
    decide (0≤ADt9 tm lo 0∧ADt9 tm lo 0≤ADt9 tm hi xs.length∧ADt9 tm hi xs.length≤ADt9 tm mx xs.length∧ADt9 tm mx xs.length≤xs.length))
     (BIf ((AZp9 (evalA tm x)||mx.isSome)&&((ADt9 tm hi xs.length).toNat==(ADt9 tm mx xs.length).toNat))
      (K (.full k ((xs.drop (ADt9 tm lo 0).toNat).take ((ADt9 tm hi xs.length).toNat - (ADt9 tm lo 0).toNat))))
      (K (.d (.sl k ((xs.drop (ADt9 tm lo 0).toNat).take ((ADt9 tm hi xs.length).toNat - (ADt9 tm lo 0).toNat)))))) False
   |none=>False
  |_,_=>rest
 | .binOp op t x y yt=>if shyOp op then match evalA tm x,evalA tm y with
  | .d (.s (.int k a)), .d (.s (.int k' b))=>BIf (BOk9 op k k' b) False (K (.d (.s (AYz9 op k a b))))
  |_,_=>False
  else match aggEq P op t (evalA tm x) (evalA tm y) with
   |some r=>K (.d (.s (.bool r)))
   |none=>rest
 | .index t x ix=>match evalA tm x,(evalA tm ix).int?,P.underlying t with
  | .d (.s (.string s)),some (_,n),some .string=>BIf (decide (0≤n)) (∃c:UInt8,s[n.toNat]? =some c∧K (.d (.s (.int .u8 c.toNat)))) False
  |_,_,_=>rest
 | .call c=>match c.callee,c.args[0]?,c.args[1]? with
  | .builtin .append,some x,some y=>match AFw9 P c.argTypes with
   | some (e,i)=>match ADy9 i.size (evalA tm y),evalA tm x with
    |some ys, .full k xs=>BIf (decide (k=i.size)&&decide (c.args.size=2)&&decide ((xs.length+ys.length)*i.bytes≤140737488355328)) (BIf ys.isEmpty (K (.full k xs)) (K (.own e k (xs++ys)))) False
    |some ys,ax=>if AAl9 ax then BIf (decide (c.args.size=2)&&decide (ys.length*i.bytes≤140737488355328)) (K (.own e i.size ys)) False else rest
    |_,_=>rest
   |none=>rest
  |_,_,_=>rest
 |_=>rest
theorem ACs9 {P:Program} {hp:List Blk} {tm:List AV} {o:Oper} {K:AV→Prop} (h:match xq P hp (evalA tm) o with
 |some x=>K x
 |none=>False):∃x,xq P hp (evalA tm) o=some x∧K x:=by
 split at h
 ·rename_i x hx;exact ⟨x,hx,h⟩
 ·exact h.elim
theorem BOj9 {P:Program} {op:BinOp} {t yt:TypeId} {x y:Operand} {k k':IntKind} {a b:Int} (hs:shyOp op=true) (hb:BOk9 op k k' b=false):
 AAu9 P (do eqGuard op t x y (.int k a) (.int k' b);let r ←binOp op t (.int k a) (.int k' b);pure (Next.value r))=some (.value (AYz9 op k a b)):=by
 cases op<;>simp only [shyOp,Zbt] at hs;all_goals simp only [BOk9,Bool.or_eq_false_iff,decide_eq_false_iff_not,Bool.not_eq_false',decide_eq_true_eq] at hb
 ·obtain ⟨h1,rfl⟩:=hb;simp [binOp,eqGuard,Op.intDiv,h1,AYz9];rfl
 ·obtain ⟨h1,rfl⟩:=hb;simp [binOp,eqGuard,Op.intDiv,h1,AYz9];rfl
 ·simp [binOp,eqGuard,Op.shift,hb,AYz9];rfl
 ·simp [binOp,eqGuard,Op.shift,hb,AYz9];rfl
theorem ARd9 {P:Program} {t:TypeId} {s:ByteArray} {k:IntKind} {n:Int} {c:UInt8} (hu:P.underlying t=some .string) (hn:0≤n) (hc:s[n.toNat]? =some c):
 AAu9 P (do let r ←Instr.index t (.string s) (.int k n);pure (Next.value r))=some (.value (.int .u8 c.toNat)):=by
 refine (AAd9 (a:=Value.int .u8 c.toNat) ?_ _).trans rfl;unfold Instr.index;refine (AAd9 (a:=(k,n)) rfl _).trans ?_;refine (AAd9 (a:=TypeDesc.string) ?_ _).trans ?_
 ·unfold underlying;refine (AAd9 (a:=P) rfl _).trans ?_;simp only [hu];rfl
 ·simp only [hn,if_true,hc];rfl
theorem BMg9 {x:AV} {q:IntKind×Int} (h:x.int? =some q):x= .d (.s (.int q.1 q.2)):=by
 unfold AV.int? at h;split at h
 ·cases h;rfl
 ·cases h
theorem BGm9 {P:Program} {op:BinOp} {t yt:TypeId} {x y:Operand} {a b:AV} {r:Bool} (h:aggEq P op t a b=some r):
 ∃u v,a.toVal? =some u∧b.toVal? =some v∧AAl9 a=false∧AAl9 b=false∧AAu9 P (do eqGuard op t x y u v;let r ←binOp op t u v;pure (Next.value r))=some (.value (.bool r)):=by
 unfold aggEq at h;split at h<;>try (cases h;done)
 rename_i cs ds;split at h<;>try (cases h;done)
 rename_i vs ws h1 h2;split at h<;>try (cases h;done)
 rename_i r0 h3;split at h<;>try (cases h;done)
 rename_i hg;have hg:P.eqGuardType P.depth t=false:=by simpa using hg
 refine ⟨.agg vs.toArray, .agg ws.toArray,by simp [Zdq,h1],by simp [Zdq,h2],rfl,rfl, ?_⟩;refine (AAd9 (BJa9 hg) _).trans ?_;split at h<;>try (cases h;done)
 ·cases h;refine (AAd9 (a:=Value.bool _) ?_ _).trans rfl;exact (AAd9 (AKy9 h3) _).trans rfl
 ·cases h;refine (AAd9 (a:=Value.bool _) ?_ _).trans rfl;exact (AAd9 (AKy9 h3) _).trans rfl
theorem AQx9 {P:Program} {hp:List Blk} {tm:List AV} {o:Oper} {K:AV→Prop} (h:valC P hp tm o K):∃x,xq P hp (evalA tm) o=some x∧K x:=by
 unfold valC at h;split at h
 ·rename_i p hp0;exact AQw9 hp0 h
 simp only at h;split at h
 ·rename_i t x ix ho;split at h
  ·rename_i k xs kk n e h1 h2 h3;split at h
   ·rename_i i hi;obtain ⟨hc,h⟩:=h.elim';simp only [Zal,decide_eq_true_eq] at hc;obtain ⟨⟨hk,hk0⟩,hn⟩:=hc;obtain ⟨row,hrow,hK⟩:=(AEl9 P 400).1 _ _ h;refine ⟨_, ?_,hK⟩;have hl:n<xs.length:=by
     have:=(Zaa.1 hrow).1;omega
    simp only [xq,ho,ADh9,h2,h3,hi];have hr:=h1;cases ha:evalA tm x<;>rw [ha] at hr h1<;>simp only [AV.rows?] at hr<;>try (cases hr;done)
    all_goals
     simp only [h1];rw [if_pos ⟨hn,hl,hk,hk0⟩,hrow];rfl
   ·exact h.elim
  ·exact ACs9 h
 ·rename_i t x ho;split at h
  ·rename_i k xs n e h1 h3;split at h
   ·rename_i i hi;obtain ⟨hc,h⟩:=h.elim';obtain ⟨hn,h⟩:=h.elim';simp only [Zal,decide_eq_true_eq] at hc hn;obtain ⟨row,hrow,hK⟩:=(AEl9 P 400).2 _ _ h;refine ⟨_, ?_,hK⟩;simp only [xq,ho,AVr9,h1,h3,hi];rw [if_pos ⟨hc.1,hc.2,hn⟩,hrow]
   ·exact h.elim
  ·exact ACs9 h
 ·rename_i t x lo hi mx ho;split at h
  ·rename_i k xs e h1 h3;split at h
   ·rename_i i hi';obtain ⟨hc,h⟩:=h.elim';simp only [Zal,decide_eq_true_eq] at hc;obtain ⟨⟨⟨hk,hint⟩,hm⟩,hb⟩:=hc;have hopt:∀(y:Option Operand) (d:Int),AMa9 tm y=true→∃q,APt9 (y.map (evalA tm))=some q∧(∀d:Int,numOr q d=ADt9 tm y d)∧q.isSome=y.isSome:=by
     intro y d hy;cases y with
     |none=>exact ⟨none,rfl,fun _=>rfl,rfl⟩
     | some z=>
      simp only [AMa9,Option.isSome_iff_exists] at hy;obtain ⟨q,hq⟩:=hy;refine ⟨some q,by simp [APt9,hq],fun d=> ?_,rfl⟩;simp only [ADt9];have:evalA tm z= .d (.s (.int q.1 q.2)):=by
       exact BMg9 hq
      rw [this];rfl
    obtain ⟨ql,el,nl,sl⟩:=hopt lo 0 hint.1.1;obtain ⟨qh,eh,nh,sh⟩:=hopt hi 0 hint.1.2;obtain ⟨qm,em,nm,sm⟩:=hopt mx 0 hint.2;have hbn:bnds xs.length xs.length ql qh qm=some ((ADt9 tm lo 0).toNat,(ADt9 tm hi xs.length).toNat,(ADt9 tm mx xs.length).toNat):=by
     unfold bnds;rw [nl,nh,nm,if_pos];refine ⟨hb.1,hb.2.1,hb.2.2.1,hb.2.2.2,fun hmx=> ?_⟩;rw [sh];rw [sm] at hmx;simpa [hmx] using hm
    have key:∀known:Bool,ADg9 k xs known ql qh qm=(if (known||mx.isSome)&&((ADt9 tm hi xs.length).toNat==(ADt9 tm mx xs.length).toNat) then some (.full k ((xs.drop (ADt9 tm lo 0).toNat).take ((ADt9 tm hi xs.length).toNat - (ADt9 tm lo 0).toNat))) else some (.d (.sl k ((xs.drop (ADt9 tm lo 0).toNat).take ((ADt9 tm hi xs.length).toNat - (ADt9 tm lo 0).toNat))))):=by
     intro known;simp only [ADg9,hbn,sm]
    have hxq:xq P hp (evalA tm) o=ADg9 k xs (AZp9 (evalA tm x)) ql qh qm:=by
     have hr:=h1;have hs:APg9 P hp t (evalA tm x) (lo.map (evalA tm)) (hi.map (evalA tm)) (mx.map (evalA tm))=ADg9 k xs (AZp9 (evalA tm x)) ql qh qm:=by
      unfold APg9;rw [el,eh,em,h3];simp only [hi'];cases ha:evalA tm x<;>rw [ha] at hr<;>simp only [AV.rows?] at hr<;>try (cases hr;done)
      ·rename_i dv;cases dv<;>simp only [AV.rows?] at hr<;>try (cases hr;done)
       cases hr;simp [hk,AZp9]
      ·cases hr;simp [hk,AZp9]
      ·cases hr;simp [hk,AZp9]
     simp only [xq,ho,hs,key];split<;>rename_i hh<;>split at hh<;>simp_all
    rw [hxq,key];rcases h.elim with ⟨hc,hK⟩|⟨hc,hK⟩
    ·rw [hc];exact ⟨_,rfl,hK⟩
    ·rw [hc];exact ⟨_,rfl,hK⟩
   ·exact h.elim
  ·exact ACs9 h
 ·rename_i op t x y yt ho;split at h
  ·rename_i hs;split at h
   ·rename_i k a k' b hx hy;rcases h.elim with ⟨hc,hK⟩|⟨hc,hK⟩
    ·exact hK.elim
    ·refine ⟨_, ?_,hK⟩;have hnil:xNil P op t (evalA tm x) (evalA tm y)=none:=by
      unfold xNil;cases op<;>simp only [shyOp,Zbt] at hs<;>rfl
     simp only [xq,ho,hnil];unfold xVal;have he:execOp (fun x=>((evalA tm x).toVal?).getD undef) o=(do eqGuard op t x y (.int k a) (.int k' b);let r ←binOp op t (.int k a) (.int k' b);pure (Next.value r)):=by
      unfold execOp;rw [ho];simp [hx,hy,Zdq]
     rw [he,BOj9 (t:=t) (yt:=yt) hs hc];simp only [ho,Zbg];simp [hx,hy,Zdq];cases op<;>simp only [shyOp,Zbt] at hs<;>rfl
   ·exact h.elim
  ·split at h
   ·rename_i r hr;refine ⟨_, ?_,h⟩;obtain ⟨u,v,h1,h2,h3,h4,h5⟩:=BGm9 (x:=x) (y:=y) (yt:=yt) hr;have hnil:xNil P op t (evalA tm x) (evalA tm y)=none:=by
     unfold xNil;split<;>simp [h3,h4]
    simp only [xq,ho,hnil];unfold xVal;have he:execOp (fun x=>((evalA tm x).toVal?).getD undef) o=(do eqGuard op t x y u v;let r ←binOp op t u v;pure (Next.value r)):=by
     unfold execOp;rw [ho];simp [h1,h2]
    rw [he,h5];simp only [ho,Zbg];simp [h1,h2];rfl
   ·exact ACs9 h
 ·rename_i t x ix ho;split at h
  ·rename_i s kk n h1 h2 h3;obtain ⟨hc,h⟩:=h.elim';obtain ⟨c,hc1,hK⟩:=h;refine ⟨_, ?_,hK⟩;have h2':=BMg9 h2;simp only [xq,ho,h1];unfold xVal;have he:execOp (fun x=>((evalA tm x).toVal?).getD undef) o=(do let r ←Instr.index t (.string s) (.int kk n);pure (Next.value r)):=by
    unfold execOp;rw [ho];simp [h1,h2',Zdq]
   rw [he,ARd9 h3 (of_decide_eq_true hc) hc1];simp only [ho,Zbg];simp [h1,h2',Zdq];rfl
  ·exact ACs9 h
 ·rename_i c ho;split at h
  ·rename_i x y hcal hx hy;split at h
   ·rename_i e i hinf;split at h
    ·rename_i ys k xs hys hxx;obtain ⟨hc,h⟩:=h.elim';simp only [Zal,decide_eq_true_eq] at hc;obtain ⟨⟨h1,h2⟩,h3⟩:=hc;rcases h.elim with ⟨he,hK⟩|⟨he,hK⟩
     ·refine ⟨_, ?_,hK⟩;simp only [xq,ho,hcal,hx,hy,AGb9,hinf,hys,hxx,h2,if_true];rw [if_neg (by simp [AAl9]),if_pos ⟨h1,h3⟩,if_pos he]
     ·refine ⟨_, ?_,hK⟩;simp only [xq,ho,hcal,hx,hy,AGb9,hinf,hys,hxx,h2,if_true];rw [if_neg (by simp [AAl9]),if_pos ⟨h1,h3⟩,if_neg (by rw [he];simp)]
    ·rename_i ys hys hnf;split at h
     ·rename_i hn;obtain ⟨hc,h⟩:=h.elim';simp only [Zal,decide_eq_true_eq] at hc;refine ⟨_, ?_,h⟩;simp only [xq,ho,hcal,hx,hy,AGb9,hinf,hys,hc.1,hn,if_true];rw [if_pos hc.2]
     ·exact ACs9 h
    ·exact ACs9 h
   ·exact ACs9 h
  ·exact ACs9 h
 ·exact ACs9 h
end Go.Proofs.YtibhflogmbfpcaaGreatDoor.Am