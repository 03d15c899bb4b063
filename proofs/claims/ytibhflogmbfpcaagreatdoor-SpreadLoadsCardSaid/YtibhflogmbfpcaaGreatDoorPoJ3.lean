import Derived.Test.YtibhflogmbfpcaaGreatDoorPoJ2
import Derived.Test.YtibhflogmbfpcaaGreatDoorProg
import Derived.Shelf.Spec.TrailingZeros
set_option linter.unusedSimpArgs false
set_option linter.unusedVariables false
namespace Go.Proofs.YtibhflogmbfpcaaGreatDoor.Am
open Go Go.RowKit Tryz
open AV renaming agg → Zbj, bad → Zba, d → Zae, ptr → Zbe
open BIf renaming of → Zau, t → Zbr
open BitVec renaming ofInt → Zap
open Bool renaming and_eq_true → Zal, false_eq_true → Zbt
open AAk9 renaming cons → Zag, nil → Zai
open Dv renaming sl → Zam
open Go.Exit renaming normal → Zeh
open Int renaming fdiv → Zbz, toNat → Zat, toNat_natCast → Zbn
open Go.IntKind renaming i64 → Zax, u8 → Zcp, wrap → Zac
open List renaming all_eq_true → Zav, foldl_cons → Zbl, getElem?_eq_getElem → Zbk, length → Zab, mem_cons → Zbx, mem_cons_of_mem → Zaw, mem_cons_self → Zbb, mem_iff_getElem? → Zak, mem_map → Zbd, mem_of_getElem? → Zbi, mem_range → Zbs, pairwise_cons → Zcc, range → Zay, range' → Zcm, replicate → Zaf
open Nat renaming le_refl → Zas, testBit_two_pow → Zdj
open PCall renaming ofFn → Zbh
open Prod renaming fst → Zdz
open AAn9 renaming nil → Zad
open UInt8 renaming toNat → Zef
open Go.Value renaming slice → Zbo
variable {β:Type} (wl:WLT β) (b:β) (R:AV→β→Prop) (K:Exit→List AV→List Blk→β→Prop) (Q:β→Prop)
open AV (bad)
set_option linter.unusedVariables false
set_option linter.unusedSimpArgs false
section
variable {P:Program} {S S' X:Pr} {r:Option Nat} {yv:Option Nat} {w w':World} {m m':List MB} {B:List (AV×Value)} {hp hp' hp1:List Blk} {hv hv':List (List Value)} {call:CallT} {a a':Act} {ops:Array Oper}
def genOk (ops:Array Oper) (E:List Nat) (k:Nat):Bool:=
 (Zay ops.size).all fun j=>match ops[j]? with
  |some o=>(AAp9 o).all (fun e=>Nat.blt e j)&&(if Nat.blt j k then (E.contains j||ADr9 o)&&((o.looksAt ops).all (fun t=>(Zay k).all fun j'=>match ops[j']? with
   |some o'=>o'.dst !=some t||(AAp9 o).contains j'
   |none=>true)&&(Zay j).all (fun j'=>match ops[j']? with
   |some o'=>o.dst==none||o'.dst !=o.dst
   |none=>true))
   else (Zay j).all fun j'=>(ancOf ops ops.size j).contains j')
  |none=>true
theorem AIc9 {ops:Array Oper} {E:List Nat} {k j:Nat} {o:Oper} (h:genOk ops E k=true) (hj:ops[j]? =some o):
 (∀e∈AAp9 o,e<j)∧(j<k→(j∉E→ADr9 o=true)∧(∀t∈o.looksAt ops,∀(j':Nat) (o':Oper),j'<k→ops[j']? =some o'→o'.dst=some t→j'∈AAp9 o)∧
  (∀(j':Nat) (o':Oper),j'<j→ops[j']? =some o'→o.dst≠none→o'.dst≠o.dst))∧(k≤j→∀j',j'<j→j'∈ancOf ops ops.size j):=by
 have hjl:=(Array.getElem?_eq_some_iff.1 hj).1;have h1:=Zav.1 h j (Zbs.2 hjl);rw [hj] at h1;simp only [Zal,Zav] at h1;obtain ⟨h1,h2⟩:=h1;refine ⟨fun e he=>by have:=h1 e he;rwa [Nat.blt_eq] at this,fun hjk=> ?_,fun hkj j' hj'=> ?_⟩
 ·rw [if_pos (by rw [Nat.blt_eq];exact hjk)] at h2;simp only [Zal,Zav,Zbs,Bool.or_eq_true,Bool.not_eq_true'] at h2;obtain ⟨h2,h3,h4⟩:=h2;refine ⟨fun hx=>h2.resolve_left fun h=>hx (List.contains_iff_mem.1 h),fun t ht j' o' h6 h7 h8=> ?_,fun j' o' h6 h7 h8=> ?_⟩
  ·have h:=h3 t ht j' h6;rw [h7] at h;simp only [Bool.or_eq_true,bne_iff_ne,ne_eq,List.contains_iff_mem] at h;exact h.resolve_left fun h=>h h8
  ·have h:=h4 j' h6;rw [h7] at h;simp only [Bool.or_eq_true,beq_iff_eq,bne_iff_ne,ne_eq] at h;exact h.resolve_left h8
 ·rw [if_neg (by rw [Nat.blt_eq];omega)] at h2;simp only [Zav,Zbs,List.contains_iff_mem] at h2;exact h2 j' hj'
def DownL (ops:Array Oper) (k:Nat) (L:Nat→Bool):Prop:=(∀(j:Nat) (o':Oper),ops[j]? =some o'→L j=true→∀e∈AAp9 o',L e=true)∧∀j,k≤j→L j=false
def updL (L:Nat→Bool) (j:Nat):Nat→Bool:=fun i=>if i=j then true else L i
theorem BJc9 {QQ:Exit→Act→World→Prop} {E:List Nat} {k:Nat} (hcall:AGy9 P call) (hd:genOk ops E k=true) (hk:k≤ops.size) {tm0 tmF:List AV} (H:(Nat→Bool)→List Blk) (hlen:tmF.length=tm0.length)
 (hold:∀t,(∀(j:Nat) (o:Oper),j<k→ops[j]? =some o→o.dst≠some t)→tmF[t]? =tm0[t]?)
 (hH:∀L j,j∉E→H (updL L j)=H L)
 (hval:∀L,DownL ops k L→∀(j:Nat) (o:Oper),j<k→j∉E→ops[j]? =some o→(∀e∈AAp9 o,L e=true)→∃v,xp P call ops (H L) tmF o=some v∧∀d,o.dst=some d→d<tm0.length→tmF[d]? =some v)
 (heff:∀L,DownL ops k L→∀(j:Nat) (o:Oper),j<k→j∈E→ops[j]? =some o→L j=false→(∀e∈AAp9 o,L e=true)→∃v,(∀d,o.dst=some d→d<tm0.length→tmF[d]? =some v)∧
  ∀ {tm:List AV} {S:Pr} {w:World} {m:List MB} {hv:List (List Value)} {a:Act} {K:Act→World→Prop},tm.length=tm0.length→(∀t∈o.looksAt ops,tm[t]? =tmF[t]?)→
  RelS S X yv w m B hv ⟨tm,H L, []⟩ a→Nx S X yv w m B ⟨putA tm o.dst v,H (updL L j), []⟩ a K→if Region.wanted o (yielded ops a.tmps) then o.wpIn (Fn r) 0 P a w K QQ else (∀f,o.about P w a.eval=some f→(Fn r).fn f)∧K (a.put o.dst undef) w)
 (hall:∀L,(∀j,j<k→L j=true)→H L=hp1):
 ∀(u:Nat) {S:Pr} {w:World} {m:List MB} {hv:List (List Value)} {a:Act} {listed:Array Bool} {tm:List AV},u=(unl ops.size listed).length→StInv ops 0 k tm0 tmF tm listed→RelS S X yv w m B hv ⟨tm,H fun i=>listed.getD i false, []⟩ a→
 Nx S X yv w m B ⟨tmF,hp1, []⟩ a (fun a w=>∀listed:Array Bool,listed.size=ops.size→(∀j,j<ops.size→listed.getD j false=decide (j<k))→wpAnyIn (Fn r) 0 P .any ops QQ (ops.size - k) listed a w)→
 wpAnyIn (Fn r) 0 P .any ops QQ u listed a w:=by
 have hfin:∀ {listed:Array Bool} {tm:List AV},StInv ops 0 k tm0 tmF tm listed→(∀j,j<k→listed.getD j false=true)→tm=tmF:=by
  intro listed tm hI hall;apply List.ext_getElem?;intro t;by_cases hc:∃(j:Nat) (o:Oper),j<k∧ops[j]? =some o∧o.dst=some t
  ·obtain ⟨j,o,g1,g2,g3⟩:=hc;exact hI.got j o t (Nat.zero_le _) g1 g2 g3 (hall j g1)
  ·rw [hI.old t (fun j o _ g1 g2 _ g3=>hc ⟨j,o,g1,g2,g3⟩),hold t (fun j o g1 g2 g3=>hc ⟨j,o,g1,g2,g3⟩)]
 have hcount:∀ {listed:Array Bool},listed.size=ops.size→(∀j,j<ops.size→listed.getD j false=decide (j<k))→(unl ops.size listed).length=ops.size - k:=by
  intro listed hs hlist;have e:unl ops.size listed=(Zay ops.size).filter fun j=> !decide (j<k):=by
   unfold unl;refine List.filter_congr fun j hj=> ?_;rw [hlist j (Zbs.1 hj)]
  rw [e];have e2:Zay ops.size=Zay k++(Zay (ops.size - k)).map (k+ ·):=by
   rw [←List.range_add];congr 1;omega
  rw [e2,List.filter_append];have e3:(Zay k).filter (fun j=> !decide (j<k))= []:=by
   rw [List.filter_eq_nil_iff];intro j hj;have:=Zbs.1 hj;simp [this]
  rw [e3,List.filter_eq_self.2]
  ·simp
  ·intro j hj;obtain ⟨l,_,rfl⟩:=Zbd.1 hj;simp
 intro u;induction u with
 | zero=>
  intro S w m hv a listed tm hu hI hr hK;have hall':∀j,j<ops.size→listed.getD j false=true:=by
   intro j hj;cases hh:listed.getD j false with
   |true=>rfl
   | false=>
    have:j∈unl ops.size listed:=by simp only [unl,List.mem_filter,Zbs,hh];exact ⟨hj,rfl⟩
    rw [List.length_eq_zero_iff.1 hu.symm] at this;cases this
  have hkk:k=ops.size:=by
   rcases Nat.lt_or_ge k ops.size with h'|h'
   ·have:=hall' _ h';rw [hI.far _ (Zas _)] at this;cases this
   ·omega
  have:=hfin hI fun j hj=>hall' j (by omega);subst this;rw [hall _ fun j hj=>hall' j (by omega)] at hr;have:=hK S w m hv a (Gs.refl _ _ _ _ _) hr rfl rfl listed hI.sz (fun j hj=>by rw [hall' j hj];simp;omega);rw [hkk,Nat.sub_self] at this;exact this
 | succ u ih=>
  intro S w m hv a listed tm hu hI hr hK;by_cases hdone:∀j,j<k→listed.getD j false=true
  ·have:=hfin hI hdone;subst this;have hlist:∀j,j<ops.size→listed.getD j false=decide (j<k):=by
    intro j hj;by_cases hjk:j<k
    ·rw [hdone j hjk];simp [hjk]
    ·rw [hI.far j (by omega)];simp [hjk]
   rw [hu,hcount hI.sz hlist];rw [hall _ hdone] at hr;exact hK S w m hv a (Gs.refl _ _ _ _ _) hr rfl rfl listed hI.sz hlist
  ·have hex:∃j,j<k∧listed.getD j false=false:=by
    apply Classical.byContradiction;intro hno;exact hdone fun j hj=>by
     cases hh:listed.getD j false with
     |true=>rfl
     |false=>exact absurd ⟨j,hj,hh⟩ hno
   have hmin:∃j,j<k∧listed.getD j false=false∧∀i,i<j→listed.getD i false=true:=by
    obtain ⟨j,hj⟩:=hex;induction j using Nat.strongRecOn with
    | ind j ihj=>
     by_cases hall:∀i,i<j→listed.getD i false=true
     ·exact ⟨j,hj.1,hj.2,hall⟩
     ·have:∃i,i<j∧listed.getD i false=false:=by
       apply Classical.byContradiction;intro hno;exact hall fun i hi=>by
        cases hh:listed.getD i false with
        |true=>rfl
        |false=>exact absurd ⟨i,hi,hh⟩ hno
      obtain ⟨i,hi,hi0⟩:=this;exact ihj i hi ⟨by omega,hi0⟩
   obtain ⟨j0,hj0k,hj00,hj0all⟩:=hmin;have hgt:∀j,j<ops.size→listed.getD j true=listed.getD j false:=by
    intro j hj;simp [hI.sz,hj]
   have hmem:j0∈Region.ready .any ops listed:=by
    have hj0:j0<ops.size:=by omega
    refine ABg9 (o:=ops[j0]) (by simp [hj0]) (by rw [hgt j0 hj0];exact hj00) fun e he=> ?_;exact hj0all e ((AIc9 hd (by simp [hj0])).1 e he)
   refine ⟨fun h0=>(by rw [h0] at hmem;cases hmem),fun j hj=> ?_⟩;obtain ⟨oj,hoj,hj0,hje⟩:=ACe9 hj;have hjl:j<ops.size:=(Array.getElem?_eq_some_iff.1 hoj).1;rw [hgt j hjl] at hj0;have hjk:j<k:=by
    rcases Nat.lt_or_ge j k with h'|h'
    ·exact h'
    ·have:=AFy9 hI.down ops.size j oj hoj hje j0 ((AIc9 hd hoj).2.2 h' j0 (by omega));rw [hj00] at this;cases this
   obtain ⟨hedge,hst,_⟩:=AIc9 hd hoj;obtain ⟨hpk,hlk,huq⟩:=hst hjk;have hsame:∀t∈oj.looksAt ops,tm[t]? =tmF[t]? :=by
    intro t ht;by_cases hc:∃(j':Nat) (o:Oper),j'<k∧ops[j']? =some o∧o.dst=some t
    ·obtain ⟨j',o,g1,g2,g3⟩:=hc;exact hI.got j' o t (Nat.zero_le _) g1 g2 g3 (hje j' (hlk t ht j' o g1 g2 g3))
    ·rw [hI.old t (fun j o _ g1 g2 _ g3=>hc ⟨j,o,g1,g2,g3⟩),hold t (fun j o g1 g2 g3=>hc ⟨j,o,g1,g2,g3⟩)]
   have hget:∀i,(listed.setIfInBounds j true).getD i false=(if i=j then true else listed.getD i false):=by
    intro i;simp only [Array.getD_eq_getD_getElem?,Array.getElem?_setIfInBounds];by_cases hij:j=i
    ·subst hij;simp [hI.sz,hjl]
    ·simp [hij,Ne.symm hij]
   have hL:(fun i=>(listed.setIfInBounds j true).getD i false)=updL (fun i=>listed.getD i false) j:=funext hget;have hDL:DownL ops k (fun i=>listed.getD i false):=⟨hI.down,hI.far⟩;have hdown':∀(i:Nat) (o':Oper),ops[i]? =some o'→(listed.setIfInBounds j true).getD i false=true→∀e∈AAp9 o',(listed.setIfInBounds j true).getD e false=true:=by
    intro i o' ho' hi e he;rw [hget] at hi ⊢;split at hi
    ·rename_i hij;subst hij;rw [hoj] at ho';cases ho';split
     ·rfl
     ·exact hje e he
    ·split
     ·rfl
     ·exact hI.down i o' ho' hi e he
   have hdst:∀(i':Nat) (o:Oper),i'<k→i'≠j→ops[i']? =some o→oj.dst≠none→o.dst≠oj.dst:=by
    intro i' o hik hij' ho hne he;rcases Nat.lt_or_ge i' j with h'|h'
    ·exact huq i' o h' ho hne he
    ·exact ((AIc9 hd ho).2.1 hik).2.2 j oj (by omega) hoj (by rw [he];exact hne) he.symm
   have htl:tm.length=tmF.length:=by rw [hI.len,hlen]
   have hgot':∀ {v:AV},(∀d,oj.dst=some d→d<tm0.length→tmF[d]? =some v)→∀(i':Nat) (o:Oper) (d:Nat),0≤i'→i'<k→ops[i']? =some o→o.dst=some d→(listed.setIfInBounds j true).getD i' false=true→(putA tm oj.dst v)[d]? =tmF[d]? :=by
    intro v hxd i' o d hii hik ho hod hi';rw [hget] at hi';by_cases hij:i'=j
    ·subst hij;rw [hoj] at ho;cases ho;rw [hod];by_cases hdl:d<tm.length
     ·rw [hxd d hod (by rw [←hI.len];exact hdl)];simp [putA,hdl]
     ·simp only [putA];rw [List.getElem?_eq_none (by simp;omega),List.getElem?_eq_none (by omega)]
    ·rw [if_neg hij] at hi';rw [ACh9]
     ·exact hI.got i' o d hii hik ho hod hi'
     ·intro he;exact hdst i' o hik hij ho (by rw [he];simp) (by rw [hod,he])
   have hold':∀ {v:AV} (t:Nat),(∀(j':Nat) (o:Oper),0≤j'→j'<k→ops[j']? =some o→(listed.setIfInBounds j true).getD j' false=true→o.dst≠some t)→(putA tm oj.dst v)[t]? =tm0[t]? :=by
    intro v t ht;rw [ACh9 (ht j oj (Nat.zero_le _) hjk hoj (by rw [hget,if_pos rfl]))];exact hI.old t fun i' o hii hik ho hi'=>ht i' o hii hik ho (by rw [hget];split<;>simp_all)
   have hI':∀ {v:AV},(∀d,oj.dst=some d→d<tm0.length→tmF[d]? =some v)→StInv ops 0 k tm0 tmF (putA tm oj.dst v) (listed.setIfInBounds j true):=fun hxd=>
    ⟨by simp [hI.sz],fun j' hj'=>by omega,fun i' hi'=>by rw [hget,if_neg (by omega)];exact hI.far i' hi',hdown',by rw [ABh9];exact hI.len,hgot' hxd,hold'⟩
   unfold wpOpIn;simp only [hoj];by_cases hjx:j∈E
   ·obtain ⟨v,hxd,hstep⟩:=heff _ hDL j oj hjk hjx hoj hj0 hje;refine hstep hI.len hsame hr fun S' w' m' hv' a' hg hr' hdd hsz=> ?_;refine ih (hv:=hv') (by have:=AJk9 hI.sz hjl hj0;omega) (hI' hxd) ?_ fun S'' w'' m'' hv'' a'' hg' hr'' hd' hsz'=>hK S'' w'' m'' hv'' a'' (hg.trans hg') hr'' (hd'.trans hdd) (hsz'.trans hsz);rw [hL];exact ⟨hr'.1,hr'.2.1,by intro p hp;cases hp⟩
   ·obtain ⟨v,hv1,hxd⟩:=hval _ hDL j oj hjk hjx hoj hje;have hxp':xp P call ops (H fun i=>listed.getD i false) tm oj=some v:=by
     rw [AGa9 (tm':=tmF) (fun t ht=>AEb9 (hsame t ht))];exact hv1
    obtain ⟨pv',hst',_,_⟩:=AVp9 (pv:= []) (hpk hjx) hxp';refine AFp9 hcall hr hst' fun S' w' m' hv' a' hg hr' hdd hsz=> ?_;refine ih (hv:=hv') (by have:=AJk9 hI.sz hjl hj0;omega) (hI' hxd) ?_ fun S'' w'' m'' hv'' a'' hg' hr'' hd' hsz'=>hK S'' w'' m'' hv'' a'' (hg.trans hg') hr'' (hd'.trans hdd) (hsz'.trans hsz);rw [hL,hH _ _ hjx];exact ⟨hr'.1,hr'.2.1,by intro p hp;cases hp⟩
theorem AUu9 {E:List Nat} {k e:Nat} (hd:genOk ops E k=true) (hek:e≤k) (hk:k≤ops.size):∀(c:Nat) {i:Nat} {tm tmK:List AV},c=e - i→i≤e→xPre P call ops hp ((ops.toList.take e).drop i) tm=some tmK→
 (∀(j:Nat) (o:Oper),i≤j→j<e→ops[j]? =some o→∃v,xp P call ops hp tmK o=some v∧∀d,o.dst=some d→d<tm.length→tmK[d]? =some v)∧
 (∀t,(∀(j:Nat) (o:Oper),i≤j→j<e→ops[j]? =some o→o.dst≠some t)→tmK[t]? =tm[t]?)∧tmK.length=tm.length
 | 0,i,tm,tmK,hn,hi,hx=>by
  have hdrop:(ops.toList.take e).drop i= []:=List.drop_eq_nil_of_le (by simp;omega);rw [hdrop] at hx;simp only [xPre,Option.some.injEq] at hx;subst hx;exact ⟨fun j o h1 h2=>by omega,fun t _=>rfl,rfl⟩
 | c+1,i,tm,tmK,hn,hi,hx=>by
  have hil:i<ops.size:=by omega
  have hoi:ops[i]? =some ops[i]:=by simp [hil]
  have hdrop:(ops.toList.take e).drop i=ops[i]::(ops.toList.take e).drop (i+1):=by
   rw [List.drop_eq_getElem_cons (by simp;omega)];simp
  rw [hdrop] at hx;simp only [xPre] at hx;split at hx<;>try (cases hx;done)
  rename_i v hxp;obtain ⟨h1,h2,h3⟩:=AUu9 hd hek hk c (i:=i+1) (by omega) (by omega) hx;obtain ⟨hedge,hst,_⟩:=AIc9 hd hoi;obtain ⟨hpure,hlook,_⟩:=hst (by omega);have hlen:(putA tm ops[i].dst v).length=tm.length:=ABh9 _ _ _;have hsame:∀t∈ops[i].looksAt ops,tmK[t]? =tm[t]? :=by
   intro t ht;have hno:∀(j:Nat) (o:Oper),i≤j→j<e→ops[j]? =some o→o.dst≠some t:=by
    intro j o hij hjk ho hdst;have:=hedge j (hlook t ht j o (by omega) ho hdst);omega
   rw [h2 t (fun j o hij hjk ho=>hno j o (by omega) hjk ho),ACh9 (hno i ops[i] (Zas _) (by omega) hoi)]
  refine ⟨fun j o hij hjk ho=> ?_,fun t ht=> ?_,h3.trans hlen⟩
  ·rcases Nat.eq_or_lt_of_le hij with rfl|hlt
   ·rw [hoi] at ho;cases ho;refine ⟨v,by rw [AGa9 (tm':=tm) (fun t ht=>AEb9 (hsame t ht))];exact hxp,fun d hdst hdl=> ?_⟩;rw [h2 d (fun j o hij hjk ho hdd=> ?_)]
    ·rw [hdst];simp [putA,hdl]
    ·have:=((AIc9 hd ho).2.1 (by omega)).2.2 i ops[i] (by omega) hoi (by rw [hdd];simp);exact this (by rw [hdst,hdd])
   ·obtain ⟨v',h4,h5⟩:=h1 j o (by omega) hjk ho;exact ⟨v',h4,fun d hdst hdl=>h5 d hdst (by rw [hlen];exact hdl)⟩
  ·rw [h2 t (fun j o hij hjk ho=>ht j o (by omega) hjk ho),ACh9 (ht i ops[i] (Zas _) (by omega) hoi)]
def cntL (L:Nat→Bool):Nat→Nat→Nat
 |_,0=>0
 |q,n+1=>if L q then cntL L (q+1) n+1 else 0
theorem ASs9 (L:Nat→Bool):∀(n q:Nat),cntL L q n≤n
 |0,q=>Zas _
 | n+1,q=>by
  unfold cntL;split
  ·have:=ASs9 L n (q+1);omega
  ·omega
theorem ASt9 {L:Nat→Bool}:∀ {n q c:Nat},c≤n→(∀i,i<c→L (q+i)=true)→(c<n→L (q+c)=false)→cntL L q n=c
 | 0, q, c, h, h1, h2 => by have:c=0:=by omega
                            subst this;rfl
 | n+1,q,0,h,h1,h2=>by
  have:=h2 (by omega);rw [Nat.add_zero] at this;unfold cntL;rw [this];rfl
 | n+1,q,c+1,h,h1,h2=>by
  have h0:=h1 0 (by omega);rw [Nat.add_zero] at h0;unfold cntL;rw [if_pos h0,ASt9 (c:=c) (by omega) (fun i hi=>by have:=h1 (i+1) (by omega);rwa [show q+1+i=q+(i+1) by omega]) (fun hc=>by have:=h2 (by omega);rwa [show q+1+c=q+(c+1) by omega])]
theorem AMs9 {L L':Nat→Bool}:∀ {n q:Nat},(∀i,i<n→L (q+i)=L' (q+i))→cntL L q n=cntL L' q n
 |0,q,h=>rfl
 | n+1,q,h=>by
  have h0:=h 0 (by omega);rw [Nat.add_zero] at h0;unfold cntL;rw [h0,AMs9 (L:=L) (L':=L') (fun i hi=>by have:=h (i+1) (by omega);rwa [show q+(i+1)=q+1+i by omega] at this)]
theorem AMh9:∀ {l:List Oper} {tm:List AV} {hp:List Blk} {sts:List (List AV×List Blk)},ACg9 P l tm hp=some sts→∀ {i:Nat} {t h:List AV×List Blk},sts[i]? =some t→sts[l.length]? =some h→(∀t':Nat,(∀(j:Nat) (o:Oper),i≤j→l[j]? =some o→o.dst≠some t')→h.1[t']? =t.1[t']?)∧h.1.length=t.1.length
 | [],tm,hp,sts,hx,i,t,h,h1,h2=>by
  simp only [ACg9,Option.some.injEq] at hx;subst hx;have hi:i=0:=by
   have:=(List.getElem?_eq_some_iff.1 h1).1;simp at this;omega
  subst hi;simp at h1 h2;subst h1;subst h2;exact ⟨fun _ _=>rfl,rfl⟩
 | o::l,tm,hp,sts,hx,i,t,h,h1,h2=>by
  simp only [ACg9] at hx;split at hx<;>try (cases hx;done)
  rename_i x hp' hl;simp only [Option.map_eq_some_iff] at hx;obtain ⟨sts',hx,rfl⟩:=hx;rw [List.length_cons,List.getElem?_cons_succ] at h2;cases i with
  | zero=>
   simp at h1;subst h1;obtain ⟨g1,g2⟩:=AMh9 hx (i:=0) (ABw9 hx).2.1 h2;refine ⟨fun t' ht=> ?_,by rw [g2,ABh9]⟩;rw [g1 t' fun j o' _ ho'=>ht (j+1) o' (by omega) (by simpa using ho'),ACh9 (ht 0 o (Zas _) rfl)]
  | succ i=>
   rw [List.getElem?_cons_succ] at h1;obtain ⟨g1,g2⟩:=AMh9 hx h1 h2;exact ⟨fun t' ht=>g1 t' fun j o' hj ho'=>ht (j+1) o' (by omega) (by simpa using ho'),g2⟩
end
def BDx9 (o:Oper):Bool:=
 match o.op with
 | .load .. | .slice .. | .fieldAddr .. | .indexAddr .. =>true
 | .call c=>match c.callee with
  | .builtin _=>true
  |_=>false
 |_=>false
def ANn9 (P:Program) (ops:Array Oper) (hp hp1:List Blk) (tm:List AV):List Oper→Prop
 | []=>True
 |o::l=>if BDx9 o then xpq P ops hp1 tm o=xpq P ops hp tm o∧ANn9 P ops hp hp1 tm l else ANn9 P ops hp hp1 tm l
def valsC:List Oper→List (List AV×List Blk)→List (List AV×List Blk)→Prop
 | o::l,s0::l0,s1::l1=>(match o.dst with
  |some d=>s0.1.getD d .bad=s1.1.getD d .bad
  |none=>True)∧valsC l l0 l1
 |_,_,_=>True
def commC (P:Program) (ops:Array Oper) (tmA tmF:List AV) (o:Oper) (c:Call) (hpA hpB:List Blk) (g ver n kk:Nat) (blkX:Blk) (pre post:List Oper):List (List AV×List Blk)→List (List AV×List Blk)→Prop
 |s0::l0,s1::l1=>lateK P s0.2 tmA o (match AQq9 P s0.2 tmA c with
  |some (.gref g' ver' n' kk',hx)=>Nat.beq g' g=true∧ver'=ver∧n'=n∧Nat.beq kk' kk=true∧hx[g]? =some blkX∧frz hx [g]=s1.2
  |_=>False)∧ANn9 P ops hpA s0.2 tmF pre∧ANn9 P ops hpA s1.2 tmF pre∧ANn9 P ops hpB s1.2 tmF post∧commC P ops tmA tmF o c hpA hpB g ver n kk blkX pre post l0 l1
 |_,_=>True
def behOk (ops:Array Oper) (x q:Nat):Bool:=(Zay q).all fun j=>Nat.ble j x||(ancOf ops ops.size j).contains x
def BWu9 (ops:Array Oper) (q:Nat):Bool:=(Zay ops.size).all fun j=>Nat.blt j q||(Zay j).all fun i=>Nat.blt i q||(ancOf ops ops.size j).contains i
def appC (P:Program) (X:CX β) (ops:Array Oper) (x q:Nat) (tm:List AV) (hp:List Blk) (b:β) (K:List AV→List Blk→β→Prop):Prop:=
 if genOk ops (x::(Zay (ops.size - q)).map (q+ ·)) ops.size&&(behOk ops x q&&(BWu9 ops q&&(Nat.blt x q&&Nat.ble q ops.size))) then
  preC P X ops hp (ops.toList.take x) tm [] fun tmA ta=>match ops[x]? with
   | some o=>match o.guard,o.dst,o.op with
    | none,some d, .call c=>match AQq9 P hp tmA c with
     | some (.gref g ver n kk,hx)=>match hx[g]? with
      |some blkX=>BIf (Nat.blt d tmA.length&&blkX.grow) (blkX.ver=ver∧∃rows:List (List Dv),blkX.cells=flatA rows∧rows.length=n∧(∀r∈rows,r.length=kk)∧
       preC P X ops (frz hx [g]) ((ops.toList.take q).drop (x+1)) (putA tmA (some d) (.d (.sl kk rows))) ta fun tmK tb=>
        if (tb.map (·.1)).Nodup then match ACg9 P (ops.toList.drop q) tmK hp,ACg9 P (ops.toList.drop q) tmK (frz hx [g]) with
         | some s0,some s1=>match s1[ops.size - q]? with
          |some st=>ASd9 P (ASd9 P (valsC (ops.toList.drop q) s0.tail s1.tail∧commC P ops tmA st.1 o c hp (frz hx [g]) g ver n kk blkX (ops.toList.take x) ((ops.toList.take q).drop (x+1)) s0 s1∧K st.1 st.2 b) (ops.toList.drop q) tmK (frz hx [g])) (ops.toList.drop q) tmK hp
          |none=>False
         |_,_=>False
        else False) False
      |none=>False
     |_=>False
    |_,_,_=>False
   |none=>False
 else False
section
variable {P:Program} {S S' X:Pr} {yv:Option Nat} {w w':World} {m m':List MB} {B:List (AV×Value)} {hp hp' hp1:List Blk} {hv:List (List Value)} {tm tm':List AV} {ops:Array Oper} {Ev:Env P} {XX:CX Ev.β} {b:Ev.β} {o:Oper}
theorem BNj9 (h:BDx9 o=false):xpq P ops hp1 tm o=xpq P ops hp tm o:=by
 unfold BDx9 at h;unfold xpq;cases ho:o.op<;>simp only [ho] at h ⊢<;>first|(unfold xq;simp only [ho];done)|(cases h;done)|skip
 rename_i c;cases hc:c.callee<;>simp only [hc] at h ⊢<;>first|(cases h;done)|rfl
theorem AIq9 {T:CallT}:∀ {l:List Oper},ANn9 P ops hp hp1 tm l→∀o∈l,xp P T ops hp1 tm o=xp P T ops hp tm o
 | [],_,o,ho=>by cases ho
 | o'::l,h,o,ho=>by
  unfold ANn9 at h;split at h
  ·rcases Zbx.1 ho with rfl|ho
   ·exact BLa9 h.1
   ·exact AIq9 h.2 o ho
  ·rename_i hl;rcases Zbx.1 ho with rfl|ho
   ·exact BLa9 (BNj9 (by simpa using hl))
   ·exact AIq9 h o ho
theorem AVb9 {tmA tmF:List AV} {c:Call} {hpA hpB:List Blk} {g ver n kk:Nat} {blkX:Blk} {pre post:List Oper}:∀ {l0 l1:List (List AV×List Blk)},commC P ops tmA tmF o c hpA hpB g ver n kk blkX pre post l0 l1→∀ {i:Nat} {s0 s1:List AV×List Blk},l0[i]? =some s0→l1[i]? =some s1→
 lateK P s0.2 tmA o True∧(∃hx,AQq9 P s0.2 tmA c=some (.gref g ver n kk,hx)∧hx[g]? =some blkX∧frz hx [g]=s1.2)∧ANn9 P ops hpA s0.2 tmF pre∧ANn9 P ops hpA s1.2 tmF pre∧ANn9 P ops hpB s1.2 tmF post
 | [],l1,h,i,s0,s1,h0,h1=>by simp at h0
 |a0::l0, [],h,i,s0,s1,h0,h1=>by simp at h1
 | a0::l0,a1::l1,h,i,s0,s1,h0,h1=>by
  obtain ⟨k1,k2,k3,k4,k5⟩:=h;cases i with
  | zero=>
   simp at h0 h1;subst h0;subst h1;refine ⟨ASe9 (fun _=>trivial) k1, ?_,k2,k3,k4⟩;have:=AXb9 k1;split at this<;>try exact this.elim
   rename_i g' ver' n' kk' hx hl;obtain ⟨e1,rfl,rfl,e4,e5,e6⟩:=this;have e1:=Nat.eq_of_beq_eq_true e1;have e4:=Nat.eq_of_beq_eq_true e4;subst e1;subst e4;exact ⟨hx,hl,e5,e6⟩
  |succ i=>exact AVb9 k5 (by simpa using h0) (by simpa using h1)
theorem AYg9 {L:Nat→Bool} (hdown:∀(j:Nat) (o':Oper),ops[j]? =some o'→L j=true→∀e∈AAp9 o',L e=true):
 ∀(t:Nat) (l:List Nat),(∀j∈l,L j=true)→∀j∈APb9 ops t l,L j=true
 |0,l,h,j,hj=>h j hj
 | t+1,l,h,j,hj=>by
  simp only [APb9] at hj;refine AYg9 hdown t _ (fun j' hj'=> ?_) j hj;split at hj'
  ·rename_i hc;have ht:=h t (List.contains_iff_mem.1 hc);split at hj'
   ·rename_i o ho;rcases List.mem_append.1 hj' with h1|h1
    ·exact hdown t o ho ht j' h1
    ·exact h j' h1
   ·exact h j' hj'
  ·exact h j' hj'
theorem anc_L {L:Nat→Bool} (hdown:∀(j:Nat) (o':Oper),ops[j]? =some o'→L j=true→∀e∈AAp9 o',L e=true) (n i:Nat) (o:Oper) (hi:ops[i]? =some o) (he:∀e∈AAp9 o,L e=true):∀j∈ancOf ops n i,L j=true:=by
 intro j hj;simp only [ancOf,hi] at hj;exact AYg9 hdown i _ he j hj
theorem ASc9:∀ {l:List Oper} {tm:List AV} {h0 h1:List Blk} {s0 s1:List (List AV×List Blk)},ACg9 P l tm h0=some s0→ACg9 P l tm h1=some s1→valsC l s0.tail s1.tail→∀(i:Nat) (a c:List AV×List Blk),s0[i]? =some a→s1[i]? =some c→a.1=c.1
 | [],tm,h0,h1,s0,s1,e0,e1,hv,i,a,c,ha,hc=>by
  simp only [ACg9,Option.some.injEq] at e0 e1;subst e0;subst e1;cases i with
  |zero=>simp at ha hc;subst ha;subst hc;rfl
  |succ i=>simp at ha
 | o::l,tm,h0,h1,s0,s1,e0,e1,hv,i,a,c,ha,hc=>by
  simp only [ACg9] at e0 e1;split at e0<;>try (cases e0;done)
  rename_i v0 g0 l0;split at e1<;>try (cases e1;done)
  rename_i v1 g1 l1;simp only [Option.map_eq_some_iff] at e0 e1;obtain ⟨t0,e0,rfl⟩:=e0;obtain ⟨t1,e1,rfl⟩:=e1;cases i with
  |zero=>simp at ha hc;subst ha;subst hc;rfl
  | succ i=>
   rw [List.getElem?_cons_succ] at ha hc;have z0:=(ABw9 e0).2.1;have z1:=(ABw9 e1).2.1;cases t0 with
   |nil=>simp at z0
   | cons b0 t0=>
    cases t1 with
    |nil=>simp at z1
    | cons b1 t1=>
     simp at z0 z1;simp only [List.tail_cons,valsC] at hv;obtain ⟨hv1,hv2⟩:=hv;have htm:putA tm o.dst v0=putA tm o.dst v1:=by
      cases hd:o.dst with
      |none=>rfl
      | some d=>
       rw [hd] at hv1 z0 z1;subst z0;subst z1;simp only [putA] at hv1 ⊢;by_cases hdl:d<tm.length
       ·have e:v0=v1:=by simpa [List.getD_eq_getElem?_getD,hdl] using hv1
        rw [e]
       ·rw [List.set_eq_of_length_le (Nat.le_of_not_lt hdl),List.set_eq_of_length_le (Nat.le_of_not_lt hdl)]
     rw [htm] at e0;exact ASc9 e0 e1 hv2 i a c ha hc
theorem BGi9 {x q:Nat} (hX:XX.Ok) {K:List AV→List Blk→Ev.β→Prop} {Q:Exit→St Ev.β→Prop} (h:appC P XX ops x q tm hp b K) (hq':∀tm' hp' b',K tm' hp' b'→Q .normal ⟨tm',hp',b'⟩):WA Ev ops ⟨tm,hp,b⟩ Q:=by
 unfold appC at h;split at h<;>try exact h.elim
 rename_i hcond;simp only [Zal,Nat.blt_eq] at hcond;obtain ⟨hd,hbeh,hchain,hxq,hq⟩:=hcond;have hq:q≤ops.size:=Nat.le_of_ble_eq_true hq;obtain ⟨tmA,ta,h1,_,a3,a4⟩:=ACm9 hX h;split at h1<;>try exact h1.elim
 rename_i o hox;split at h1<;>try exact h1.elim
 rename_i d c hg hdst ho;split at h1<;>try exact h1.elim
 rename_i g ver n kk hx hxl;split at h1<;>try exact h1.elim
 rename_i blkX hblk;obtain ⟨hcc,hver,rows,hcells,hrn,hrk,h1⟩:=h1.elim';rw [Zal,Nat.blt_eq] at hcc;obtain ⟨hdl,hgrow⟩:=hcc;obtain ⟨tmK,tb,h3,b2,b3,b4⟩:=ACm9 hX h1;split at h3<;>try exact h3.elim
 rename_i hnd;split at h3<;>try exact h3.elim
 rename_i s0 s1 hs0 hs1;split at h3<;>try exact h3.elim
 rename_i st hst;obtain ⟨h3,hk0⟩:=AEo9 hs0 h3;obtain ⟨⟨hvals,hcomm,hK⟩,hk1⟩:=AEo9 hs1 h3;have hfind:=AEc9 hnd;have hA:=a4 tb (fun t ht=>hfind t (b2 t ht));have hF:=b4 tb hfind;have hcall:AGy9 P (tblD tb):=AVx9 (b3 (a3 (by simp)));obtain ⟨p1,p2,p3⟩:=AUu9 hd (e:=x) (by omega) (Zas _) x (i:=0) (by omega) (by omega) (by simpa using hA);obtain ⟨q1,q2,q3⟩:=AUu9 hd (e:=q) hq (Zas _) (q - (x+1)) (i:=x+1) rfl (by omega) hF;have hlA:(putA tmA (some d) (.d (.sl kk rows))).length=tmA.length:=ABh9 _ _ _;have hN:(ops.toList.drop q).length=ops.size - q:=by simp
 have hat:∀i,(ops.toList.drop q)[i]? =ops[q+i]? :=fun i=>by rw [List.getElem?_drop];simp
 obtain ⟨g0a,g0b,g0c⟩:=ABw9 hs0;obtain ⟨g1a,g1b,g1c⟩:=ABw9 hs1;have hst':s1[(ops.toList.drop q).length]? =some st:=by rw [hN];exact hst
 have hsame:=ASc9 hs0 hs1 hvals;have keep1:=fun {i:Nat} {t:List AV×List Blk} (h:s1[i]? =some t)=>AMh9 hs1 h hst';have hlen:st.1.length=tm.length:=by rw [(keep1 g1b).2,q3,hlA,p3]
 have hKF:∀t':Nat,(∀(j:Nat) (oj:Oper),q≤j→ops[j]? =some oj→oj.dst≠some t')→st.1[t']? =tmK[t']? :=fun t' ht'=>(keep1 g1b).1 t' fun j oj _ hj=>ht' (q+j) oj (by omega) (by rw [←hat];exact hj);have hAF:∀t':Nat,(∀(j:Nat) (oj:Oper),x≤j→ops[j]? =some oj→oj.dst≠some t')→st.1[t']? =tmA[t']? :=fun t' ht'=>by
  rw [hKF t' fun j oj hj hoj=>ht' j oj (by omega) hoj,q2 t' fun j oj h5 h6 h7=>ht' j oj (by omega) h7,ACh9 fun h8=>ht' x o (Zas _) hox (by rw [hdst,h8])]
 have hltsz:∀ {j:Nat} {oj:Oper},ops[j]? =some oj→j<ops.size:=fun h=>(Array.getElem?_eq_some_iff.1 h).1;have hlookA:∀(j:Nat) (oj:Oper),j≤x→ops[j]? =some oj→∀t∈oj.looksAt ops,st.1[t]? =tmA[t]? :=fun j oj hjx hoj t ht=>hAF t fun j' o' h5 h7 h8=>by
  have:=(AIc9 hd hoj).1 j' (((AIc9 hd hoj).2.1 (hltsz hoj)).2.1 t ht j' o' (hltsz h7) h7 h8);omega
 have hlookK:∀(j:Nat) (oj:Oper),j<q→ops[j]? =some oj→∀t∈oj.looksAt ops,st.1[t]? =tmK[t]? :=fun j oj hjx hoj t ht=>hKF t fun j' o' h5 h7 h8=>by
  have:=(AIc9 hd hoj).1 j' (((AIc9 hd hoj).2.1 (hltsz hoj)).2.1 t ht j' o' (hltsz h7) h7 h8);omega
 have hdis:∀(j j':Nat) (oj o':Oper),j<j'→ops[j]? =some oj→ops[j']? =some o'→∀d',oj.dst=some d'→o'.dst≠some d':=fun j j' oj o' hjj hoj ho' d' hod h8=>
  ((AIc9 hd ho').2.1 (hltsz ho')).2.2 j oj hjj hoj (by rw [h8];simp) (by rw [hod,h8])
 have hE:∀j,j<ops.size→(j∈x::(Zay (ops.size - q)).map (q+ ·)↔j=x∨q≤j):=fun j hj=>by
  simp only [Zbx,Zbd,Zbs];constructor
  ·rintro (h|⟨i,_,rfl⟩)
   ·exact .inl h
   ·exact .inr (by omega)
  ·rintro (h|h)
   ·exact .inl h
   ·exact .inr ⟨j - q,by omega,by omega⟩
 have hgetS:∀ {s:List (List AV×List Blk)},s.length=ops.size - q+1→∀i,i≤ops.size - q→∃t,s[i]? =some t:=fun {s} hs i hi=>⟨s[i]'(by omega),by simp [show i<s.length by omega]⟩;rw [hN] at g0a g1a
 let H:(Nat→Bool)→List Blk:=fun L=>(((if L x then s1 else s0)[cntL L q (ops.size - q)]?).getD ([], [])).2
 have hHx:∀L,H L=(((if L x then s1 else s0)[cntL L q (ops.size - q)]?).getD ([], [])).2:=fun _=>rfl;intro lo r S V' V w m B hv a ht;have ht':=ht.drew;have hget:∀j,(Array.replicate ops.size false).getD j false=false:=by intro j;simp [Array.getElem?_replicate];split<;>rfl
 refine BJc9 (X:=V') (yv:=Ev.yl) (B:=B) (hp1:=st.2) (tm0:=tm) (tmF:=st.1) (S:=S) (m:=m) (hv:=hv) (tm:=tm) hcall hd (Zas _) H hlen (fun t hno=> ?_) (fun L j hj=> ?_) (fun L hL j oj hjk hjE hoj hje=> ?_) (fun L hL j oj hjk hjE hoj hj0 hje=> ?_) (fun L hall=> ?_) ops.size ?_ ⟨by simp,fun j hj=>by omega,fun j _=>hget j,fun j o' _ hj=>(by rw [hget] at hj;cases hj),rfl,fun j o d _ _ _ _ hj=>(by rw [hget] at hj;cases hj),fun _ _=>rfl⟩ ?_ ?_
 ·rw [hAF t fun j oj _ hoj=>hno j oj (hltsz hoj) hoj,p2 t fun j oj _ h6 h7=>hno j oj (hltsz h7) h7]
 ·have hjx:j≠x:=fun h=>hj (by rw [h];exact Zbb ..);rw [hHx,hHx,AMs9 (L:=updL L j) (L':=L) fun i hi=> ?_]
  ·simp only [updL,if_neg (Ne.symm hjx)]
  ·simp only [updL];rw [if_neg fun h=>hj (Zaw _ (Zbd.2 ⟨i,Zbs.2 hi,h⟩))]
 ·have hjq:j<q∧j≠x:=by
   have:=mt (hE j hjk).2 hjE;exact ⟨by omega,by omega⟩
  obtain ⟨t0,e0⟩:=hgetS g0a _ (ASs9 L (ops.size - q) q);obtain ⟨t1,e1⟩:=hgetS g1a _ (ASs9 L (ops.size - q) q);obtain ⟨_,_,k2,k3,k4⟩:=AVb9 hcomm e0 e1;rcases Nat.lt_or_ge j x with hlt|hge
  ·obtain ⟨v,v1,v2⟩:=p1 j oj (Nat.zero_le _) hlt hoj;have hmem:oj∈ops.toList.take x:=Zak.2 ⟨j,by rw [List.getElem?_take,if_pos hlt];simpa using hoj⟩;have ex:xp P (tblD tb) ops hp st.1 oj=some v:=by rw [AGa9 (tm':=tmA) (fun t ht=>AEb9 (hlookA j oj (by omega) hoj t ht))];exact v1
   refine ⟨v, ?_,fun d' hod hdl'=> ?_⟩
   ·rw [hHx];cases L x
    ·rw [if_neg (by decide),e0];exact (AIq9 k2 oj hmem).trans ex
    ·rw [if_pos rfl,e1];exact (AIq9 k3 oj hmem).trans ex
   ·rw [hAF d' fun j' o' h5 h7=>hdis j j' oj o' (by omega) hoj h7 d' hod];exact v2 d' hod hdl'
  ·obtain ⟨v,v1,v2⟩:=q1 j oj (by omega) hjq.1 hoj;have hmem:oj∈(ops.toList.take q).drop (x+1):=Zak.2 ⟨j - (x+1),by rw [List.getElem?_drop,List.getElem?_take,if_pos (by omega)];rw [show x+1+(j - (x+1))=j by omega];simpa using hoj⟩;have ex:xp P (tblD tb) ops (frz hx [g]) st.1 oj=some v:=by rw [AGa9 (tm':=tmK) (fun t ht=>AEb9 (hlookK j oj hjq.1 hoj t ht))];exact v1
   have hLx:L x=true:=by
    have hb:=Zav.1 hbeh j (Zbs.2 hjq.1);rw [Bool.or_eq_true] at hb;rcases hb with hb|hb
    ·have:=Nat.le_of_ble_eq_true hb;omega
    ·exact anc_L hL.1 ops.size j oj hoj hje x (List.contains_iff_mem.1 hb)
   refine ⟨v, ?_,fun d' hod hdl'=> ?_⟩
   ·rw [hHx,hLx,if_pos rfl,e1];exact (AIq9 k4 oj hmem).trans ex
   ·rw [hKF d' fun j' o' h5 h7=>hdis j j' oj o' (by omega) hoj h7 d' hod];exact v2 d' hod (by rw [hlA,p3];exact hdl')
 ·rcases (hE j hjk).1 hjE with rfl|hjq
  ·
   rw [hox] at hoj;cases hoj;obtain ⟨t0,e0⟩:=hgetS g0a _ (ASs9 L (ops.size - q) q);obtain ⟨t1,e1⟩:=hgetS g1a _ (ASs9 L (ops.size - q) q);obtain ⟨k1,⟨hx',kx,kb,kf⟩,_,_,_⟩:=AVb9 hcomm e0 e1;have hHL:H L=t0.2:=by rw [hHx,hj0,if_neg (by decide),e0];rfl
   have hHU:H (updL L j)=t1.2:=by
    rw [hHx,AMs9 (L:=updL L j) (L':=L) fun i hi=>by simp only [updL];rw [if_neg (by omega)]];simp only [updL,if_true];rw [e1];rfl
   refine ⟨.d (.sl kk rows),fun d' hod hdl'=> ?_,fun {tm1 S1 w1 m1 hv1 a1 K1} hl1 hag hr1 hN1=> ?_⟩
   ·rw [hdst] at hod;cases hod;rw [hKF d fun j' o' h5 h7=>hdis j j' o o' (by omega) hox h7 d hdst,q2 d fun j' o' h5 h6 h7=>hdis j j' o o' (by omega) hox h7 d hdst];simp only [putA];rw [List.getElem?_set_self hdl]
   ·rw [hHL] at hr1;rw [hHU] at hN1;have hag':∀t∈o.looksAt ops,tm1.getD t .bad=tmA.getD t .bad:=fun t ht=>AEb9 ((hag t ht).trans (hlookA j o (Zas _) hox t ht));have hxl':xLate P t0.2 tm1 o=some (.gref g ver n kk,hx'):=by
     rw [AHa9 hag'];unfold xLate;rw [ho,hg,hdst];exact kx
    have hlk':lateK P t0.2 tm1 o True:=by rw [AHe9 hag'];exact k1
    obtain ⟨pv,hstep⟩:=AIi9 (ops:=ops) (call:=AHz9) (appOk P) hlk' hxl';refine BAl9.sound AKu9 hr1 hstep fun S2 w2 m2 hv2 a2 hg2 hr2 hd2 hs2=> ?_;have hdl1:d<tm1.length:=by rw [hl1,←p3];exact hdl
    have hseal:ALq9 hx' [d] (putA tm1 o.dst (.gref g ver n kk)) (fun z=>z=putA tm1 o.dst (.d (.sl kk rows))):=by
     rw [hdst];simp only [ALq9,putA];rw [show (tm1.set d (.gref g ver n kk)).getD d .bad= .gref g ver n kk by simp [List.getD_eq_getElem?_getD,hdl1]];simp only [sealC,kb,hgrow];exact ⟨hver,rows,hcells,hrn,hrk,by show BIf false False _;simp [BIf,List.set_set]⟩
    obtain ⟨z,hz,rfl⟩:=AGf9 (gs:= [g]) (tm0:=putA tm1 o.dst (.gref g ver n kk)) hseal (by simp) (AIy9 _ _) (fun _ _=>rfl) fun t' ht' g' hg'=>by
     simp at ht';subst ht';rw [hdst] at hg';simp only [putA] at hg';rw [show (tm1.set t' (.gref g ver n kk)).getD t' .bad= .gref g ver n kk by simp [List.getD_eq_getElem?_getD,hdl1]] at hg';exact hg'
    obtain ⟨S3,hg3,hr3⟩:=BQv9 (s:=⟨putA tm1 o.dst (.gref g ver n kk),hx', []⟩) hz S2 V' Ev.yl w2 m2 B hv2 a2 ⟨hr2.1,hr2.2.1,by intro p hp;cases hp⟩;refine hN1 S3 w2 m2 hv2 a2 (hg2.trans hg3) ?_ hd2 hs2;rw [←kf];exact hr3
  ·
   obtain ⟨i,rfl⟩:∃i,j=q+i:=⟨j - q,by omega⟩;have hprev:∀i',i'<i→L (q+i')=true:=fun i' hi'=>by
    have hb:=Zav.1 hchain (q+i) (Zbs.2 hjk);rw [Bool.or_eq_true] at hb;rcases hb with hb|hb
    ·rw [Nat.blt_eq] at hb;omega
    ·have hb:=Zav.1 hb (q+i') (Zbs.2 (by omega));rw [Bool.or_eq_true] at hb;rcases hb with hb|hb
     ·rw [Nat.blt_eq] at hb;omega
     ·exact anc_L hL.1 ops.size (q+i) oj hoj hje (q+i') (List.contains_iff_mem.1 hb)
   have hc:cntL L q (ops.size - q)=i:=ASt9 (by omega) hprev (fun _=>hj0);have hc':cntL (updL L (q+i)) q (ops.size - q)=i+1:=by
    refine ASt9 (by omega) (fun i' hi'=> ?_) (fun hlt=> ?_)
    ·simp only [updL];split
     ·rfl
     ·exact hprev i' (by omega)
    ·simp only [updL];rw [if_neg (by omega)];cases hh:L (q+(i+1)) with
     |false=>rfl
     | true=>
      obtain ⟨o2,ho2⟩:∃o2,ops[q+(i+1)]? =some o2:=⟨ops[q+(i+1)]'(by omega),by simp [show q+(i+1)<ops.size by omega]⟩;have hb:=Zav.1 hchain (q+(i+1)) (Zbs.2 (by omega));rw [Bool.or_eq_true] at hb;rcases hb with hb|hb
      ·rw [Nat.blt_eq] at hb;omega
      ·have hb:=Zav.1 hb (q+i) (Zbs.2 (by omega));rw [Bool.or_eq_true] at hb;rcases hb with hb|hb
       ·rw [Nat.blt_eq] at hb;omega
       ·have:=anc_L hL.1 ops.size (q+(i+1)) o2 ho2 (hL.1 _ o2 ho2 hh) (q+i) (List.contains_iff_mem.1 hb);rw [hj0] at this;cases this
   have hjx:q+i≠x:=by omega
   have hux:(updL L (q+i)) x=L x:=by simp only [updL];rw [if_neg (Ne.symm hjx)]
   have hoi:(ops.toList.drop q)[i]? =some oj:=by rw [hat];exact hoj
   obtain ⟨t0,h0,v0,h0',a1,a2,a3'⟩:=g0c i oj hoi;obtain ⟨t1,h1',v1,h1'',c1,c2,c3⟩:=g1c i oj hoi;have etm:t0=t1:=hsame i _ _ a1 c1;have etm':putA t0 oj.dst v0=putA t1 oj.dst v1:=hsame (i+1) _ _ a2 c2;have hagree:∀t∈oj.looksAt ops,st.1[t]? =t1[t]? :=fun t ht=>(keep1 c1).1 t fun j' o' hj' ho' h8=>by
    have:=(AIc9 hd hoj).1 (q+j') (((AIc9 hd hoj).2.1 hjk).2.1 t ht (q+j') o' (hltsz (by rw [←hat];exact ho')) (by rw [←hat];exact ho') h8);omega
   have hval:∀d',oj.dst=some d'→d'<tm.length→st.1[d']? =some v1:=fun d' hod hdl'=>by
    have hl1:t1.length=tm.length:=by rw [←hlen,(keep1 c1).2]
    rw [(keep1 c2).1 d' fun j' o' hj' ho'=>hdis (q+i) (q+j') oj o' (by omega) hoj (by rw [←hat];exact ho') d' hod,hod];simp only [putA];rw [List.getElem?_set_self (by rw [hl1];exact hdl')]
   cases hLx:L x with
   | true=>
    refine ⟨v1,hval,fun {tm1 S1 w1 m1 hv1 a1' K1} hl1 hag hr1 hN1=> ?_⟩;have hHL:H L=h1':=by rw [hHx,hLx,if_pos rfl,hc,c1];rfl
    have hHU:H (updL L (q+i))=h1'':=by rw [hHx,hux,hLx,if_pos rfl,hc',c2];rfl
    rw [hHL] at hr1;rw [hHU] at hN1;have hag':∀t∈oj.looksAt ops,tm1.getD t .bad=t1.getD t .bad:=fun t ht=>AEb9 ((hag t ht).trans (hagree t ht));obtain ⟨pv,hstep⟩:=AIi9 (ops:=ops) (call:=AHz9) (appOk P) (by rw [AHe9 hag'];exact hk1 i oj t1 h1' hoi c1) (by rw [AHa9 hag'];exact c3);exact BAl9.sound AKu9 hr1 hstep fun S2 w2 m2 hv2 a2 hg2 hr2 hd2 hs2=>hN1 S2 w2 m2 hv2 a2 hg2 ⟨hr2.1,hr2.2.1,by intro p hp;cases hp⟩ hd2 hs2
   | false=>
    have hval0:∀d',oj.dst=some d'→d'<tm.length→st.1[d']? =some v0:=fun d' hod hdl'=>by
     rw [hval d' hod hdl'];have hl1:t1.length=tm.length:=by rw [←hlen,(keep1 c1).2]
     rw [hod,etm] at etm';have:=congrArg (fun l=>l[d']?) etm';simp only [putA] at this;rw [List.getElem?_set_self (by rw [hl1];exact hdl'),List.getElem?_set_self (by rw [hl1];exact hdl')] at this;exact this.symm
    refine ⟨v0,hval0,fun {tm1 S1 w1 m1 hv1 a1' K1} hl1 hag hr1 hN1=> ?_⟩;have hHL:H L=h0:=by rw [hHx,hLx,if_neg (by decide),hc,a1];rfl
    have hHU:H (updL L (q+i))=h0':=by rw [hHx,hux,hLx,if_neg (by decide),hc',a2];rfl
    rw [hHL] at hr1;rw [hHU] at hN1;have hag':∀t∈oj.looksAt ops,tm1.getD t .bad=t0.getD t .bad:=fun t ht=>AEb9 (by rw [etm];exact (hag t ht).trans (hagree t ht));obtain ⟨pv,hstep⟩:=AIi9 (ops:=ops) (call:=AHz9) (appOk P) (by rw [AHe9 hag'];exact hk0 i oj t0 h0 hoi a1) (by rw [AHa9 hag'];exact a3');exact BAl9.sound AKu9 hr1 hstep fun S2 w2 m2 hv2 a2 hg2 hr2 hd2 hs2=>hN1 S2 w2 m2 hv2 a2 hg2 ⟨hr2.1,hr2.2.1,by intro p hp;cases hp⟩ hd2 hs2
 ·have hc:cntL L q (ops.size - q)=ops.size - q:=ASt9 (Zas _) (fun i hi=>hall (q+i) (by omega)) (fun h=>by omega);rw [hHx,hall x (by omega),if_pos rfl,hc,hst];rfl
 ·have:unl ops.size (Array.replicate ops.size false)=Zay ops.size:=by
   unfold unl;rw [List.filter_eq_self];intro j _;rw [hget];rfl
  rw [this];simp
 ·have hc:cntL (fun i=>(Array.replicate ops.size false).getD i false) q (ops.size - q)=0:=ASt9 (Nat.zero_le _) (fun i hi=>by omega) (fun _=>hget _);have hH0:H (fun i=>(Array.replicate ops.size false).getD i false)=hp:=by
   have e9:=hHx (fun i=>(Array.replicate ops.size false).getD i false);refine e9.trans ?_;rw [hc,hget x,if_neg (by decide),g0b];rfl
  exact (congrArg (fun h=>RelS S V' Ev.yl {w with drawn:=w.drawn+1} m B hv ⟨tm,h, []⟩ a) hH0).mpr ⟨ht'.rel.1,ht'.rel.2.1,by intro p hp;cases hp⟩
 ·intro S' w' m' hv' a' hg hr hd' hsz listed hls hl;refine AIn9 (s:=⟨st.1,st.2, []⟩) (b:=b) (R:=fun s b=>K s.tm s.hp b) (fun i o ho=>(AIc9 hd ho).1) (fun i o ho=>(AIc9 hd ho).2.2) _ rfl (Zas _) hls hl (ht'.step hg hr hd') (by rw [List.drop_of_length_le (by simp)];exact hK) fun s' b' hq1 S'' X'' V'' w'' m'' hv'' a'' hw hm' ht''=> ?_;exact ⟨⟨s'.tm,s'.hp,b'⟩,S'',X'',V'',m'',hv'',hq' _ _ _ hq1,⟨((AIk9 ht.rel.slt).trans (hg.went hr.slt)).trans hw,hg.ms.trans hm'⟩,⟨⟨ht''.rel.1,ht''.rel.2.1,by intro p hp;cases hp⟩,ht''.sub,ht''.env,ht''.round,ht''.marks,ht''.base⟩⟩
def wlA {β:Type} (P:Program) (X:CX β) (how:List (Nat×(List Nat×Nat×Nat×Nat))) (wl:Code→List AV→List Blk→β→(Exit→List AV→List Blk→β→Prop)→Prop):Code→List AV→List Blk→β→(Exit→List AV→List Blk→β→Prop)→Prop
 | .region id ops d,tm,hp,b,K=>match how.lookup id with
  |some (σ,x,q,t)=>if growT tm t then (if d&&AUm9 ops σ then appC P X (AAv9 σ ops) x q tm hp b (K .normal) else False) else AWi9 P X ops d tm hp b (K .normal)
  |none=>wl (.region id ops d) tm hp b K
 |c,tm,hp,b,K=>wl c tm hp b K
theorem BYl9 (hm:P.follows .mixedOrders=true) (hX:XX.Ok) (how:List (Nat×(List Nat×Nat×Nat×Nat))) {wl:Code→List AV→List Blk→Ev.β→(Exit→List AV→List Blk→Ev.β→Prop)→Prop}
 (hwl:∀c tm hp b K,wl c tm hp b K→W Ev c ⟨tm,hp,b⟩ (fun e s=>K e s.tm s.hp s.b)):∀c tm hp b K,wlA P XX how wl c tm hp b K→W Ev c ⟨tm,hp,b⟩ (fun e s=>K e s.tm s.hp s.b):=by
 intro c tm hp b K h;cases c with
 | region id ops d=>
  simp only [wlA] at h;split at h
  ·split at h
   ·split at h<;>try exact h.elim
    rename_i hd;rw [Zal] at hd;rw [hd.1];exact W.ofWA hm (WA.perm hd.2 (BGi9 hX h fun _ _ _ h=>h))
   ·exact AKc9 hm hX h fun _ _ _ h=>h
  ·exact hwl _ _ _ _ _ h
 |_=>exact hwl _ _ _ _ _ h
end
end Go.Proofs.YtibhflogmbfpcaaGreatDoor.Am
namespace Go.Proofs.YtibhflogmbfpcaaGreatDoor.Am
open Go Go.RowKit Go.Proofs Tryz
open AV renaming agg → Zbj, bad → Zba, d → Zae, ptr → Zbe
open BIf renaming of → Zau, t → Zbr
open BitVec renaming ofInt → Zap
open Bool renaming and_eq_true → Zal, false_eq_true → Zbt
open AAk9 renaming cons → Zag, nil → Zai
open Dv renaming sl → Zam
open Go.Exit renaming normal → Zeh
open Int renaming fdiv → Zbz, toNat → Zat, toNat_natCast → Zbn
open Go.IntKind renaming i64 → Zax, u8 → Zcp, wrap → Zac
open List renaming all_eq_true → Zav, foldl_cons → Zbl, getElem?_eq_getElem → Zbk, length → Zab, mem_cons → Zbx, mem_cons_of_mem → Zaw, mem_cons_self → Zbb, mem_iff_getElem? → Zak, mem_map → Zbd, mem_of_getElem? → Zbi, mem_range → Zbs, pairwise_cons → Zcc, range → Zay, range' → Zcm, replicate → Zaf
open Nat renaming le_refl → Zas, testBit_two_pow → Zdj
open PCall renaming ofFn → Zbh
open Prod renaming fst → Zdz
open AAn9 renaming nil → Zad
open UInt8 renaming toNat → Zef
open Go.Value renaming slice → Zbo
variable {β:Type} (wl:WLT β) (y:ACx9 β) (b:β) (R:AV→β→Prop) (K:Exit→List AV→List Blk→β→Prop) (Kh:Exit→List Blk→β→Prop) (Q:β→Prop)
open AV (bad)
theorem mixed:Tryz.prog.follows .mixedOrders=true:=by kernel_rfl
set_option linter.unusedVariables false
set_option maxRecDepth 20000
def rowA (m:Int) (b:List Int):AV:= .agg [.d (i64 m), .d (.sl 1 (AAb9 b))]
def eqA (m:Int) (p:List Int):AV:= .agg (.d (i64 m)::AAy9 p)
def pad (b:List Int):List Int:=(b++Zaf 16 0).take 16
def fine (m:Int) (b:List Int):Bool:=decide (m≥1)&&(decide (m<65536)&&((b.length:Int)==16))
def xor8 (a b:Int):Int:=Zac Zcp ↑((Zap 8 a ^^^ Zap 8 b).toNat)
def xorL (p q:List Int):List Int:=(Zay 16).map fun i=>xor8 (nth p i) (nth q i)
def BBv9:List Oper→Option ByteArray
 | []=>none
 | o::l=>match o.op with
  | .index _ (.const (.string s)) _=>some s
  |_=>BBv9 l
def strOf:Code→Option ByteArray
 | .region _ ops _=>BBv9 ops.toList
 | .seq x y=>match strOf x with
  |some s=>some s
  |none=>strOf y
 |_=>none
noncomputable def ANm9:ByteArray:=((Tryz.f205.body.bind strOf)).getD ByteArray.empty
theorem CBv9 (m:Int) (xs:List (List Dv)):wpFn prog ⟨[], [],wl,y,true⟩ 100 f90 [.agg [.d (i64 m), .d (.sl 1 xs)]] b R=(
 ∃x0 x1 x2 x3 x4 x5 x6 x7 x8 x9 x10 x11 x12 x13 x14 x15,
 List.map (fun r16=>Zae (List.headD r16 (Dv.s (Value.tuple {toList:= []})))) (List.take (16:Nat) xs)++
  List.drop (min (16:Nat) (Zab xs))
   [Zae (u8 (0:Int)),Zae (u8 (0:Int)),Zae (u8 (0:Int)),Zae (u8 (0:Int)),Zae (u8 (0:Int)),Zae (u8 (0:Int)),Zae (u8 (0:Int)),
    Zae (u8 (0:Int)),Zae (u8 (0:Int)),Zae (u8 (0:Int)),Zae (u8 (0:Int)),Zae (u8 (0:Int)),Zae (u8 (0:Int)),Zae (u8 (0:Int)),
    Zae (u8 (0:Int)),Zae (u8 (0:Int))]=
  [Zae (u8 x0),Zae (u8 x1),Zae (u8 x2),Zae (u8 x3),Zae (u8 x4),Zae (u8 x5),Zae (u8 x6),Zae (u8 x7),Zae (u8 x8),Zae (u8 x9),
   Zae (u8 x10),Zae (u8 x11),Zae (u8 x12),Zae (u8 x13),Zae (u8 x14),Zae (u8 x15)]∧
  BIf (decide (m≥(1:Int)))
   (BIf (decide (m<(65536:Int)))
    (R
     (AV.tup
      [Zbj
       [Zae (i64 m),Zae (u8 x0),Zae (u8 x1),Zae (u8 x2),Zae (u8 x3),Zae (u8 x4),Zae (u8 x5),Zae (u8 x6),Zae (u8 x7),Zae (u8 x8),
        Zae (u8 x9),Zae (u8 x10),Zae (u8 x11),Zae (u8 x12),Zae (u8 x13),Zae (u8 x14),Zae (u8 x15)],
       Zae (bo (↑(Zab xs)==(16:Int)))])
     b)
    (R
     (AV.tup
      [Zbj
       [Zae (i64 m),Zae (u8 x0),Zae (u8 x1),Zae (u8 x2),Zae (u8 x3),Zae (u8 x4),Zae (u8 x5),Zae (u8 x6),Zae (u8 x7),Zae (u8 x8),
        Zae (u8 x9),Zae (u8 x10),Zae (u8 x11),Zae (u8 x12),Zae (u8 x13),Zae (u8 x14),Zae (u8 x15)],
       Zae (bo false)])
     b))
   (R
    (AV.tup
     [Zbj
      [Zae (i64 m),Zae (u8 x0),Zae (u8 x1),Zae (u8 x2),Zae (u8 x3),Zae (u8 x4),Zae (u8 x5),Zae (u8 x6),Zae (u8 x7),Zae (u8 x8),
       Zae (u8 x9),Zae (u8 x10),Zae (u8 x11),Zae (u8 x12),Zae (u8 x13),Zae (u8 x14),Zae (u8 x15)],
      Zae (bo false)])
    b)):=by kernel_rfl
theorem BWn9 (p q:List Int):wpFn prog ⟨[], [],wl,y,true⟩ 100 f96 [.agg (AAy9 p), .agg (AAy9 q)] b R=R (.agg (AAy9 (xorL p q))) b:=by kernel_rfl
theorem CBs9 (m:Int) (p:List Int):wpFn prog ⟨[], [],wl,y,true⟩ 100 f94 [eqA m p] b R=R (.agg [.d (i64 m), .d (.sl 1 (AAb9 ((Zay 16).map (nth p))))]) b:=by kernel_rfl
theorem CBt9 (xs:List (List Dv)):wpFn prog ⟨[], [],wl,y,true⟩ 100 f93 [.d (.sl 2 xs)] b R=R (.fn (.func 151) [] [.rptr [.sl 2 xs]]) b:=by kernel_rfl
theorem CBp9 (x:Int):wpFn prog ⟨[], [],wl,y,true⟩ 100 f205 [.d (u64 x)] b R=(
 BIf (decide (x≥(4294967296:Int)))
 (BIf (decide (Zbz x (4294967296:Int)≥(65536:Int)))
  (BIf (decide (Zbz (Zbz x (4294967296:Int)) (65536:Int)≥(256:Int)))
   (BIf (decide ((0:Int)≤Zac Zcp (Zbz (Zbz (Zbz x (4294967296:Int)) (65536:Int)) (256:Int))))
    (∃c0,
     ANm9[Zat (Zac Zcp (Zbz (Zbz (Zbz x (4294967296:Int)) (65536:Int)) (256:Int)))]? =some c0∧
      R (Zae (i64 (Zac Zax ((56:Int)+Zac Zax ↑(Zef c0))))) b)
    False)
   (BIf (decide ((0:Int)≤Zac Zcp (Zbz (Zbz x (4294967296:Int)) (65536:Int))))
    (∃c7,
     ANm9[Zat (Zac Zcp (Zbz (Zbz x (4294967296:Int)) (65536:Int)))]? =some c7∧
      R (Zae (i64 (Zac Zax ((48:Int)+Zac Zax ↑(Zef c7))))) b)
    False))
  (BIf (decide (Zbz x (4294967296:Int)≥(256:Int)))
   (BIf (decide ((0:Int)≤Zac Zcp (Zbz (Zbz x (4294967296:Int)) (256:Int))))
    (∃c14,
     ANm9[Zat (Zac Zcp (Zbz (Zbz x (4294967296:Int)) (256:Int)))]? =some c14∧
      R (Zae (i64 (Zac Zax ((40:Int)+Zac Zax ↑(Zef c14))))) b)
    False)
   (BIf (decide ((0:Int)≤Zac Zcp (Zbz x (4294967296:Int))))
    (∃c21,
     ANm9[Zat (Zac Zcp (Zbz x (4294967296:Int)))]? =some c21∧
      R (Zae (i64 (Zac Zax ((32:Int)+Zac Zax ↑(Zef c21))))) b)
    False)))
 (BIf (decide (x≥(65536:Int)))
  (BIf (decide (Zbz x (65536:Int)≥(256:Int)))
   (BIf (decide ((0:Int)≤Zac Zcp (Zbz (Zbz x (65536:Int)) (256:Int))))
    (∃c28,
     ANm9[Zat (Zac Zcp (Zbz (Zbz x (65536:Int)) (256:Int)))]? =some c28∧
      R (Zae (i64 (Zac Zax ((24:Int)+Zac Zax ↑(Zef c28))))) b)
    False)
   (BIf (decide ((0:Int)≤Zac Zcp (Zbz x (65536:Int))))
    (∃c35,
     ANm9[Zat (Zac Zcp (Zbz x (65536:Int)))]? =some c35∧
      R (Zae (i64 (Zac Zax ((16:Int)+Zac Zax ↑(Zef c35))))) b)
    False))
  (BIf (decide (x≥(256:Int)))
   (BIf (decide ((0:Int)≤Zac Zcp (Zbz x (256:Int))))
    (∃c42,
     ANm9[Zat (Zac Zcp (Zbz x (256:Int)))]? =some c42∧
      R (Zae (i64 (Zac Zax ((8:Int)+Zac Zax ↑(Zef c42))))) b)
    False)
   (BIf (decide ((0:Int)≤Zac Zcp x))
    (∃c49,
     ANm9[Zat (Zac Zcp x)]? =some c49∧
      R (Zae (i64 (Zac Zax ((0:Int)+Zac Zax ↑(Zef c49))))) b)
    False)))):=by kernel_rfl
def nbits (n:Nat):Nat:=if n=0 then 0 else n.log2+1
def lead (m:Int):Int:=(2 ^ m.toNat.log2:Nat)
theorem BBu9:(Zay 256).map (fun i=>ANm9[i]?)=(Zay 256).map (fun i=>some (UInt8.ofNat (nbits i))):=by kernel_rfl
theorem AWa9 {i:Nat} (h:i<256):ANm9[i]? =some (UInt8.ofNat (nbits i)):=by
 have:=congrArg (fun l=>l[i]?) BBu9;simpa [h] using this
theorem BLy9 {n k:Nat} (h1:2 ^ k≤n) (h2:n<2 ^ (k+1)):n.log2=k:=by
 have h0:n≠0:=by have:=Nat.two_pow_pos k;omega
 have a:=(Nat.le_log2 h0).2 h1;have b:=(Nat.log2_lt h0).2 h2;omega
theorem AFr9 {n:Nat} (h:n≠0):2 ^ n.log2≤n∧n<2 ^ (n.log2+1):=⟨(Nat.le_log2 h).1 (Zas _),(Nat.log2_lt h).1 (Nat.lt_succ_self _)⟩
theorem AOo9 {n:Nat} (h:n<256):nbits n≤8:=by
 unfold nbits;split
 ·omega
 ·rename_i h0;have:n.log2<8:=(Nat.log2_lt h0).2 h;omega
theorem BIm9 {n:Nat} (h:256≤n):nbits n=8+nbits (n / 256):=by
 have h0:n / 256≠0:=by omega
 obtain ⟨h1,h2⟩:=AFr9 h0;have:n.log2=(n / 256).log2+8:=by
  refine BLy9 ?_ ?_
  ·rw [Nat.pow_add];omega
  ·rw [show (n / 256).log2+8+1=((n / 256).log2+1)+8 by omega,Nat.pow_add];omega
 unfold nbits;rw [if_neg (by omega),if_neg h0];omega
theorem pc41 (x:Int) (h0:0≤x) (h1:x<65536):PCall prog 205 [.d (u64 x)] (.d (i64 (nbits x.toNat))):=by
 refine Zbh (n:=100) (u:=true) mixed Zai Zad func205 (by rfl) (by rfl) fun Ev b=> ?_;rw [CBp9];refine BIf.f (by simp;omega) (BIf.f (by simp;omega) (Zau (fun h=> ?_) fun h=> ?_))
 ·have h:256≤x:=by simpa using h
  have e:Zbz x 256=x / 256:=by rw [Int.fdiv_eq_ediv_of_nonneg _ (by omega)]
  rw [e,BBc9 (by omega) (by omega)];refine Zbr (by simp;omega) ⟨_,AWa9 (by omega), ?_⟩;have e2:(x / 256).toNat=x.toNat / 256:=by omega
  have h3:=AOo9 (n:=x.toNat / 256) (by omega);have h4:nbits x.toNat=8+nbits (x.toNat / 256):=BIm9 (by omega);rw [e2];have e3:(((UInt8.ofNat (nbits (x.toNat / 256))).toNat:Nat):Int)=nbits (x.toNat / 256):=by
   simp;omega
  rw [e3,AAt9 (x:=(nbits (x.toNat / 256):Int)) (by omega) (by omega),AAt9 (by omega) (by omega),h4];simp
 ·have h:x<256:=by simpa using h
  rw [BBc9 (by omega) (by omega)];refine Zbr (by simp;omega) ⟨_,AWa9 (by omega), ?_⟩;have h3:=AOo9 (n:=x.toNat) (by omega);have e3:(((UInt8.ofNat (nbits x.toNat)).toNat:Nat):Int)=nbits x.toNat:=by
   simp;omega
  rw [e3,AAt9 (x:=(nbits x.toNat:Int)) (by omega) (by omega),AAt9 (by omega) (by omega)];simp
def c41 (args:List AV) (K:AV→Prop):Prop:=∃x:Int,args= [.d (u64 x)]∧(0≤x∧x<65536)∧K (.d (i64 (nbits x.toNat)))
theorem CCn9:∀args K,c41 args K→∃x,PCall prog 205 args x∧K x:=by
 rintro _ K ⟨x,rfl,⟨h0,h1⟩,h⟩;exact ⟨_,pc41 x h0 h1,h⟩
theorem CBq9 {β:Type} (wl:WLT β) (y:ACx9 β) (b:β) (R:AV→β→Prop) (x:Int):wpFn prog ⟨[(205,c41)], [],wl,y,true⟩ 100 f152 [.d (u64 x)] b R=
 (∃x':Int, [Zae (u64 x)]= [Zae (u64 x')]∧(0≤x'∧x'<65536)∧R (.d (i64 (nbits x'.toNat))) b):=by kernel_rfl
theorem pc39 (x:Int) (h0:0≤x) (h1:x<65536):PCall prog 152 [.d (u64 x)] (.d (i64 (nbits x.toNat))):=by
 refine Zbh (n:=100) (u:=true) mixed (Zag CCn9 Zai) Zad func152 (by rfl) (by rfl) fun Ev b=> ?_;rw [CBq9];exact ⟨x,rfl,⟨h0,h1⟩,rfl⟩
def c39 (args:List AV) (K:AV→Prop):Prop:=∃x:Int,args= [.d (u64 x)]∧(0≤x∧x<65536)∧K (.d (i64 (nbits x.toNat)))
theorem CCo9:∀args K,c39 args K→∃x,PCall prog 152 args x∧K x:=by
 rintro _ K ⟨x,rfl,⟨h0,h1⟩,h⟩;exact ⟨_,pc39 x h0 h1,h⟩
theorem CBr9 {β:Type} (wl:WLT β) (y:ACx9 β) (b:β) (R:AV→β→Prop) (m:Int) (p:List Int):wpFn prog ⟨[(152,c39)], [],wl,y,true⟩ 100 f95 [eqA m p] b R=
 (∃x:Int, [Zae (u64 (Zac .u64 m))]= [Zae (u64 x)]∧(0≤x∧x<65536)∧BIf (decide ((nbits x.toNat:Int)<0)) False (R (.d (i64 (Zbz (Zac .i64 (1*2 ^ min (Zat (nbits x.toNat)) 64)) 2))) b)):=by kernel_rfl
theorem pc32 (m:Int) (p:List Int) (h0:1≤m) (h1:m<65536):PCall prog 95 [eqA m p] (.d (i64 (lead m))):=by
 refine Zbh (n:=100) (u:=true) mixed (Zag CCo9 Zai) Zad func95 (by rfl) (by rfl) fun Ev b=> ?_;rw [CBr9];rw [AGc9 (by omega) (by omega)];refine ⟨m,rfl,⟨by omega,h1⟩,BIf.f (by simp) ?_⟩;have hn:m.toNat≠0:=by omega
 have hl:m.toNat.log2<16:=(Nat.log2_lt hn).2 (by omega);have e:nbits m.toNat=m.toNat.log2+1:=by unfold nbits;rw [if_neg hn]
 have e2:min (Zat (nbits m.toNat)) 64=m.toNat.log2+1:=by rw [e];omega
 rw [e2];have h2:2 ^ m.toNat.log2≤m.toNat:=(AFr9 hn).1;have h3:(1:Int)*2 ^ (m.toNat.log2+1)=((2 ^ m.toNat.log2:Nat):Int)*2:=by
  rw [Int.one_mul,Int.pow_succ];simp
 rw [h3];unfold lead;generalize 2 ^ m.toNat.log2=z at h2;rw [AAt9 (by omega) (by omega),Int.fdiv_eq_ediv_of_nonneg _ (by omega)];congr 4;omega
def c32 (args:List AV) (K:AV→Prop):Prop:=∃(m:Int) (p:List Int),args= [eqA m p]∧(1≤m∧m<65536)∧K (.d (i64 (lead m)))
theorem BXm9:∀args K,c32 args K→∃x,PCall prog 95 args x∧K x:=by
 rintro _ K ⟨m,p,rfl,⟨h0,h1⟩,h⟩;exact ⟨_,pc32 m p h0 h1,h⟩
theorem pc33 (p q:List Int):PCall prog 96 [.agg (AAy9 p), .agg (AAy9 q)] (.agg (AAy9 (xorL p q))):=by
 refine Zbh (n:=100) (u:=true) mixed Zai Zad func96 (by rfl) (by rfl) fun Ev b=> ?_;rw [BWn9]
def c33 (args:List AV) (K:AV→Prop):Prop:=∃(p q r:List Int),args= [.agg (AAy9 p), .agg (AAy9 q)]∧r=xorL p q∧K (.agg (AAy9 r))
theorem BXl9:∀args K,c33 args K→∃x,PCall prog 96 args x∧K x:=by
 rintro _ K ⟨p,q,_,rfl,rfl,h⟩;exact ⟨_,pc33 p q,h⟩
theorem pc31 (m:Int) (p:List Int):PCall prog 94 [eqA m p] (rowA m ((Zay 16).map (nth p))):=by
 refine Zbh (n:=100) (u:=true) mixed Zai Zad func94 (by rfl) (by rfl) fun Ev b=> ?_;rw [CBs9];rfl
def b16 (p:List Int):List Int:=(Zay 16).map (nth p)
def c31 (args:List AV) (K:AV→Prop):Prop:=∃(m:Int) (p:List Int) (q:List (List Dv)),args= [eqA m p]∧q=AAb9 (b16 p)∧K (.agg [.d (i64 m), .d (.sl 1 q)])
theorem CCp9:∀args K,c31 args K→∃x,PCall prog 94 args x∧K x:=by
 rintro _ K ⟨m,p,_,rfl,rfl,h⟩;exact ⟨_,pc31 m p,h⟩
theorem BIi9 (b:List Int) (z:Dv):(List.map (fun r=>Zae (List.headD r z)) ((AAb9 b).take 16))++(AAy9 []).drop (min 16 (AAb9 b).length)=AAy9 (pad b):=by
 have hz:AAy9 []=(Zaf 16 (0:Int)).map fun x=>Zae (u8 x):=rfl;have hc:AAy9 (pad b)=(pad b).map fun x=>Zae (u8 x):=by
  have hl:(pad b).length=16:=by simp [pad]
  unfold AAy9;apply List.ext_getElem
  ·simp [hl]
  ·intro i h1 h2;simp only [List.getElem_map,List.getElem_range,nth];rw [List.getD_eq_getElem?_getD,Zbk (by simpa using h2)];rfl
 rw [hz,hc];unfold pad AAb9;rw [List.take_append,←List.map_take,List.map_map,←List.map_drop,List.map_append];congr 1;congr 1;rw [List.length_map,List.drop_replicate,List.take_replicate];congr 1;omega
theorem pc28 (m:Int) (b:List Int):PCall prog 90 [rowA m b] (.tup [eqA m (pad b), .d (bo (fine m b))]):=by
 refine Zbh (n:=100) (u:=true) mixed Zai Zad func90 (by rfl) (by rfl) fun Ev bb=> ?_;rw [rowA,CBv9];refine ⟨_,_,_,_,_,_,_,_,_,_,_,_,_,_,_,_,BIi9 b _,Zau (fun h1=>Zau (fun h2=> ?_) fun h2=> ?_) fun h1=> ?_⟩
 ·have:fine m b=((b.length:Int)==16):=by simp [fine,h1,h2]
  rw [this];simp [AAb9];rfl
 ·have:fine m b=false:=by simp [fine,h2]
  rw [this];rfl
 ·have:fine m b=false:=by simp [fine,h1]
  rw [this];rfl
def c28 (args:List AV) (K:AV→Prop):Prop:=∃(m:Int) (b:List Int),args= [rowA m b]∧K (.tup [eqA m (pad b), .d (bo (fine m b))])
theorem BKm9:∀args K,c28 args K→∃x,PCall prog 90 args x∧K x:=by
 rintro _ K ⟨m,p,rfl,h⟩;exact ⟨_,pc28 m p,h⟩
abbrev Row:=Int×List Int
def rowD (r:Row):List Dv:= [i64 r.1, .sl 1 (AAb9 r.2)]
def rowsR (l:List Row):List (List Dv):=l.map rowD
def item (r:Row):List AV:= [eqA r.1 (pad r.2), .d (bo (fine r.1 r.2))]
noncomputable def lp38:Code:=CAs9 (inBlock (BYy9 (code f151)))
theorem BJj9:code f151= .seq (BMk9 (code f151)) (.block 0 (.loop lp38)):=by kernel_rfl
def tm38 (xs:List (List Dv)) (n k:Int):List AV:= [.yl, .rptr [.sl 2 xs], .bad, .bad, .bad, .d (.sl 2 xs), .d (i64 n), .d (i64 k)]++Zaf 11 .bad
theorem f38_0 (xs:List (List Dv)):wpc prog ⟨[(90,c28)], [],wl,y,true⟩ 100 (BMk9 (code f151)) (AAw9 f151 [.yl, .rptr [.sl 2 xs]]) [] b K=K .normal (tm38 xs xs.length 0) [] b:=by kernel_rfl
theorem AXm9 (xs:List (List Dv)) (n k:Int):wpc prog ⟨[(90,c28)], [],wl,y,true⟩ 100 lp38 (tm38 xs n k) [] b (maskK 0 [0,1,5,6,7] K)=
 BIf (decide (k<n)) (BIf (true&&decide (0≤k))
  (∃x0 xs1,xs[k.toNat]? =some [i64 x0, .sl 1 xs1]∧∃m b5, [Zbj [.d (i64 x0), .d (.sl 1 xs1)]]= [rowA m b5]∧
   y b [eqA m (pad b5), .d (bo (fine m b5))] fun c b'=>BIf (!c) (K .ret (tm38 xs n k) [] b') (K .normal (tm38 xs n (Zac .i64 (k+1))) [] b')) False)
 (K (.exit 0) (tm38 xs n k) [] b):=by kernel_rfl
theorem wr38 {Ev:Env prog} {QQ:Ev.β→Prop} (l:List Row) (hl:l.length≤9223372036854775807):∀(rest:List Row) (k:Nat) (b:Ev.β),l.drop k=rest→YList Ev.Y (rest.map item) b QQ→
 WR Ev lp38 (rest.length+1) ⟨tm38 (rowsR l) l.length k, [],b⟩ (fun e s=>(e= .exit 0∨e= .ret)∧QQ s.b)
 | [],k,b,hd,hY=>by
  refine WR.ofMask [0,1,5,6,7] mixed (CX.Ok.of (u:=true) (Zag BKm9 Zai) Zad) (k:=100) ?_;show wpc _ _ _ _ _ _ _ (maskK 0 _ _);rw [AXm9];have:l.length≤k:=List.drop_eq_nil_iff.1 hd;exact BIf.f (by simpa using this) ⟨.inl rfl,hY⟩
 | r::rest,k,b,hd,hY=>by
  refine WR.ofMask [0,1,5,6,7] mixed (CX.Ok.of (u:=true) (Zag BKm9 Zai) Zad) (k:=100) ?_;show wpc _ _ _ _ _ _ _ (maskK 0 _ _);rw [AXm9];have hk:k<l.length:=by
   rcases Nat.lt_or_ge k l.length with h|h
   ·exact h
   ·rw [List.drop_eq_nil_of_le h] at hd;cases hd
  have hr:l[k]? =some r:=by
   have:=congrArg (fun x=>x[0]?) hd;simpa using this
  have hd':l.drop (k+1)=rest:=by
   have:=congrArg List.tail hd;simpa using this
  refine Zbr (by simpa using hk) (Zbr (by simp) ⟨r.1,AAb9 r.2,by simp [rowsR,hr,rowD],r.1,r.2,rfl, ?_⟩);simp only [List.map_cons,YList] at hY;refine Ev.Ymono hY fun c b' h=> ?_;cases c with
  |false=>exact ⟨.inr rfl,h⟩
  | true=>
   have e:Zac .i64 ((k:Int)+1)=((k+1:Nat):Int):=by rw [AAt9 (by omega) (by omega)];simp
   show WR Ev lp38 _ _ _;rw [e];exact wr38 l hl rest (k+1) b' hd' h
theorem ic38 (l:List Row) (hl:l.length≤9223372036854775807):ICall prog 151 [.yl, .rptr [.sl 2 (rowsR l)]] (fun Y b Q=>YList Y (l.map item) b Q):=by
 refine ICall.ofW (c:=code f151) func151 (by rfl) (by rfl) fun Ev b Q hQ=> ?_;rw [BJj9];refine W.seq (AAo9 mixed (CX.Ok.of (u:=true) (Zag BKm9 Zai) Zad) (n:=100) ((f38_0 ..).symm▸ ?_) (fun e tm hp b h=>h));rw [show (((rowsR l).length:Nat):Int)=(l.length:Int) by simp [rowsR]];refine W.block (W.mono (W.rounds (wr38 l hl l 0 b rfl hQ)) fun e s h=> ?_);obtain ⟨rfl|rfl,h⟩:=h
 ·exact ⟨.inr rfl, [],rfl,h⟩
 ·exact ⟨.inl rfl, [],rfl,h⟩
theorem pc30 (xs:List (List Dv)):PCall prog 93 [.d (.sl 2 xs)] (.fn (.func 151) [] [.rptr [.sl 2 xs]]):=by
 refine Zbh (n:=100) (u:=true) mixed Zai Zad func93 (by rfl) (by rfl) fun Ev bb=> ?_;rw [CBt9]
def c30 (args:List AV) (K:AV→Prop):Prop:=∃xs,args= [.d (.sl 2 xs)]∧K (.fn (.func 151) [] [.rptr [.sl 2 xs]])
theorem BXn9:∀args K,c30 args K→∃x,PCall prog 93 args x∧K x:=by
 rintro _ K ⟨xs,rfl,h⟩;exact ⟨_,pc30 xs,h⟩
def and64 (a b:Int):Int:=Zac .i64 ((Zap 64 a&&&Zap 64 b).toNat:Nat)
def or64 (a b:Int):Int:=Zac .i64 ((Zap 64 a|||Zap 64 b).toNat:Nat)
def xor64 (a b:Int):Int:=Zac .i64 ((Zap 64 a ^^^ Zap 64 b).toNat:Nat)
def bq (m:Int) (p:List Int):Blk:=⟨.d (i64 m)::AAy9 p,false,false,0⟩
abbrev ABi9 (r:Row):Prop:=1≤r.1∧r.1<65536
def red (x:Row) (r:Row):Row:=if and64 x.1 (lead r.1) !=0 then (xor64 x.1 r.1,xorL x.2 (pad r.2)) else x
noncomputable def rf29:Code:=sub [1,0,1,2] (code f92)
theorem BCk9:rf29= .rangeFunc (.tmp 7) #[8,9] (AAm9 rf29) (ABp9 rf29):=by kernel_rfl
def tm29 (xs:List (List Dv)):List AV:= [.bad, .bad, .bad, .ptr 0 0, .ptr 1 0, .bad, .bad, .fn (.func 151) [] [.rptr [.sl 2 xs]]]++Zaf 20 .bad
abbrev T29:List (Nat×(List AV→(AV→Prop)→Prop)):= [(93,c30),(95,c32),(96,c33)]
theorem BGo9:AAk9 prog T29:=Zag BXn9 (Zag BXm9 (Zag BXl9 Zai))
def wl29 {β:Type}:WLT β:=fun c tm hp b K=>∃(l:List Row) (x:Row),c=rf29∧ABo9 [3,4,7] 0 tm=tm29 (rowsR l)∧hp= [bq x.1 x.2,bq 0 []]∧((∀r∈l,ABi9 r)∧l.length≤9223372036854775807)∧
 K .normal (tm29 (rowsR l)) [bq (l.foldl red x).1 (l.foldl red x).2,bq 0 []] b
theorem BJk9 (xs:List (List Dv)) (m m0:Int) (p p0:List Int) (f:Bool):wpcY prog ⟨T29, [],wl,y,false⟩ 100 #[8,9] (AAm9 rf29) (ABp9 rf29) (tm29 xs) [eqA m p, .d (bo f)] [bq m0 p0,bq 0 []] b (takeK 2 Kh)=
 (∃m1 p1, [eqA m p]= [eqA m1 p1]∧(1≤m1∧m1<65536)∧BIf (and64 m0 (lead m1) !=0)
  (∃p2 q3 r4, [Zbj (AAy9 p0), .agg (AAy9 p)]= [.agg (AAy9 p2), .agg (AAy9 q3)]∧r4=xorL p2 q3∧Kh .normal [bq (xor64 m0 m) r4,bq 0 []] b) (Kh .normal [bq m0 p0,bq 0 []] b)):=by kernel_rfl
theorem CBu9 (xs:List (List Dv)) (m:Int) (p:List Int):wpFn prog ⟨T29, [],wl29,y,false⟩ 100 f92 [.d (.sl 2 xs),eqA m p] b R=
 (∃xs0, [Zae (.sl 2 xs)]= [Zae (.sl 2 xs0)]∧∃(l:List Row) (x:Row),rf29=rf29∧tm29 xs0=tm29 (rowsR l)∧ [bq m p,bq 0 []]= [bq x.1 x.2,bq 0 []]∧((∀r∈l,ABi9 r)∧l.length≤9223372036854775807)∧
  R (eqA (l.foldl red x).1 (l.foldl red x).2) b):=by kernel_rfl
theorem BCv9 {Ev:Env prog} {b:Ev.β} {Q:Exit→St Ev.β→Prop} (xs:List (List Dv)):∀(l:List Row) (x:Row),(∀r∈l,ABi9 r)→Q .normal ⟨tm29 xs, [bq (l.foldl red x).1 (l.foldl red x).2,bq 0 []],b⟩→
 YList (YBody Ev (tm29 xs) #[8,9] (AAm9 rf29) (ABp9 rf29) 2) (l.map item) ([bq x.1 x.2,bq 0 []],b,none) (ADq9 (tm29 xs) Q)
 | [],x,_,h=>h
 | r::l,x,hok,h=>by
  refine YList.step (X:=⟨T29, [],wlW Ev,Ev.Y,false⟩) (k:=100) mixed (CX.Ok.of BGo9 Zad) rfl ?_;show wpcY _ _ _ _ _ _ _ [eqA _ _, .d (bo _)] [bq _ _,bq 0 []] b (takeK 2 _);rw [BJk9];refine ⟨r.1,pad r.2,rfl,hok r (Zbb ..),Zau (fun hc=>⟨x.2,pad r.2,_,rfl,rfl, ?_⟩) fun hc=> ?_⟩
  ·refine BCv9 xs l (xor64 x.1 r.1,xorL x.2 (pad r.2)) (fun r' hr=>hok r' (Zaw _ hr)) ?_;have:red x r=(xor64 x.1 r.1,xorL x.2 (pad r.2)):=by unfold red;rw [if_pos hc]
   rw [Zbl,this] at h;exact h
  ·refine BCv9 xs l x (fun r' hr=>hok r' (Zaw _ hr)) ?_;have:red x r=x:=by unfold red;rw [if_neg (by simp [hc])]
   rw [Zbl,this] at h;exact h
theorem BTr9 {Ev:Env prog} (c:Code) (tm:List AV) (hp:List Blk) (b:Ev.β) (K:Exit→List AV→List Blk→Ev.β→Prop) (h:wl29 c tm hp b K):W Ev c ⟨tm,hp,b⟩ (fun e s=>K e s.tm s.hp s.b):=by
 obtain ⟨l,x,rfl,htm,rfl,hpre,hK⟩:=h;refine W.cast (htm▸AAg9 [3,4,7] tm 0) (LeH.refl _) ?_;rw [BCk9];exact W.range (s:=⟨tm29 (rowsR l),_,b⟩) (k:=151) (first:= []) (caps:= [.rptr [.sl 2 (rowsR l)]]) rfl rfl rfl (ic38 l hpre.2) (BCv9 (rowsR l) l x hpre.1 hK)
theorem pc29 (l:List Row) (m:Int) (p:List Int) (h1:∀r∈l,ABi9 r) (h2:l.length≤9223372036854775807):PCall prog 92 [.d (.sl 2 (rowsR l)),eqA m p] (eqA (l.foldl red (m,p)).1 (l.foldl red (m,p)).2):=by
 refine PCall.ofFnW (n:=100) (u:=false) (fun _=>wl29) mixed BGo9 Zad (fun Ev=>BTr9) func92 (by rfl) (by rfl) fun Ev bb=> ?_;rw [CBu9];exact ⟨_,rfl,l,(m,p),rfl,rfl,rfl,⟨h1,h2⟩,rfl⟩
def c29 (args:List AV) (K:AV→Prop):Prop:=∃(l:List Row) (m:Int) (p:List Int) (x:Row),args= [.d (.sl 2 (rowsR l)),eqA m p]∧((∀r∈l,ABi9 r)∧l.length≤9223372036854775807)∧x=l.foldl red (m,p)∧K (eqA x.1 x.2)
theorem CCq9:∀args K,c29 args K→∃x,PCall prog 92 args x∧K x:=by
 rintro _ K ⟨l,m,p,_,rfl,⟨h1,h2⟩,rfl,h⟩;exact ⟨_,pc29 l m p h1 h2,h⟩
abbrev cell (x:Dv):Blk:=⟨[.d x],false,false,0⟩
def vA:List Row→Int×Int→(Int×Int)×Bool
 | [],s=>(s,true)
 |r::l,s=>if fine r.1 r.2&&decide (lead r.1<s.2) then vA l (or64 s.1 (lead r.1),lead r.1) else (s,false)
def vB (L:Int) (l:List Row):Bool:=l.all fun r=>and64 r.1 L==lead r.1
def AEs9 (l:List Row):Bool:=(vA l (0,65536)).2&&vB (vA l (0,65536)).1.1 l
theorem AJa9 {r:Row} (h:fine r.1 r.2=true):ABi9 r:=by
 simp only [fine,Zal,decide_eq_true_eq] at h;exact ⟨h.1,h.2.1⟩
theorem vA_ok:∀ {l:List Row} {s:Int×Int},(vA l s).2=true→∀r∈l,fine r.1 r.2=true
 | [],_,_,r,hr=>by cases hr
 | r0::l,s,h,r,hr=>by
  simp only [vA] at h;split at h
  ·rename_i hc;simp only [Zal] at hc;rcases Zbx.1 hr with rfl|hr
   ·exact hc.1
   ·exact vA_ok h r hr
  ·cases h
noncomputable def rf20a:Code:=sub [1,1,0,1,2] (code f91)
noncomputable def rf20b:Code:=sub [1,1,1,0,1,2] (code f91)
theorem AZd9:rf20a= .rangeFunc (.tmp 9) #[10,11] (AAm9 rf20a) (ABp9 rf20a):=by kernel_rfl
theorem AZc9:rf20b= .rangeFunc (.tmp 26) #[27,28] (AAm9 rf20b) (ABp9 rf20b):=by kernel_rfl
def tm20a (xs:List (List Dv)):List AV:= [.d (.sl 2 xs), .bad, .ptr 0 0, .ptr 1 0, .ptr 2 0, .bad, .bad, .bad, .bad, .fn (.func 151) [] [.rptr [.sl 2 xs]]]++Zaf 26 .bad
def tm20b (xs:List (List Dv)):List AV:= [.bad, .bad, .ptr 0 0, .ptr 1 0, .ptr 2 0]++Zaf 21 .bad++ [.fn (.func 151) [] [.rptr [.sl 2 xs]]]++Zaf 9 .bad
def hp20 (v:Bool) (s:Int×Int):List Blk:= [cell (bo v),cell (i64 s.1),cell (i64 s.2)]
def wl20 {β:Type}:WLT β:=fun c tm hp b K=>match cidO c with
 | 4 =>∃(l:List Row) (s:Int×Int),c=rf20a∧ABo9 [0,2,3,4,9] 0 tm=tm20a (rowsR l)∧hp=hp20 false s∧l.length≤9223372036854775807∧
  BIf (vA l s).2 (K .normal (tm20a (rowsR l)) (hp20 false (vA l s).1) b) (K .ret (tm20a (rowsR l)) (hp20 false (vA l s).1) b)
 |11=>∃(l:List Row) (s:Int×Int),c=rf20b∧ABo9 [2,3,4,26] 0 tm=tm20b (rowsR l)∧hp=hp20 false s∧((∀r∈l,ABi9 r)∧l.length≤9223372036854775807)∧
  BIf (vB s.1 l) (K .normal (tm20b (rowsR l)) (hp20 false s) b) (K .ret (tm20b (rowsR l)) (hp20 false s) b)
 |_=>False
theorem BEq9 (xs:List (List Dv)) (m:Int) (p:List Int) (f:Bool) (L P:Int):wpcY prog ⟨T29, [],wl,y,false⟩ 100 #[10,11] (AAm9 rf20a) (ABp9 rf20a) (tm20a xs) [eqA m p, .d (bo f)] [cell (bo false),cell (i64 L),cell (i64 P)] b (takeK 3 Kh)=(
 BIf (!f) (Kh Exit.ret [cell (bo false),cell (i64 L),cell (i64 P)] b)
 (∃m0 p1,
  [eqA m p]= [eqA m0 p1]∧
   ((1:Int)≤m0∧m0<(65536:Int))∧
    BIf (decide (lead m0≥P)) (Kh Exit.ret [cell (bo false),cell (i64 L),cell (i64 P)] b)
     (∃m2 p3,
      [eqA m p]= [eqA m2 p3]∧
       ((1:Int)≤m2∧m2<(65536:Int))∧
        Kh Zeh
         [cell (bo false),cell (i64 (Zac Zax ↑(BitVec.toNat (Zap (64:Nat) L|||Zap (64:Nat) (lead m2))))),
          cell (i64 (lead m2))]
         b))):=by kernel_rfl
theorem BEp9 (xs:List (List Dv)) (m:Int) (p:List Int) (f:Bool) (L P:Int):wpcY prog ⟨T29, [],wl,y,false⟩ 100 #[27,28] (AAm9 rf20b) (ABp9 rf20b) (tm20b xs) [eqA m p, .d (bo f)] [cell (bo false),cell (i64 L),cell (i64 P)] b (takeK 3 Kh)=(
 ∃m0 p1,
 [eqA m p]= [eqA m0 p1]∧
  ((1:Int)≤m0∧m0<(65536:Int))∧
   BIf (Zac Zax ↑(BitVec.toNat (Zap (64:Nat) m&&&Zap (64:Nat) L)) !=lead m0)
    (Kh Exit.ret [cell (bo false),cell (i64 L),cell (i64 P)] b) (Kh Zeh [cell (bo false),cell (i64 L),cell (i64 P)] b)):=by kernel_rfl
theorem CBw9 (xs:List (List Dv)):wpFn prog ⟨T29, [],wl20,y,false⟩ 100 f91 [.d (.sl 2 xs)] b R=(
 ∃xs0,
 [Zae (Zam (2:Nat) xs)]= [Zae (Zam (2:Nat) xs0)]∧
  ∃ l1 s2,
   rf20a=rf20a∧
    [Zae (Zam (2:Nat) xs),bad,Zbe (0:Nat) (0:Nat),Zbe (1:Nat) (0:Nat),Zbe (2:Nat) (0:Nat),bad,bad,bad,bad,
     AV.fn (Fn.func (151:Nat)) [] [AV.rptr [Zam (2:Nat) xs0]],bad,bad,bad,bad,bad,bad,bad,bad,bad,bad,
     Zba,bad,bad,bad,bad,bad,bad,bad,bad,bad,bad,bad,bad,bad,bad,bad]=
     [Zae (Zam (2:Nat) (rowsR l1)),bad,Zbe (0:Nat) (0:Nat),Zbe (1:Nat) (0:Nat),Zbe (2:Nat) (0:Nat),bad,bad,
      Zba,bad,AV.fn (Fn.func (151:Nat)) [] [AV.rptr [Zam (2:Nat) (rowsR l1)]],bad,bad,bad,bad,bad,bad,bad,
      Zba,bad,bad,bad,bad,bad,bad,bad,bad,bad,bad,bad,bad,bad,bad,bad,bad,bad,
      Zba]∧
     [cell (bo false),cell (i64 (0:Int)),cell (i64 (65536:Int))]= [cell (bo false),cell (i64 (Zdz s2)),cell (i64 (Prod.snd s2))]∧
      Zab l1≤(9223372036854775807:Nat)∧
       BIf (Prod.snd (vA l1 s2))
        (∃xs3,
         [Zae (Zam (2:Nat) (rowsR l1))]= [Zae (Zam (2:Nat) xs3)]∧
          ∃ l4 s5,
           rf20b=rf20b∧
            [bad, bad,Zbe (0:Nat) (0:Nat),Zbe (1:Nat) (0:Nat),Zbe (2:Nat) (0:Nat),bad,bad,bad,bad,
             Zba,bad,bad,bad,bad,bad,bad,bad,bad,bad,bad,bad,bad,bad,bad,bad,
             Zba,AV.fn (Fn.func (151:Nat)) [] [AV.rptr [Zam (2:Nat) xs3]],bad,bad,bad,bad,bad,bad,bad,
             Zba,bad]=
             [bad,bad,Zbe (0:Nat) (0:Nat),Zbe (1:Nat) (0:Nat),Zbe (2:Nat) (0:Nat),bad,bad,bad,bad,
              Zba,bad,bad,bad,bad,bad,bad,bad,bad,bad,bad,bad,bad,bad,bad,bad,
              Zba,AV.fn (Fn.func (151:Nat)) [] [AV.rptr [Zam (2:Nat) (rowsR l4)]],bad,bad,bad,bad,bad,bad,
              Zba,bad,bad]∧
             [cell (bo false),cell (i64 (Zdz (Zdz (vA l1 s2)))),cell (i64 (Prod.snd (Zdz (vA l1 s2))))]=
              [cell (bo false),cell (i64 (Zdz s5)),cell (i64 (Prod.snd s5))]∧
              ((∀(r:Row),r∈l4→(1:Int)≤Zdz r∧Zdz r<(65536:Int))∧Zab l4≤(9223372036854775807:Nat))∧
               BIf (vB (Zdz s5) l4) (R (Zae (bo true)) b) (R (Zae (bo false)) b))
        (R (Zae (bo false)) b)):=by kernel_rfl
theorem BCx9 {Ev:Env prog} {b:Ev.β} {Q:Exit→St Ev.β→Prop} (xs:List (List Dv)):∀(l:List Row) (s:Int×Int),
 BIf (vA l s).2 (Q .normal ⟨tm20a xs,hp20 false (vA l s).1,b⟩) (Q .ret ⟨tm20a xs,hp20 false (vA l s).1,b⟩)→
 YList (YBody Ev (tm20a xs) #[10,11] (AAm9 rf20a) (ABp9 rf20a) 3) (l.map item) (hp20 false s,b,none) (ADq9 (tm20a xs) Q)
 | [],s,h=>h
 | r::l,s,h=>by
  refine YList.step (X:=⟨T29, [],wlW Ev,Ev.Y,false⟩) (k:=100) mixed (CX.Ok.of BGo9 Zad) rfl ?_;show wpcY _ _ _ _ _ _ _ [eqA _ _, .d (bo _)] [cell (bo false),cell (i64 _),cell (i64 _)] b (takeK 3 _);rw [BEq9];simp only [vA] at h;refine Zau (fun hf=> ?_) fun hf=> ?_
  ·have hf:fine r.1 r.2=false:=by simpa using hf
   rw [hf] at h;exact h
  ·have hf:fine r.1 r.2=true:=by simpa using hf
   have hm:=AJa9 hf;refine ⟨_,_,rfl,hm,Zau (fun hc=> ?_) fun hc=>⟨_,_,rfl,hm, ?_⟩⟩
   ·rw [if_neg (by simp only [ge_iff_le,decide_eq_true_eq] at hc;simp [hf];omega)] at h;exact h
   ·rw [if_pos (by simp only [ge_iff_le,decide_eq_false_iff_not] at hc;simp [hf];omega)] at h;exact BCx9 xs l (or64 s.1 (lead r.1),lead r.1) h
theorem BCw9 {Ev:Env prog} {b:Ev.β} {Q:Exit→St Ev.β→Prop} (xs:List (List Dv)) (s:Int×Int):∀(l:List Row),(∀r∈l,ABi9 r)→
 BIf (vB s.1 l) (Q .normal ⟨tm20b xs,hp20 false s,b⟩) (Q .ret ⟨tm20b xs,hp20 false s,b⟩)→
 YList (YBody Ev (tm20b xs) #[27,28] (AAm9 rf20b) (ABp9 rf20b) 3) (l.map item) (hp20 false s,b,none) (ADq9 (tm20b xs) Q)
 | [],_,h=>h
 | r::l,hok,h=>by
  refine YList.step (X:=⟨T29, [],wlW Ev,Ev.Y,false⟩) (k:=100) mixed (CX.Ok.of BGo9 Zad) rfl ?_;show wpcY _ _ _ _ _ _ _ [eqA _ _, .d (bo _)] [cell (bo false),cell (i64 _),cell (i64 _)] b (takeK 3 _);rw [BEp9];refine ⟨_,_,rfl,hok r (Zbb ..),Zau (fun hc=> ?_) fun hc=> ?_⟩
  ·change (and64 r.1 s.1 !=lead r.1)=true at hc;have:vB s.1 (r::l)=false:=by
    simp only [vB,List.all_cons];rw [show (and64 r.1 s.1==lead r.1)=false by simpa [bne] using hc];rfl
   rw [this] at h;exact h
  ·change (and64 r.1 s.1 !=lead r.1)=false at hc;refine BCw9 xs s l (fun r' hr=>hok r' (Zaw _ hr)) ?_;have:vB s.1 (r::l)=vB s.1 l:=by
    simp only [vB,List.all_cons];rw [show (and64 r.1 s.1==lead r.1)=true by simpa [bne] using hc];rfl
   rw [this] at h;exact h
theorem BTs9 {Ev:Env prog} (c:Code) (tm:List AV) (hp:List Blk) (b:Ev.β) (K:Exit→List AV→List Blk→Ev.β→Prop) (h:wl20 c tm hp b K):W Ev c ⟨tm,hp,b⟩ (fun e s=>K e s.tm s.hp s.b):=by
 unfold wl20 at h;split at h
 ·obtain ⟨l,s,rfl,htm,rfl,hpre,hK⟩:=h;refine W.cast (htm▸AAg9 _ tm 0) (LeH.refl _) ?_;rw [AZd9];exact W.range (s:=⟨tm20a (rowsR l),_,b⟩) (k:=151) (first:= []) (caps:= [.rptr [.sl 2 (rowsR l)]]) rfl rfl rfl (ic38 l hpre) (BCx9 (rowsR l) l s hK)
 ·obtain ⟨l,s,rfl,htm,rfl,hpre,hK⟩:=h;refine W.cast (htm▸AAg9 _ tm 0) (LeH.refl _) ?_;rw [AZc9];exact W.range (s:=⟨tm20b (rowsR l),_,b⟩) (k:=151) (first:= []) (caps:= [.rptr [.sl 2 (rowsR l)]]) rfl rfl rfl (ic38 l hpre.2) (BCw9 (rowsR l) s l hpre.1 hK)
 ·exact h.elim
theorem pc20 (l:List Row) (hl:l.length≤9223372036854775807):PCall prog 91 [.d (.sl 2 (rowsR l))] (.d (bo (AEs9 l))):=by
 refine PCall.ofFnW (n:=100) (u:=false) (fun _=>wl20) mixed BGo9 Zad (fun Ev=>BTs9) func91 (by rfl) (by rfl) fun Ev bb=> ?_;rw [CBw9];refine ⟨_,rfl,l,(0,65536),rfl,rfl,rfl,hl,Zau (fun ha=>⟨_,rfl,l,_,rfl,rfl,rfl,⟨fun r hr=>AJa9 (vA_ok ha r hr),hl⟩,Zau (fun hb=> ?_) fun hb=> ?_⟩) fun ha=> ?_⟩
 ·rw [show AEs9 l=true by simp only [AEs9,ha,hb];rfl]
 ·rw [show AEs9 l=false by simp only [AEs9,ha,hb];rfl]
 ·rw [show AEs9 l=false by simp only [AEs9,ha];rfl]
def c20 (args:List AV) (K:AV→Prop):Prop:=∃(l:List Row),args= [.d (.sl 2 (rowsR l))]∧l.length≤9223372036854775807∧K (.d (bo (AEs9 l)))
theorem BXo9:∀args K,c20 args K→∃x,PCall prog 91 args x∧K x:=by
 rintro _ K ⟨l,rfl,h1,h⟩;exact ⟨_,pc20 l h1,h⟩
abbrev TS:List (Nat×(List AV→(AV→Prop)→Prop)):= [(91,c20),(90,c28),(92,c29),(93,c30),(94,c31),(95,c32),(96,c33)]
theorem TS_ok:AAk9 prog TS:=Zag BXo9 (Zag BKm9 (Zag CCq9 (Zag BXn9 (Zag CCp9 (Zag BXm9 (Zag BXl9 Zai))))))
abbrev rowB (m:Int) (bs:List (List Dv)):Blk:=⟨[.d (i64 m), .d (.sl 1 bs)],false,false,0⟩
abbrev acc (xs:List (List Dv)):Blk:=⟨[.own 71 2 xs],false,false,0⟩
noncomputable def rf12a:Code:=sub [1,1,1,1,0,2,1,4,1,0,1,2] (code f32)
noncomputable def rf12b:Code:=sub [1,1,1,1,1,1,1,0,1,2] (code f32)
theorem AZf9:rf12a= .rangeFunc (.tmp 34) #[35,36] (AAm9 rf12a) (ABp9 rf12a):=by kernel_rfl
theorem AZe9:rf12b= .rangeFunc (.tmp 48) #[49,50] (AAm9 rf12b) (ABp9 rf12b):=by kernel_rfl
def tm12a (xs:List (List Dv)):List AV:=Zaf 9 .bad++ [.ptr 2 0]++Zaf 24 .bad++ [.fn (.func 151) [] [.rptr [.sl 2 xs]]]++Zaf 60 .bad
def tm12b (xs:List (List Dv)):List AV:=Zaf 7 .bad++ [.ptr 1 0, .bad, .bad, .bad, .ptr 2 0, .ptr 3 0]++Zaf 35 .bad++ [.fn (.func 151) [] [.rptr [.sl 2 xs]]]++Zaf 46 .bad
theorem BEs9 (xs out:List (List Dv)) (m m0:Int) (p p0:List Int) (f:Bool) (m9:Int) (bs9:List (List Dv)):wpcY prog ⟨TS, [],wl,y,false⟩ 100 #[35,36] (AAm9 rf12a) (ABp9 rf12a) (tm12a xs) [eqA m p, .d (bo f)] [rowB m9 bs9,bq m0 p0,acc out] b (takeK 3 Kh)=(
 ∃m0_1 p1 q2,
 [eqA m p]= [eqA m0_1 p1]∧
  q2=AAb9 (b16 p1)∧
   BIf (true&&decide ((Zab out+(1:Nat))*(32:Nat)≤(140737488355328:Nat)))
    (Kh Zeh
     [{cells:= [Zae (i64 m9),Zae (Zam (1:Nat) bs9)]},bq m0 p0,
       {cells:= [AV.own (71:Nat) (2:Nat) (out++ [[i64 m0_1,Zam (1:Nat) q2]])]}]
     b)
    False):=by kernel_rfl
theorem BEr9 (xs out:List (List Dv)) (m m0:Int) (p p0:List Int) (f pl:Bool) (m9:Int) (bs9:List (List Dv)):wpcY prog ⟨TS, [],wl,y,false⟩ 100 #[49,50] (AAm9 rf12b) (ABp9 rf12b) (tm12b xs) [eqA m p, .d (bo f)] [rowB m9 bs9,bq m0 p0,acc out,cell (bo pl)] b (takeK 4 Kh)=(
 BIf (!pl)
 (∃m0_1 p1,
  [eqA m p]= [eqA m0_1 p1]∧
   ((1:Int)≤m0_1∧m0_1<(65536:Int))∧
    ∃ m2 p3,
     [eqA m0 p0]= [eqA m2 p3]∧
      ((1:Int)≤m2∧m2<(65536:Int))∧
       BIf (decide (lead m0_1<lead m2))
        (∃m4 p5 q6,
         [eqA m0 p0]= [eqA m4 p5]∧
          q6=AAb9 (b16 p5)∧
           BIf (true&&decide ((Zab out+(1:Nat))*(32:Nat)≤(140737488355328:Nat)))
            (∃m7 p8,
             [eqA m0 p0]= [eqA m7 p8]∧
              ((1:Int)≤m7∧m7<(65536:Int))∧
               BIf (Zac Zax ↑(BitVec.toNat (Zap (64:Nat) m&&&Zap (64:Nat) (lead m7))) !=(0:Int))
                (∃p9 q10 r11,
                 [Zbj (AAy9 p),Zbj (AAy9 p0)]= [Zbj (AAy9 p9),Zbj (AAy9 q10)]∧
                  r11=xorL p9 q10∧
                   ∃ m12 p13 q14,
                    [eqA (Zac Zax ↑(BitVec.toNat (Zap (64:Nat) m ^^^ Zap (64:Nat) m0))) r11]=
                     [eqA m12 p13]∧
                     q14=AAb9 (b16 p13)∧
                      BIf
                       (true&&
                        decide
                         ((Zab (out++ [[i64 m4,Zam (1:Nat) q6]])+(1:Nat))*(32:Nat)≤(140737488355328:Nat)))
                       (Kh Zeh
                        [{cells:= [Zae (i64 m9),Zae (Zam (1:Nat) bs9)]},bq m0 p0,
                          {
                           cells:=
                            [AV.own (71:Nat) (2:Nat)
                             (out++ [[i64 m4,Zam (1:Nat) q6]]++ [[i64 m12,Zam (1:Nat) q14]])]},
                          cell (bo true)]
                        b)
                       False)
                (∃m15 p16 q17,
                 [eqA m p]= [eqA m15 p16]∧
                  q17=AAb9 (b16 p16)∧
                   BIf
                    (true&&
                     decide ((Zab (out++ [[i64 m4,Zam (1:Nat) q6]])+(1:Nat))*(32:Nat)≤(140737488355328:Nat)))
                    (Kh Zeh
                     [{cells:= [Zae (i64 m9),Zae (Zam (1:Nat) bs9)]},bq m0 p0,
                       {
                        cells:=
                         [AV.own (71:Nat) (2:Nat) (out++ [[i64 m4,Zam (1:Nat) q6]]++ [[i64 m15,Zam (1:Nat) q17]])]},
                       cell (bo true)]
                     b)
                    False))
            False)
        (∃m18 p19,
         [eqA m0 p0]= [eqA m18 p19]∧
          ((1:Int)≤m18∧m18<(65536:Int))∧
           BIf (Zac Zax ↑(BitVec.toNat (Zap (64:Nat) m&&&Zap (64:Nat) (lead m18))) !=(0:Int))
            (∃p20 q21 r22,
             [Zbj (AAy9 p),Zbj (AAy9 p0)]= [Zbj (AAy9 p20),Zbj (AAy9 q21)]∧
              r22=xorL p20 q21∧
               ∃ m23 p24 q25,
                [eqA (Zac Zax ↑(BitVec.toNat (Zap (64:Nat) m ^^^ Zap (64:Nat) m0))) r22]=
                 [eqA m23 p24]∧
                 q25=AAb9 (b16 p24)∧
                  BIf (true&&decide ((Zab out+(1:Nat))*(32:Nat)≤(140737488355328:Nat)))
                   (Kh Zeh
                    [{cells:= [Zae (i64 m9),Zae (Zam (1:Nat) bs9)]},bq m0 p0,
                      {cells:= [AV.own (71:Nat) (2:Nat) (out++ [[i64 m23,Zam (1:Nat) q25]])]},cell (bo pl)]
                    b)
                   False)
            (∃m26 p27 q28,
             [eqA m p]= [eqA m26 p27]∧
              q28=AAb9 (b16 p27)∧
               BIf (true&&decide ((Zab out+(1:Nat))*(32:Nat)≤(140737488355328:Nat)))
                (Kh Zeh
                 [{cells:= [Zae (i64 m9),Zae (Zam (1:Nat) bs9)]},bq m0 p0,
                   {cells:= [AV.own (71:Nat) (2:Nat) (out++ [[i64 m26,Zam (1:Nat) q28]])]},cell (bo pl)]
                 b)
                False)))
 (∃m29 p30,
  [eqA m0 p0]= [eqA m29 p30]∧
   ((1:Int)≤m29∧m29<(65536:Int))∧
    BIf (Zac Zax ↑(BitVec.toNat (Zap (64:Nat) m&&&Zap (64:Nat) (lead m29))) !=(0:Int))
     (∃p31 q32 r33,
      [Zbj (AAy9 p),Zbj (AAy9 p0)]= [Zbj (AAy9 p31),Zbj (AAy9 q32)]∧
       r33=xorL p31 q32∧
        ∃ m34 p35 q36,
         [eqA (Zac Zax ↑(BitVec.toNat (Zap (64:Nat) m ^^^ Zap (64:Nat) m0))) r33]= [eqA m34 p35]∧
          q36=AAb9 (b16 p35)∧
           BIf (true&&decide ((Zab out+(1:Nat))*(32:Nat)≤(140737488355328:Nat)))
            (Kh Zeh
             [{cells:= [Zae (i64 m9),Zae (Zam (1:Nat) bs9)]},bq m0 p0,
               {cells:= [AV.own (71:Nat) (2:Nat) (out++ [[i64 m34,Zam (1:Nat) q36]])]},cell (bo pl)]
             b)
            False)
     (∃m37 p38 q39,
      [eqA m p]= [eqA m37 p38]∧
       q39=AAb9 (b16 p38)∧
        BIf (true&&decide ((Zab out+(1:Nat))*(32:Nat)≤(140737488355328:Nat)))
         (Kh Zeh
          [{cells:= [Zae (i64 m9),Zae (Zam (1:Nat) bs9)]},bq m0 p0,
            {cells:= [AV.own (71:Nat) (2:Nat) (out++ [[i64 m37,Zam (1:Nat) q39]])]},cell (bo pl)]
          b)
         False))):=by kernel_rfl
theorem AFo9 (out:List Row) (m:Int) (p:List Int):rowsR out++ [[i64 m, .sl 1 (AAb9 (b16 p))]]=rowsR (out++ [(m,b16 p)]):=by simp [rowsR,rowD]
theorem AEi9 (out:List Row):(rowsR out).length=out.length:=by simp [rowsR]
theorem tt32 {n:Nat} (h:n≤1000000):(true&&decide ((n+1)*32≤140737488355328))=true:=by
 rw [decide_eq_true (Nat.le_trans (Nat.mul_le_mul_right 32 (Nat.succ_le_succ h)) (by decide))];rfl
def keepR (r:Row):Row:=(r.1,b16 (pad r.2))
theorem BCz9 {Ev:Env prog} {b:Ev.β} {Q:Exit→St Ev.β→Prop} (xs:List (List Dv)) (m9:Int) (bs9:List (List Dv)) (x:Row):∀(l out:List Row),out.length+l.length≤1000000→
 Q .normal ⟨tm12a xs, [rowB m9 bs9,bq x.1 x.2,acc (rowsR (out++l.map keepR))],b⟩→
 YList (YBody Ev (tm12a xs) #[35,36] (AAm9 rf12a) (ABp9 rf12a) 3) (l.map item) ([rowB m9 bs9,bq x.1 x.2,acc (rowsR out)],b,none) (ADq9 (tm12a xs) Q)
 | [],out,_,h=>by simpa [YList,ADq9] using h
 | r::l,out,hl,h=>by
  refine YList.step (X:=⟨TS, [],wlW Ev,Ev.Y,false⟩) (k:=100) mixed (CX.Ok.of TS_ok Zad) rfl ?_;show wpcY _ _ _ _ _ _ _ [eqA _ _, .d (bo _)] [rowB _ _,bq _ _,acc _] b (takeK 3 _);rw [BEs9];simp only [List.length_cons] at hl;refine ⟨r.1,pad r.2,_,rfl,rfl,Zbr (tt32 (by rw [AEi9];omega)) ?_⟩;show YList _ _ ([rowB m9 bs9,bq x.1 x.2,acc (rowsR out++ [[i64 r.1, .sl 1 (AAb9 (b16 (pad r.2)))]])],b,none) _;rw [AFo9];refine BCz9 xs m9 bs9 x l (out++ [keepR r]) (by simp;omega) ?_;simpa using h
def stepB (e:Row) (s:List Row×Bool) (r:Row):List Row×Bool:=
 ((if !s.2&&decide (lead r.1<lead e.1) then s.1++ [(e.1,b16 e.2)] else s.1)++ [if and64 r.1 (lead e.1) !=0 then (xor64 r.1 e.1,b16 (xorL (pad r.2) e.2)) else (r.1,b16 (pad r.2))],
  s.2||decide (lead r.1<lead e.1))
set_option maxHeartbeats 4000000 in
theorem BCy9 {Ev:Env prog} {b:Ev.β} {Q:Exit→St Ev.β→Prop} (xs:List (List Dv)) (m9:Int) (bs9:List (List Dv)) (e:Row) (he:ABi9 e):∀(l out:List Row) (pl:Bool),(∀r∈l,ABi9 r)→out.length+2*l.length≤1000000→
 Q .normal ⟨tm12b xs, [rowB m9 bs9,bq e.1 e.2,acc (rowsR (l.foldl (stepB e) (out,pl)).1),cell (bo (l.foldl (stepB e) (out,pl)).2)],b⟩→
 YList (YBody Ev (tm12b xs) #[49,50] (AAm9 rf12b) (ABp9 rf12b) 4) (l.map item) ([rowB m9 bs9,bq e.1 e.2,acc (rowsR out),cell (bo pl)],b,none) (ADq9 (tm12b xs) Q)
 | [],out,pl,_,_,h=>h
 | r::l,out,pl,hok,hl,h=>by
  refine YList.step (X:=⟨TS, [],wlW Ev,Ev.Y,false⟩) (k:=100) mixed (CX.Ok.of TS_ok Zad) rfl ?_;show wpcY _ _ _ _ _ _ _ [eqA _ _, .d (bo _)] [rowB _ _,bq _ _,acc _,cell (bo _)] b (takeK 4 _);rw [BEr9];simp only [List.length_cons] at hl;have hr:=hok r (Zbb ..);have hok':∀r∈l,ABi9 r:=fun r' h'=>hok r' (Zaw _ h');rw [Zbl] at h;have key:∀(out1:List Row) (pl1:Bool),out1.length≤out.length+1→(∀(m:Int) (p:List Int),stepB e (out,pl) r=(out1++ [(m,b16 p)],pl1)→
   YList (YBody Ev (tm12b xs) #[49,50] (AAm9 rf12b) (ABp9 rf12b) 4) (l.map item) ([rowB m9 bs9,bq e.1 e.2,acc (rowsR out1++ [[i64 m, .sl 1 (AAb9 (b16 p))]]),cell (bo pl1)],b,none) (ADq9 (tm12b xs) Q)):=by
   intro out1 pl1 hlen m p hs;rw [AFo9];refine BCy9 xs m9 bs9 e he l (out1++ [(m,b16 p)]) pl1 hok' (by rw [List.length_append,List.length_singleton];omega) ?_;rw [←hs];exact h
  have hn0:=tt32 (n:=(rowsR out).length) (by rw [AEi9];omega);have hn1:∀(p:List Int),(true&&decide (((rowsR out++ [[i64 e.1, .sl 1 (AAb9 (b16 p))]]).length+1)*32≤140737488355328))=true:=fun p=>tt32 (by rw [AFo9,AEi9,List.length_append,List.length_singleton];omega);refine Zau (fun h1=> ?_) fun h1=> ?_
  ·have h1:pl=false:=by simpa using h1
   refine ⟨r.1,pad r.2,rfl,hr,e.1,e.2,rfl,he,Zau (fun h2=> ?_) fun h2=> ?_⟩
   ·refine ⟨e.1,e.2,_,rfl,rfl,Zbr hn0 ⟨e.1,e.2,rfl,he,Zau (fun h3=> ?_) fun h3=> ?_⟩⟩
    ·change (and64 r.1 (lead e.1) !=0)=true at h3;refine ⟨pad r.2,e.2,_,rfl,rfl,_,_,_,rfl,rfl,Zbr (hn1 _) ?_⟩;show YList _ _ ([rowB m9 bs9,bq e.1 e.2,acc ((rowsR out++_)++_),cell (bo true)],b,none) _;rw [AFo9];refine key (out++ [(e.1,b16 e.2)]) true (by simp) _ _ ?_;simp only [stepB,h1,h2,h3,Bool.not_false,Bool.and_self,if_true,Bool.or_true];rfl
    ·change (and64 r.1 (lead e.1) !=0)=false at h3;refine ⟨_,_,_,rfl,rfl,Zbr (hn1 _) ?_⟩;show YList _ _ ([rowB m9 bs9,bq e.1 e.2,acc ((rowsR out++_)++_),cell (bo true)],b,none) _;rw [AFo9];refine key (out++ [(e.1,b16 e.2)]) true (by simp) _ _ ?_;simp only [stepB,h1,h2,h3,Bool.not_false,Bool.and_self,if_true,Bool.or_true,Zbt,if_false]
   ·refine ⟨e.1,e.2,rfl,he,Zau (fun h3=> ?_) fun h3=> ?_⟩
    ·change (and64 r.1 (lead e.1) !=0)=true at h3;refine ⟨pad r.2,e.2,_,rfl,rfl,_,_,_,rfl,rfl,Zbr hn0 (key out pl (by omega) _ _ ?_)⟩;simp only [stepB,h1,h2,h3,Bool.and_false,if_true,Bool.or_false,Zbt,if_false];rfl
    ·change (and64 r.1 (lead e.1) !=0)=false at h3;refine ⟨_,_,_,rfl,rfl,Zbr hn0 (key out pl (by omega) _ _ ?_)⟩;simp only [stepB,h1,h2,h3,Bool.and_false,Bool.or_false,Zbt,if_false]
  ·have h1:pl=true:=by simpa using h1
   refine ⟨e.1,e.2,rfl,he,Zau (fun h3=> ?_) fun h3=> ?_⟩
   ·change (and64 r.1 (lead e.1) !=0)=true at h3;refine ⟨pad r.2,e.2,_,rfl,rfl,_,_,_,rfl,rfl,Zbr hn0 (key out pl (by omega) _ _ ?_)⟩;simp only [stepB,h1,h3,Bool.not_true,Bool.false_and,if_true,Bool.true_or,Zbt,if_false];rfl
   ·change (and64 r.1 (lead e.1) !=0)=false at h3;refine ⟨_,_,_,rfl,rfl,Zbr hn0 (key out pl (by omega) _ _ ?_)⟩;simp only [stepB,h1,h3,Bool.not_true,Bool.false_and,Bool.true_or,Zbt,if_false]
def wl12 {β:Type}:WLT β:=fun c tm hp b K=>match cidO c with
 | 9 =>∃(l:List Row) (m9:Int) (bs9:List (List Dv)) (x:Row),c=rf12a∧ABo9 [9,34] 0 tm=tm12a (rowsR l)∧hp= [rowB m9 bs9,bq x.1 x.2,cell (.s (.slice none 0 0))]∧l.length≤1000000∧
  K .normal (tm12a (rowsR l)) [rowB m9 bs9,bq x.1 x.2,acc (rowsR (l.map keepR))] b
 |17=>∃(l:List Row) (m9:Int) (bs9:List (List Dv)) (e:Row) (s:List Row×Bool),c=rf12b∧ABo9 [7,11,12,48] 0 tm=tm12b (rowsR l)∧hp= [rowB m9 bs9,bq e.1 e.2,cell (.s (.slice none 0 0)),cell (bo false)]∧(ABi9 e∧(∀r∈l,ABi9 r)∧2*l.length≤1000000)∧
  s=l.foldl (stepB e) ([],false)∧K .normal (tm12b (rowsR l)) [rowB m9 bs9,bq e.1 e.2,acc (rowsR s.1),cell (bo s.2)] b
 |_=>False
theorem BTu9 {Ev:Env prog} (c:Code) (tm:List AV) (hp:List Blk) (b:Ev.β) (K:Exit→List AV→List Blk→Ev.β→Prop) (h:wl12 c tm hp b K):W Ev c ⟨tm,hp,b⟩ (fun e s=>K e s.tm s.hp s.b):=by
 unfold wl12 at h;split at h
 ·obtain ⟨l,m9,bs9,x,rfl,htm,rfl,hpre,hK⟩:=h;refine W.cast (hp':= [rowB m9 bs9,bq x.1 x.2,acc (rowsR [])]) (htm▸AAg9 _ tm 0) (.cons (LeL.refl _) (.cons (LeL.refl _) (.cons (.cons (LeA.nilOwn rfl) .nil) .nil))) ?_;rw [AZf9];exact W.range (s:=⟨tm12a (rowsR l),_,b⟩) (k:=151) (first:= []) (caps:= [.rptr [.sl 2 (rowsR l)]]) rfl rfl rfl (ic38 l (by omega)) (BCz9 (rowsR l) m9 bs9 x l [] (by simpa using hpre) hK)
 ·obtain ⟨l,m9,bs9,e,s,rfl,htm,rfl,⟨he,hok,hl⟩,rfl,hK⟩:=h;refine W.cast (hp':= [rowB m9 bs9,bq e.1 e.2,acc (rowsR []),cell (bo false)]) (htm▸AAg9 _ tm 0) (.cons (LeL.refl _) (.cons (LeL.refl _) (.cons (.cons (LeA.nilOwn rfl) .nil) (.cons (LeL.refl _) .nil)))) ?_;rw [AZe9];exact W.range (s:=⟨tm12b (rowsR l),_,b⟩) (k:=151) (first:= []) (caps:= [.rptr [.sl 2 (rowsR l)]]) rfl rfl rfl (ic38 l (by omega)) (BCy9 (rowsR l) m9 bs9 e he l [] false hok (by simpa using hl) hK)
 ·exact h.elim
theorem CBy9 (xs:List (List Dv)) (m:Int) (p:List Int):wpFn prog ⟨TS, [],wl12,y,false⟩ 100 f32 [.d (.sl 2 xs),rowA m p] b R=(
 ∃m0 b1,
 [Zbj [Zae (i64 m),Zae (Zam (1:Nat) (AAb9 p))]]= [Zbj [Zae (i64 m0),Zae (Zam (1:Nat) (AAb9 b1))]]∧
  ∃ l2,
   [Zae (Zam (2:Nat) xs)]= [Zae (Zam (2:Nat) (rowsR l2))]∧
    Zab l2≤(9223372036854775807:Nat)∧
     BIf (!AEs9 l2) (R (AV.tup [Zae (Dv.s (Zbo none (0:Nat) (0:Nat))),Zae (bo false),Zae (i64 (1:Int))]) b)
      (BIf (!fine m0 b1) (R (AV.tup [Zae (Dv.s (Zbo none (0:Nat) (0:Nat))),Zae (bo false),Zae (i64 (1:Int))]) b)
       (∃l3 m4 p5 x6,
        [Zae (Zam (2:Nat) xs),eqA m0 (pad b1)]= [Zae (Zam (2:Nat) (rowsR l3)),eqA m4 p5]∧
         ((∀(r:Row),r∈l3→(1:Int)≤Zdz r∧Zdz r<(65536:Int))∧Zab l3≤(9223372036854775807:Nat))∧
          x6=List.foldl red (m4,p5) l3∧
           BIf
            (Zdz x6==(0:Int)&&
             (nth (Prod.snd x6) (0:Nat)==(0:Int)&&
              (nth (Prod.snd x6) (1:Nat)==(0:Int)&&
               (nth (Prod.snd x6) (2:Nat)==(0:Int)&&
                (nth (Prod.snd x6) (3:Nat)==(0:Int)&&
                 (nth (Prod.snd x6) (4:Nat)==(0:Int)&&
                  (nth (Prod.snd x6) (5:Nat)==(0:Int)&&
                   (nth (Prod.snd x6) (6:Nat)==(0:Int)&&
                    (nth (Prod.snd x6) (7:Nat)==(0:Int)&&
                     (nth (Prod.snd x6) (8:Nat)==(0:Int)&&
                      (nth (Prod.snd x6) (9:Nat)==(0:Int)&&
                       (nth (Prod.snd x6) (10:Nat)==(0:Int)&&
                        (nth (Prod.snd x6) (11:Nat)==(0:Int)&&
                         (nth (Prod.snd x6) (12:Nat)==(0:Int)&&
                          (nth (Prod.snd x6) (13:Nat)==(0:Int)&&
                           (nth (Prod.snd x6) (14:Nat)==(0:Int)&&
                            (nth (Prod.snd x6) (15:Nat)==(0:Int)&&true)))))))))))))))&&
              true))
            (∃xs7,
             [Zae (Zam (2:Nat) xs)]= [Zae (Zam (2:Nat) xs7)]∧
              ∃ l8 m9 bs10 x11,
               rf12a=rf12a∧
                [bad, bad,bad,bad,bad,bad,bad,bad,bad,Zbe (2:Nat) (0:Nat),bad,bad,bad,
                 Zba,bad,bad,bad,bad,bad,bad,bad,bad,bad,bad,bad,bad,bad,bad,
                 Zba,bad,bad,bad,bad,bad,AV.fn (Fn.func (151:Nat)) [] [AV.rptr [Zam (2:Nat) xs7]],bad,
                 Zba,bad,bad,bad,bad,bad,bad,bad,bad,bad,bad,bad,bad,bad,bad,
                 Zba,bad,bad,bad,bad,bad,bad,bad,bad,bad,bad,bad,bad,bad,bad,
                 Zba,bad,bad,bad,bad,bad,bad,bad,bad,bad,bad,bad,bad,bad,bad,
                 Zba,bad,bad,bad,bad,bad,bad,bad,bad,bad,bad,bad,bad,bad]=
                 [bad,bad,bad,bad,bad,bad,bad,bad,bad,Zbe (2:Nat) (0:Nat),bad,bad,bad,
                  Zba,bad,bad,bad,bad,bad,bad,bad,bad,bad,bad,bad,bad,bad,bad,
                  Zba,bad,bad,bad,bad,bad,AV.fn (Fn.func (151:Nat)) [] [AV.rptr [Zam (2:Nat) (rowsR l8)]],
                  Zba,bad,bad,bad,bad,bad,bad,bad,bad,bad,bad,bad,bad,bad,bad,
                  Zba,bad,bad,bad,bad,bad,bad,bad,bad,bad,bad,bad,bad,bad,bad,
                  Zba,bad,bad,bad,bad,bad,bad,bad,bad,bad,bad,bad,bad,bad,bad,
                  Zba,bad,bad,bad,bad,bad,bad,bad,bad,bad,bad,bad,bad,bad,bad]∧
                 [{cells:= [Zae (i64 m),Zae (Zam (1:Nat) (AAb9 p))]},bq (Zdz x6) (Prod.snd x6),
                  cell (Dv.s (Zbo none (0:Nat) (0:Nat)))]=
                  [{cells:= [Zae (i64 m9),Zae (Zam (1:Nat) bs10)]},bq (Zdz x11) (Prod.snd x11),
                    cell (Dv.s (Zbo none (0:Nat) (0:Nat)))]∧
                  Zab l8≤(1000000:Nat)∧
                   R (AV.tup [Zae (Zam (2:Nat) (rowsR (List.map keepR l8))),Zae (bo false),Zae (i64 (0:Int))]) b)
            (BIf (Zdz x6==(0:Int))
             (R (AV.tup [Zae (Dv.s (Zbo none (0:Nat) (0:Nat))),Zae (bo false),Zae (i64 (12:Int))]) b)
             (∃xs12,
              [Zae (Zam (2:Nat) xs)]= [Zae (Zam (2:Nat) xs12)]∧
               ∃ l13 m14 bs15 e16 s17,
                rf12b=rf12b∧
                 [bad, bad,bad,bad,bad,bad,bad,Zbe (1:Nat) (0:Nat),bad,bad,bad,
                  Zbe (2:Nat) (0:Nat),Zbe (3:Nat) (0:Nat),bad,bad,bad,bad,bad,bad,bad,bad,
                  Zba,bad,bad,bad,bad,bad,bad,bad,bad,bad,bad,bad,bad,bad,bad,
                  Zba,bad,bad,bad,bad,bad,bad,bad,bad,bad,bad,bad,
                  AV.fn (Fn.func (151:Nat)) [] [AV.rptr [Zam (2:Nat) xs12]],bad,bad,bad,bad,bad,bad,bad,
                  Zba,bad,bad,bad,bad,bad,bad,bad,bad,bad,bad,bad,bad,bad,bad,
                  Zba,bad,bad,bad,bad,bad,bad,bad,bad,bad,bad,bad,bad,bad,bad,
                  Zba,bad,bad,bad,bad,bad,bad,bad,bad]=
                  [bad,bad,bad,bad,bad,bad,bad,Zbe (1:Nat) (0:Nat),bad,bad,bad,
                   Zbe (2:Nat) (0:Nat),Zbe (3:Nat) (0:Nat),bad,bad,bad,bad,bad,bad,bad,bad,
                   Zba,bad,bad,bad,bad,bad,bad,bad,bad,bad,bad,bad,bad,bad,bad,
                   Zba,bad,bad,bad,bad,bad,bad,bad,bad,bad,bad,bad,
                   AV.fn (Fn.func (151:Nat)) [] [AV.rptr [Zam (2:Nat) (rowsR l13)]],bad,bad,bad,bad,bad,bad,
                   Zba,bad,bad,bad,bad,bad,bad,bad,bad,bad,bad,bad,bad,bad,bad,
                   Zba,bad,bad,bad,bad,bad,bad,bad,bad,bad,bad,bad,bad,bad,bad,
                   Zba,bad,bad,bad,bad,bad,bad,bad,bad,bad]∧
                  [{cells:= [Zae (i64 m),Zae (Zam (1:Nat) (AAb9 p))]},bq (Zdz x6) (Prod.snd x6),
                   cell (Dv.s (Zbo none (0:Nat) (0:Nat))),cell (bo false)]=
                   [{cells:= [Zae (i64 m14),Zae (Zam (1:Nat) bs15)]},bq (Zdz e16) (Prod.snd e16),
                     cell (Dv.s (Zbo none (0:Nat) (0:Nat))),cell (bo false)]∧
                   (((1:Int)≤Zdz e16∧Zdz e16<(65536:Int))∧
                    (∀(r:Row),r∈l13→(1:Int)≤Zdz r∧Zdz r<(65536:Int))∧
                     (2:Nat)*Zab l13≤(1000000:Nat))∧
                    s17=List.foldl (stepB e16) ([],false) l13∧
                     BIf (!Prod.snd s17)
                      (∃m18 p19 q20,
                       [eqA (Zdz e16) (Prod.snd e16)]= [eqA m18 p19]∧
                        q20=AAb9 (b16 p19)∧
                         BIf (true&&decide ((Zab (rowsR (Zdz s17))+(1:Nat))*(32:Nat)≤(140737488355328:Nat)))
                          (R
                           (AV.tup
                            [Zae (Zam (2:Nat) (rowsR (Zdz s17)++ [[i64 m18,Zam (1:Nat) q20]])),Zae (bo true),
                             Zae (i64 (0:Int))])
                           b)
                          False)
                      (R (AV.tup [Zae (Zam (2:Nat) (rowsR (Zdz s17))),Zae (bo true),Zae (i64 (0:Int))]) b)))))):=by kernel_rfl
theorem AEn9 {a:Int} (h0:0≤a) (h1:a<18446744073709551616):(Zap 64 a).toNat=a.toNat:=by
 simp [BitVec.toNat_ofInt];omega
theorem APf9 {a b:Int} (h0:0≤a) (h1:a<65536) (h2:0≤b) (h3:b<65536):xor64 a b=((a.toNat ^^^ b.toNat:Nat):Int):=by
 unfold xor64;rw [BitVec.toNat_xor,AEn9 h0 (by omega),AEn9 h2 (by omega)];have:a.toNat ^^^ b.toNat<2 ^ 16:=Nat.xor_lt_two_pow (by omega) (by omega);rw [AAt9 (by omega) (by omega)]
theorem BGj9 {a b:Int} (h0:0≤a) (h1:a<65536) (h2:0≤b) (h3:b<65536):and64 a b=((a.toNat&&&b.toNat:Nat):Int):=by
 unfold and64;rw [BitVec.toNat_and,AEn9 h0 (by omega),AEn9 h2 (by omega)];have:a.toNat&&&b.toNat<2 ^ 16:=Nat.and_lt_two_pow _ (by omega);rw [AAt9 (by omega) (by omega)]
theorem AWr9 {a b:Int} (h0:0≤a) (h1:a<65536) (h2:0≤b) (h3:b<65536):or64 a b=((a.toNat|||b.toNat:Nat):Int):=by
 unfold or64;rw [BitVec.toNat_or,AEn9 h0 (by omega),AEn9 h2 (by omega)];have:a.toNat|||b.toNat<2 ^ 16:=Nat.or_lt_two_pow (by omega) (by omega)
 rw [AAt9 (by omega) (by omega)]
theorem ATu9 {a b:Int} (h0:0≤a) (h1:a<65536) (h2:0≤b) (h3:b<65536):0≤xor64 a b∧xor64 a b<65536:=by
 rw [APf9 h0 h1 h2 h3];have:a.toNat ^^^ b.toNat<2 ^ 16:=Nat.xor_lt_two_pow (by omega) (by omega);omega
theorem BUp9 {x r:Row} (hx:0≤x.1∧x.1<65536) (hr:ABi9 r):0≤(red x r).1∧(red x r).1<65536:=by
 unfold red;split
 ·exact ATu9 hx.1 hx.2 (by have:=hr.1;omega) hr.2
 ·exact hx
theorem ACo9:∀ {l:List Row} {x:Row},0≤x.1∧x.1<65536→(∀r∈l,ABi9 r)→0≤(l.foldl red x).1∧(l.foldl red x).1<65536
 | [],x,hx,_=>hx
 |r::l,x,hx,h=>ACo9 (l:=l) (x:=red x r) (BUp9 hx (h r (Zbb ..))) fun r' h'=>h r' (Zaw _ h')
theorem AWc9 (e:Row):∀(l:List Row) (s:List Row×Bool),(l.foldl (stepB e) s).1.length≤s.1.length+2*l.length
 | [],s=>by simp
 | r::l,s=>by
  have h1:=AWc9 e l (stepB e s r);have h2:(stepB e s r).1.length≤s.1.length+2:=by
   simp only [stepB];split<;>simp
  simp only [Zbl,List.length_cons];omega
def APe9 (p:List Int):Bool:=(Zay 16).all fun i=>nth p i==0
def addR (x:List Row×Bool×Int):AV:= .tup [.d (.sl 2 (rowsR x.1)), .d (bo x.2.1), .d (i64 x.2.2)]
def addS (l:List Row) (m:Int) (b:List Int):List Row×Bool×Int:=
 if !AEs9 l|| !fine m b then ([],false,1) else
 let x:=l.foldl red (m,pad b)
 if x.1==0&&APe9 x.2 then (l.map keepR,false,0) else if x.1==0 then ([],false,12) else
 let s:=l.foldl (stepB x) ([],false)
 (if !s.2 then s.1++ [(x.1,b16 x.2)] else s.1,true,0)
theorem AZk9 (a b:AV):LeT (.tup [.d (.s (.slice none 0 0)),a,b]) (.tup [.d (.sl 2 (rowsR [])),a,b]):= .tup (.cons (LeA.nilSl rfl) (LeL.refl _))
theorem pc12 (l:List Row) (m:Int) (b:List Int) (hl:2*l.length≤1000000):PCall prog 32 [.d (.sl 2 (rowsR l)),rowA m b] (addR (addS l m b)):=by
 refine PCall.ofFnL (n:=100) (u:=false) (fun _=>wl12) mixed TS_ok Zad (fun Ev=>BTu9) func32 (by rfl) (by rfl) fun Ev bb=> ?_;rw [CBy9];refine ⟨m,b,rfl,l,rfl,by omega,Zau (fun h1=> ?_) fun h1=>Zau (fun h2=> ?_) fun h2=> ?_⟩
 ·rw [show addS l m b=([],false,1) by simp only [addS,h1,Bool.true_or,if_true]];exact AZk9 _ _
 ·rw [show addS l m b=([],false,1) by simp only [addS,h2,Bool.or_true,if_true]];exact AZk9 _ _
 ·have hv:AEs9 l=true:=by simpa using h1
  have hok:∀r∈l,ABi9 r:=by
   simp only [AEs9,Zal] at hv;exact fun r hr=>AJa9 (vA_ok hv.1 r hr)
  have hf:fine m b=true:=by simpa using h2
  have hm:0≤m∧m<65536:=by
   have:=AJa9 (r:=(m,b)) hf;exact ⟨by have:=this.1;omega,this.2⟩
  have hx:=ACo9 (l:=l) (x:=(m,pad b)) hm hok;refine ⟨l,m,pad b,_,rfl,⟨hok,by omega⟩,rfl, ?_⟩;show BIf ((l.foldl red (m,pad b)).1==0&&(APe9 (l.foldl red (m,pad b)).2&&true)) _ _;have e0:addS l m b=(let x:=l.foldl red (m,pad b)
   if x.1==0&&APe9 x.2 then (l.map keepR,false,0) else if x.1==0 then ([],false,12) else
   let s:=l.foldl (stepB x) ([],false)
   (if !s.2 then s.1++ [(x.1,b16 x.2)] else s.1,true,0)):=by
   simp only [addS,h1,h2,Bool.or_false,Zbt,if_false]
  rw [e0];generalize l.foldl red (m,pad b)=x at hx;refine Zau (fun h3=> ?_) fun h3=>Zau (fun h4=> ?_) fun h4=> ?_
  ·rw [Bool.and_true] at h3;refine ⟨_,rfl,l,_,_,x,rfl,rfl,rfl,by omega, ?_⟩;simp only [h3,if_true];exact .rfl
  ·rw [Bool.and_true] at h3;show LeT _ (addR (if (x.1==0&&APe9 x.2)=true then _ else _));rw [h3,if_neg (by simp),if_pos h4];exact AZk9 _ _
  ·rw [Bool.and_true] at h3;have hne:x.1≠0:=by simpa using h4
   have hxo:ABi9 x:=⟨by omega,hx.2⟩;refine ⟨_,rfl,l,_,_,x,_,rfl,rfl,rfl,⟨hxo,hok,hl⟩,rfl, ?_⟩;have hlen:=AWc9 x l ([],false);simp only [h3,h4,Zbt,if_false];generalize l.foldl (stepB x) ([],false)=s at hlen;simp only [List.length_nil] at hlen;refine Zau (fun h5=> ?_) fun h5=> ?_
   ·refine ⟨_,_,_,rfl,rfl,Zbr (tt32 (by rw [AEi9];omega)) ?_⟩;rw [AFo9];simp only [h5,if_true];exact .rfl
   ·simp only [h5,Zbt,if_false];exact .rfl
def c12 (args:List AV) (K:AV→Prop):Prop:=∃(l:List Row) (m:Int) (b:List Int) (x:List Row×Bool×Int),args= [.d (.sl 2 (rowsR l)),rowA m b]∧2*l.length≤1000000∧x=addS l m b∧K (addR x)
theorem CCs9:∀args K,c12 args K→∃x,PCall prog 32 args x∧K x:=by
 rintro _ K ⟨l,m,b,_,rfl,h1,rfl,h⟩;exact ⟨_,pc12 l m b h1,h⟩
def BSc9 (x:List Int×Bool):AV:= .tup [.d (.sl 1 (AAb9 x.1)), .d (bo x.2)]
theorem AOl9 (a:AV):LeT (.tup [.d (.s (.slice none 0 0)),a]) (.tup [.d (.sl 1 (AAb9 [])),a]):= .tup (.cons (LeA.nilSl rfl) (LeL.refl _))
def sumS (l:List Row) (m:Int):List Int×Bool:=
 if decide (m<0)||(decide (m≥65536)|| !AEs9 l) then ([],false) else
 let x:=l.foldl red (m, [])
 if x.1 !=0 then ([],false) else (b16 x.2,true)
noncomputable def rf14:Code:=sub [1,8,1,1,1,0,1,2] (code f123)
theorem BCl9:rf14= .rangeFunc (.tmp 20) #[21,22] (AAm9 rf14) (ABp9 rf14):=by kernel_rfl
def tm14 (xs:List (List Dv)):List AV:= [.bad, .bad, .bad, .ptr 0 0, .bad, .bad, .ptr 1 0]++Zaf 13 .bad++ [.fn (.func 151) [] [.rptr [.sl 2 xs]]]++Zaf 13 .bad
theorem BJl9 (xs:List (List Dv)) (m i:Int) (p:List Int) (f:Bool) (v:Dv):wpcY prog ⟨TS, [],wl,y,false⟩ 100 #[21,22] (AAm9 rf14) (ABp9 rf14) (tm14 xs) [eqA m p, .d (bo f)] [cell (i64 i),cell v] b (takeK 2 Kh)=(
 BIf (decide (i<(0:Int))) False
 (BIf (m==Zac Zax ((1:Int)*(2:Int) ^ min (Zat i) (64:Nat)))
  (∃m0 p1 q2, [eqA m p]= [eqA m0 p1]∧q2=AAb9 (b16 p1)∧Kh (Exit.exit (0:Nat)) [cell (i64 i),cell (Zam (1:Nat) q2)] b)
  (Kh Zeh [cell (i64 i),cell v] b))):=by kernel_rfl
def bit (i:Int):Int:=Zac .i64 (1*2 ^ min i.toNat 64)
def findS (l:List Row) (i:Int):Option Row:=l.find? fun r=>r.1==bit i
def AGr9 (l:List Row) (i:Int):List Int:=match findS l i with
 |some r=>b16 (pad r.2)
 |none=> []
def AAx9 (l:List Row) (i:Int):List Int×Bool:=
 if decide (i<0)||(decide (i≥16)|| !AEs9 l) then ([],false) else
 if (findS l i).isSome then (AGr9 l i,true) else ([],false)
def wl14 {β:Type}:WLT β:=fun c tm hp b K=>∃(l:List Row) (i:Int),c=rf14∧ABo9 [3,6,20] 0 tm=tm14 (rowsR l)∧hp= [cell (i64 i),cell (.s (.slice none 0 0))]∧(0≤i∧l.length≤9223372036854775807)∧
 BIf (findS l i).isSome (∃q,q=AGr9 l i∧K (.exit 0) (tm14 (rowsR l)) [cell (i64 i),cell (.sl 1 (AAb9 (b16 q)))] b) (K .normal (tm14 (rowsR l)) [cell (i64 i),cell (.s (.slice none 0 0))] b)
theorem BLr9 {Ev:Env prog} {b:Ev.β} {Q:Exit→St Ev.β→Prop} (xs:List (List Dv)) (i:Int) (hi:0≤i):∀(l:List Row),
 BIf (findS l i).isSome (Q (.exit 0) ⟨tm14 xs, [cell (i64 i),cell (.sl 1 (AAb9 (b16 (AGr9 l i))))],b⟩) (Q .normal ⟨tm14 xs, [cell (i64 i),cell (.s (.slice none 0 0))],b⟩)→
 YList (YBody Ev (tm14 xs) #[21,22] (AAm9 rf14) (ABp9 rf14) 2) (l.map item) ([cell (i64 i),cell (.s (.slice none 0 0))],b,none) (ADq9 (tm14 xs) Q)
 | [],h=>h
 | r::l,h=>by
  refine YList.step (X:=⟨TS, [],wlW Ev,Ev.Y,false⟩) (k:=100) mixed (CX.Ok.of TS_ok Zad) rfl ?_;show wpcY _ _ _ _ _ _ _ [eqA _ _, .d (bo _)] [cell (i64 _),cell _] b (takeK 2 _);rw [BJl9];refine BIf.f (by simpa using hi) (Zau (fun hc=>⟨_,_,_,rfl,rfl, ?_⟩) fun hc=> ?_)
  ·change (r.1==bit i)=true at hc;have e1:findS (r::l) i=some r:=by simp only [findS,List.find?_cons,hc]
   have e2:AGr9 (r::l) i=b16 (pad r.2):=by simp only [AGr9,e1]
   rw [e1,e2] at h;exact h
  ·change (r.1==bit i)=false at hc;have e1:findS (r::l) i=findS l i:=by simp only [findS,List.find?_cons,hc]
   have e2:AGr9 (r::l) i=AGr9 l i:=by simp only [AGr9,e1]
   rw [e1,e2] at h;exact BLr9 xs i hi l h
theorem BTt9 {Ev:Env prog} (c:Code) (tm:List AV) (hp:List Blk) (b:Ev.β) (K:Exit→List AV→List Blk→Ev.β→Prop) (h:wl14 c tm hp b K):W Ev c ⟨tm,hp,b⟩ (fun e s=>K e s.tm s.hp s.b):=by
 obtain ⟨l,i,rfl,htm,rfl,⟨hi,hpre⟩,hK⟩:=h;refine W.cast (htm▸AAg9 _ tm 0) (LeH.refl _) ?_;rw [BCl9];exact W.range (s:=⟨tm14 (rowsR l),_,b⟩) (k:=151) (first:= []) (caps:= [.rptr [.sl 2 (rowsR l)]]) rfl rfl rfl (ic38 l hpre) (BLr9 (rowsR l) i hi l (hK.elim.elim (fun h=>Zbr h.1 (by obtain ⟨q,rfl,h⟩:=h.2;exact h)) fun h=>BIf.f h.1 h.2))
theorem CBx9 (xs:List (List Dv)) (i:Int):wpFn prog ⟨TS, [],wl14,y,false⟩ 100 f123 [.d (.sl 2 xs), .d (i64 i)] b R=(
 BIf (decide (i<(0:Int))) (R (AV.tup [Zae (Dv.s (Zbo none (0:Nat) (0:Nat))),Zae (bo false)]) b)
 (BIf (decide (i≥(16:Int))) (R (AV.tup [Zae (Dv.s (Zbo none (0:Nat) (0:Nat))),Zae (bo false)]) b)
  (∃l0,
   [Zae (Zam (2:Nat) xs)]= [Zae (Zam (2:Nat) (rowsR l0))]∧
    Zab l0≤(9223372036854775807:Nat)∧
     BIf (!AEs9 l0) (R (AV.tup [Zae (Dv.s (Zbo none (0:Nat) (0:Nat))),Zae (bo false)]) b)
      (∃xs1,
       [Zae (Zam (2:Nat) xs)]= [Zae (Zam (2:Nat) xs1)]∧
        ∃ l2 i3,
         rf14=rf14∧
          [bad, bad,bad,Zbe (0:Nat) (0:Nat),bad,bad,Zbe (1:Nat) (0:Nat),bad,bad,bad,bad,bad,
           Zba,bad,bad,bad,bad,bad,bad,bad,AV.fn (Fn.func (151:Nat)) [] [AV.rptr [Zam (2:Nat) xs1]],bad,
           Zba,bad,bad,bad,bad,bad,bad,bad,bad,bad,bad,bad]=
           [bad,bad,bad,Zbe (0:Nat) (0:Nat),bad,bad,Zbe (1:Nat) (0:Nat),bad,bad,bad,bad,bad,
            Zba,bad,bad,bad,bad,bad,bad,bad,AV.fn (Fn.func (151:Nat)) [] [AV.rptr [Zam (2:Nat) (rowsR l2)]],
            Zba,bad,bad,bad,bad,bad,bad,bad,bad,bad,bad,bad,bad]∧
           [cell (i64 i),cell (Dv.s (Zbo none (0:Nat) (0:Nat)))]= [cell (i64 i3),cell (Dv.s (Zbo none (0:Nat) (0:Nat)))]∧
            ((0:Int)≤i3∧Zab l2≤(9223372036854775807:Nat))∧
             BIf (Option.isSome (findS l2 i3)) (∃q4,q4=AGr9 l2 i3∧R (AV.tup [Zae (Zam (1:Nat) (AAb9 (b16 q4))),Zae (bo true)]) b)
              (R (AV.tup [Zae (Dv.s (Zbo none (0:Nat) (0:Nat))),Zae (bo false)]) b))))):=by kernel_rfl
theorem pc14 (l:List Row) (i:Int) (hl:l.length≤9223372036854775807):PCall prog 123 [.d (.sl 2 (rowsR l)), .d (i64 i)] (BSc9 (AAx9 l i)):=by
 refine PCall.ofFnL (n:=100) (u:=false) (fun _=>wl14) mixed TS_ok Zad (fun Ev=>BTt9) func123 (by rfl) (by rfl) fun Ev bb=> ?_;rw [CBx9];refine Zau (fun h1=> ?_) fun h1=>Zau (fun h2=> ?_) fun h2=>⟨l,rfl,hl,Zau (fun h3=> ?_) fun h3=> ?_⟩
 ·rw [show AAx9 l i=([],false) by simp only [AAx9,h1,Bool.true_or,if_true]];exact AOl9 _
 ·rw [show AAx9 l i=([],false) by simp only [AAx9,h2,Bool.true_or,Bool.or_true,if_true]];exact AOl9 _
 ·rw [show AAx9 l i=([],false) by simp only [AAx9,h3,Bool.or_true,if_true]];exact AOl9 _
 ·have e0:AAx9 l i=if (findS l i).isSome then (AGr9 l i,true) else ([],false):=by
   simp only [AAx9,h1,h2,h3,Bool.or_false,Zbt,if_false]
  rw [e0];refine ⟨_,rfl,l,i,rfl,rfl,rfl,⟨by simpa using h1,hl⟩,Zau (fun h4=> ?_) fun h4=> ?_⟩
  ·rw [if_pos h4];refine ⟨_,rfl, ?_⟩;have:b16 (AGr9 l i)=AGr9 l i:=by
    obtain ⟨r,hr⟩:=Option.isSome_iff_exists.1 h4;simp only [AGr9,hr];rfl
   rw [this];exact .rfl
  ·rw [if_neg (by simp [h4])];exact AOl9 _
def c14 (args:List AV) (K:AV→Prop):Prop:=∃(l:List Row) (m:Int) (x:List Int×Bool),args= [.d (.sl 2 (rowsR l)), .d (i64 m)]∧l.length≤9223372036854775807∧x=AAx9 l m∧K (BSc9 x)
theorem CCr9:∀args K,c14 args K→∃x,PCall prog 123 args x∧K x:=by
 rintro _ K ⟨l,m,_,rfl,h1,rfl,h⟩;exact ⟨_,pc14 l m h1,h⟩
def AKe9 (m:Int) (p:List Int):Bool:=decide (m≥1)&&(decide (m<65536)&&decide (p.length=16))
def BBn9 (i:Nat) (x:Row):Nat→List Row→Bool
 |_, []=>true
 |k,r::l=>(decide (i=k)||and64 r.1 (lead x.1)==0)&&BBn9 i x (k+1) l
def BBm9 (l:List Row):Nat→List Row→Bool
 |_, []=>true
 |i,x::r=>BBn9 i x 0 l&&BBm9 l (i+1) r
def BPc9 (p:Option Row) (m:Int):Bool:=match p with
 |none=>true
 |some q=>decide (lead m<lead q.1)
def vPrev:Option Row→List Row→Bool
 |_, []=>true
 |p,r::l=>AKe9 r.1 r.2&&BPc9 p r.1&&vPrev (some r) l
def BBk9 (l:List Row):Bool:=vPrev none l&&BBm9 l 0 l
def c21 (args:List AV) (K:AV→Prop):Prop:=∃(l:List Row),args= [.d (.sl 2 (rowsR l))]∧l.length≤9223372036854775807∧K (.d (bo (BBk9 l)))
def mixS (x s f:Int):Int:=Zac .u64 (Zac .u64 ((Zap 64 x ^^^ Zap 64 (x.fdiv s)).toNat:Int)*f)
def nextS (x:Int):Int:=mixS (mixS (mixS (Zac .u64 (x+11400714819323198485)) 1073741824 13787848793156543929) 134217728 10723151780598845931) 2147483648 1
def halfS (x:Int):Int:=Zac .i64 (x.fdiv 4294967296)
def AKl9 (x:Int):Int:=halfS (nextS x)
theorem CBh9 (x:Int):wpFn prog ⟨[], [],wl,y,true⟩ 100 f226 [.d (u64 x)] b R=R (.d (u64 (nextS x))) b:=by kernel_rfl
theorem pc67 (x:Int):PCall prog 226 [.d (u64 x)] (.d (u64 (nextS x))):=by
 refine Zbh (n:=100) (u:=true) mixed Zai Zad func226 (by rfl) (by rfl) fun Ev bb=> ?_;rw [CBh9]
def c67 (args:List AV) (K:AV→Prop):Prop:=∃(x:Int),args= [.d (u64 x)]∧K (.d (u64 (nextS x)))
theorem CCl9:∀args K,c67 args K→∃x,PCall prog 226 args x∧K x:=by
 rintro _ K ⟨x,rfl,h⟩;exact ⟨_,pc67 x,h⟩
def HSp {β:Type} (Y:ACx9 β):Nat→Int→β→(β→Prop)→Prop
 |0,_,_,_=>False
 |n+1,x,b,Q=>Y b [.d (i64 (halfS x))] fun cont b'=>BIf cont (HSp Y n (nextS x) b' Q) (Q b')
def cellU (x:Int):Blk:=⟨[.d (u64 x)],false,false,0⟩
noncomputable def lp66:Code:=sub [1,2,3] (code f225)
def tm66:List AV:= [.yl, .ptr 0 0]++Zaf 10 .bad
def T66:List (Nat×(List AV→(AV→Prop)→Prop)):= [(226,c67)]
theorem BYf9:AAk9 prog T66:=Zag CCl9 Zai
theorem BJh9 (x:Int):wpc prog ⟨T66, [],wl,y,false⟩ 100 lp66 tm66 [cellU x] b (maskT [0,1] K)=(
 y b [Zae (i64 (halfS x))] fun cont0 b1=>BIf cont0 (∃x2:Int, [Zae (u64 x)]= [Zae (u64 x2)]∧K .normal tm66 [cellU (nextS x2)] b1) (K (.exit 0) tm66 [cellU x] b1)):=by kernel_rfl
def wl66 {β:Type} (y:ACx9 β):WLT β:=fun c tm hp b K=>∃(n:Nat) (x:Int),c= .loop lp66∧ABo9 [0,1] 0 tm=tm66∧hp= [cellU x]∧HSp y n x b fun b'=>∀z,K (.exit 0) tm66 [cellU z] b'
theorem HSp.yoke {Ev:Env prog} {Q Q':Ev.β→Prop} (hq:∀b,Q b→Q' b):∀(n:Nat) (x:Int) (b:Ev.β),HSp Ev.Y n x b Q→HSp Ev.Y n x b Q'
 |0,_,_,h=>h.elim
 | n+1,x,b,h=>Ev.Ymono h fun c b' h=>by
  cases c with
  |true=>exact HSp.yoke hq n _ _ h
  |false=>exact hq _ h
theorem wr66 {Ev:Env prog} {Q:Exit→St Ev.β→Prop}:∀(n:Nat) (x:Int) (b:Ev.β),(HSp Ev.Y n x b fun b'=>∀z,Q (.exit 0) ⟨tm66, [cellU z],b'⟩)→WR Ev lp66 n ⟨tm66, [cellU x],b⟩ Q
 |0,_,_,h=>h.elim
 | n+1,x,b,h=>by
  refine WR.ofMaskT [0,1] mixed (CX.Ok.of (u:=false) BYf9 Zad) (k:=100) ?_;rw [BJh9];refine Ev.Ymono h fun c b' h=> ?_;cases c with
  |true=>exact ⟨x,rfl,wr66 n _ _ h⟩
  |false=>exact h _
theorem BTk9 {Ev:Env prog} (c:Code) (tm:List AV) (hp:List Blk) (b:Ev.β) (K:Exit→List AV→List Blk→Ev.β→Prop) (h:wl66 Ev.Y c tm hp b K):W Ev c ⟨tm,hp,b⟩ (fun e s=>K e s.tm s.hp s.b):=by
 obtain ⟨n,x,rfl,htm,rfl,hK⟩:=h;refine W.cast (htm▸AAg9 _ tm 0) (LeH.refl _) ?_;exact W.rounds (wr66 (Q:=fun e s=>K e s.tm s.hp s.b) n x b hK)
theorem CBi9 (x:Int):wpc prog ⟨T66, [],wl66 y,y,false⟩ 100 (code f225) (AAw9 f225 [.yl, .ptr 0 0]) [cellU x] b (fnK prog f225 fun _ b=>Q b)=(
 ∃x0:Int, [Zae (u64 x)]= [Zae (u64 x0)]∧∃(n:Nat) (z:Int),Code.loop lp66= .loop lp66∧tm66=tm66∧ [cellU (nextS x0)]= [cellU z]∧HSp y n z b fun b'=>∀_:Int,Q b'):=by kernel_rfl
def BQr9 (x:Int):SpT:=fun Y b Q=>∃n,HSp Y n (nextS x) b Q
theorem ic66 (x:Int):BGp9 prog 225 [.yl, .ptr 0 0] (cellU x) (BQr9 x):=by
 refine BGp9.ofW (c:=code f225) func225 rfl rfl fun Ev b Q h=> ?_;obtain ⟨n,h⟩:=h;have h1:wpc prog ⟨T66, [],wl66 Ev.Y,Ev.Y,false⟩ 100 (code f225) (AAw9 f225 [.yl, .ptr 0 0]) [cellU x] b (fnK prog f225 fun _ b=>Q b):=by
  rw [CBi9];exact ⟨x,rfl,n,_,rfl,rfl,rfl,HSp.yoke (fun b h _=>h) _ _ _ h⟩
 refine AAo9 mixed (CX.Ok.ofWl BYf9 Zad BTk9) h1 fun e tm hp b hK=> ?_;obtain ⟨g1,ys,g2,z,g3,g4⟩:=ACu9 hK;exact ⟨g1,ys,g2,g4⟩
section
variable {β:Type} (wl:WLT β) (y:ACx9 β) (b:β) (R:AV→List Blk→β→Prop)
theorem CBj9 (x:Int):wpFnS prog ⟨[], [],wl,y,false⟩ 100 f206 [.d (u64 x)] b R=R (.fn (.func 225) [] [.ptr 0 0]) [cellU x] b:=by kernel_rfl
end
theorem fc63 (x:Int):FCall prog 206 [.d (u64 x)] (.fn (.func 225) [] [.ptr 0 0]) [cellU x]:=by
 refine FCall.ofFnW (n:=100) (u:=false) (fun _=>fun _ _ _ _ _=>False) mixed Zai Zad (fun Ev _ _ _ _ _ h=>h.elim) func206 (by rfl) (by rfl) (by rfl) fun Ev bb=> ?_;rw [CBj9];exact ⟨rfl,rfl⟩
def s63 (args:List AV) (hp:List Blk) (K:AV→List Blk→Prop):Prop:=∃(x:Int),args= [.d (u64 x)]∧K (.fn (.func 225) [] [.ptr hp.length 0]) (hp++ [cellU x])
theorem BYv9:∀args hp K,s63 args hp K→∃x hp',SCall prog 206 args hp x hp'∧K x hp':=by
 rintro _ hp K ⟨x,rfl,h⟩;exact ⟨_,_,(fc63 x).toS rfl hp,by simpa [shift,AKk9,AJn9,AUh9,cellU] using h⟩
def T58:List (Nat×(List AV→List Blk→(AV→List Blk→Prop)→Prop)):= [(206,s63)]
theorem BYg9:AAn9 prog T58:=AAn9.cons BYv9 Zad
noncomputable def rf58:Code:=sub [1,0,1,2] (code f153)
def cellI (x:Int):Blk:=⟨[.d (i64 x)],false,false,0⟩
def tm58 (x:Int):List AV:= [.d (u64 x), .bad, .ptr 0 0, .bad, .bad, .fn (.func 225) [] [.ptr 1 0], .bad, .bad]
theorem f58_a (x:Int):wpc prog ⟨[],T58,wl,y,false⟩ 100 (sub [0] (code f153)) (AAw9 f153 [.d (u64 x)]) [] b K=K .normal [.d (u64 x), .bad, .ptr 0 0, .bad, .bad, .bad, .bad, .bad] [cellI 0] b:=by kernel_rfl
theorem f58_b (x:Int):wpc prog ⟨[],T58,wl,y,false⟩ 100 (sub [1,0,0] (code f153)) [.d (u64 x), .bad, .ptr 0 0, .bad, .bad, .bad, .bad, .bad] [cellI 0] b (maskT [0,2,5] K)=(
 ∃x0:Int, [Zae (u64 x)]= [.d (u64 x0)]∧K .normal (tm58 x) [cellI 0,cellU x0] b):=by kernel_rfl
theorem f58_c (x h:Int) (K:Exit→List Blk→β→Prop):wpcY prog ⟨[], [],wl,y,false⟩ 100 #[6] (AAm9 rf58) (ABp9 rf58) (lowTm 1 (tm58 x)) [.d (i64 h)] [cellI 0] b (takeK 1 K)=K .ret [cellI h] b:=by kernel_rfl
theorem BCj9:rf58= .rangeFunc (.tmp 5) #[6] (AAm9 rf58) (ABp9 rf58):=by kernel_rfl
theorem BJi9:code f153= .seq (sub [0] (code f153)) (.seq (.seq (sub [1,0,0] (code f153)) (.block 0 rf58)) (sub [1,1] (code f153))):=by kernel_rfl
theorem BWl9 (x y:Int):resAs prog [cellI x] (lowTm 1 (tm58 y)) Tryz.f153.results.toList=some [.d (i64 x)]:=by kernel_rfl
theorem pc58 (x:Int):PCall prog 153 [.d (u64 x)] (.d (i64 (AKl9 x))):=by
 refine PCall.ofW0 (x0:=i64 (AKl9 x)) (c:=code f153) func153 rfl rfl rfl fun Ev b=> ?_;rw [BJi9];refine W0.seq (W0.of (AAo9 mixed (CX.Ok.of (u:=false) Zai BYg9) (n:=100) (K:=thenK (fun tm hp b'=>tm= [.d (u64 x), .bad, .ptr 0 0, .bad, .bad, .bad, .bad, .bad]∧hp= [cellI 0]) fun _ _ _ _=>False) ?_ ?_))
 ·rw [f58_a];exact ⟨rfl,rfl⟩
 intro e tm hp b' h;cases e<;>first|exact h.elim|skip
 obtain ⟨rfl,rfl⟩:=h;refine W0.seq (W0.seq (W0.of (W.castPost (AAo9 mixed (CX.Ok.of (u:=false) Zai BYg9) (n:=100) (K:=maskT [0,2,5] (thenK (fun tm hp b'=>tm=tm58 x∧hp= [cellI 0,cellU x]) fun _ _ _ _=>False)) ?_ ?_))))
 ·rw [f58_b];exact ⟨x,rfl,rfl,rfl⟩
 intro e tm hp b' h;refine ⟨_,_,AAg9 [0,2,5] tm 0,LeH.refl _, ?_⟩;cases e<;>first|exact h.elim|skip
 obtain ⟨h1,rfl⟩:=h;show W0 Ev _ _ _;rw [h1];refine W0.block ?_;rw [BCj9];refine W0.range (hp0:= [cellI 0]) (blk:=cellU x) rfl rfl rfl rfl rfl rfl rfl (ic66 x) ?_;refine ⟨1, ?_⟩;refine YBody.ofWp (k:=100) (X:=⟨[], [],wlW Ev,Ev.Y,false⟩) (K:=takeK 1 fun e hp b'=>e= .ret∧hp= [cellI (AKl9 x)]) mixed (CX.Ok.of Zai Zad) rfl ?_ ?_
 ·show wpcY _ _ _ _ _ _ (lowTm 1 (tm58 x)) [.d (i64 (halfS (nextS x)))] [cellI 0] _ _;rw [f58_c];exact ⟨rfl,rfl⟩
 intro e tm hp b' h;obtain ⟨h1,h2,h3⟩:=h.elim';subst h2;refine ⟨h1, ?_⟩;refine BIf.f rfl ?_;have h4:List.take [cellI 0].length hp= [cellI (AKl9 x)]:=h3;rw [h4];exact ⟨.inl rfl,_,BWl9 _ x,rfl,rfl⟩
def c58 (args:List AV) (K:AV→Prop):Prop:=∃(x:Int),args= [.d (u64 x)]∧K (.d (i64 (AKl9 x)))
theorem BXk9:∀args K,c58 args K→∃x,PCall prog 153 args x∧K x:=by
 rintro _ K ⟨x,rfl,h⟩;exact ⟨_,pc58 x,h⟩
theorem AOm9 (x:Int):0≤nextS x∧nextS x<18446744073709551616:=AIj9 _
theorem AZq9 {x:Int} (h0:0≤x) (h1:x<18446744073709551616):halfS x=x / 4294967296∧0≤halfS x∧halfS x<4294967296:=by
 have e:x.fdiv 4294967296=x / 4294967296:=by rw [Int.fdiv_eq_ediv_of_nonneg _ (by omega)]
 have h:halfS x=x / 4294967296:=by
  unfold halfS;rw [e,AAt9 (by omega) (by omega)]
 rw [h];omega
theorem AMl9 (x:Int):0≤AKl9 x∧AKl9 x<4294967296:=(AZq9 (AOm9 x).1 (AOm9 x).2).2
def maskS (x:Int):Int:=1+AKl9 x % 65535
theorem AOp9 (x:Int):1≤maskS x∧maskS x≤65535:=by unfold maskS;omega
theorem BQg9 (x:Int):Zac .i64 (1+Int.tmod (AKl9 x) (Zac .i64 (Zac .i64 (1*2 ^ min (Zat 16) 64) - 1)))=maskS x:=by
 have h1:Zac .i64 (Zac .i64 (1*2 ^ min (Zat 16) 64) - 1)=65535:=by decide
 have h:=AMl9 x;have h2:=AOp9 x;rw [h1,Int.tmod_eq_emod_of_nonneg h.1];exact AAt9 (by unfold maskS at h2;omega) (by unfold maskS at h2;omega)
def TMask:List (Nat×(List AV→(AV→Prop)→Prop)):= [(153,c58)]
theorem BSo9:AAk9 prog TMask:=Zag BXk9 Zai
theorem BVv9 (x:Int):wpFn prog ⟨TMask, [],wl,y,false⟩ 100 f98 [.d (u64 x), .d (i64 16)] b R=(
 ∃x0:Int, [Zae (u64 x)]= [.d (u64 x0)]∧R (.d (i64 (Zac .i64 (1+Int.tmod (AKl9 x0) (Zac .i64 (Zac .i64 (1*2 ^ min (Zat 16) 64) - 1)))))) b):=by kernel_rfl
theorem BIr9 (x:Int):wpFn prog ⟨[], [],wl,y,false⟩ 100 f97 [.d (i64 x)] b R=(
 BIf (decide (x≥0)) (R (.d (bo (decide (x≤1000000000)))) b) (R (.d (bo false)) b)):=by kernel_rfl
theorem BIs9 (x:Int):wpFn prog ⟨[], [],wl,y,false⟩ 100 f99 [.d (i64 x)] b R=(
 BIf (decide (x≥0)) (R (.d (bo (decide (x<16)))) b) (R (.d (bo false)) b)):=by kernel_rfl
theorem BZi9 (x:Int):PCall prog 98 [.d (u64 x), .d (i64 16)] (.d (i64 (maskS x))):=by
 refine Zbh (n:=100) (u:=false) mixed BSo9 Zad func98 (by rfl) (by rfl) fun Ev bb=> ?_;rw [BVv9];exact ⟨x,rfl,by rw [BQg9]⟩
def cMask (args:List AV) (K:AV→Prop):Prop:=∃(x:Int),args= [.d (u64 x), .d (i64 16)]∧K (.d (i64 (maskS x)))
theorem BRt9:∀args K,cMask args K→∃x,PCall prog 98 args x∧K x:=by
 rintro _ K ⟨x,rfl,h⟩;exact ⟨_,BZi9 x,h⟩
def seedS (x:Int):Bool:=decide (0≤x)&&decide (x≤1000000000)
def pageS (x:Int):Bool:=decide (0≤x)&&decide (x<16)
theorem BMz9 {x:Int} {q:Bool} {R:AV→Prop} (h:R (.d (bo (decide (0≤x)&&q)))):BIf (decide (x≥0)) (R (.d (bo q))) (R (.d (bo false))):=by
 by_cases h0:0≤x
 ·exact Zbr (by simpa using h0) (by simpa [h0] using h)
 ·exact BIf.f (by simpa using h0) (by simpa [h0] using h)
theorem BPr9 (x:Int):PCall prog 97 [.d (i64 x)] (.d (bo (seedS x))):=by
 refine Zbh (n:=100) (u:=false) mixed Zai Zad func97 (by rfl) (by rfl) fun Ev bb=> ?_;rw [BIr9];exact BMz9 (R:=fun y=>y=_) rfl
theorem BPs9 (x:Int):PCall prog 99 [.d (i64 x)] (.d (bo (pageS x))):=by
 refine Zbh (n:=100) (u:=false) mixed Zai Zad func99 (by rfl) (by rfl) fun Ev bb=> ?_;rw [BIs9];exact BMz9 (R:=fun y=>y=_) rfl
def cSeed (args:List AV) (K:AV→Prop):Prop:=∃(x:Int),args= [.d (i64 x)]∧K (.d (bo (seedS x)))
theorem AMy9:∀args K,cSeed args K→∃x,PCall prog 97 args x∧K x:=by
 rintro _ K ⟨x,rfl,h⟩;exact ⟨_,BPr9 x,h⟩
def BFt9 (args:List AV) (K:AV→Prop):Prop:=∃(x:Int),args= [.d (i64 x)]∧K (.d (bo (pageS x)))
theorem ATi9:∀args K,BFt9 args K→∃x,PCall prog 99 args x∧K x:=by
 rintro _ K ⟨x,rfl,h⟩;exact ⟨_,BPs9 x,h⟩
def setS (x:Int):Int:=if seedS x=false then 0 else if x<16 then 2 ^ x.toNat else maskS x
def TSet:List (Nat×(List AV→(AV→Prop)→Prop)):= [(97,cSeed),(98,cMask)]
theorem BXw9:AAk9 prog TSet:=Zag AMy9 (Zag BRt9 Zai)
theorem BYt9 (x:Int):wpFn prog ⟨TSet, [],wl,y,false⟩ 100 f33 [.d (i64 x)] b R=(
 ∃ x0:Int, [Zae (i64 x)]= [.d (i64 x0)]∧BIf (!seedS x0) (R (.d (i64 0)) b) (BIf (decide (x<16)) (BIf (decide (x<0)) False (R (.d (i64 (Zac .i64 (1*2 ^ min (Zat x) 64)))) b))
  (∃x1:Int, [Zae (u64 (Zac .u64 x)), .d (i64 16)]= [.d (u64 x1), .d (i64 16)]∧R (.d (i64 (maskS x1))) b))):=by kernel_rfl
theorem AGe9 {x:Int}:seedS x=true↔0≤x∧x≤1000000000:=by simp [seedS]
theorem BHj9 {x:Int} (h0:0≤x) (h1:x<16):Zac .i64 (1*2 ^ min (Zat x) 64)=2 ^ x.toNat:=by
 obtain ⟨n,rfl⟩:=Int.eq_ofNat_of_zero_le h0;have hn:n<16:=by omega
 have h2:∀m:Fin 16,Zac .i64 (1*2 ^ min (Zat ((m.val:Nat):Int)) 64)=2 ^ Zat ((m.val:Nat):Int):=by decide
 exact h2 ⟨n,hn⟩
theorem BBz9 (x:Int) {R:AV→Prop} (h:R (.d (i64 (setS x)))):BIf (!seedS x) (R (.d (i64 0))) (BIf (decide (x<16)) (BIf (decide (x<0)) False (R (.d (i64 (Zac .i64 (1*2 ^ min (Zat x) 64))))))
 (∃x1:Int, [Zae (u64 (Zac .u64 x)), .d (i64 16)]= [.d (u64 x1), .d (i64 16)]∧R (.d (i64 (maskS x1))))):=by
 by_cases hs:seedS x=true
 ·obtain ⟨h0,h1⟩:=AGe9.1 hs;refine BIf.f (by simp [hs]) ?_;by_cases hx:x<16
  ·refine Zbr (by simpa using hx) (BIf.f (by simp;omega) ?_);rw [BHj9 h0 hx];simpa [setS,hs,hx] using h
  ·refine BIf.f (by simpa using hx) ⟨x,by rw [AGc9 h0 (by omega)],by simpa [setS,hs,hx] using h⟩
 ·simp only [Bool.not_eq_true] at hs;exact Zbr (by simp [hs]) (by simpa [setS,hs] using h)
theorem pcSet (x:Int):PCall prog 33 [.d (i64 x)] (.d (i64 (setS x))):=by
 refine Zbh (n:=100) (u:=false) mixed BXw9 Zad func33 (by rfl) (by rfl) fun Ev bb=> ?_;rw [BYt9];exact ⟨x,rfl,BBz9 x (R:=fun y=>y=_) rfl⟩
def cSet (args:List AV) (K:AV→Prop):Prop:=∃(x z:Int),args= [.d (i64 x)]∧z=setS x∧K (.d (i64 z))
theorem BMm9:∀args K,cSet args K→∃x,PCall prog 33 args x∧K x:=by
 rintro _ K ⟨x,z,rfl,rfl,h⟩;exact ⟨_,pcSet x,h⟩
theorem ADz9 {x:Int} (h:seedS x=true):1≤setS x∧setS x≤65535:=by
 obtain ⟨h0,h1⟩:=AGe9.1 h;unfold setS;simp only [h,Bool.true_eq_false,if_false];split
 ·rename_i hx;obtain ⟨n,rfl⟩:=Int.eq_ofNat_of_zero_le h0;have hn:n<16:=by omega
  have h2:∀m:Fin 16,(1:Int)≤2 ^ Zat ((m.val:Nat):Int)∧(2:Int) ^ Zat ((m.val:Nat):Int)≤65535:=by decide
  exact h2 ⟨n,hn⟩
 ·exact AOp9 x
end Go.Proofs.YtibhflogmbfpcaaGreatDoor.Am
namespace Go.Proofs
open Go.Shelf
def Tryz.lays27_ren:Go.Shelf.Ren:=⟨fun|27=>102|28=>155|29=>156|n=>n,fun|25=>162|3=>3|27=>59|22=>22|4=>4|53=>259|0=>0|5=>5|54=>260|n=>n,fun|0=>0|1=>1|n=>n⟩
theorem Tryz.lays27:Go.Proofs.Lays7.n27 prog Tryz.lays27_ren:= {
 mixed:=by kernel_rfl
 f27:=Tryz.func102.trans (congrArg some (by kernel_rfl))
 f28:=Tryz.func155.trans (congrArg some (by kernel_rfl))
 f29:=Tryz.func156.trans (congrArg some (by kernel_rfl))
 t0:=Tryz.underlying0
 a0:=Tryz.isAgg0
 z0:=Tryz.sizeOf0
 v0:=Tryz.zeroValue0
 i0:=by kernel_rfl
 t3:=Tryz.underlying3
 a3:=Tryz.isAgg3
 z3:=Tryz.sizeOf3
 v3:=Tryz.zeroValue3
 i3:=by kernel_rfl
 t4:=Tryz.underlying4
 a4:=Tryz.isAgg4
 z4:=Tryz.sizeOf4
 v4:=Tryz.zeroValue4
 i4:=by kernel_rfl
 t5:=Tryz.underlying5
 a5:=Tryz.isAgg5
 z5:=Tryz.sizeOf5
 v5:=Tryz.zeroValue5
 i5:=by kernel_rfl
 t22:=Tryz.underlying22
 a22:=Tryz.isAgg22
 z22:=Tryz.sizeOf22
 v22:=Tryz.zeroValue22
 i22:=by kernel_rfl
 t25:=Tryz.underlying162
 a25:=Tryz.isAgg162
 z25:=Tryz.sizeOf162
 v25:=Tryz.zeroValue162
 i25:=by kernel_rfl
 t27:=Tryz.underlying59
 a27:=Tryz.isAgg59
 z27:=Tryz.sizeOf59
 v27:=Tryz.zeroValue59
 i27:=by kernel_rfl
 t53:=Tryz.underlying259
 a53:=Tryz.isAgg259
 z53:=Tryz.sizeOf259
 v53:=Tryz.zeroValue259
 i53:=by kernel_rfl
 t54:=Tryz.underlying260
 a54:=Tryz.isAgg260
 z54:=Tryz.sizeOf260
 g0:=by kernel_rfl
 g1:=by kernel_rfl}
end Go.Proofs
namespace Go.Proofs.YtibhflogmbfpcaaGreatDoor.Am
open Go Go.RowKit Go.Proofs Tryz
open AV renaming agg → Zbj, bad → Zba, d → Zae, ptr → Zbe
open BIf renaming of → Zau, t → Zbr
open BitVec renaming ofInt → Zap
open Bool renaming and_eq_true → Zal, false_eq_true → Zbt
open AAk9 renaming cons → Zag, nil → Zai
open Dv renaming sl → Zam
open Go.Exit renaming normal → Zeh
open Int renaming fdiv → Zbz, toNat → Zat, toNat_natCast → Zbn
open Go.IntKind renaming i64 → Zax, u8 → Zcp, wrap → Zac
open List renaming all_eq_true → Zav, foldl_cons → Zbl, getElem?_eq_getElem → Zbk, length → Zab, mem_cons → Zbx, mem_cons_of_mem → Zaw, mem_cons_self → Zbb, mem_iff_getElem? → Zak, mem_map → Zbd, mem_of_getElem? → Zbi, mem_range → Zbs, pairwise_cons → Zcc, range → Zay, range' → Zcm, replicate → Zaf
open Nat renaming le_refl → Zas, testBit_two_pow → Zdj
open PCall renaming ofFn → Zbh
open Prod renaming fst → Zdz
open AAn9 renaming nil → Zad
open UInt8 renaming toNat → Zef
open Go.Value renaming slice → Zbo
variable {β:Type} (wl:WLT β) (y:ACx9 β) (b:β) (R:AV→β→Prop) (K:Exit→List AV→List Blk→β→Prop) (Kh:Exit→List Blk→β→Prop) (Q:β→Prop)
open AV (bad)
set_option linter.unusedVariables false
set_option maxRecDepth 20000
theorem PCall.ofCallsG {P:Program} {f:Nat} (vals:List Value) {v:Value} (hent:∀(us:Array Value) (w:World),(callFunc f us).run P w= .ok (.enter f us) w)
 (h:∀S w,Glob S w→Calls P f vals.toArray w fun e w'=>e= .returned v∧w'=w):PCall P f (vals.map fun v=> .d (.s v)) (ofVal v):=by
 refine ⟨hent,fun S w vs hl hvs hlt hgl=> ?_⟩;have he:vs=vals:=by
  apply List.ext_getElem?;intro i;by_cases hi:i<vals.length
  ·have h1:=hvs i (.d (.s vals[i])) (vs[i]'(by simpa [←hl] using hi)) (by simp [hi]) (by simp);cases h1 with
   | d h1=>
    generalize hv:vs[i]'(by simpa [←hl] using hi)=u at h1;cases h1;rw [List.getElem?_eq_some_iff.2 ⟨by simpa [←hl] using hi,hv⟩];simp [hi]
  ·rw [List.getElem?_eq_none (by simpa [←hl] using hi),List.getElem?_eq_none (by omega)]
 subst he;refine CallsIn.mono (callsIn_wide.2 (h S w hgl)) ?_;rintro e w' ⟨rfl,rfl⟩;exact ⟨v,S,rfl,Below.refl _ _,fun _ _ h=>h,fun _ _ h=> .inl h,(RV.ofVal v).view⟩
theorem tab64:ABv9 1=Lib.deBruijn64tab.map fun (n:Nat)=>Value.int .u8 (n:Int):=by rfl
theorem BUd9 {S:Pr} {w:World} (h:Glob S w):TabAt 1 Lib.deBruijn64tab w:=by
 intro j hj;have h1:(ABv9 1)[j]? =some (.int .u8 (Lib.deBruijn64tab.getD j 0)):=by
  rw [tab64,List.getElem?_map,Zbk hj];simp [List.getD_eq_getElem?_getD,Zbk hj]
 exact (h 1 j _ h1).2.1
def tzS (x:Int):Int:=(Lib.ctz 64 x.toNat:Int)
theorem pcTz {x:Int} (h0:0≤x) (h1:x<18446744073709551616):PCall prog 102 [.d (u64 x)] (.d (i64 (tzS x))):=by
 have:=PCall.ofCallsG (P:=prog) (f:=102) [.int .u64 x] (v:= .int .i64 (tzS x)) (enters_of (f:=102) func102 (by rfl) (by rfl)) fun S w hg=>by
  have h2:=Any7.bits_TrailingZeros Tryz.lays27 x.toNat (by omega) w (fun _=>BUd9 hg);rw [Int.toNat_of_nonneg h0] at h2;exact h2
 exact this
def cTz (args:List AV) (K:AV→Prop):Prop:=∃(x z:Int),args= [.d (u64 x)]∧((0≤x∧x<18446744073709551616)∧z=tzS x)∧K (.d (i64 z))
theorem CCf9:∀args K,cTz args K→∃x,PCall prog 102 args x∧K x:=by
 rintro _ K ⟨x,z,rfl,⟨⟨h0,h1⟩,rfl⟩,h⟩;exact ⟨_,pcTz h0 h1,h⟩
theorem BRf9 (x:Int) (xs:List (List Dv)):wpFn prog ⟨[], [],wl,y,false⟩ 100 f103 [.d (.sl 1 ([u8 x]::xs))] b R=
 ∀(t:Bool),(t=true→ [u8 x]::xs= [])→BIf t (R (Zae (Dv.s (Zbo none 0 0))) b) (BIf (decide ((0+Zab ([u8 x]::xs))*1≤140737488355328)) (R (.d (.sl 1 ([u8 x]::xs))) b) False):=by kernel_rfl
theorem BVj9 (p:List Int) (h0:p≠ []) (h1:p.length≤140737488355328):PCall prog 103 [.d (.sl 1 (AAb9 p))] (.d (.sl 1 (AAb9 p))):=by
 cases p with
 |nil=>exact absurd rfl h0
 | cons x p=>
  refine Zbh (n:=100) (u:=false) mixed Zai Zad func103 (by rfl) (by rfl) fun Ev bb=> ?_;show wpFn prog _ 100 f103 [.d (.sl 1 ([u8 x]::AAb9 p))] bb _;rw [BRf9];refine fun t ht=>Zau (fun h=>by cases ht h) fun _=>Zbr ?_ rfl;simp [AAb9] at h1 ⊢;omega
def BXh9 (args:List AV) (K:AV→Prop):Prop:=∃(p:List Int),args= [.d (.sl 1 (AAb9 p))]∧(p≠ []∧p.length≤140737488355328)∧K (.d (.sl 1 (AAb9 p)))
theorem BKj9:∀args K,BXh9 args K→∃x,PCall prog 103 args x∧K x:=by
 rintro _ K ⟨p,rfl,⟨h0,h1⟩,h⟩;exact ⟨_,BVj9 p h0 h1,h⟩
def blkS (p:List Int) (i:Nat):List Int:=(p.drop (16*i)).take 16
def itemB (p:List Int) (i:Nat):List AV:= [.d (i64 i), .agg (AAy9 (blkS p i))]
noncomputable def lp42:Code:=sub [1,2,3] (code f154)
def tm42 (xs:List (List Dv)) (i:Int):List AV:= [.yl, .rptr [.sl 1 xs], .bad, .bad, .d (i64 i)]++Zaf 13 .bad
theorem AXl9 (xs:List (List Dv)) (i:Int):wpc prog ⟨[], [],wl,y,false⟩ 100 lp42 (tm42 xs i) [] b (maskT [0,1,4] K)=(
 BIf (decide (i<16)) (BIf (true&&decide (0≤Zac .i64 (i*16)∧Zac .i64 (i*16)≤↑xs.length∧(↑xs.length:Int)≤↑xs.length∧(↑xs.length:Int)≤↑xs.length))
  (BIf (decide (16≤((xs.drop (Zac .i64 (i*16)).toNat).take ((xs.length:Int).toNat - (Zac .i64 (i*16)).toNat)).length))
   (∃x0 x1 x2 x3 x4 x5 x6 x7 x8 x9 x10 x11 x12 x13 x14 x15:Int,(((xs.drop (Zac .i64 (i*16)).toNat).take ((xs.length:Int).toNat - (Zac .i64 (i*16)).toNat)).take 16).flatten=
    [u8 x0,u8 x1,u8 x2,u8 x3,u8 x4,u8 x5,u8 x6,u8 x7,u8 x8,u8 x9,u8 x10,u8 x11,u8 x12,u8 x13,u8 x14,u8 x15]∧
    y b [.d (i64 i), .agg [.d (u8 x0), .d (u8 x1), .d (u8 x2), .d (u8 x3), .d (u8 x4), .d (u8 x5), .d (u8 x6), .d (u8 x7), .d (u8 x8), .d (u8 x9), .d (u8 x10), .d (u8 x11), .d (u8 x12), .d (u8 x13), .d (u8 x14), .d (u8 x15)]]
     fun c b1=>BIf (!c) (K .ret (tm42 xs i) [] b1) (K .normal (tm42 xs (Zac .i64 (i+1))) [] b1)) False) False)
  (K (.exit 0) (tm42 xs i) [] b)):=by kernel_rfl
theorem BVx9 {p:List Int} (h:p.length=16):p.map u8= [u8 (nth p 0),u8 (nth p 1),u8 (nth p 2),u8 (nth p 3),u8 (nth p 4),u8 (nth p 5),u8 (nth p 6),u8 (nth p 7),u8 (nth p 8),u8 (nth p 9),u8 (nth p 10),u8 (nth p 11),u8 (nth p 12),u8 (nth p 13),u8 (nth p 14),u8 (nth p 15)]:=by
 match p,h with
 | [a0,a1,a2,a3,a4,a5,a6,a7,a8,a9,a10,a11,a12,a13,a14,a15],_=>rfl
theorem AQe9 (p:List Int):(AAb9 p).flatten=p.map u8:=by
 induction p with
 |nil=>rfl
 |cons x p ih=>simpa [AAb9] using ih
def wl42 {β:Type} (y:ACx9 β):WLT β:=fun c tm hp b K=>∃(p:List Int),c= .loop lp42∧ABo9 [0,1,4] 0 tm=tm42 (AAb9 p) 0∧hp= []∧p.length=256∧
 YList y ((Zcm 0 16).map (itemB p)) b fun b'=>∀i:Int,K (.exit 0) (tm42 (AAb9 p) i) [] b'∧K .ret (tm42 (AAb9 p) i) [] b'
theorem wr42 {Ev:Env prog} {Q:Exit→St Ev.β→Prop} (p:List Int) (hp:p.length=256):∀(n k:Nat) (b:Ev.β),k+n=16→
 (YList Ev.Y ((Zcm k n).map (itemB p)) b fun b'=>∀i:Int,Q (.exit 0) ⟨tm42 (AAb9 p) i, [],b'⟩∧Q .ret ⟨tm42 (AAb9 p) i, [],b'⟩)→WR Ev lp42 (n+1) ⟨tm42 (AAb9 p) k, [],b⟩ Q
 | 0,k,b,hk,h=>by
  refine WR.ofMaskT [0,1,4] mixed (CX.Ok.of (u:=false) Zai Zad) (k:=100) ?_;rw [AXl9];exact BIf.f (by simp;omega) (h _).1
 | n+1,k,b,hk,h=>by
  refine WR.ofMaskT [0,1,4] mixed (CX.Ok.of (u:=false) Zai Zad) (k:=100) ?_;rw [AXl9];have e1:Zac .i64 ((k:Int)*16)=((16*k:Nat):Int):=by rw [AAt9 (by omega) (by omega)];omega
  have e2:Zac .i64 ((k:Int)+1)=((k+1:Nat):Int):=by rw [AAt9 (by omega) (by omega)];omega
  rw [e1,e2,AAf9,hp];simp only [Zbn,AOx9,AFu9,AAf9];have e3:(p.drop (16*k)).take (Zat (256:Int) - 16*k)=p.drop (16*k):=List.take_of_length_le (by simp;omega);have e3':(p.drop (16*k)).take (256 - 16*k)=p.drop (16*k):=List.take_of_length_le (by simp;omega);simp only [e3,e3'];have e4:(blkS p k).length=16:=by simp [blkS];omega
  refine Zbr (by simp;omega) (Zbr (by simp;omega) (Zbr (by simp;omega) ⟨nth (blkS p k) 0,nth (blkS p k) 1,nth (blkS p k) 2,nth (blkS p k) 3,nth (blkS p k) 4,nth (blkS p k) 5,nth (blkS p k) 6,nth (blkS p k) 7,nth (blkS p k) 8,nth (blkS p k) 9,nth (blkS p k) 10,nth (blkS p k) 11,nth (blkS p k) 12,nth (blkS p k) 13,nth (blkS p k) 14,nth (blkS p k) 15, ?_, ?_⟩))
  ·rw [AQe9];exact BVx9 (p:=blkS p k) e4
  ·rw [List.range'_succ,List.map_cons] at h;refine Ev.Ymono h fun c b' h=> ?_;cases c with
   |true=>exact BIf.f rfl (wr42 p hp n (k+1) b' (by omega) h)
   |false=>exact Zbr rfl (h _).2
theorem BTp9 {Ev:Env prog} (c:Code) (tm:List AV) (hp:List Blk) (b:Ev.β) (K:Exit→List AV→List Blk→Ev.β→Prop) (h:wl42 Ev.Y c tm hp b K):W Ev c ⟨tm,hp,b⟩ (fun e s=>K e s.tm s.hp s.b):=by
 obtain ⟨p,rfl,htm,rfl,hp,hK⟩:=h;refine W.cast (htm▸AAg9 _ tm 0) (LeH.refl _) ?_;exact W.rounds (wr42 (Q:=fun e s=>K e s.tm s.hp s.b) p hp 16 0 b rfl hK)
theorem CBo9 (xs:List (List Dv)):wpc prog ⟨[], [],wl42 y,y,false⟩ 100 (code f154) (AAw9 f154 [.yl, .rptr [.sl 1 xs]]) [] b (fnK prog f154 fun _ b=>Q b)=(
 ∃p:List Int,Code.loop lp42= .loop lp42∧tm42 xs 0=tm42 (AAb9 p) 0∧([]:List Blk)= []∧p.length=256∧YList y ((Zcm 0 16).map (itemB p)) b fun b'=>∀_:Int,Q b'∧Q b'):=by kernel_rfl
theorem BWo9 (xs:List (List Dv)):wpFn prog ⟨[], [],wl,y,false⟩ 100 f101 [.d (.sl 1 xs)] b R=R (.fn (.func 154) [] [.rptr [.sl 1 xs]]) b:=by kernel_rfl
theorem ic42 (p:List Int) (hp:p.length=256):ICall prog 154 [.yl, .rptr [.sl 1 (AAb9 p)]] (fun Y b Q=>YList Y ((Zcm 0 16).map (itemB p)) b Q):=by
 refine ICall.ofW (c:=code f154) func154 rfl rfl fun Ev b Q h=> ?_;have h1:wpc prog ⟨[], [],wl42 Ev.Y,Ev.Y,false⟩ 100 (code f154) (AAw9 f154 [.yl, .rptr [.sl 1 (AAb9 p)]]) [] b (fnK prog f154 fun _ b=>Q b):=by
  rw [CBo9];exact ⟨p,rfl,rfl,rfl,hp,YList.mono (fun b h _=>⟨h,h⟩) _ _ h⟩
 refine AAo9 mixed (CX.Ok.ofWl Zai Zad BTp9) h1 fun e tm hp b hK=> ?_;obtain ⟨g1,ys,g2,z,g3,g4⟩:=ACu9 hK;exact ⟨g1,ys,g2,g4⟩
theorem BPy9 (xs:List (List Dv)):PCall prog 101 [.d (.sl 1 xs)] (.fn (.func 154) [] [.rptr [.sl 1 xs]]):=by
 refine Zbh (n:=100) (u:=false) mixed Zai Zad func101 (by rfl) (by rfl) fun Ev bb=> ?_;rw [BWo9]
def BMx9 (args:List AV) (K:AV→Prop):Prop:=∃(xs:List (List Dv)),args= [.d (.sl 1 xs)]∧K (.fn (.func 154) [] [.rptr [.sl 1 xs]])
theorem BGb9:∀args K,BMx9 args K→∃x,PCall prog 101 args x∧K x:=by
 rintro _ K ⟨xs,rfl,h⟩;exact ⟨_,BPy9 xs,h⟩
def AId9 (p:List Int):Blk:=⟨AAy9 p,false,false,0⟩
section
variable {β:Type} (wl:WLT β) (y:ACx9 β) (b:β) (R:AV→List Blk→β→Prop)
theorem BWp9 (p q:List Int) (b0 b2 b3 b4:Blk):wpc prog ⟨[], [],wl,y,true⟩ 100 (code f100) (AAw9 f100 [.agg (AAy9 q), .ptr 1 0]) [b0,AId9 p,b2,b3,b4] b (fnKS prog f100 R)=
 R (.tup []) [b0,AId9 (xorL p q),b2,b3,b4,AId9 q] b:=by kernel_rfl
end
theorem sc30 (p q:List Int) (b0 b2 b3 b4:Blk):SCall prog 100 [.agg (AAy9 q), .ptr 1 0] [b0,AId9 p,b2,b3,b4] (.tup []) [b0,AId9 (xorL p q),b2,b3,b4,AId9 q]:=by
 refine SCall.ofW (c:=code f100) func100 rfl rfl fun Ev b=> ?_;have h1:wpc prog ⟨[], [],wlW Ev,Ev.Y,true⟩ 100 (code f100) (AAw9 f100 [.agg (AAy9 q), .ptr 1 0]) [b0,AId9 p,b2,b3,b4] b (fnKS prog f100 fun x hp _=>x= .tup []∧hp= [b0,AId9 (xorL p q),b2,b3,b4,AId9 q]):=by
  rw [BWp9];exact ⟨rfl,rfl⟩
 exact AAo9 mixed (CX.Ok.of Zai Zad) h1 fun e tm hp b hK=>AIz9 hK
def s30 (args:List AV) (hp:List Blk) (K:AV→List Blk→Prop):Prop:=match hp with
 | [b0,b1,b2,b3,b4]=>∃(p q:List Int),args= [.agg (AAy9 q), .ptr 1 0]∧b1=AId9 p∧K (.tup []) [b0,AId9 (xorL p q),b2,b3,b4,AId9 q]
 |_=>False
theorem BYw9:∀args hp K,s30 args hp K→∃x hp',SCall prog 100 args hp x hp'∧K x hp':=by
 intro args hp K h;unfold s30 at h;split at h
 ·rename_i b0 b1 b2 b3 b4;obtain ⟨p,q,rfl,rfl,h⟩:=h;exact ⟨_,_,sc30 p q b0 b2 b3 b4,h⟩
 ·exact h.elim
noncomputable def rf12:Code:=sub [1,1,1,1,1,0,1,2] (code f34)
def TEnc:List (Nat×(List AV→(AV→Prop)→Prop)):= [(99,BFt9),(97,cSeed),(33,cSet),(101,BMx9),(102,cTz),(103,BXh9)]
theorem BNd9:AAk9 prog TEnc:=Zag ATi9 (Zag AMy9 (Zag BMm9 (Zag BGb9 (Zag CCf9 (Zag BKj9 Zai)))))
def SEnc:List (Nat×(List AV→List Blk→(AV→List Blk→Prop)→Prop)):= [(100,s30)]
theorem BNf9:AAn9 prog SEnc:=AAn9.cons BYw9 Zad
theorem BCm9:rf12= .rangeFunc (.tmp 32) #[33,34] (AAm9 rf12) (ABp9 rf12):=by kernel_rfl
def tmE (xs:List (List Dv)) (n s:Int):List AV:= [.bad, .d (i64 n), .d (i64 s), .bad, .bad, .bad, .ptr 0 0, .bad, .ptr 1 0, .ptr 2 0, .ptr 3 0]++Zaf 21 .bad++ [.fn (.func 154) [] [.rptr [.sl 1 xs]]]++Zaf 18 .bad
def resE:Blk:=⟨[.d (i64 0), .d (i64 0), .d (.s (.slice none 0 0)), .d (.s (.slice none 0 0))],false,false,0⟩
def hpE (acc:List Int) (set:Int):List Blk:= [resE,AId9 acc,⟨[.fn (.func 100) [] [.ptr 1 0]],false,false,0⟩,cellU set]
def andU (a b:Int):Int:=Zac .u64 ((Zap 64 a&&&Zap 64 b).toNat:Int)
def ASu9 (a:Int):Int:=andU a (Zac .u64 (a - 1))
def AHt9 (p:List Int) (st:List Int×Int) (i:Nat):List Int×Int:=if (i:Int)==tzS st.2 then (xorL st.1 (blkS p i),ASu9 st.2) else st
theorem BJp9 (xs:List (List Dv)) (n s i set:Int) (x acc:List Int):wpcY prog ⟨TEnc,SEnc,wl,y,false⟩ 100 #[33,34] (AAm9 rf12) (ABp9 rf12) (tmE xs n s) [.d (i64 i), .agg (AAy9 x)] (hpE acc set) b (takeK 4 Kh)=(
 ∃ x0 z1:Int, [Zae (u64 set)]= [.d (u64 x0)]∧((0≤x0∧x0<18446744073709551616)∧z1=tzS x0)∧BIf (i==z1)
  (∃p2 q3:List Int, [Zbj (AAy9 x), .ptr 1 0]= [.agg (AAy9 q3), .ptr 1 0]∧AId9 acc=AId9 p2∧Kh .normal (hpE (xorL p2 q3) (ASu9 set)) b) (Kh .normal (hpE acc set) b)):=by kernel_rfl
theorem AVc9 (a:Int):0≤ASu9 a∧ASu9 a<18446744073709551616:=AIj9 _
theorem BDa9 {Ev:Env prog} {b:Ev.β} {Q:Exit→St Ev.β→Prop} (xs:List (List Dv)) (n s:Int) (p:List Int):∀(l:List Nat) (st:List Int×Int),(0≤st.2∧st.2<18446744073709551616)→
 Q .normal ⟨tmE xs n s,hpE (l.foldl (AHt9 p) st).1 (l.foldl (AHt9 p) st).2,b⟩→
 YList (YBody Ev (tmE xs n s) #[33,34] (AAm9 rf12) (ABp9 rf12) 4) (l.map (itemB p)) (hpE st.1 st.2,b,none) (ADq9 (tmE xs n s) Q)
 | [],st,_,h=>h
 | i::l,st,hs,h=>by
  refine YList.step (X:=⟨TEnc,SEnc,wlW Ev,Ev.Y,false⟩) (k:=100) mixed (CX.Ok.of BNd9 BNf9) rfl ?_;show wpcY _ _ _ _ _ _ _ [.d (i64 _), .agg (AAy9 _)] (hpE _ _) b (takeK 4 _);rw [BJp9];rw [Zbl] at h;refine ⟨st.2,_,rfl,⟨hs,rfl⟩,Zau (fun hc=>⟨st.1,_,rfl,rfl, ?_⟩) fun hc=> ?_⟩
  ·have e:AHt9 p st i=(xorL st.1 (blkS p i),ASu9 st.2):=by unfold AHt9;rw [if_pos hc]
   rw [e] at h;exact BDa9 xs n s p l (xorL st.1 (blkS p i),ASu9 st.2) (AVc9 _) h
  ·have e:AHt9 p st i=st:=by unfold AHt9;rw [if_neg (by simp [hc])]
   rw [e] at h;exact BDa9 xs n s p l st hs h
def AHu9 (p:List Int) (set:Int):List Int×Int:=(Zcm 0 16).foldl (AHt9 p) ([],set)
def wlEnc {β:Type}:WLT β:=fun c tm hp b K=>∃(p:List Int) (n s set:Int),c=rf12∧ABo9 [1,2,6,8,9,10,32] 0 tm=tmE (AAb9 p) n s∧hp=hpE [] set∧(p.length=256∧0≤set∧set<18446744073709551616)∧
 ∃a z,AHu9 p set=(a,z)∧K .normal (tmE (AAb9 p) n s) (hpE a z) b
theorem BNu9 {Ev:Env prog} (c:Code) (tm:List AV) (hp:List Blk) (b:Ev.β) (K:Exit→List AV→List Blk→Ev.β→Prop) (h:wlEnc c tm hp b K):W Ev c ⟨tm,hp,b⟩ (fun e s=>K e s.tm s.hp s.b):=by
 obtain ⟨p,n,s,set,rfl,htm,rfl,⟨hp,h0,h1⟩,a,z,hf,hK⟩:=h;refine W.cast (htm▸AAg9 [1,2,6,8,9,10,32] tm 0) (LeH.refl _) ?_;rw [BCm9];refine W.range (s:=⟨tmE (AAb9 p) n s,_,b⟩) (k:=154) (first:= []) (caps:= [.rptr [.sl 1 (AAb9 p)]]) rfl rfl rfl (ic42 p hp) (BDa9 (AAb9 p) n s p _ ([],set) ⟨h0,h1⟩ ?_);have:(Zcm 0 16).foldl (AHt9 p) ([],set)=(a,z):=hf;rw [this];exact hK
def nilS:AV:= .d (.s (.slice none 0 0))
def codeA (n s:Int) (d:AV) (e:Int):AV:= .tup [.agg [.d (i64 n), .d (i64 s),d,nilS], .d (i64 e)]
theorem BJo9 (xs:List (List Dv)) (n s:Int):wpFn prog ⟨TEnc,SEnc,wlEnc,y,false⟩ 100 f34 [.d (.sl 1 xs), .d (i64 n), .d (i64 s)] b R=(
 BIf ((xs.length:Int) !=256) (R (codeA 0 0 nilS 1) b) (∃x0:Int, [Zae (i64 n)]= [.d (i64 x0)]∧BIf (!pageS x0) (R (codeA 0 0 nilS 1) b) (∃x1:Int, [Zae (i64 s)]= [.d (i64 x1)]∧BIf (!seedS x1) (R (codeA 0 0 nilS 1) b)
  (∃x2 z3:Int, [Zae (i64 s)]= [.d (i64 x2)]∧z3=setS x2∧∃xs4:List (List Dv), [Zae (.sl 1 xs)]= [.d (.sl 1 xs4)]∧∃(p5:List Int) (n6 s7 set8:Int),rf12=rf12∧tmE xs4 n s=tmE (AAb9 p5) n6 s7∧
   hpE [] (Zac .u64 z3)=hpE [] set8∧(p5.length=256∧0≤set8∧set8<18446744073709551616)∧∃(a9:List Int) (z10:Int),AHu9 p5 set8=(a9,z10)∧
    ∃p11:List Int, [Zae (.sl 1 (AAb9 (b16 a9)))]= [.d (.sl 1 (AAb9 p11))]∧(p11≠ []∧p11.length≤140737488355328)∧R (codeA n6 s7 (.d (.sl 1 (AAb9 p11))) 0) b)))):=by kernel_rfl
def encOk (p:List Int) (n s:Int):Bool:=decide (p.length=256)&&pageS n&&seedS s
def encS (p:List Int) (s:Int):List Int:=b16 (AHu9 p (setS s)).1
def encA (p:List Int) (n s:Int):AV:=if encOk p n s then codeA n s (.d (.sl 1 (AAb9 (encS p s)))) 0 else codeA 0 0 nilS 1
theorem BPt9 (p:List Int) (n s:Int):PCall prog 34 [.d (.sl 1 (AAb9 p)), .d (i64 n), .d (i64 s)] (encA p n s):=by
 refine PCall.ofFnW (n:=100) (u:=false) (fun _=>wlEnc) mixed BNd9 BNf9 (fun Ev=>BNu9) func34 (by rfl) (by rfl) fun Ev bb=> ?_;rw [BJo9,AAf9];refine Zau (fun h=> ?_) fun h=>⟨n,rfl,Zau (fun h1=> ?_) fun h1=>⟨s,rfl,Zau (fun h2=> ?_) fun h2=> ?_⟩⟩
 ·have:encOk p n s=false:=by simp [encOk];intro h3;simp at h;omega
  simp [encA,this]
 ·have:encOk p n s=false:=by simp at h1;simp [encOk,h1]
  simp [encA,this]
 ·have:encOk p n s=false:=by simp at h2;simp [encOk,h2]
  simp [encA,this]
 ·have h3:p.length=256:=by simp at h;omega
  simp at h1 h2;have ho:encOk p n s=true:=by simp [encOk,h1,h2,h3]
  have hr:=ADz9 h2;refine ⟨s,_,rfl,rfl,_,rfl,p,n,s,setS s,rfl,rfl, ?_,⟨h3,by omega,by omega⟩,(AHu9 p (setS s)).1,(AHu9 p (setS s)).2,by generalize AHu9 p (setS s)=z;rfl,b16 (AHu9 p (setS s)).1,by generalize (AHu9 p (setS s)).1=z;rfl,⟨fun h=>by have:=congrArg Zab h;simp [b16] at this,by generalize (AHu9 p (setS s)).1=z;simp [b16]⟩, ?_⟩
  ·rw [AGc9 (by omega) (by omega)]
  ·rw [encA,if_pos ho,encS]
def TRec:List (Nat×(List AV→(AV→Prop)→Prop)):= [(99,BFt9),(97,cSeed),(33,cSet),(32,c12)]
theorem BXy9:AAk9 prog TRec:=Zag ATi9 (Zag AMy9 (Zag BMm9 (Zag CCs9 Zai)))
def nil3:AV:= .tup [.d (.s (.slice none 0 0)), .d (bo false), .d (i64 1)]
def recA (n s:Int) (d pr:List (List Dv)):AV:= .agg [.d (i64 n), .d (i64 s), .d (.sl 1 d), .d (.sl 1 pr)]
theorem BCr9 (xs ys pr:List (List Dv)) (n s:Int):wpFn prog ⟨TRec, [],wl,y,false⟩ 100 f49 [.d (.sl 2 xs),recA n s ys pr] b R=(
 ∃ x0:Int, [Zae (i64 n)]= [.d (i64 x0)]∧BIf (!pageS x0) (R nil3 b) (∃x1:Int, [Zae (i64 s)]= [.d (i64 x1)]∧BIf (!seedS x1) (R nil3 b) (BIf ((ys.length:Int) !=16) (R nil3 b)
  (∃x2 z3:Int, [Zae (i64 s)]= [.d (i64 x2)]∧z3=setS x2∧∃(l4:List Row) (m5:Int) (b6:List Int) (x7:List Row×Bool×Int), [Zae (.sl 2 xs), .agg [.d (i64 z3), .d (.sl 1 ys)]]= [.d (.sl 2 (rowsR l4)),rowA m5 b6]∧
   2*l4.length≤1000000∧x7=addS l4 m5 b6∧R (addR x7) b)))):=by kernel_rfl
def recOk (n s:Int) (d:List Int):Bool:=pageS n&&seedS s&&decide (d.length=16)
def recS (l:List Row) (n s:Int) (d:List Int):List Row×Bool×Int:=if recOk n s d then addS l (setS s) d else ([],false,1)
theorem BHz9 (l:List Row) (n s:Int) (d:List Int) (pr:List (List Dv)) (hl:2*l.length≤1000000):PCall prog 49 [.d (.sl 2 (rowsR l)),recA n s (AAb9 d) pr] (addR (recS l n s d)):=by
 refine PCall.ofFnL (n:=100) (u:=false) (fun _=>fun _ _ _ _ _=>False) mixed BXy9 Zad (fun Ev _ _ _ _ _ h=>h.elim) func49 (by rfl) (by rfl) fun Ev bb=> ?_;rw [BCr9,AAf9];refine ⟨n,rfl,Zau (fun h1=> ?_) fun h1=>⟨s,rfl,Zau (fun h2=> ?_) fun h2=>Zau (fun h3=> ?_) fun h3=> ?_⟩⟩
 ·rw [recS,if_neg (by simp at h1;simp [recOk,h1])];exact AZk9 _ _
 ·rw [recS,if_neg (by simp at h2;simp [recOk,h2])];exact AZk9 _ _
 ·rw [recS,if_neg (by simp at h3;simp [recOk];intro _ _ h;omega)];exact AZk9 _ _
 ·simp at h1 h2 h3;rw [recS,if_pos (by simp [recOk,h1,h2];omega)];exact ⟨s,_,rfl,rfl,l,_,d,_,rfl,hl,rfl, .rfl⟩
def GB:List (Nat×(List AV→List Blk→(AV→List Blk→Prop)→Prop)):= [((1000000+5),fun _ _ _=>False)]
theorem GB_ok:AAn9 prog GB:=AAn9.cons (fun _ _ _ h=>h.elim) Zad
def TPg:List (Nat×(List AV→(AV→Prop)→Prop)):= [(123,c14)]
theorem BXz9:AAk9 prog TPg:=Zag CCr9 Zai
noncomputable def lp16:Code:=sub [1,1,1,0,1,2,3] (code f52)
def setF (l:List Bool) (i:Nat) (z:Bool):List Bool:=(Zay 16).map fun j=>if j=i then z else l.getD j false
def cellB (l:List Bool):Blk:=⟨(Zay 16).map fun i=> .d (bo (l.getD i false)),false,false,0⟩
def tm16 (xs:List (List Dv)) (v n:Nat) (i:Int):List AV:= [.d (.sl 2 xs), .bad, .bad, .bad, .ptr 0 0, .gref 1 v n 1, .bad, .bad, .bad, .d (i64 i)]++Zaf 25 .bad
def growB (cs:List AV) (v:Nat):Blk:=⟨cs,false,true,v⟩
def pageR {β:Type} (K:Exit→List AV→List Blk→β→Prop) (b:β) (xs:List (List Dv)) (cs:List AV) (l:List Bool) (v n i:Nat):Prop:=
 ∃ (l0:List Row) (m1:Int) (x2:List Int×Bool), [Zae (.sl 2 xs), .d (i64 i)]= [.d (.sl 2 (rowsR l0)), .d (i64 m1)]∧l0.length≤9223372036854775807∧x2=AAx9 l0 m1∧
  BIf x2.2 (v=v∧BIf (decide ((n+(AAb9 x2.1).length)*1≤140737488355328)) (K .normal (tm16 xs (v+1) (n+(AAb9 x2.1).length) (i+1:Nat)) [cellB (setF l i x2.2),growB (cs++flatA (AAb9 x2.1)) (v+1)] b) False)
   (K .normal (tm16 xs v n (i+1:Nat)) [cellB (setF l i x2.2),growB cs v] b)
theorem BDo9 (xs:List (List Dv)) (cs:List AV) (l:List Bool) (v n:Nat):∀i:Nat,i<16→
 wpc prog ⟨TPg,GB,wl,y,false⟩ 100 lp16 (tm16 xs v n i) [cellB l,growB cs v] b (maskT [0,4,5,9] K)=pageR K b xs cs l v n i
 |0,_=>by kernel_rfl
 |1,_=>by kernel_rfl
 |2,_=>by kernel_rfl
 |3,_=>by kernel_rfl
 |4,_=>by kernel_rfl
 |5,_=>by kernel_rfl
 |6,_=>by kernel_rfl
 |7,_=>by kernel_rfl
 |8,_=>by kernel_rfl
 |9,_=>by kernel_rfl
 |10,_=>by kernel_rfl
 |11,_=>by kernel_rfl
 |12,_=>by kernel_rfl
 |13,_=>by kernel_rfl
 |14,_=>by kernel_rfl
 |15,_=>by kernel_rfl
 |n+16,h=>absurd h (by omega)
theorem BQa9 (xs:List (List Dv)) (cs:List AV) (l:List Bool) (v n:Nat):wpc prog ⟨TPg,GB,wl,y,false⟩ 100 lp16 (tm16 xs v n 16) [cellB l,growB cs v] b (maskT [0,4,5,9] K)=K (.exit 0) (tm16 xs v n 16) [cellB l,growB cs v] b:=by kernel_rfl
theorem AYy9 (l:List Row) (i:Int):(AAx9 l i).1.length≤16:=by
 unfold AAx9;split
 ·simp
 ·split
  ·unfold AGr9;split<;>simp [b16]
  ·simp
def ADj9 (l:List Row) (st:List Int×List Bool) (i:Nat):List Int×List Bool:=
 if (AAx9 l i).2 then (st.1++(AAx9 l i).1,setF st.2 i (AAx9 l i).2) else (st.1,setF st.2 i (AAx9 l i).2)
theorem BNr9 {Ev:Env prog} {b:Ev.β} {Q:Exit→St Ev.β→Prop} (l:List Row) (hl:l.length≤9223372036854775807):∀(n k:Nat) (st:List Int×List Bool) (v:Nat),k+n=16→st.1.length≤16*k→
 (∀v',Q (.exit 0) ⟨tm16 (rowsR l) v' ((Zcm k n).foldl (ADj9 l) st).1.length 16, [cellB ((Zcm k n).foldl (ADj9 l) st).2,growB (flatA (AAb9 ((Zcm k n).foldl (ADj9 l) st).1)) v'],b⟩)→
 WR Ev lp16 (n+1) ⟨tm16 (rowsR l) v st.1.length k, [cellB st.2,growB (flatA (AAb9 st.1)) v],b⟩ Q
 | 0,k,st,v,hk,hs,h=>by
  refine WR.ofMaskT [0,4,5,9] mixed (CX.Ok.of (u:=false) BXz9 GB_ok) (k:=100) ?_;obtain rfl:k=16:=by omega
  show wpc _ _ _ _ (tm16 (rowsR l) v st.1.length 16) _ _ _;rw [BQa9];exact h v
 | n+1,k,st,v,hk,hs,h=>by
  refine WR.ofMaskT [0,4,5,9] mixed (CX.Ok.of (u:=false) BXz9 GB_ok) (k:=100) ?_;rw [BDo9 _ _ _ _ _ _ _ _ _ k (by omega)];rw [List.range'_succ,Zbl] at h;have hd:=AYy9 l k;refine ⟨l,_,AAx9 l k,rfl,hl,rfl,Zau (fun hf=>⟨rfl,Zbr (by rw [AAf9];simp;omega) ?_⟩) fun hf=> ?_⟩
  ·have e:ADj9 l st k=(st.1++(AAx9 l k).1,setF st.2 k (AAx9 l k).2):=by simp [ADj9,hf]
   rw [e] at h;have:=BNr9 l hl n (k+1) (st.1++(AAx9 l k).1,setF st.2 k (AAx9 l k).2) (v+1) (by omega) (by simp;omega) h;rw [BGd9,AUx9,List.length_append] at this;rw [AAf9];exact this
  ·have e:ADj9 l st k=(st.1,setF st.2 k (AAx9 l k).2):=by simp [ADj9,hf]
   rw [e] at h;exact BNr9 l hl n (k+1) (st.1,setF st.2 k (AAx9 l k).2) v (by omega) (by simp;omega) h
def AHn9 (f:List Bool):List (List Dv):=f.map fun z=> [bo z]
def ixS (w:Bool):List Bool→Nat→Int
 | [],_=> -1
 |z::f,k=>if w==z then k else ixS w f (k+1)
theorem BWe9 (w:Bool):∀(f:List Bool) (k:Nat),decide (ixS w f k≥0)=f.contains w
 | [],k=>by simp [ixS]
 | z::f,k=>by
  unfold ixS;rw [List.contains_cons];cases h:w==z with
  |true=>simp
  |false=>simpa using BWe9 w f (k+1)
noncomputable def lp57:Code:=sub [1,0,1,2,3] (code f176)
def tm57 (xs:List (List Dv)) (w:Bool) (n i:Int):List AV:= [.d (.sl 1 xs), .d (bo w), .bad, .bad, .bad, .bad, .bad, .d (i64 n), .d (i64 i)]++Zaf 10 .bad
theorem AXk9 (xs:List (List Dv)) (w:Bool) (n i:Int):wpc prog ⟨[], [],wl,y,false⟩ 100 lp57 (tm57 xs w n i) [] b (maskK 0 [0,1,4,7,8] K)=(
 BIf (decide (i<n)) (BIf (true&&decide (0≤i)) (∃b0:Bool,xs[Zat i]? =some [bo b0]∧BIf (w==b0) (K .ret ((tm57 xs w n i).set 4 (.d (i64 i))) [] b) (K .normal (tm57 xs w n (Zac .i64 (i+1))) [] b)) False)
  (K (.exit 0) (tm57 xs w n i) [] b)):=by kernel_rfl
def wl57 {β:Type}:WLT β:=fun c tm hp b K=>∃(f:List Bool) (w:Bool),c= .loop lp57∧ABo9 [0,1,7,8] 0 tm=tm57 (AHn9 f) w f.length 0∧hp= []∧f.length≤9223372036854775807∧
 (∀i:Nat,ixS w f 0=i→K .ret ((tm57 (AHn9 f) w f.length i).set 4 (.d (i64 i))) [] b)∧(ixS w f 0= -1→K (.exit 0) (tm57 (AHn9 f) w f.length f.length) [] b)
theorem wr57 {Ev:Env prog} {b:Ev.β} {Q:Exit→St Ev.β→Prop} (f:List Bool) (w:Bool) (hl:f.length≤9223372036854775807):∀(rest:List Bool) (k:Nat),f.drop k=rest→k≤f.length→
 (∀i:Nat,ixS w rest k=i→Q .ret ⟨(tm57 (AHn9 f) w f.length i).set 4 (.d (i64 i)), [],b⟩)→(ixS w rest k= -1→Q (.exit 0) ⟨tm57 (AHn9 f) w f.length f.length, [],b⟩)→WR Ev lp57 (rest.length+1) ⟨tm57 (AHn9 f) w f.length k, [],b⟩ Q
 | [],k,hd,hk,h1,h2=>by
  refine WR.ofMask [0,1,4,7,8] mixed (CX.Ok.of (u:=false) Zai Zad) (k:=100) ?_;show wpc _ _ _ _ _ _ _ (maskK 0 _ _);rw [AXk9];have:=ADw9 hd;obtain rfl:k=f.length:=by omega
  exact BIf.f (by simp) (h2 rfl)
 | z::rest,k,hd,hk,h1,h2=>by
  refine WR.ofMask [0,1,4,7,8] mixed (CX.Ok.of (u:=false) Zai Zad) (k:=100) ?_;show wpc _ _ _ _ _ _ _ (maskK 0 _ _);rw [AXk9];obtain ⟨hk,hr,hd'⟩:=ABr9 hd;refine Zbr (by simpa using hk) (Zbr (by simp) ⟨z,by simp [AHn9,hr],Zau (fun hz=> ?_) fun hz=> ?_⟩)
  ·exact h1 k (by simp [ixS,hz])
  ·rw [ACt9 hk hl];have e:ixS w (z::rest) k=ixS w rest (k+1):=by simp [ixS,hz]
   rw [e] at h1 h2;exact wr57 f w hl rest (k+1) hd' hk h1 h2
theorem BTn9 {Ev:Env prog} (c:Code) (tm:List AV) (hp:List Blk) (b:Ev.β) (K:Exit→List AV→List Blk→Ev.β→Prop) (h:wl57 c tm hp b K):W Ev c ⟨tm,hp,b⟩ (fun e s=>K e s.tm s.hp s.b):=by
 obtain ⟨f,w,rfl,htm,rfl,hl,h1,h2⟩:=h;refine W.cast (htm▸AAg9 _ tm 0) (LeH.refl _) ?_;exact W.rounds (wr57 (Q:=fun e s=>K e s.tm s.hp s.b) f w hl f 0 rfl (Nat.zero_le _) h1 h2)
theorem CBn9 (xs:List (List Dv)) (w:Bool):wpFn prog ⟨[], [],wl57,y,false⟩ 100 f176 [.d (.sl 1 xs), .d (bo w)] b R=(
 ∃ (f:List Bool) (w':Bool),Code.loop lp57= .loop lp57∧tm57 xs w xs.length 0=tm57 (AHn9 f) w' f.length 0∧([]:List Blk)= []∧f.length≤9223372036854775807∧
  (∀i:Nat,ixS w' f 0=i→R (.d (i64 i)) b)∧(ixS w' f 0= -1→R (.d (i64 (-1))) b)):=by kernel_rfl
theorem BVf9 (f:List Bool) (w:Bool) (hl:f.length≤9223372036854775807):PCall prog 176 [.d (.sl 1 (AHn9 f)), .d (bo w)] (.d (i64 (ixS w f 0))):=by
 refine PCall.ofFnW (n:=100) (u:=false) (fun _=>wl57) mixed Zai Zad (fun Ev=>BTn9) func176 (by rfl) (by rfl) fun Ev bb=> ?_;rw [CBn9];have hbl:(AHn9 f).length=f.length:=by simp [AHn9]
 rw [hbl];exact ⟨f,w,rfl,rfl,rfl,hl,fun i h=>by rw [h],fun h=>by rw [h]⟩
def BMt9 (args:List AV) (K:AV→Prop):Prop:=∃(f:List Bool) (w:Bool) (z:Int),args= [.d (.sl 1 (AHn9 f)), .d (bo w)]∧(f.length≤9223372036854775807∧z=ixS w f 0)∧K (.d (i64 z))
theorem BFu9:∀args K,BMt9 args K→∃x,PCall prog 176 args x∧K x:=by
 rintro _ K ⟨f,w,_,rfl,⟨hl,rfl⟩,h⟩;exact ⟨_,BVf9 f w hl,h⟩
def TCon:List (Nat×(List AV→(AV→Prop)→Prop)):= [(176,BMt9)]
theorem BYc9:AAk9 prog TCon:=Zag BFu9 Zai
theorem AZw9 (xs:List (List Dv)) (w:Bool):wpFn prog ⟨TCon, [],wl,y,false⟩ 100 f124 [.d (.sl 1 xs), .d (bo w)] b R=(
 ∃(f:List Bool) (w':Bool) (z:Int), [Zae (.sl 1 xs), .d (bo w)]= [.d (.sl 1 (AHn9 f)), .d (bo w')]∧(f.length≤9223372036854775807∧z=ixS w' f 0)∧R (.d (bo (decide (z≥0)))) b):=by kernel_rfl
theorem BDk9 (f:List Bool) (w:Bool) (hl:f.length≤9223372036854775807):PCall prog 124 [.d (.sl 1 (AHn9 f)), .d (bo w)] (.d (bo (f.contains w))):=by
 refine Zbh (n:=100) (u:=false) mixed BYc9 Zad func124 (by rfl) (by rfl) fun Ev bb=> ?_;rw [AZw9];exact ⟨f,w,_,rfl,⟨hl,rfl⟩,by rw [BWe9]⟩
def AYa9 (args:List AV) (K:AV→Prop):Prop:=∃(f:List Bool) (w z:Bool),args= [.d (.sl 1 (AHn9 f)), .d (bo w)]∧(f.length≤9223372036854775807∧z=f.contains w)∧K (.d (bo z))
theorem AVh9:∀args K,AYa9 args K→∃x,PCall prog 124 args x∧K x:=by
 rintro _ K ⟨f,w,_,rfl,⟨hl,rfl⟩,h⟩;exact ⟨_,BDk9 f w hl,h⟩
def pageF (l:List Row):List Int×List Bool:=(Zcm 0 16).foldl (ADj9 l) ([], [])
def BGt9 {β:Type}:WLT β:=fun c tm hp b K=>∃(l:List Row) (r:List Int×List Bool),c= .loop lp16∧ABo9 [0,4,5,9] 0 tm=tm16 (rowsR l) 0 0 0∧hp= [cellB [],growB [] 0]∧l.length≤9223372036854775807∧r=pageF l∧
 ∀v,K (.exit 0) (tm16 (rowsR l) v r.1.length 16) [cellB r.2,growB (flatA (AAb9 r.1)) v] b
theorem BGs9 {Ev:Env prog} (c:Code) (tm:List AV) (hp:List Blk) (b:Ev.β) (K:Exit→List AV→List Blk→Ev.β→Prop) (h:BGt9 c tm hp b K):W Ev c ⟨tm,hp,b⟩ (fun e s=>K e s.tm s.hp s.b):=by
 obtain ⟨l,r,rfl,htm,rfl,hl,rfl,hK⟩:=h;refine W.cast (htm▸AAg9 _ tm 0) (LeH.refl _) ?_;exact W.rounds (BNr9 (Q:=fun e s=>K e s.tm s.hp s.b) l hl 16 0 ([], []) 0 rfl (Nat.zero_le _) hK)
def TPage:List (Nat×(List AV→(AV→Prop)→Prop)):= [(124,AYa9)]
theorem BSn9:AAk9 prog TPage:=Zag AVh9 Zai
def noneF (l:List Bool):Bool:=(Zcm 0 16).foldr (fun i a=>l.getD i false==false&&a) true
def BYx9 (l:List Bool):List (List Dv):=(Zcm 0 16).map fun i=> [bo (l.getD i false)]
def AFg9 (l:List Row):List Int×Bool:=if noneF (pageF l).2||((Zcm 0 16).map fun i=>(pageF l).2.getD i false).contains false then ([],false) else ((pageF l).1,true)
theorem BVo9 (xs:List (List Dv)):wpFn prog ⟨TPage,GB,BGt9,y,false⟩ 100 f52 [.d (.sl 2 xs)] b R=(
 ∃ (l:List Row) (r:List Int×List Bool),Code.loop lp16= .loop lp16∧tm16 xs 0 0 0=tm16 (rowsR l) 0 0 0∧ [cellB [],growB [] 0]= [cellB [],growB [] 0]∧l.length≤9223372036854775807∧r=pageF l∧∀v:Nat,
  BIf (noneF r.2) (R (.tup [.d (.s (.slice none 0 0)), .d (bo false)]) b)
   (∃(f:List Bool) (w z:Bool), [Zae (.sl 1 (BYx9 r.2)), .d (bo false)]= [.d (.sl 1 (AHn9 f)), .d (bo w)]∧(f.length≤9223372036854775807∧z=f.contains w)∧
    BIf z (R (.tup [.d (.s (.slice none 0 0)), .d (bo false)]) b) (v=v∧∃xs5:List (List Dv),flatA (AAb9 r.1)=flatA xs5∧xs5.length=r.1.length∧(∀q:List Dv,q∈xs5→q.length=1)∧R (.tup [.d (.sl 1 xs5), .d (bo true)]) b))):=by kernel_rfl
theorem BZh9 (l:List Row) (hl:l.length≤9223372036854775807):PCall prog 52 [.d (.sl 2 (rowsR l))] (BSc9 (AFg9 l)):=by
 refine PCall.ofFnL (n:=100) (u:=false) (fun _=>BGt9) mixed BSn9 GB_ok (fun Ev=>BGs9) func52 (by rfl) (by rfl) fun Ev bb=> ?_;show wpFn prog ⟨TPage,GB,BGt9,Ev.Y,false⟩ 100 f52 _ bb _;rw [BVo9];refine ⟨l,_,rfl,rfl,rfl,hl,rfl,fun v=>Zau (fun h=> ?_) fun h=>⟨(Zcm 0 16).map fun i=>(pageF l).2.getD i false,false,_,rfl,⟨by simp,rfl⟩,Zau (fun h1=> ?_) fun h1=>⟨rfl,AAb9 (pageF l).1,rfl,AAf9 _, ?_, ?_⟩⟩⟩
 ·rw [AFg9,if_pos (by rw [h];rfl)];exact AOl9 _
 ·rw [AFg9,if_pos (by rw [h1];simp)];exact AOl9 _
 ·intro q hq;simp only [AAb9,Zbd] at hq;obtain ⟨x,_,rfl⟩:=hq;rfl
 ·rw [AFg9,if_neg (by rw [h,h1];simp)];exact .rfl
theorem BOn9 (l:List Bool) (i j:Nat) (z:Bool) (hj:j<16):(setF l i z).getD j false=if j=i then z else l.getD j false:=by
 simp [setF,List.getD,hj]
theorem ARr9 (l:List Row):∀(n k:Nat) (st:List Int×List Bool) (j:Nat),j<16→(((Zcm k n).foldl (ADj9 l) st).2.getD j false)=if k≤j∧j<k+n then (AAx9 l j).2 else st.2.getD j false
 |0,k,st,j,hj=>by simp;intro h1 h2;omega
 | n+1,k,st,j,hj=>by
  rw [List.range'_succ,Zbl,ARr9 l n (k+1) _ j hj];have e:(ADj9 l st k).2=setF st.2 k (AAx9 l k).2:=by unfold ADj9;split<;>rfl
  rw [e,BOn9 _ _ _ _ hj];by_cases h1:j=k
  ·subst h1;rw [if_neg (by omega),if_pos rfl,if_pos (by omega)]
  ·rw [if_neg h1];by_cases h2:k+1≤j∧j<k+1+n
   ·rw [if_pos h2,if_pos (by omega)]
   ·rw [if_neg h2,if_neg (by omega)]
theorem AWq9 (l:List Row):∀(n k:Nat) (st:List Int×List Bool),(∀i:Nat,k≤i→i<k+n→(AAx9 l i).2=true)→((Zcm k n).foldl (ADj9 l) st).1=st.1++(Zcm k n).flatMap fun i:Nat=>(AAx9 l i).1
 |0,k,st,_=>by simp
 | n+1,k,st,h=>by
  rw [List.range'_succ,Zbl,AWq9 l n (k+1) _ fun i h1 h2=>h i (by omega) (by omega)];have e:(ADj9 l st k).1=st.1++(AAx9 l k).1:=by unfold ADj9;rw [if_pos (h k (by omega) (by omega))]
  rw [e];simp
theorem BIk9 (l:List Bool):noneF l=true↔∀i,i<16→l.getD i false=false:=by
 have key:∀(n k:Nat),(Zcm k n).foldr (fun i a=>l.getD i false==false&&a) true=true↔∀i,k≤i→i<k+n→l.getD i false=false:=by
  intro n;induction n with
  |zero=>intro k;simp;intro i h1 h2;omega
  | succ n ih=>
   intro k;rw [List.range'_succ,List.foldr_cons,Zal,ih,beq_iff_eq];refine ⟨fun h i h1 h2=> ?_,fun h=>⟨h k (by omega) (by omega),fun i h1 h2=>h i (by omega) (by omega)⟩⟩;by_cases hi:i=k
   ·subst hi;exact h.1
   ·exact h.2 i (by omega) (by omega)
 have:=key 16 0;exact this.trans ⟨fun h i hi=>h i (by omega) (by omega),fun h i _ hi=>h i (by omega)⟩
theorem AWp9 (l:List Row):AFg9 l=if (Zcm 0 16).all fun i:Nat=>(AAx9 l i).2 then ((Zcm 0 16).flatMap fun i:Nat=>(AAx9 l i).1,true) else ([],false):=by
 have hb:∀j,j<16→(pageF l).2.getD j false=(AAx9 l j).2:=fun j hj=>by
  unfold pageF;rw [ARr9 l 16 0 _ j hj,if_pos (by omega)]
 by_cases h:(Zcm 0 16).all (fun i:Nat=>(AAx9 l i).2)=true
 ·rw [if_pos h];have h':∀i:Nat,i<16→(AAx9 l i).2=true:=fun i hi=>Zav.1 h i (by simp [List.mem_range'_1];omega);have hn:noneF (pageF l).2=false:=by
   cases hx:noneF (pageF l).2 with
   |false=>rfl
   |true=>have:=(BIk9 _).1 hx 0 (by omega);rw [hb 0 (by omega),h' 0 (by omega)] at this;cases this
  have hc:((Zcm 0 16).map fun i=>(pageF l).2.getD i false).contains false=false:=by
   rw [List.contains_eq_mem,decide_eq_false_iff_not];intro hm;obtain ⟨i,hi,he⟩:=Zbd.1 hm;have hi:i<16:=by simp [List.mem_range'_1] at hi;omega
   rw [hb i hi,h' i hi] at he;cases he
  rw [AFg9,if_neg (by rw [hn,hc];simp)];have:=AWq9 l 16 0 ([], []) fun i _ h2=>h' i (by omega);rw [show (pageF l).1=_ from this];simp
 ·rw [if_neg h];have:∃i:Nat,i<16∧(AAx9 l i).2=false:=by
   false_or_by_contra
   rename_i hn;exact h (Zav.2 fun i hi=>by
    have hi:i<16:=by simp [List.mem_range'_1] at hi;omega
    cases hx:(AAx9 l i).2 with
    |true=>rfl
    |false=>exact absurd ⟨i,hi,hx⟩ hn)
  obtain ⟨i,hi,hx⟩:=this;rw [AFg9,if_pos];rw [Bool.or_eq_true];right;rw [List.contains_eq_mem,decide_eq_true_eq];exact Zbd.2 ⟨i,by simp [List.mem_range'_1];omega,by rw [hb i hi,hx]⟩
def tmR (ps ss:List (List Dv)) (l:AV) (n i:Int):List AV:= [.d (.sl 1 ps), .d (.sl 1 ss), .bad, .bad, .bad, .bad, .bad,l, .d (i64 n), .d (i64 i)]++Zaf 43 .bad
section
variable {ι:Type}
def vx (u v:ι→Bool):ι→Bool:=fun i=>(u i ^^ v i)
def redV (x:ι→Bool) (r:ι×(ι→Bool)):ι→Bool:=if x r.1 then vx x r.2 else x
theorem BUq9 (x y:ι→Bool) (r:ι×(ι→Bool)):redV (vx x y) r=vx (redV x r) (redV y r):=by
 funext i;unfold redV;have e:vx x y r.1=(x r.1 ^^ y r.1):=rfl;rw [e];cases x r.1<;>cases y r.1<;>simp [vx]<;>cases x i<;>cases y i<;>cases r.2 i<;>rfl
theorem ADu9:∀(l:List (ι×(ι→Bool))) (x y:ι→Bool),l.foldl redV (vx x y)=vx (l.foldl redV x) (l.foldl redV y)
 | [],x,y=>rfl
 |r::l,x,y=>by simp only [Zbl,BUq9,ADu9 l]
end
abbrev Ix:=Nat ⊕ (Nat×Nat)
def vec (x:Row):Ix→Bool
 | .inl k=>x.1.toNat.testBit k
 | .inr (i,j)=>decide (i<16)&&(Zap 8 (nth x.2 i)).getLsbD j
def top (m:Int):Nat:=m.toNat.log2
def rowV (r:Row):Ix×(Ix→Bool):=(.inl (top r.1),vec (r.1,pad r.2))
theorem APu9 {p q:List Int} {i:Nat} (h:i<16):nth (xorL p q) i=xor8 (nth p i) (nth q i):=by
 simp [nth,xorL,List.getElem?_range,h]
theorem AYm9 {n:Nat} (h:n<256):Zac .u8 (n:Int)=n:=BBc9 (by omega) (by omega)
theorem BAu9 (a b:Int):xor8 a b=(((Zap 8 a ^^^ Zap 8 b).toNat:Nat):Int):=by
 unfold xor8;exact AYm9 (BitVec.isLt _)
theorem AMc9 (a b:Int):Zap 8 (xor8 a b)=Zap 8 a ^^^ Zap 8 b:=by
 rw [BAu9];generalize hz:Zap 8 a ^^^ Zap 8 b=z;apply BitVec.eq_of_toNat_eq;rw [BitVec.toNat_ofInt];have:=z.isLt;omega
theorem BLb9 (a b:Int):0≤xor8 a b∧xor8 a b<256:=by
 rw [BAu9];have:=(Zap 8 a ^^^ Zap 8 b).isLt;omega
theorem BBj9 {m n:Int} {p q:List Int} (h0:0≤m) (h1:m<65536) (h2:0≤n) (h3:n<65536):vec (xor64 m n,xorL p q)=vx (vec (m,p)) (vec (n,q)):=by
 funext i;cases i with
 |inl k=>simp only [vec,vx];rw [APf9 h0 h1 h2 h3];simp
 | inr ij=>
  obtain ⟨i,j⟩:=ij;simp only [vec,vx];by_cases h:i<16
  ·rw [APu9 h,AMc9];simp [h]
  ·simp [h]
theorem BDz9 (m:Int):(lead m).toNat=2 ^ top m:=Zbn _
theorem AWz9 {m:Int} (h0:1≤m) (h1:m<65536):0≤lead m∧lead m<65536:=by
 have h2:=(AFr9 (n:=m.toNat) (by omega)).1;unfold lead;generalize 2 ^ m.toNat.log2=z at h2;omega
theorem BXs9 (n k:Nat):n&&&2 ^ k=if n.testBit k then 2 ^ k else 0:=by
 apply Nat.eq_of_testBit_eq;intro i;rw [Nat.testBit_and,Zdj];by_cases h:k=i
 ·subst h;cases hn:n.testBit k<;>simp [Zdj]
 ·cases hn:n.testBit k<;>simp [Zdj,h]
theorem AQn9 {x m:Int} (hx:0≤x∧x<65536) (h0:1≤m) (h1:m<65536):(and64 x (lead m) !=0)=x.toNat.testBit (top m):=by
 have hl:=AWz9 h0 h1;rw [BGj9 hx.1 hx.2 hl.1 hl.2,BDz9,BXs9];cases x.toNat.testBit (top m) with
 | true=>
  have:=Nat.two_pow_pos (top m);generalize 2 ^ top m=z at this;simp [bne];omega
 |false=>simp [bne]
theorem BTx9 {x r:Row} (hx:0≤x.1∧x.1<65536) (hr:ABi9 r):vec (red x r)=redV (vec x) (rowV r):=by
 unfold red redV rowV;rw [AQn9 hx hr.1 hr.2];show _=if x.1.toNat.testBit (top r.1) then _ else _;split
 ·rw [BBj9 hx.1 hx.2 (by have:=hr.1;omega) hr.2]
 ·rfl
theorem AFa9:∀ {l:List Row} {x:Row},0≤x.1∧x.1<65536→(∀r∈l,ABi9 r)→vec (l.foldl red x)=(l.map rowV).foldl redV (vec x)
 | [],x,_,_=>rfl
 | r::l,x,hx,h=>by
  have hr:=h r (Zbb ..);simp only [Zbl,List.map_cons];rw [AFa9 (BUp9 hx hr) fun r' h'=>h r' (Zaw _ h'),BTx9 hx hr]
def canon (p:List Int):Prop:=∀i,i<16→0≤nth p i∧nth p i<256
theorem AKz9:canon []:=fun i _=>by simp [nth]
theorem ATc9 (p q:List Int):canon (xorL p q):=fun i h=>by rw [APu9 h];exact BLb9 _ _
theorem BJx9 {x r:Row} (h:canon x.2):canon (red x r).2:=by
 unfold red;split
 ·exact ATc9 _ _
 ·exact h
theorem AEp9:∀ {l:List Row} {x:Row},canon x.2→canon (l.foldl red x).2
 | [],_,h=>h
 |r::l,x,h=>AEp9 (l:=l) (BJx9 h)
theorem AFq9 {a b:Int} (ha:0≤a∧a<256) (hb:0≤b∧b<256) (h:Zap 8 a=Zap 8 b):a=b:=by
 have:=congrArg BitVec.toNat h;simp only [BitVec.toNat_ofInt] at this;omega
theorem BLi9 {x y:Row} (h:vec x=vec y) {i:Nat} (hi:i<16):Zap 8 (nth x.2 i)=Zap 8 (nth y.2 i):=by
 apply BitVec.eq_of_getLsbD_eq;intro j _;have:=congrFun h (.inr (i,j));simpa [vec,hi] using this
theorem AFv9 (p:List Int):(b16 p).length=16:=by simp [b16]
theorem AFc9 {p:List Int} {i:Nat} (h:i<16):nth (b16 p) i=nth p i:=by
 simp [nth,b16,List.getElem?_range,h]
theorem AUs9 {p q:List Int} (hp:p.length=16) (hq:q.length=16) (h:∀i,i<16→nth p i=nth q i):p=q:=by
 apply List.ext_getElem (by omega);intro i h1 h2;have:=h i (by omega);simpa [nth,Zbk h1,Zbk h2] using this
theorem BXr9 {x y:Row} (hx:canon x.2) (hy:canon y.2) (h:vec x=vec y):b16 x.2=b16 y.2:=
 AUs9 (AFv9 _) (AFv9 _) fun i hi=>by rw [AFc9 hi,AFc9 hi];exact AFq9 (hx i hi) (hy i hi) (BLi9 h hi)
theorem AVt9 {x y:Row} (hx:0≤x.1) (hy:0≤y.1) (h:vec x=vec y):x.1=y.1:=by
 have:x.1.toNat=y.1.toNat:=by
  apply Nat.eq_of_testBit_eq;intro k;have:=congrFun h (.inl k);simpa [vec] using this
 omega
theorem BAv9 {a b:Int} (ha:0≤a∧a<65536) (hb:0≤b∧b<65536):xor64 a b=0↔a=b:=by
 rw [APf9 ha.1 ha.2 hb.1 hb.2];constructor
 ·intro h;have:a.toNat ^^^ b.toNat=0:=by omega
  have:a.toNat=b.toNat:=by
   apply Nat.eq_of_testBit_eq;intro k;have h2:=congrArg (fun z=>z.testBit k) this;simpa using h2
  omega
 ·rintro rfl;simp
theorem AJl9 {l:List Row} {m:Int} (h0:0≤m) (h1:m<65536) (hv:AEs9 l=true):sumS l m=if (l.foldl red (m, [])).1 !=0 then ([],false) else (b16 (l.foldl red (m, [])).2,true):=by
 unfold sumS;rw [decide_eq_false (by omega),decide_eq_false (by omega),hv];rfl
theorem AHh9 (m:Int) (p:List Int):fine m p=AKe9 m p:=by
 unfold fine AKe9;congr 2;rw [Bool.eq_iff_iff];simp;omega
theorem BEa9 (m:Int):lead m=((2 ^ top m:Nat):Int):=rfl
theorem ARz9 {a b:Int}:lead a<lead b↔top a<top b:=by
 rw [BEa9,BEa9];constructor
 ·intro h;rcases Nat.lt_or_ge (top a) (top b) with h'|h'
  ·exact h'
  ·have:=Nat.pow_le_pow_right (n:=2) (by omega) h';omega
 ·intro h;have:=Nat.pow_lt_pow_right (a:=2) (by omega) h;omega
theorem AIm9 {m:Int} (h:1≤m):m.toNat.testBit (top m)=true:=by
 have hn:m.toNat≠0:=by omega
 obtain ⟨h1,h2⟩:=AFr9 hn;unfold top;rw [Nat.testBit_eq_decide_div_mod_eq];rw [Nat.pow_succ] at h2;have h3:m.toNat / 2 ^ m.toNat.log2=1:=by
  apply Nat.div_eq_of_lt_le<;>omega
 rw [h3];rfl
theorem BUb9 {m:Int} (h0:1≤m) (h1:m<65536):top m<16:=(Nat.log2_lt (by omega)).2 (by omega)
theorem BBl9:∀(l:List Row) (q:Row) (L:Int),vPrev (some q) l=(vA l (L,lead q.1)).2
 | [],_,_=>rfl
 | r::l,q,L=>by
  simp only [vPrev,vA,BPc9,AHh9];cases hc:(AKe9 r.1 r.2&&decide (lead r.1<lead q.1)) with
  |false=>simp
  |true=>simp;exact BBl9 l r _
theorem AVu9 (l:List Row):vPrev none l=(vA l (0,65536)).2:=by
 cases l with
 |nil=>rfl
 | cons r l=>
  simp only [vPrev,vA,BPc9,AHh9];cases hf:AKe9 r.1 r.2 with
  |false=>simp
  | true=>
   simp only [AKe9,Zal,decide_eq_true_eq] at hf;have:=(AWz9 hf.1 hf.2.1).2;simp [this];exact BBl9 l r _
theorem AUd9:∀ {l:List Row} {s:Int×Int},(vA l s).2=true→(∀r∈l,lead r.1<s.2)∧l.Pairwise fun a b=>lead b.1<lead a.1
 | [],_,_=>⟨fun r h=>(by cases h), .nil⟩
 | r::l,s,h=>by
  simp only [vA] at h;split at h
  ·rename_i hc;simp only [Zal,decide_eq_true_eq] at hc;obtain ⟨h1,h2⟩:=AUd9 h;refine ⟨fun r' hr=> ?_, .cons (fun r' hr=>h1 r' hr) h2⟩;rcases Zbx.1 hr with rfl|hr
   ·exact hc.2
   ·have:=h1 r' hr;simp only at this;omega
  ·cases h
theorem BLw9 {a b:Int} (h0:0≤a) (h1:a<65536) (h2:0≤b) (h3:b<65536):0≤or64 a b∧or64 a b<65536:=by
 rw [AWr9 h0 h1 h2 h3];have:a.toNat|||b.toNat<2 ^ 16:=Nat.or_lt_two_pow (by omega) (by omega)
 omega
theorem vA_L:∀ {l:List Row} {s:Int×Int},(vA l s).2=true→0≤s.1∧s.1<65536→(0≤(vA l s).1.1∧(vA l s).1.1<65536)∧∀k,(vA l s).1.1.toNat.testBit k=(s.1.toNat.testBit k||l.any fun r=>top r.1==k)
 | [],s,_,hs=>⟨hs,fun k=>by simp [vA]⟩
 | r::l,s,h,hs=>by
  simp only [vA] at h ⊢;split at h
  ·rename_i hc;rw [if_pos hc];simp only [Zal,decide_eq_true_eq] at hc;obtain ⟨m1,m2⟩:=AJa9 hc.1;have hl:=AWz9 m1 m2;obtain ⟨h1,h2⟩:=vA_L h (BLw9 hs.1 hs.2 hl.1 hl.2);refine ⟨h1,fun k=> ?_⟩;rw [h2 k];simp only [AWr9 hs.1 hs.2 hl.1 hl.2,Zbn,Nat.testBit_or,BDz9,Zdj,List.any_cons];rw [Bool.or_assoc];rfl
  ·cases h
theorem AQz9 (i:Nat) (x:Row):∀(l:List Row) (k:Nat),BBn9 i x k l=true↔∀(j:Nat) (r:Row),l[j]? =some r→i=k+j∨and64 r.1 (lead x.1)=0
 | [],k=>by simp [BBn9]
 | r::l,k=>by
  simp only [BBn9,Zal,Bool.or_eq_true,decide_eq_true_eq,beq_iff_eq,AQz9 i x l (k+1)];constructor
  ·rintro ⟨h1,h2⟩ j r' hj;cases j with
   |zero=>simp at hj;subst hj;simpa using h1
   | succ j => have:=h2 j r' (by simpa using hj);rcases this with h|h
               ·left;omega
               ·right;exact h
  ·intro h;refine ⟨by simpa using h 0 r rfl,fun j r' hj=> ?_⟩;rcases h (j+1) r' (by simpa using hj) with h|h
   ·left;omega
   ·right;exact h
theorem AQy9 (all:List Row):∀(l:List Row) (i:Nat),BBm9 all i l=true↔∀(j:Nat) (x:Row),l[j]? =some x→∀(k:Nat) (r:Row),all[k]? =some r→i+j=k∨and64 r.1 (lead x.1)=0
 | [],i=>by simp [BBm9]
 | x::l,i=>by
  simp only [BBm9,Zal,AQz9,AQy9 all l (i+1)];constructor
  ·rintro ⟨h1,h2⟩ j y hj k r hk;cases j with
   |zero=>simp at hj;subst hj;simpa using h1 k r hk
   | succ j => rcases h2 j y (by simpa using hj) k r hk with h|h
               ·left;omega
               ·right;exact h
  ·intro h;refine ⟨fun k r hk=>by simpa using h 0 x rfl k r hk,fun j y hj k r hk=> ?_⟩;rcases h (j+1) y (by simpa using hj) k r hk with h|h
   ·left;omega
   ·right;exact h
structure Good (l:List Row):Prop where
 ok:∀r∈l,fine r.1 r.2=true
 falls:l.Pairwise fun a b=>top b.1<top a.1
 clear:l.Pairwise fun a b=>a.1.toNat.testBit (top b.1)=false∧b.1.toNat.testBit (top a.1)=false
theorem ACp9 {α:Type} {R:α→α→Prop} {l:List α} (h:l.Pairwise R) {i k:Nat} {a b:α} (ha:l[i]? =some a) (hb:l[k]? =some b) (hik:i<k):R a b:=by
 obtain ⟨h1,rfl⟩:=List.getElem?_eq_some_iff.1 ha;obtain ⟨h2,rfl⟩:=List.getElem?_eq_some_iff.1 hb;exact List.pairwise_iff_getElem.1 h i k h1 h2 hik
theorem AOi9 {α:Type} {R:α→α→Prop} {l:List α} (h:∀(i k:Nat) (a b:α),l[i]? =some a→l[k]? =some b→i<k→R a b):l.Pairwise R:=
 List.pairwise_iff_getElem.2 fun i k h1 h2 hik=>h i k _ _ (Zbk h1) (Zbk h2) hik
theorem AQm9 {x m:Int} (hx:ABi9 (x, [])) (hm:ABi9 (m, [])):and64 x (lead m)=0↔x.toNat.testBit (top m)=false:=by
 have:=AQn9 (x:=x) (m:=m) ⟨by have:=hx.1;simp at this;omega,hx.2⟩ hm.1 hm.2;cases hb:x.toNat.testBit (top m)<;>rw [hb] at this<;>simpa [bne] using this
theorem AJj9 (l:List Row):BBk9 l=true↔Good l:=by
 unfold BBk9;rw [Zal,AVu9,AQy9];constructor
 ·rintro ⟨h1,h2⟩;have hf:=vA_ok h1;have hm:∀r∈l,ABi9 r:=fun r hr=>AJa9 (hf r hr);obtain ⟨_,h3⟩:=AUd9 h1;refine ⟨hf,h3.imp fun h=>ARz9.1 h,AOi9 fun i k a b ha hb hik=> ?_⟩;have ma:=hm a (Zbi ha);have mb:=hm b (Zbi hb);constructor
  ·rcases h2 k b hb i a ha with h|h
   ·omega
   ·exact (AQm9 ma mb).1 h
  ·rcases h2 i a ha k b hb with h|h
   ·omega
   ·exact (AQm9 mb ma).1 h
 ·rintro ⟨hf,h3,h4⟩;have hm:∀r∈l,ABi9 r:=fun r hr=>AJa9 (hf r hr);refine ⟨?_,fun i x hx k r hk=> ?_⟩
  ·have key:∀(l:List Row) (s:Int×Int),(∀r∈l,fine r.1 r.2=true)→(l.Pairwise fun a b=>top b.1<top a.1)→(∀r∈l,lead r.1<s.2)→(vA l s).2=true:=by
    intro l;induction l with
    |nil=>intro s _ _ _;rfl
    | cons r l ih=>
     intro s hf h3 hs;simp only [vA];rw [if_pos (by rw [hf r (Zbb ..),decide_eq_true (hs r (Zbb ..))];rfl)];have h3':=Zcc.1 h3;exact ih _ (fun r' hr=>hf r' (Zaw _ hr)) h3'.2 fun r' hr=>ARz9.2 (h3'.1 r' hr)
   exact key l _ hf h3 fun r hr=>(AWz9 (hm r hr).1 (hm r hr).2).2
  ·have mx:=hm x (Zbi hx);have mr:=hm r (Zbi hk);rcases Nat.lt_trichotomy i k with h|h|h
   ·exact .inr ((AQm9 mr mx).2 (ACp9 h4 hx hk h).2)
   ·left;omega
   ·exact .inr ((AQm9 mr mx).2 (ACp9 h4 hk hx h).1)
theorem ACy9 (l:List Row):AEs9 l=true↔Good l:=by
 unfold AEs9;rw [Zal];have hall:∀L:Int,vB L l=true↔∀r∈l,and64 r.1 L=lead r.1:=by
  intro L;unfold vB;rw [Zav];simp
 have key:(vA l (0,65536)).2=true→(l.Pairwise fun a b=>top b.1<top a.1)→(vB (vA l (0,65536)).1.1 l=true↔l.Pairwise fun a b=>a.1.toNat.testBit (top b.1)=false∧b.1.toNat.testBit (top a.1)=false):=by
  intro h1 h3;have hm:∀r∈l,ABi9 r:=fun r hr=>AJa9 (vA_ok h1 r hr);obtain ⟨hL,hb⟩:=vA_L h1 (by decide);rw [hall];generalize (vA l (0,65536)).1.1=L at hL hb;have hand:∀r∈l,(and64 r.1 L=lead r.1↔∀k,(r.1.toNat.testBit k&&l.any fun s=>top s.1==k)=decide (top r.1=k)):=by
   intro r hr;rw [BGj9 (by have:=(hm r hr).1;omega) (hm r hr).2 hL.1 hL.2,BEa9];constructor
   ·intro h k;have h':r.1.toNat&&&L.toNat=2 ^ top r.1:=by omega
    have:=congrArg (fun n=>n.testBit k) h';simp only [Nat.testBit_and,hb k,Zdj] at this;simpa using this
   ·intro h;congr 1;apply Nat.eq_of_testBit_eq;intro k;simp only [Nat.testBit_and,hb k,Zdj];simpa using h k
  constructor
  ·intro h;refine AOi9 fun i k a b ha hb' hik=> ?_;have hab:=ACp9 h3 ha hb' hik;have ma:=Zbi ha;have mb:=Zbi hb';have e1:=(hand a ma).1 (h a ma) (top b.1);have e2:=(hand b mb).1 (h b mb) (top a.1);have f1:(l.any fun s=>top s.1==top b.1)=true:=List.any_eq_true.2 ⟨b,mb,by simp⟩;have f2:(l.any fun s=>top s.1==top a.1)=true:=List.any_eq_true.2 ⟨a,ma,by simp⟩;rw [f1,Bool.and_true] at e1;rw [f2,Bool.and_true] at e2;exact ⟨by rw [e1];simp;omega,by rw [e2];simp;omega⟩
  ·intro h r hr;rw [hand r hr];intro k;by_cases hk:top r.1=k
   ·subst hk;rw [AIm9 (hm r hr).1,decide_eq_true rfl,Bool.true_and];exact List.any_eq_true.2 ⟨r,hr,by simp⟩
   ·rw [decide_eq_false hk];cases hx:(l.any fun s=>top s.1==k) with
    |false=>simp
    | true=>
     obtain ⟨s,hs,hsk⟩:=List.any_eq_true.1 hx;have hsk:top s.1=k:=by simpa using hsk
     obtain ⟨i,hi⟩:=Zak.1 hr;obtain ⟨j,hj⟩:=Zak.1 hs;rw [Bool.and_true,←hsk];rcases Nat.lt_trichotomy i j with h'|h'|h'
     ·exact (ACp9 h hi hj h').1
     ·subst h';rw [hi] at hj;cases hj;exact absurd hsk hk
     ·exact (ACp9 h hj hi h').2
 constructor
 ·rintro ⟨h1,h2⟩;obtain ⟨_,h3⟩:=AUd9 h1;have h3':l.Pairwise fun a b=>top b.1<top a.1:=h3.imp fun h=>ARz9.1 h;exact ⟨vA_ok h1,h3',(key h1 h3').1 h2⟩
 ·intro h;have h1:(vA l (0,65536)).2=true:=by
   have:=(AJj9 l).2 h;unfold BBk9 at this;rw [Zal,AVu9] at this;exact this.1
  exact ⟨h1,(key h1 h.falls).2 h.clear⟩
theorem BGw9 (l:List Row):BBk9 l=AEs9 l:=by
 rw [Bool.eq_iff_iff,AJj9,ACy9]
theorem Good.mask {l:List Row} (h:Good l):∀r∈l,ABi9 r:=fun r hr=>AJa9 (h.ok r hr)
theorem Good.tail {r:Row} {l:List Row} (h:Good (r::l)):Good l:=
 ⟨fun s hs=>h.ok s (Zaw _ hs),(Zcc.1 h.falls).2,(Zcc.1 h.clear).2⟩
theorem Good.uniq:∀ {l:List Row},Good l→∀ {r s:Row},r∈l→s∈l→top r.1=top s.1→r=s
 | x::l,h,r,s,hr,hs,e=>by
  have hf:=(Zcc.1 h.falls).1;rcases Zbx.1 hr with h1|h1<;>rcases Zbx.1 hs with h2|h2
  ·rw [h1,h2]
  ·have:=hf s h2;rw [h1] at e;omega
  ·have:=hf r h1;rw [h2] at e;omega
  ·exact Good.uniq h.tail h1 h2 e
theorem AHg9 {ι:Type}:∀(l:List (ι×(ι→Bool))) (v:ι→Bool),(∀r∈l,v r.1=false)→l.foldl redV v=v
 | [],v,_=>rfl
 | r::l,v,h=>by
  rw [Zbl];have:redV v r=v:=by unfold redV;rw [h r (Zbb ..)];rfl
  rw [this];exact AHg9 l v fun s hs=>h s (Zaw _ hs)
theorem AUv9:∀ {l:List Row},Good l→∀ {r:Row} (v:Ix→Bool),r∈l→v (.inl (top r.1))=true→(∀s∈l,top s.1≠top r.1→v (.inl (top s.1))=false)→
 (l.map rowV).foldl redV v=vx v (rowV r).2
 | x::l,h,r,v,hr,hv,hz=>by
  rw [List.map_cons,Zbl];have hf:=(Zcc.1 h.falls).1;have hc:=(Zcc.1 h.clear).1;rcases Zbx.1 hr with rfl|hr
  ·have:redV v (rowV r)=vx v (rowV r).2:=by
    unfold redV;have:v (rowV r).1=true:=hv;rw [this];rfl
   rw [this];refine AHg9 _ _ fun t ht=> ?_;obtain ⟨s,hs,rfl⟩:=Zbd.1 ht;show (v (.inl (top s.1)) ^^ (vec (r.1,pad r.2)) (.inl (top s.1)))=false;have h1:=hf s hs;rw [hz s (Zaw _ hs) (by omega)];have h2:=(hc s hs).1;simpa [vec] using h2
  ·have h1:=hf r hr;have:redV v (rowV x)=v:=by
    unfold redV;have:v (rowV x).1=false:=hz x (Zbb ..) (by omega);rw [this];rfl
   rw [this];exact AUv9 h.tail v hr hv fun s hs=>hz s (Zaw _ hs)
def two (i:Nat):Int:=((2 ^ i:Nat):Int)
theorem AYr9 {i:Nat} (h:i<16):1≤two i∧two i<65536:=by
 have h1:=Nat.two_pow_pos i;have h2:=Nat.pow_lt_pow_right (a:=2) (by omega) h;unfold two;omega
theorem AFj9 (i k:Nat):(two i).toNat.testBit k=decide (i=k):=by
 show (2 ^ i).testBit k=_;rw [Zdj]
theorem BBq9 (i:Nat):top (two i)=i:=by
 show (2 ^ i).log2=i;exact Nat.log2_two_pow
theorem BGe9 {i:Nat} (h:i<16):bit (i:Int)=two i:=by
 have:=AYr9 h;unfold bit;have e:min (Zat (i:Int)) 64=i:=by rw [Zbn];omega
 rw [e,Int.one_mul];have e2:(2:Int) ^ i=two i:=by simp [two]
 rw [e2,AAt9 (by omega) (by omega)]
theorem AXr9 {p:List Int} (h:∀x∈p,0≤x∧x<256):canon (pad p):=by
 intro i hi;unfold nth;rw [List.getD_eq_getElem?_getD];cases he:(pad p)[i]? with
 |none=>simp
 | some x=>
  have:=Zbi he;unfold pad at this;have:=List.mem_of_mem_take this;rcases List.mem_append.1 this with h'|h'
  ·exact h x h'
  ·simp at h';subst h';simp
theorem AQf9 {l:List Row} (h:Good l) {r:Row} (hr:r∈l) {i:Nat} (hi:i<16) (he:r.1=two i):findS l (i:Int)=some r:=by
 unfold findS;rw [BGe9 hi];cases hf:l.find? fun r=>r.1==two i with
 | none=>
  have:=List.find?_eq_none.1 hf r hr;simp [he] at this
 | some s=>
  have h1:=List.find?_some hf;have h2:=List.mem_of_find?_eq_some hf;have h1:s.1=two i:=by simpa using h1
  rw [h.uniq h2 hr (by rw [h1,he])]
theorem AXi9 {l:List Row} {i:Nat} (hi:i<16) (h:∀r∈l,r.1≠two i):findS l (i:Int)=none:=by
 unfold findS;rw [BGe9 hi];exact List.find?_eq_none.2 fun r hr=>by simpa using h r hr
theorem AIo9 {l:List Row} (hg:Good l) (hb:∀r∈l,∀x∈r.2,0≤x∧x<256) {i:Nat} (hi:i<16):AAx9 l (i:Int)=sumS l (two i):=by
 have hv:=(ACy9 l).2 hg;obtain ⟨t1,t2⟩:=AYr9 hi;rw [AJl9 (by omega) t2 hv];have e0:AAx9 l (i:Int)=if (findS l (i:Int)).isSome then (AGr9 l (i:Int),true) else ([],false):=by
  unfold AAx9;rw [decide_eq_false (by omega),decide_eq_false (by omega),hv];rfl
 rw [e0];have hx:0≤(two i,([]:List Int)).1∧(two i,([]:List Int)).1<65536:=⟨by simp only;omega,t2⟩;have hF:=AFa9 hx hg.mask;have hbd:=ACo9 hx hg.mask;have hcan:canon (l.foldl red (two i, [])).2:=AEp9 AKz9;by_cases hr:∃r∈l,top r.1=i
 ·obtain ⟨r,hr,hti⟩:=hr;have hm:=hg.mask r hr;have e1:(l.map rowV).foldl redV (vec (two i, []))=vx (vec (two i, [])) (vec (r.1,pad r.2)):=by
   refine AUv9 hg _ hr ?_ fun s _ hs=> ?_
   ·show (two i).toNat.testBit _=true;rw [AFj9,hti];simp
   ·show (two i).toNat.testBit _=false;rw [AFj9];simp;omega
  rw [e1,←BBj9 (by omega) t2 (by have:=hm.1;omega) hm.2] at hF;have b4:=ATu9 (a:=two i) (b:=r.1) (by omega) t2 (by have:=hm.1;omega) hm.2;have h1:=AVt9 hbd.1 b4.1 hF;have hz:=BAv9 (a:=two i) (b:=r.1) ⟨by omega,t2⟩ ⟨by have:=hm.1;omega,hm.2⟩;have h1':(l.foldl red (two i, [])).1=xor64 (two i) r.1:=h1;by_cases he:r.1=two i
  ·have h2:(l.foldl red (two i, [])).1=0:=by rw [h1'];exact hz.2 he.symm
   rw [AQf9 hg hr hi he,if_pos (by rfl),if_neg (by simp [h2])];have e2:AGr9 l (i:Int)=b16 (pad r.2):=by unfold AGr9;rw [AQf9 hg hr hi he]
   rw [e2];congr 1;refine AUs9 (AFv9 _) (AFv9 _) fun j hj=> ?_;rw [AFc9 hj,AFc9 hj];refine AFq9 (AXr9 (hb r hr) j hj) (hcan j hj) ?_;have:=BLi9 hF hj;rw [this];show _=Zap 8 (nth (xorL [] (pad r.2)) j);rw [APu9 hj,AMc9];simp [nth]
  ·have h2:¬(l.foldl red (two i, [])).1=0:=by rw [h1'];exact fun h=>he (hz.1 h).symm
   rw [AXi9 hi fun s hs h=>he (by rw [hg.uniq hr hs (by rw [hti,h,BBq9])];exact h),if_neg (by simp),if_pos (by simpa using h2)]
 ·have e1:(l.map rowV).foldl redV (vec (two i, []))=vec (two i, []):=by
   refine AHg9 _ _ fun t ht=> ?_;obtain ⟨s,hs,rfl⟩:=Zbd.1 ht;show (two i).toNat.testBit _=false;rw [AFj9];have:top s.1≠i:=fun h=>hr ⟨s,hs,h⟩;simp;omega
  rw [e1] at hF;have h1:(l.foldl red (two i, [])).1=two i:=AVt9 hbd.1 (by simp only;omega) hF;rw [AXi9 hi fun s hs h=>hr ⟨s,hs,by rw [h,BBq9]⟩,if_neg (by simp),if_pos (by rw [h1];simp;omega)]
theorem AQh9:∀ {l:List Row} {n:Nat},(l.Pairwise fun a b=>top b.1<top a.1)→(∀r∈l,top r.1<n)→l.length≤n∧(l.length=n→∀i,i<n→∃r∈l,top r.1=i)
 | [],n,_,_=>⟨by simp,fun h i hi=>by simp at h;omega⟩
 | r::l,n,hp,hn=>by
  obtain ⟨h1,h2⟩:=Zcc.1 hp;obtain ⟨h3,h4⟩:=AQh9 (l:=l) (n:=top r.1) h2 fun s hs=>h1 s hs;have h5:=hn r (Zbb ..);refine ⟨by simp;omega,fun h i hi=> ?_⟩;simp at h;by_cases hi':i=top r.1
  ·exact ⟨r,Zbb ..,hi'.symm⟩
  ·obtain ⟨s,hs,e⟩:=h4 (by omega) i (by omega);exact ⟨s,Zaw _ hs,e⟩
theorem Good.len {l:List Row} (h:Good l):l.length≤16:=(AQh9 h.falls fun r hr=>BUb9 (h.mask r hr).1 (h.mask r hr).2).1
theorem Good.full {l:List Row} (h:Good l) (hl:l.length=16) {i:Nat} (hi:i<16):∃r∈l,r.1=two i:=by
 have hall:=(AQh9 h.falls fun r hr=>BUb9 (h.mask r hr).1 (h.mask r hr).2).2 hl;obtain ⟨r,hr,e⟩:=hall i hi;refine ⟨r,hr, ?_⟩;have hm:=h.mask r hr;have:r.1.toNat=(two i).toNat:=by
  apply Nat.eq_of_testBit_eq;intro k;rw [AFj9];by_cases hk:i=k
  ·subst hk;rw [←e,AIm9 hm.1];simp
  ·rw [decide_eq_false hk];by_cases h16:k<16
   ·obtain ⟨s,hs,e2⟩:=hall k h16;obtain ⟨a,ha⟩:=Zak.1 hr;obtain ⟨b,hb⟩:=Zak.1 hs;rw [←e2];rcases Nat.lt_trichotomy a b with h'|h'|h'
    ·exact (ACp9 h.clear ha hb h').1
    ·subst h';rw [ha] at hb;cases hb;omega
    ·exact (ACp9 h.clear hb ha h').2
   ·apply Nat.testBit_lt_two_pow;have:2 ^ 16≤2 ^ k:=Nat.pow_le_pow_right (by omega) (by omega);have:=hm.2;omega
 have:=(AYr9 hi).1;have:=hm.1;omega
theorem ALi9 {ι:Type} (u:ι→Bool):vx u u=fun _=>false:=by funext i;simp [vx]
theorem BNz9 {ι:Type} (u v w:ι→Bool):vx (vx u v) w=vx u (vx v w):=by funext i;simp [vx]
theorem AQu9 {ι:Type} (u:ι→Bool):vx u (fun _=>false)=u:=by funext i;simp [vx]
theorem AVo9 {ι:Type} (u:ι→Bool):vx (fun _=>false) u=u:=by funext i;simp [vx]
theorem AQd9 {ι:Type} (g:List (ι×(ι→Bool))):∀(l:List (ι×(ι→Bool))) (v:ι→Bool),(∀r∈l,g.foldl redV r.2=fun _=>false)→g.foldl redV (l.foldl redV v)=g.foldl redV v
 | [],v,_=>rfl
 | r::l,v,h=>by
  rw [Zbl,AQd9 g l _ fun s hs=>h s (Zaw _ hs)];have e:redV v r=if v r.1 then vx v r.2 else v:=rfl;rw [e];split
  ·rw [ADu9,h r (Zbb ..),AQu9]
  ·rfl
theorem ASk9:∀ {l:List Row},Good l→∀(v:Ix→Bool),∀r∈l,((l.map rowV).foldl redV v) (.inl (top r.1))=false
 | x::l,h,v,r,hr=>by
  rw [List.map_cons,Zbl];have hc:=(Zcc.1 h.clear).1;rcases Zbx.1 hr with rfl|hr
  ·
   have h0:(redV v (rowV r)) (.inl (top r.1))=false:=by
    unfold redV;show (if v (.inl (top r.1))=true then vx v (vec (r.1,pad r.2)) else v) (.inl (top r.1))=false;cases hv:v (.inl (top r.1)) with
    |false=>simpa using hv
    | true=>
     show (v (.inl (top r.1)) ^^ vec (r.1,pad r.2) (.inl (top r.1)))=false;have:vec (r.1,pad r.2) (.inl (top r.1))=true:=AIm9 (h.mask r (Zbb ..)).1;rw [hv,this];rfl
   have keep:∀(t:List Row),(∀s∈t,s.1.toNat.testBit (top r.1)=false)→∀v:Ix→Bool,v (.inl (top r.1))=false→((t.map rowV).foldl redV v) (.inl (top r.1))=false:=by
    intro t;induction t with
    |nil=>intro _ v hv;exact hv
    | cons s t ih=>
     intro ht v hv;rw [List.map_cons,Zbl];refine ih (fun s' hs=>ht s' (Zaw _ hs)) _ ?_;unfold redV;split
     ·show (v (.inl (top r.1)) ^^ vec (s.1,pad s.2) (.inl (top r.1)))=false;have:vec (s.1,pad s.2) (.inl (top r.1))=false:=ht s (Zbb ..);rw [hv,this];rfl
     ·exact hv
   exact keep l (fun s hs=>(hc s hs).2) _ h0
  ·exact ASk9 h.tail _ r hr
theorem AKw9 {l:List Row} (h:Good l) {r:Row} (hr:r∈l):(l.map rowV).foldl redV (rowV r).2=fun _=>false:=by
 rw [AUv9 h (rowV r).2 hr (AIm9 (h.mask r hr).1) fun s hs hne=> ?_,ALi9];show r.1.toNat.testBit (top s.1)=false;obtain ⟨a,ha⟩:=Zak.1 hr;obtain ⟨b,hb⟩:=Zak.1 hs;rcases Nat.lt_trichotomy a b with h'|h'|h'
 ·exact (ACp9 h.clear ha hb h').1
 ·subst h';rw [ha] at hb;cases hb;exact absurd rfl hne
 ·exact (ACp9 h.clear hb ha h').2
def upd (x r:Row):Row:=if and64 r.1 (lead x.1) !=0 then (xor64 r.1 x.1,b16 (xorL (pad r.2) x.2)) else (r.1,b16 (pad r.2))
def fin (x:Row):Row:=(x.1,b16 x.2)
def insS (x:Row):List Row→List Row
 | []=> [fin x]
 |r::t=>if lead r.1<lead x.1 then fin x::(r::t).map (upd x) else upd x r::insS x t
theorem AWb9 (x:Row):∀(l acc:List Row),l.foldl (stepB x) (acc,true)=(acc++l.map (upd x),true)
 | [],acc=>by simp
 | r::l,acc=>by
  rw [Zbl];have:stepB x (acc,true) r=(acc++ [upd x r],true):=by simp [stepB,upd]
  rw [this,AWb9 x l];simp
theorem BLl9 (x:Row):∀(l acc:List Row),(let s:=l.foldl (stepB x) (acc,false);if !s.2 then s.1++ [fin x] else s.1)=acc++insS x l
 | [],acc=>by simp [insS]
 | r::l,acc=>by
  rw [Zbl];by_cases h:lead r.1<lead x.1
  ·have:stepB x (acc,false) r=(acc++ [fin x]++ [upd x r],true):=by simp [stepB,upd,fin,h]
   rw [this,AWb9 x l];simp [insS,h]
  ·have:stepB x (acc,false) r=(acc++ [upd x r],false):=by simp [stepB,upd,h]
   rw [this];have:=BLl9 x l (acc++ [upd x r]);rw [this];simp [insS,h]
theorem AKd9 {x r:Row}:∀ {l:List Row},r∈insS x l↔r=fin x∨∃s∈l,r=upd x s
 | []=>by simp [insS]
 | s::t=>by
  unfold insS;split
  ·simp [eq_comm]
  ·rw [Zbx,AKd9 (l:=t)];simp only [Zbx,exists_eq_or_imp];constructor
   ·rintro (h|h|h)
    ·exact .inr (.inl h)
    ·exact .inl h
    ·exact .inr (.inr h)
   ·rintro (h|h|h)
    ·exact .inr (.inl h)
    ·exact .inl h
    ·exact .inr (.inr h)
theorem BMh9 (x:Row):∀l:List Row,(insS x l).length=l.length+1
 | []=>rfl
 |r::t=>by unfold insS;split<;>simp [BMh9 x t]
theorem BYp9 {m:Int} {k:Nat} (h1:m.toNat.testBit k=true) (h2:∀j,k<j→m.toNat.testBit j=false):top m=k:=by
 refine BLy9 (Nat.ge_two_pow_of_testBit h1) (Nat.lt_pow_two_of_testBit _ fun j hj=>h2 j (by omega))
theorem AUt9 {m:Int} (h0:1≤m) {j:Nat} (h:top m<j):m.toNat.testBit j=false:=by
 have h2:=(AFr9 (n:=m.toNat) (by omega)).2;exact Nat.testBit_lt_two_pow (Nat.lt_of_lt_of_le h2 (Nat.pow_le_pow_right (by omega) h))
theorem ANw9 {x r:Row} (hx:ABi9 x) (hr:ABi9 r) (k:Nat):(upd x r).1.toNat.testBit k=(r.1.toNat.testBit k ^^ (r.1.toNat.testBit (top x.1)&&x.1.toNat.testBit k)):=by
 unfold upd;rw [AQn9 ⟨by have:=hr.1;omega,hr.2⟩ hx.1 hx.2];cases hb:r.1.toNat.testBit (top x.1) with
 |false=>simp
 | true=>
  simp only [if_true];rw [APf9 (by have:=hr.1;omega) hr.2 (by have:=hx.1;omega) hx.2,Zbn,Nat.testBit_xor];simp
theorem AJx9 {x r:Row} (hx:ABi9 x) (hr:ABi9 r) (hc:x.1.toNat.testBit (top r.1)=false):top (upd x r).1=top r.1:=by
 have hne:top x.1≠top r.1:=fun h=>by rw [←h,AIm9 hx.1] at hc;cases hc
 refine BYp9 ?_ fun j hj=> ?_
 ·rw [ANw9 hx hr,AIm9 hr.1,hc];simp
 ·rw [ANw9 hx hr,AUt9 hr.1 hj];cases hb:r.1.toNat.testBit (top x.1) with
  |false=>simp
  | true=>
   have:top x.1≤top r.1:=by
    rcases Nat.lt_or_ge (top r.1) (top x.1) with h|h
    ·rw [AUt9 hr.1 h] at hb;cases hb
    ·exact h
   rw [AUt9 hx.1 (by omega)];simp
theorem BYo9 {x r:Row} (hx:ABi9 x) (hr:ABi9 r) (hc:x.1.toNat.testBit (top r.1)=false):ABi9 (upd x r):=by
 have hb:0≤(upd x r).1∧(upd x r).1<65536:=by
  unfold upd;split
  ·exact ATu9 (by have:=hr.1;omega) hr.2 (by have:=hx.1;omega) hx.2
  ·exact ⟨by have:=hr.1;simp only;omega,hr.2⟩
 have:(upd x r).1.toNat≠0:=by
  intro h;have h1:=ANw9 hx hr (top r.1);rw [h,AIm9 hr.1,hc] at h1;simp at h1
 exact ⟨by omega,hb.2⟩
theorem BLj9 (x r:Row):(upd x r).2.length=16:=by
 unfold upd;split<;>exact AFv9 _
theorem pad16 {p:List Int} (h:p.length=16):pad p=p:=by
 unfold pad;rw [List.take_append_of_le_length (by omega),List.take_of_length_le (by omega)]
theorem AQv9 (m:Int) (p:List Int):vec (m,b16 p)=vec (m,p):=by
 funext i;cases i with
 |inl k=>rfl
 | inr ij=>
  obtain ⟨i,j⟩:=ij;simp only [vec];by_cases h:i<16
  ·rw [AFc9 h]
  ·simp [h]
theorem BBo9 {x r:Row} (hx:ABi9 x) (hr:ABi9 r):(rowV (upd x r)).2=if r.1.toNat.testBit (top x.1) then vx (rowV r).2 (vec x) else (rowV r).2:=by
 unfold rowV;rw [pad16 (BLj9 x r)];unfold upd;rw [AQn9 ⟨by have:=hr.1;omega,hr.2⟩ hx.1 hx.2];split
 ·simp only;rw [AQv9,BBj9 (by have:=hr.1;omega) hr.2 (by have:=hx.1;omega) hx.2]
 ·simp only;rw [AQv9]
theorem BEn9 {r:Row} (h:ABi9 r) (hl:r.2.length=16):fine r.1 r.2=true:=by
 unfold fine;rw [decide_eq_true h.1,decide_eq_true h.2,hl];rfl
def Apart (a b:Row):Prop:=a.1.toNat.testBit (top b.1)=false∧b.1.toNat.testBit (top a.1)=false
section
variable {x:Row} {l:List Row}
theorem AVv9 {r s:Row} (hx:ABi9 x) (hr:ABi9 r) (hs:ABi9 s) (cr:x.1.toNat.testBit (top r.1)=false) (cs:x.1.toNat.testBit (top s.1)=false) (h:Apart r s):Apart (upd x r) (upd x s):=by
 unfold Apart;rw [AJx9 hx hr cr,AJx9 hx hs cs,ANw9 hx hr,ANw9 hx hs,h.1,h.2,cr,cs];simp
theorem AXj9 {s:Row} (hx:ABi9 x) (hs:ABi9 s) (cs:x.1.toNat.testBit (top s.1)=false):Apart (fin x) (upd x s):=by
 unfold Apart;rw [AJx9 hx hs cs,ANw9 hx hs];refine ⟨cs, ?_⟩;show (_ ^^ (_&&x.1.toNat.testBit (top x.1)))=false;rw [AIm9 hx.1];show (s.1.toNat.testBit (top x.1) ^^ (s.1.toNat.testBit (top x.1)&&true))=false;simp
theorem Apart.symm {a b:Row} (h:Apart a b):Apart b a:=⟨h.2,h.1⟩
theorem BTz9 (hx:ABi9 x) (hg:Good l) (hc:∀r∈l,x.1.toNat.testBit (top r.1)=false):(l.map (upd x)).Pairwise fun a b=>top b.1<top a.1∧Apart a b:=by
 rw [List.pairwise_map];refine (List.Pairwise.and hg.falls hg.clear).imp_of_mem fun {a b} ha hb h=> ?_;rw [AJx9 hx (hg.mask a ha) (hc a ha),AJx9 hx (hg.mask b hb) (hc b hb)];exact ⟨h.1,AVv9 hx (hg.mask a ha) (hg.mask b hb) (hc a ha) (hc b hb) h.2⟩
theorem BEg9 (hx:ABi9 x):∀ {l:List Row},Good l→(∀r∈l,x.1.toNat.testBit (top r.1)=false)→(insS x l).Pairwise fun a b=>top b.1<top a.1∧Apart a b
 | [],_,_=>by simp [insS]
 | r::t,hg,hc=>by
  have hr:=hg.mask r (Zbb ..);have cr:=hc r (Zbb ..);have hf:=(Zcc.1 hg.falls).1;unfold insS;split
  ·rename_i h;refine Zcc.2 ⟨fun b hb=> ?_,BTz9 hx hg hc⟩;obtain ⟨s,hs,rfl⟩:=Zbd.1 hb;have hs':=hg.mask s hs;rw [AJx9 hx hs' (hc s hs)];refine ⟨?_,AXj9 hx hs' (hc s hs)⟩;have h1:=ARz9.1 h;show top s.1<top x.1;rcases Zbx.1 hs with rfl|hs
   ·exact h1
   ·have:=hf s hs;omega
  ·rename_i h;refine Zcc.2 ⟨fun b hb=> ?_,BEg9 hx hg.tail fun s hs=>hc s (Zaw _ hs)⟩;rw [AJx9 hx hr cr];rcases AKd9.1 hb with rfl|⟨s,hs,rfl⟩
   ·refine ⟨?_,(AXj9 hx hr cr).symm⟩;show top x.1<top r.1;have h1:¬top r.1<top x.1:=fun h'=>h (ARz9.2 h');have h2:top x.1≠top r.1:=fun h'=>by rw [←h',AIm9 hx.1] at cr;cases cr
    omega
   ·have hs':=hg.mask s (Zaw _ hs);have cs:=hc s (Zaw _ hs);rw [AJx9 hx hs' cs];exact ⟨hf s hs,AVv9 hx hr hs' cr cs ((Zcc.1 hg.clear).1 s hs)⟩
theorem BEi9 (hx:ABi9 x) (hg:Good l) (hc:∀r∈l,x.1.toNat.testBit (top r.1)=false):Good (insS x l):=by
 have hp:=BEg9 hx hg hc;refine ⟨fun r hr=> ?_,hp.imp fun h=>h.1,hp.imp fun h=>h.2⟩;rcases AKd9.1 hr with rfl|⟨s,hs,rfl⟩
 ·exact BEn9 hx (AFv9 _)
 ·exact BEn9 (BYo9 hx (hg.mask s hs) (hc s hs)) (BLj9 x s)
theorem BEh9 (hx:ABi9 x) (hg:Good l) (hc:∀r∈l,x.1.toNat.testBit (top r.1)=false):
 (((insS x l).map rowV).foldl redV (vec x)=fun _=>false)∧∀r∈l,((insS x l).map rowV).foldl redV (rowV r).2=fun _=>false:=by
 have hG:=BEi9 hx hg hc;have h1:((insS x l).map rowV).foldl redV (vec x)=fun _=>false:=by
  have:=AKw9 hG (r:=fin x) (AKd9.2 (.inl rfl));have e:(rowV (fin x)).2=vec x:=by
   show vec (x.1,pad (b16 x.2))=_;rw [pad16 (AFv9 _),AQv9]
  rwa [e] at this
 refine ⟨h1,fun r hr=> ?_⟩;have h2:=AKw9 hG (r:=upd x r) (AKd9.2 (.inr ⟨r,hr,rfl⟩));rw [BBo9 hx (hg.mask r hr)] at h2;split at h2
 ·rw [ADu9,h1,AQu9] at h2;exact h2
 ·exact h2
end
theorem BXq9 {p:List Int} (h:p.length=16):b16 p=p:=AUs9 (AFv9 _) h fun i hi=>AFc9 hi
theorem BWc9 {l:List Row} (hg:Good l):l.map keepR=l:=by
 have:∀r∈l,keepR r=r:=by
  intro r hr;have:=hg.ok r hr;rw [AHh9] at this;simp only [AKe9,Zal,decide_eq_true_eq] at this;unfold keepR;rw [pad16 this.2.2,BXq9 this.2.2]
 exact (List.map_congr_left this).trans (List.map_id _)
theorem AIl9 (m:Int) (b:List Int):vec (m,b)=vx (vec (m, [])) (vec (0,b)):=by
 funext i;cases i with
 |inl k=>simp [vec,vx]
 |inr ij=>obtain ⟨i,j⟩:=ij;simp [vec,vx,nth]
theorem AGs9 {l:List Row} (b:List Int):(l.map rowV).foldl redV (vec (0,b))=vec (0,b):=by
 refine AHg9 _ _ fun t ht=> ?_;obtain ⟨s,_,rfl⟩:=Zbd.1 ht;show (0:Int).toNat.testBit _=false;simp
theorem AYh9 {l:List Row} (hg:Good l) {m:Int} {b:List Int} (hm:1≤m∧m<65536) (hl:b.length=16) (hb:∀x∈b,0≤x∧x<256):
 ((sumS l m).2=true∧(sumS l m).1≠b∧addS l m b=([],false,12))∨
 ((sumS l m)=(b,true)∧addS l m b=(l,false,0))∨
 ((sumS l m).2=false∧∃x:Row,ABi9 x∧addS l m b=(insS x l,true,0)∧Good (insS x l)∧sumS (insS x l) m=(b,true)∧vec x=(l.map rowV).foldl redV (vec (m,b))∧(∀r∈l,x.1.toNat.testBit (top r.1)=false)∧canon x.2):=by
 have hv:=(ACy9 l).2 hg;have hp:pad b=b:=pad16 hl;have hcb:canon b:=hp▸AXr9 hb;have hfine:fine m b=true:=BEn9 (r:=(m,b)) hm hl;have hx0:0≤(m,b).1∧(m,b).1<65536:=⟨by simp only;omega,hm.2⟩;have hu0:0≤(m,([]:List Int)).1∧(m,([]:List Int)).1<65536:=⟨by simp only;omega,hm.2⟩;have ea:addS l m b=(if (l.foldl red (m,b)).1==0&&APe9 (l.foldl red (m,b)).2 then (l.map keepR,false,0) else if (l.foldl red (m,b)).1==0 then ([],false,12) else (insS (l.foldl red (m,b)) l,true,0)):=by
  unfold addS;rw [hv,hfine,hp];have:=BLl9 (l.foldl red (m,b)) l [];simp only [List.nil_append] at this;simp only [Bool.not_true,Bool.or_self,Zbt,if_false];rw [←this];rfl
 rw [ea,AJl9 (by omega) hm.2 hv];have vX:=AFa9 hx0 hg.mask;have vU:=AFa9 hu0 hg.mask;have vXU:vec (l.foldl red (m,b))=vx (vec (l.foldl red (m, []))) (vec (0,b)):=by
  rw [vX,vU,AIl9 m b,ADu9,AGs9]
 have bX:=ACo9 hx0 hg.mask;have bU:=ACo9 hu0 hg.mask;have cX:canon (l.foldl red (m,b)).2:=AEp9 hcb;have cU:canon (l.foldl red (m, [])).2:=AEp9 AKz9;have hclear:∀r∈l,(l.foldl red (m,b)).1.toNat.testBit (top r.1)=false:=by
  intro r hr;have:=ASk9 hg (vec (m,b)) r hr;rw [←vX] at this;exact this
 generalize hX:l.foldl red (m,b)=x at*;generalize hU:l.foldl red (m, [])=u at*;have e1:x.1=u.1:=by
  have:x.1.toNat=u.1.toNat:=by
   apply Nat.eq_of_testBit_eq;intro k;have:=congrFun vXU (.inl k);simpa [vec,vx] using this
  omega
 have e2:∀i,i<16→Zap 8 (nth x.2 i)=Zap 8 (nth u.2 i) ^^^ Zap 8 (nth b i):=by
  intro i hi;apply BitVec.eq_of_getLsbD_eq;intro j _;have:=congrFun vXU (.inr (i,j));simpa [vec,vx,hi] using this
 have hz:APe9 x.2=true↔b16 u.2=b:=by
  unfold APe9;rw [Zav];constructor
  ·intro h;refine AUs9 (AFv9 _) hl fun i hi=> ?_;rw [AFc9 hi];have h1:nth x.2 i=0:=by simpa using h i (by simpa using hi)
   have h2:=e2 i hi;rw [h1] at h2;have h3:Zap 8 (nth u.2 i)=Zap 8 (nth b i):=by
    have:Zap 8 (nth u.2 i) ^^^ Zap 8 (nth b i)=0#8:=h2.symm;exact BitVec.xor_eq_zero_iff.1 this
   exact AFq9 (cU i hi) (hcb i hi) h3
  ·intro h i hi;have hi:i<16:=by simpa using hi
   have h1:nth u.2 i=nth b i:=by rw [←AFc9 hi,h]
   have h2:=e2 i hi;rw [h1,BitVec.xor_self] at h2;have:=AFq9 (cX i hi) ⟨by omega,by omega⟩ (h2.trans (by rfl:0#8=Zap 8 0));simpa using this
 by_cases h0:u.1=0
 ·have h0x:x.1=0:=by omega
  by_cases hs:b16 u.2=b
  ·right;left;rw [if_neg (by simp [h0]),hs,if_pos (by simp [h0x,hz.2 hs]),BWc9 hg];exact ⟨rfl,rfl⟩
  ·left;have hz':APe9 x.2=false:=by
    cases h:APe9 x.2 with
    |false=>rfl
    |true=>exact absurd (hz.1 h) hs
   rw [if_neg (by simp [h0]),if_neg (by simp [hz']),if_pos (by simp [h0x])];exact ⟨rfl,hs,rfl⟩
 ·right;right;have h0x:¬x.1=0:=by omega
  have hx:ABi9 x:=⟨by omega,bX.2⟩;rw [if_pos (by simpa using h0),if_neg (by simp [h0x]),if_neg (by simpa using h0x)];have hG:=BEi9 hx hg hclear;refine ⟨rfl,x,hx,rfl,hG, ?_,vX,hclear,cX⟩;obtain ⟨k1,k2⟩:=BEh9 hx hg hclear;have k3:((insS x l).map rowV).foldl redV (vec (m,b))=fun _=>false:=by
   rw [←AQd9 _ (l.map rowV) (vec (m,b)) fun r hr=>by
    obtain ⟨s,hs,rfl⟩:=Zbd.1 hr;exact k2 s hs,←vX]
   exact k1
  rw [AIl9,ADu9,AGs9] at k3;have k4:((insS x l).map rowV).foldl redV (vec (m, []))=vec (0,b):=by
   funext i;have:=congrFun k3 i;simp only [vx] at this;revert this;cases (List.foldl redV (vec (m, [])) (List.map rowV (insS x l))) i<;>cases vec (0,b) i<;>simp
  have hv':=(ACy9 _).2 hG;rw [AJl9 (by omega) hm.2 hv'];have vW:=AFa9 hu0 hG.mask;have bW:=ACo9 hu0 hG.mask;have cW:canon ((insS x l).foldl red (m, [])).2:=AEp9 AKz9;rw [k4] at vW;have w1:((insS x l).foldl red (m, [])).1=0:=AVt9 (y:=(0,b)) bW.1 (by simp) vW;rw [if_neg (by simp [w1])];congr 1;rw [BXr9 (y:=(0,b)) cW hcb vW,BXq9 hl]
end Go.Proofs.YtibhflogmbfpcaaGreatDoor.Am
namespace Go.Proofs.YtibhflogmbfpcaaGreatDoor.Am
open Go Go.RowKit Go.Proofs Go.ChangeShapes Go.WideShapes Go.ChangeAt Tryz
open AV renaming agg → Zbj, bad → Zba, d → Zae, ptr → Zbe
open BIf renaming of → Zau, t → Zbr
open BitVec renaming ofInt → Zap
open Bool renaming and_eq_true → Zal, false_eq_true → Zbt
open AAk9 renaming cons → Zag, nil → Zai
open Dv renaming sl → Zam
open Go.Exit renaming normal → Zeh
open Int renaming fdiv → Zbz, toNat → Zat, toNat_natCast → Zbn
open Go.IntKind renaming i64 → Zax, u8 → Zcp, wrap → Zac
open List renaming all_eq_true → Zav, foldl_cons → Zbl, getElem?_eq_getElem → Zbk, length → Zab, mem_cons → Zbx, mem_cons_of_mem → Zaw, mem_cons_self → Zbb, mem_iff_getElem? → Zak, mem_map → Zbd, mem_of_getElem? → Zbi, mem_range → Zbs, pairwise_cons → Zcc, range → Zay, range' → Zcm, replicate → Zaf
open Nat renaming le_refl → Zas, testBit_two_pow → Zdj
open PCall renaming ofFn → Zbh
open Prod renaming fst → Zdz
open AAn9 renaming nil → Zad
open UInt8 renaming toNat → Zef
open Go.Value renaming slice → Zbo
open AV (bad)
set_option linter.unusedVariables false
set_option maxRecDepth 20000
end Go.Proofs.YtibhflogmbfpcaaGreatDoor.Am
namespace Go.Proofs.YtibhflogmbfpcaaGreatDoor.Am
open Go Go.RowKit Go.Proofs Tryz
open AV renaming agg → Zbj, bad → Zba, d → Zae, ptr → Zbe
open BIf renaming of → Zau, t → Zbr
open BitVec renaming ofInt → Zap
open Bool renaming and_eq_true → Zal, false_eq_true → Zbt
open AAk9 renaming cons → Zag, nil → Zai
open Dv renaming sl → Zam
open Go.Exit renaming normal → Zeh
open Int renaming fdiv → Zbz, toNat → Zat, toNat_natCast → Zbn
open Go.IntKind renaming i64 → Zax, u8 → Zcp, wrap → Zac
open List renaming all_eq_true → Zav, foldl_cons → Zbl, getElem?_eq_getElem → Zbk, length → Zab, mem_cons → Zbx, mem_cons_of_mem → Zaw, mem_cons_self → Zbb, mem_iff_getElem? → Zak, mem_map → Zbd, mem_of_getElem? → Zbi, mem_range → Zbs, pairwise_cons → Zcc, range → Zay, range' → Zcm, replicate → Zaf
open Nat renaming le_refl → Zas, testBit_two_pow → Zdj
open PCall renaming ofFn → Zbh
open Prod renaming fst → Zdz
open AAn9 renaming nil → Zad
open UInt8 renaming toNat → Zef
open Go.Value renaming slice → Zbo
variable {β:Type} (wl:WLT β) (y:ACx9 β) (b:β) (R:AV→β→Prop) (K:Exit→List AV→List Blk→β→Prop) (Q:β→Prop)
open AV (bad)
set_option linter.unusedVariables false
set_option maxRecDepth 20000
def bitT (m:Int) (i:Nat):Bool:=Zac .i64 ((Zap 64 (Zbz m ((2 ^ i:Nat):Int))&&&Zap 64 1).toNat:Nat)==1
def rowN (B:List Int) (i:Nat):List Int:=(Zay 16).map fun k=>nth B (16*i+k)
def stepM (B:List Int) (m:Int) (o:List Int) (i:Nat):List Int:=if bitT m i then xorL o (rowN B i) else o
def sumB (B:List Int) (m:Int):List Int:=(Zay 16).foldl (stepM B m) (Zaf 16 0)
section
set_option maxRecDepth 100000
end
theorem BNk9 (p q:List Int):(xorL p q).length=16:=by simp [xorL]
theorem ACw9 (B:List Int) (m:Int):(sumB B m).length=16:=by
 unfold sumB;have:∀(l:List Nat) (o:List Int),o.length=16→(l.foldl (stepM B m) o).length=16:=by
  intro l;induction l with
  |nil=>intro o h;exact h
  | cons i l ih=>
   intro o h;rw [Zbl];refine ih _ ?_;unfold stepM;split
   ·exact BNk9 _ _
   ·exact h
 exact this _ _ (by simp)
set_option maxRecDepth 20000
section
set_option maxRecDepth 100000
end
def allS (B:List Int):List Int→List Row→List Row×Bool
 | [],l=>(l,true)
 | m::ms,l=>if m==0 then allS B ms l else
  let x:=addS l m (sumB B m)
  if x.2.2 !=0 then ([],false) else allS B ms x.1
theorem ARg9 (x:Row):∀(l:List Row) (s:List Row×Bool),(l.foldl (stepB x) s).1.length≤s.1.length+l.length+1∧(s.2=true∨(l.foldl (stepB x) s).2=false→(l.foldl (stepB x) s).1.length=s.1.length+l.length)
 | [],s=>⟨by simp,fun _=>by simp⟩
 | r::l,(acc,d)=>by
  cases d with
  |true=>rw [AWb9];exact ⟨by simp only [List.length_append,List.length_map,List.length_cons];omega,fun _=>by simp only [List.length_append,List.length_map]⟩
  | false=>
   rw [Zbl];by_cases h:lead r.1<lead x.1
   ·have:stepB x (acc,false) r=(acc++ [fin x]++ [upd x r],true):=by simp [stepB,upd,fin,h]
    rw [this,AWb9];exact ⟨by simp;omega,fun hh=>by simp at hh⟩
   ·have:stepB x (acc,false) r=(acc++ [upd x r],false):=by simp [stepB,upd,h]
    rw [this];have ih:=ARg9 x l (acc++ [upd x r],false);simp only [List.length_append,List.length_cons,List.length_nil] at ih ⊢;refine ⟨by omega,fun hh=> ?_⟩;have:=ih.2 (by simpa using hh);omega
theorem BXt9 (l:List Row) (m:Int) (b:List Int):(addS l m b).1.length≤l.length+1:=by
 unfold addS;split
 ·simp
 ·dsimp only;split
  ·simp
  ·split
   ·simp
   ·have:=ARg9 (l.foldl red (m,pad b)) l ([],false);simp only [List.length_nil] at this;split
    ·rename_i h;have h:=this.2 (by simpa using h);simp only [List.length_append,List.length_cons,List.length_nil];omega
    ·simp only;omega
theorem all_nil (B:List Int):∀(ms:List Int) (l:List Row),(allS B ms l).2=false→(allS B ms l).1= []
 | [],l,h=>by simp [allS] at h
 | m::ms,l,h=>by
  unfold allS at h ⊢;split
  ·rename_i hm;rw [if_pos hm] at h;exact all_nil B ms l h
  ·rename_i hm;rw [if_neg hm] at h;dsimp only at h ⊢;split
   ·rfl
   ·rename_i h2;rw [if_neg h2] at h;exact all_nil B ms _ h
set_option maxRecDepth 20000
def xorF (f:Nat→Bool) (l:List Nat):Bool:=l.foldr (fun k a=>f k ^^ a) false
theorem BAs9 (f g:Nat→Bool):∀l:List Nat,xorF (fun k=>f k ^^ g k) l=(xorF f l ^^ xorF g l)
 | []=>rfl
 | k::l=>by
  have ih:=BAs9 f g l;simp only [xorF,List.foldr_cons] at ih ⊢;rw [ih];cases f k<;>cases g k<;>cases (List.foldr (fun k a=>f k ^^ a) false l)<;>cases (List.foldr (fun k a=>g k ^^ a) false l)<;>rfl
theorem BAt9 (l:List Nat) {f:Nat→Bool} (h:∀k∈l,f k=false):xorF f l=false:=by
 induction l with
 |nil=>rfl
 | cons k l ih=>
  simp only [xorF,List.foldr_cons] at ih ⊢;rw [h k (Zbb ..),ih fun j hj=>h j (Zaw _ hj)];rfl
def cB (B:List Int) (i j k:Nat):Bool:=(Zap 8 (nth B (16*k+i))).getLsbD j
def EV (B:List Int) (v:Ix→Bool) (i j:Nat):Bool:=xorF (fun k=>v (.inl k)&&cB B i j k) (Zay 16)
def TV (B:List Int) (v:Ix→Bool):Prop:=∀i,i<16→∀j,v (.inr (i,j))=EV B v i j
theorem TV.vx {B:List Int} {u v:Ix→Bool} (h:TV B u) (k:TV B v):TV B (vx u v):=by
 intro i hi j;show (u (.inr (i,j)) ^^ v (.inr (i,j)))=_;rw [h i hi j,k i hi j];unfold EV;rw [←BAs9];congr 1;funext k;simp only [Am.vx];cases u (.inl k)<;>cases v (.inl k)<;>cases cB B i j k<;>rfl
theorem TV.fold {B:List Int}:∀ {l:List (Ix×(Ix→Bool))} {v:Ix→Bool},TV B v→(∀r∈l,TV B r.2)→TV B (l.foldl redV v)
 | [],v,h,_=>h
 | r::l,v,h,hl=>by
  rw [Zbl];refine TV.fold ?_ fun s hs=>hl s (Zaw _ hs);unfold redV;split
  ·exact h.vx (hl r (Zbb ..))
  ·exact h
theorem TV.zero {B:List Int} {v:Ix→Bool} (h:TV B v) (h0:∀k,k<16→v (.inl k)=false):∀i,i<16→∀j,v (.inr (i,j))=false:=by
 intro i hi j;rw [h i hi j];exact BAt9 _ fun k hk=>by rw [h0 k (by simpa using hk)];rfl
theorem ANc9 {m:Int} (h0:0≤m) (h1:m<65536) (k:Nat):bitT m k=m.toNat.testBit k:=by
 obtain ⟨n,rfl⟩:=Int.eq_ofNat_of_zero_le h0;unfold bitT;have e1:Zbz (n:Int) ((2 ^ k:Nat):Int)=((n / 2 ^ k:Nat):Int):=by
  rw [Int.fdiv_eq_ediv_of_nonneg _ (Int.natCast_nonneg _)];rfl
 have hle:n / 2 ^ k≤n:=Nat.div_le_self _ _;rw [e1];have e2:(Zap 64 ((n / 2 ^ k:Nat):Int)&&&Zap 64 1).toNat=n / 2 ^ k % 2:=by
  rw [BitVec.toNat_and,BitVec.toNat_ofInt,BitVec.toNat_ofInt];have:((((n / 2 ^ k:Nat):Int) % ((2 ^ 64:Nat):Int)).toNat)=n / 2 ^ k:=by
   generalize n / 2 ^ k=q at hle;have:n<65536:=by omega
   omega
  rw [this];exact Nat.and_one_is_mod _
 rw [e2];have h2:n / 2 ^ k % 2<2:=Nat.mod_lt _ (by omega);rw [AAt9 (by omega) (by omega),Zbn,Nat.testBit_eq_decide_div_mod_eq,Bool.eq_iff_iff];generalize n / 2 ^ k % 2=q;simp;omega
theorem APv9 {B:List Int} {i k:Nat} (h:i<16):nth (rowN B k) i=nth B (16*k+i):=by
 simp [rowN,nth,h]
theorem APm9 {B:List Int} {m:Int} (h0:0≤m) (h1:m<65536) {i j:Nat} (hi:i<16):∀(l:List Nat) (o:List Int),
 (Zap 8 (nth (l.foldl (stepM B m) o) i)).getLsbD j=((Zap 8 (nth o i)).getLsbD j ^^ xorF (fun k=>m.toNat.testBit k&&cB B i j k) l)
 | [],o=>by simp [xorF]
 | k::l,o=>by
  rw [Zbl,APm9 h0 h1 hi l];simp only [xorF,List.foldr_cons];unfold stepM;rw [ANc9 h0 h1];cases m.toNat.testBit k with
  |false=>simp
  | true=>
   simp only [if_true,Bool.true_and];rw [APu9 hi,AMc9,BitVec.getLsbD_xor,APv9 hi,Bool.xor_assoc];rfl
theorem BLk9 {B:List Int} {m:Int} (h0:0≤m) (h1:m<65536):TV B (vec (m,sumB B m)):=by
 intro i hi j;have:=APm9 (B:=B) h0 h1 (j:=j) hi (Zay 16) (Zaf 16 0);simp only [vec,hi,decide_true,Bool.true_and,EV];unfold sumB;rw [this];have e:nth (Zaf 16 0) i=0:=by unfold nth;rw [List.getD_eq_getElem?_getD,List.getElem?_replicate];split<;>rfl
 rw [e];simp
theorem AFl9 (B:List Int) (m:Int):∀x∈sumB B m,0≤x∧x<256:=by
 unfold sumB;have:∀(l:List Nat) (o:List Int),(∀x∈o,0≤x∧x<256)→∀x∈l.foldl (stepM B m) o,0≤x∧x<256:=by
  intro l;induction l with
  |nil=>intro o h;exact h
  | cons i l ih=>
   intro o h;rw [Zbl];refine ih _ ?_;unfold stepM;split
   ·intro x hx;simp only [xorL,Zbd] at hx;obtain ⟨k,_,rfl⟩:=hx;exact BLb9 _ _
   ·exact h
 exact this _ _ (by simp)
def TR (B:List Int) (l:List Row):Prop:=∀r∈l,TV B (rowV r).2
theorem TR.all {B:List Int} {l:List Row} (h:TR B l):∀r∈l.map rowV,TV B r.2:=by
 intro r hr;obtain ⟨s,hs,rfl⟩:=Zbd.1 hr;exact h s hs
theorem AKo9 {B:List Int} {l:List Row} (hg:Good l) (ht:TR B l) {m:Int} (h0:0≤m) (h1:m<65536) (hs:(sumS l m).2=true):sumS l m=(sumB B m,true):=by
 have hv:=(ACy9 l).2 hg;rw [AJl9 h0 h1 hv] at hs ⊢;have vU:=AFa9 (x:=(m, [])) ⟨h0,h1⟩ hg.mask;have bU:=ACo9 (x:=(m, [])) ⟨h0,h1⟩ hg.mask;have cU:canon (l.foldl red (m, [])).2:=AEp9 AKz9;generalize l.foldl red (m, [])=u at*;have hu:u.1=0:=by
  split at hs
  ·cases hs
  ·rename_i h;simpa using h
 rw [if_neg (by simp [hu])];congr 1;have hT:=TV.fold (BLk9 (B:=B) h0 h1) ht.all;rw [AIl9,ADu9,AGs9,←vU] at hT;have hz:=hT.zero fun k hk=>by simp [vx,vec,hu]
 have hcb:canon (sumB B m):=by
  intro i hi;refine AFl9 B m _ ?_;have:nth (sumB B m) i=(sumB B m)[i]'(by rw [ACw9];exact hi):=by simp [nth,List.getD,ACw9,hi]
  rw [this];exact List.getElem_mem _
 refine AUs9 (AFv9 _) (ACw9 _ _) fun i hi=> ?_;rw [AFc9 hi];refine AFq9 (cU i hi) (hcb i hi) ?_;apply BitVec.eq_of_getLsbD_eq;intro j _;have:=hz i hi j;simp only [vx,vec,hi,decide_true,Bool.true_and] at this;revert this;cases (Zap 8 (nth u.2 i)).getLsbD j<;>cases (Zap 8 (nth (sumB B m) i)).getLsbD j<;>simp
theorem TR.ins {B:List Int} {l:List Row} (hg:Good l) (ht:TR B l) {x:Row} (hx:ABi9 x) (hT:TV B (vec x)):TR B (insS x l):=by
 intro r hr;rcases AKd9.1 hr with rfl|⟨s,hs,rfl⟩
 ·have e:(rowV (fin x)).2=vec x:=by
   show vec (x.1,pad (b16 x.2))=_;rw [pad16 (AFv9 _),AQv9]
  rw [e];exact hT
 ·rw [BBo9 hx (hg.mask s hs)];split
  ·exact (ht s hs).vx hT
  ·exact ht s hs
def CR (l:List Row):Prop:=∀r∈l,canon r.2
theorem CR.ins {l:List Row} (h:CR l) {x:Row} (hx:canon x.2):CR (insS x l):=by
 intro r hr;rcases AKd9.1 hr with rfl|⟨s,hs,rfl⟩
 ·intro i hi;show 0≤nth (b16 x.2) i∧nth (b16 x.2) i<256;rw [AFc9 hi];exact hx i hi
 ·unfold upd;split
  ·intro i hi;simp only;rw [AFc9 hi];exact ATc9 _ _ i hi
  ·intro i hi;simp only;rw [AFc9 hi];have:nth (pad s.2) i=nth s.2 i:=by
    unfold pad nth;rw [List.getD_eq_getElem?_getD,List.getElem?_take,if_pos hi,List.getD_eq_getElem?_getD,List.getElem?_append];split
    ·rfl
    ·rename_i hh;rw [List.getElem?_replicate];have:s.2[i]? =none:=List.getElem?_eq_none (by omega);rw [this];split<;>rfl
   rw [this];exact h s hs i hi
theorem Good.len16 {l:List Row} (h:Good l):∀r∈l,r.2.length=16:=by
 intro r hr;have:=h.ok r hr;rw [AHh9] at this;simp only [AKe9,Zal,decide_eq_true_eq] at this;exact this.2.2
theorem BJy9 {p:List Int} (hl:p.length=16) (h:canon p):∀x∈p,0≤x∧x<256:=by
 intro x hx;obtain ⟨i,hi,rfl⟩:=List.mem_iff_getElem.1 hx;have:=h i (by omega);simpa [nth,List.getD,hi] using this
theorem AYu9 (B:List Int) (m:Int):canon (sumB B m):=by
 intro i hi;refine AFl9 B m _ ?_;have:nth (sumB B m) i=(sumB B m)[i]'(by rw [ACw9];exact hi):=by simp [nth,List.getD,ACw9,hi]
 rw [this];exact List.getElem_mem _
structure Tru (B:List Int) (l:List Row):Prop where
 good:Good l
 tr:TR B l
 cr:CR l
theorem Tru.bytes {B:List Int} {l:List Row} (h:Tru B l):∀r∈l,∀x∈r.2,0≤x∧x<256:=fun r hr=>BJy9 (h.good.len16 r hr) (h.cr r hr)
theorem Tru.nil (B:List Int):Tru B []:=⟨⟨fun r h=>(by cases h), .nil, .nil⟩,fun r h=>(by cases h),fun r h=>(by cases h)⟩
theorem APj9 {B:List Int} {l:List Row} (h:Tru B l) {m:Int} (h0:1≤m) (h1:m<65536):
 (addS l m (sumB B m)).2.2=0∧Tru B (addS l m (sumB B m)).1:=by
 rcases AYh9 h.good ⟨h0,h1⟩ (ACw9 B m) (AFl9 B m) with ⟨h2,h3,_⟩|⟨_,h3⟩|⟨_,x,hx,h3,hG,_,hv,_,hc⟩
 ·exact absurd (congrArg Zdz (AKo9 h.good h.tr (by omega) h1 h2)) h3
 ·rw [h3];exact ⟨rfl,h⟩
 ·rw [h3];refine ⟨rfl,hG,TR.ins h.good h.tr hx ?_,h.cr.ins hc⟩;rw [hv];exact TV.fold (BLk9 (by omega) h1) h.tr.all
theorem AKp9 {B:List Int}:∀ {ms:List Int} {l:List Row},Tru B l→(∀x∈ms,0≤x∧x<65536)→(allS B ms l).2=true∧Tru B (allS B ms l).1
 | [],l,ht,_=>⟨rfl,ht⟩
 | m::ms,l,ht,hb=>by
  have hb':=fun x hx=>hb x (Zaw _ hx);have hm:=hb m (Zbb ..);unfold allS;split
  ·exact AKp9 ht hb'
  ·rename_i h;have h:m≠0:=by simpa using h
   obtain ⟨h1,h2⟩:=APj9 ht (m:=m) (by omega) hm.2;dsimp only;rw [h1];exact AKp9 h2 hb'
abbrev Vc:=Ix→Bool
def z0:Vc:=fun _=>false
def InV (l:List Row) (v:Vc):Prop:=(l.map rowV).foldl redV v=z0
theorem AXe9 (l:List (Ix×Vc)):l.foldl redV z0=z0:=AHg9 _ _ fun _ _=>rfl
def Sp:List Vc→Vc→Prop
 | [],v=>v=z0
 |e::es,v=>Sp es v∨Sp es (vx v e)
theorem BNy9 (u v:Vc):vx (vx u v) v=u:=by rw [BNz9,ALi9,AQu9]
theorem Sp.zero:∀es:List Vc,Sp es z0
 | []=>rfl
 |_::es=> .inl (Sp.zero es)
theorem Sp.mem:∀ {es:List Vc} {e:Vc},e∈es→Sp es e
 | f::es,e,h=>by
  rcases Zbx.1 h with rfl|h
  ·right;rw [ALi9];exact Sp.zero es
  ·exact .inl (Sp.mem h)
theorem AXf9 {P:Vc→Prop} (hP:∀u v,P u→P v→P (vx u v)):∀(g:List (Ix×Vc)) (v:Vc),(∀r∈g,P r.2)→P (g.foldl redV v)→P v
 | [],v,_,h=>h
 | r::g,v,hr,h=>by
  rw [Zbl] at h;have h1:=AXf9 hP g _ (fun s hs=>hr s (Zaw _ hs)) h;have e:redV v r=if v r.1 then vx v r.2 else v:=rfl;rw [e] at h1;split at h1
  ·have:=hP _ _ h1 (hr r (Zbb ..))
   rwa [BNy9] at this
  ·exact h1
theorem CAq9 {l:List Row} (hg:Good l) {e:Vc} {x:Row} (hx:ABi9 x) (hv:vec x=(l.map rowV).foldl redV e) (hc:∀r∈l,x.1.toNat.testBit (top r.1)=false) (v:Vc):
 InV (insS x l) v↔InV l v∨InV l (vx v e):=by
 obtain ⟨k1,k2⟩:=BEh9 hx hg hc;have hk:∀v,((insS x l).map rowV).foldl redV ((l.map rowV).foldl redV v)=((insS x l).map rowV).foldl redV v:=fun v=>AQd9 _ (l.map rowV) v fun r hr=>by
  obtain ⟨s,hs,rfl⟩:=Zbd.1 hr;exact k2 s hs
 have hx0:(l.map rowV).foldl redV (vec x)=vec x:=AHg9 _ _ fun r hr=>by
  obtain ⟨s,hs,rfl⟩:=Zbd.1 hr;exact hc s hs
 constructor
 ·intro h;have key:(l.map rowV).foldl redV v=z0∨(l.map rowV).foldl redV v=vec x:=by
   refine AXf9 (P:=fun v=>(l.map rowV).foldl redV v=z0∨(l.map rowV).foldl redV v=vec x) (fun u v hu hv=> ?_) ((insS x l).map rowV) v (fun r hr=> ?_) ?_
   ·rw [ADu9];rcases hu with hu|hu<;>rcases hv with hv|hv<;>rw [hu,hv]
    ·exact .inl (ALi9 _)
    ·exact .inr (AVo9 _)
    ·exact .inr (AQu9 _)
    ·exact .inl (ALi9 _)
   ·obtain ⟨s,hs,rfl⟩:=Zbd.1 hr;rcases AKd9.1 hs with rfl|⟨s',hs',rfl⟩
    ·have e:(rowV (fin x)).2=vec x:=by
      show vec (x.1,pad (b16 x.2))=_;rw [pad16 (AFv9 _),AQv9]
     rw [e,hx0];exact .inr rfl
    ·rw [BBo9 hx (hg.mask s' hs')];split
     ·rw [ADu9,hx0,AKw9 hg hs'];exact .inr (AVo9 _)
     ·rw [AKw9 hg hs'];exact .inl rfl
   ·have h:((insS x l).map rowV).foldl redV v=z0:=h;simp only [h];exact .inl (AXe9 _)
  rcases key with h1|h1
  ·exact .inl h1
  ·right;unfold InV;rw [ADu9,h1,←hv,ALi9];rfl
 ·rintro (h|h)
  ·unfold InV at h ⊢;rw [←hk v,h];exact AXe9 _
  ·unfold InV at h ⊢;rw [ADu9,←hv] at h;have:(l.map rowV).foldl redV v=vec x:=by
    have:=congrArg (fun w=>vx w (vec x)) h;simp only [BNy9] at this;rw [this];exact AVo9 _
   rw [←hk v,this];exact k1
theorem BUg9 {l:List Row} (hg:Good l) {m:Int} {b:List Int} (h0:0≤m) (h1:m<65536) (hs:sumS l m=(b,true)):InV l (vec (m,b)):=by
 have hv:=(ACy9 l).2 hg;rw [AJl9 h0 h1 hv] at hs;have vU:=AFa9 (x:=(m, [])) ⟨h0,h1⟩ hg.mask;unfold InV;rw [AIl9,ADu9,AGs9,←vU];generalize l.foldl red (m, [])=u at*;split at hs
 ·cases hs
 ·rename_i hu;have hu:u.1=0:=by simpa using hu
  have hb:b16 u.2=b:=congrArg Zdz hs;have:vec u=vec (0,b):=by
   funext i;cases i with
   |inl k=>simp [vec,hu]
   | inr ij=>
    obtain ⟨i,j⟩:=ij;simp only [vec];by_cases h:i<16
    ·rw [←hb,AFc9 h]
    ·simp [h]
  rw [this];exact ALi9 _
theorem CAr9 {B:List Int} {l:List Row} (h:Tru B l) {m:Int} (h0:1≤m) (h1:m<65536) (v:Vc):
 InV (addS l m (sumB B m)).1 v↔InV l v∨InV l (vx v (vec (m,sumB B m))):=by
 rcases AYh9 h.good ⟨h0,h1⟩ (ACw9 B m) (AFl9 B m) with ⟨h2,h3,_⟩|⟨h2,h3⟩|⟨_,x,hx,h3,hG,_,hv,hc,_⟩
 ·exact absurd (congrArg Zdz (AKo9 h.good h.tr (by omega) h1 h2)) h3
 ·rw [h3];have hi:=BUg9 h.good (by omega) h1 h2;refine ⟨.inl,fun hh=> ?_⟩;rcases hh with hh|hh
  ·exact hh
  ·unfold InV at hh hi ⊢;rw [ADu9,hi] at hh;rw [←hh];exact (AQu9 _).symm
 ·rw [h3];exact CAq9 h.good hx hv hc v
def eqsB (B:List Int) (ms:List Int):List Vc:=(ms.filter fun m=>m !=0).map fun m=>vec (m,sumB B m)
theorem BIv9 {B:List Int}:∀ {ms:List Int} {l:List Row} {es:List Vc},Tru B l→(∀x∈ms,0≤x∧x<65536)→(∀v,InV l v↔Sp es v)→∀v,InV (allS B ms l).1 v↔Sp ((eqsB B ms).reverse++es) v
 | [],l,es,_,_,h,v=>by simpa [allS,eqsB] using h v
 | m::ms,l,es,ht,hb,h,v=>by
  have hb':=fun x hx=>hb x (Zaw _ hx);have hm:=hb m (Zbb ..);unfold allS;by_cases h0:m=0
  ·subst h0;simp only [beq_self_eq_true,if_true];have e:eqsB B (0::ms)=eqsB B ms:=by simp [eqsB]
   rw [e];exact BIv9 ht hb' h v
  ·have e:eqsB B (m::ms)=vec (m,sumB B m)::eqsB B ms:=by simp [eqsB,h0]
   obtain ⟨h1,h2⟩:=APj9 ht (m:=m) (by omega) hm.2;have e2:(m==0)=false:=by simpa using h0
   dsimp only;rw [e2,h1,e,List.reverse_cons,List.append_assoc];exact BIv9 h2 hb' (fun v=>by rw [CAr9 ht (by omega) hm.2 v,h v,h (vx v _)];rfl) v
theorem BUr9 (l:List Row) (n s:Int) (d:List Int):(recS l n s d).1.length≤l.length+1:=by
 unfold recS;split
 ·exact BXt9 _ _ _
 ·simp
theorem tz_at {v i:Nat} (hv:v<65536) (hi:i<16) (hlow:∀j,j<i→v.testBit j=false):((i:Int)==tzS (v:Int))=v.testBit i∧(v.testBit i=true→∃m,v=2 ^ (i+1)*m+2 ^ i):=by
 unfold tzS;rw [Zbn];by_cases h0:v=0
 ·subst h0;rw [show Lib.ctz 64 0=64 from rfl];refine ⟨?_,fun h=>by simp at h⟩;simp;omega
 ·have e:Lib.ctz 64 v=Lib.ctzFrom 64 v:=by unfold Lib.ctz;rw [if_neg h0]
  obtain ⟨m,h1,h2⟩:=Lib.ctzFrom_spec 64 v (by omega) (by omega);rw [e];generalize Lib.ctzFrom 64 v=c at h1 h2;have h3:v=2 ^ (c+1)*m+2 ^ c:=by rw [h1,Nat.pow_succ,Nat.mul_add,Nat.mul_one,Nat.mul_assoc]
  have hp:2 ^ c<2 ^ (c+1):=Nat.pow_lt_pow_right (by omega) (by omega);have hb:∀j,v.testBit j=if j<c+1 then (2 ^ c).testBit j else m.testBit (j - (c+1)):=fun j=>by rw [h3,Nat.testBit_two_pow_mul_add m hp j]
  have hc:v.testBit c=true:=by rw [hb,if_pos (by omega)];simp
  have hl:∀j,j<c→v.testBit j=false:=fun j hj=>by rw [hb,if_pos (by omega),Zdj];simp;omega
  have hci:(c=i)=(v.testBit i=true):=by
   refine propext ⟨fun h=>h▸hc,fun h=> ?_⟩;rcases Nat.lt_trichotomy c i with h4|h4|h4
   ·rw [hlow c h4] at hc;cases hc
   ·exact h4
   ·rw [hl i h4] at h;cases h
  refine ⟨?_,fun h=> ?_⟩
  ·rw [Bool.eq_iff_iff,beq_iff_eq,←hci];omega
  ·have:=hci.mpr h;subst this;exact ⟨m,h3⟩
theorem AOk9 {v:Nat}:Zap 64 (v:Int)=BitVec.ofNat 64 v:=BitVec.ofInt_natCast ..
theorem BJt9 {v:Nat} (h0:1≤v) (h1:v<65536):ASu9 (v:Int)=((v&&&(v - 1):Nat):Int):=by
 unfold ASu9 andU;have e:Zac .u64 ((v:Int) - 1)=((v - 1:Nat):Int):=by rw [AGc9 (by omega) (by omega)];omega
 rw [e,AOk9,AOk9,←BitVec.ofNat_and,BitVec.toNat_ofNat];have:v&&&(v - 1)<65536:=Nat.lt_of_le_of_lt Nat.and_le_left h1;rw [Nat.mod_eq_of_lt (by omega),AGc9 (by omega) (by omega)]
theorem BEz9 {v i m:Nat} (h:v=2 ^ (i+1)*m+2 ^ i) (j:Nat):(v&&&(v - 1)).testBit j=(decide (i<j)&&v.testBit j):=by
 have hp:2 ^ i<2 ^ (i+1):=Nat.pow_lt_pow_right (by omega) (by omega);have hp0:0<2 ^ i:=Nat.two_pow_pos i;have e:v - 1=2 ^ (i+1)*m+(2 ^ i - 1):=by omega
 rw [Nat.testBit_and,e,Nat.testBit_two_pow_mul_add m (by omega) j,h,Nat.testBit_two_pow_mul_add m hp j];by_cases hj:j<i+1
 ·rw [if_pos hj,if_pos hj,Zdj,Nat.testBit_two_pow_sub_one];rw [show decide (i<j)=false by simp;omega,Bool.false_and];by_cases h2:i=j
  ·subst h2;simp
  ·simp [h2]
 ·rw [if_neg hj,if_neg hj,show decide (i<j)=true by simp;omega];simp
theorem BAr9 {p p' q q':List Int} (h1:∀i,i<16→nth p i=nth p' i) (h2:∀i,i<16→nth q i=nth q' i):xorL p q=xorL p' q':=
 List.map_congr_left fun i hi=>by rw [h1 i (Zbs.1 hi),h2 i (Zbs.1 hi)]
theorem BQd9 (p:List Int) {i k:Nat} (h:k<16):nth (blkS p i) k=nth p (16*i+k):=by
 simp [nth,blkS,List.getD,h,List.getElem?_drop]
theorem AUz9 (p:List Int) (S:Nat) (hS:S<65536):∀(n k:Nat) (acc acc':List Int) (v:Nat),k+n=16→(∀i,i<16→nth acc i=nth acc' i)→(∀j,v.testBit j=(decide (k≤j)&&S.testBit j))→
 ∀i,i<16→nth ((Zcm k n).foldl (AHt9 p) (acc,(v:Int))).1 i=nth ((Zcm k n).foldl (stepM p (S:Int)) acc') i
 |0,k,acc,acc',v,hk,ha,hv=>ha
 | n+1,k,acc,acc',v,hk,ha,hv=>by
  have hv16:v<65536:=by
   have:v<2 ^ 16:=by
    refine Nat.lt_pow_two_of_testBit v fun j hj=> ?_;rw [hv];have:S.testBit j=false:=Nat.testBit_lt_two_pow (Nat.lt_of_lt_of_le hS (by rw [show (65536:Nat)=2 ^ 16 from rfl];exact Nat.pow_le_pow_right (by omega) hj));rw [this,Bool.and_false]
   exact this
  obtain ⟨h1,h2⟩:=tz_at hv16 (show k<16 by omega) fun j hj=>by rw [hv,show decide (k≤j)=false by simp;omega,Bool.false_and]
  have hk':v.testBit k=S.testBit k:=by rw [hv];simp
  rw [List.range'_succ,Zbl,Zbl];have hb:bitT (S:Int) k=S.testBit k:=by rw [ANc9 (by omega) (by omega)];rfl
  unfold AHt9 stepM;rw [h1,hk',hb];cases hs:S.testBit k with
  | true=>
   obtain ⟨m,hm⟩:=h2 (hk'.trans hs);have hv1:1≤v:=by have:=Nat.two_pow_pos k;omega
   simp only [if_true];rw [BJt9 hv1 hv16];refine AUz9 p S hS n (k+1) _ _ _ (by omega) (fun i hi=> ?_) fun j=> ?_
   ·rw [BAr9 ha fun i hi=>(BQd9 p hi).trans (APv9 hi).symm]
   ·rw [BEz9 hm,hv];by_cases h3:k<j
    ·simp [h3,Nat.le_of_lt h3,Nat.succ_le_of_lt h3]
    ·simp [h3,show ¬k+1≤j by omega]
  | false=>
   simp only [Zbt,if_false];refine AUz9 p S hS n (k+1) _ _ _ (by omega) ha fun j=> ?_;rw [hv];by_cases h3:k=j
   ·subst h3;simp [hs]
   ·by_cases h4:k≤j
    ·simp [h4,show k+1≤j by omega]
    ·simp [h4,show ¬k+1≤j by omega]
theorem AXo9 {p:List Int} {s:Int} (hs:seedS s=true):encS p s=sumB p (setS s):=by
 obtain ⟨h0,h1⟩:=ADz9 hs;obtain ⟨S,hS⟩:∃S:Nat,setS s=S:=⟨(setS s).toNat,by omega⟩;rw [hS] at h0 h1;unfold encS sumB AHu9;rw [hS,List.range_eq_range'];refine AUs9 (AFv9 _) ?_ fun i hi=> ?_
 ·have:=ACw9 p (S:Int);unfold sumB at this;rwa [List.range_eq_range'] at this
 ·rw [AFc9 hi];refine AUz9 p S (by omega) 16 0 [] (Zaf 16 0) S rfl (fun i hi=> ?_) (fun j=>by simp) i hi;show 0=_;unfold nth;rw [List.getD_eq_getElem?_getD,List.getElem?_replicate];split<;>rfl
theorem ALb9 {B:List Int} {l:List Row} (h:Tru B l) {m:Int} (h0:1≤m) (h1:m<65536):
 (addS l m (sumB B m)).2.2=0∧Tru B (addS l m (sumB B m)).1∧((addS l m (sumB B m)).2.1=false→(addS l m (sumB B m)).1=l)∧(addS l m (sumB B m)).1.length=l.length+(if (addS l m (sumB B m)).2.1 then 1 else 0):=by
 obtain ⟨g1,g2⟩:=APj9 h h0 h1;refine ⟨g1,g2, ?_⟩;rcases AYh9 h.good ⟨h0,h1⟩ (ACw9 B m) (AFl9 B m) with ⟨h2,h3,h4⟩|⟨_,h3⟩|⟨_,x,hx,h3,hG,_,hv,_,hc⟩
 ·rw [h4] at g1;cases g1
 ·rw [h3];exact ⟨fun _=>rfl,rfl⟩
 ·rw [h3];exact ⟨fun h=>(by cases h),BMh9 x l⟩
def masks (ss:List Int):List Int:=ss.map setS
theorem BDu9 {ss:List Int} (hs:∀s∈ss,seedS s=true):∀x∈masks ss,0≤x∧x<65536:=by
 intro x hx;obtain ⟨s,h,rfl⟩:=Zbd.1 hx;have:=ADz9 (hs s h);omega
theorem BQu9 {l:List Row} (hg:Good l) (hb:∀r∈l,∀x∈r.2,0≤x∧x<256) (hl:l.length=16) {i:Nat} (hi:i<16):(sumS l (two i)).2=true:=by
 rw [←AIo9 hg hb hi];obtain ⟨r,hr,he⟩:=hg.full hl hi;have hv:=(ACy9 l).2 hg;unfold AAx9;rw [decide_eq_false (by omega),decide_eq_false (by omega),hv,AQf9 hg hr hi he];rfl
theorem BUf9 {p:List Int} (hb:∀x∈p,0≤x∧x<256) {i:Nat} (hi:i<16):sumB p (two i)=rowN p i:=by
 obtain ⟨h0,h1⟩:=AYr9 hi;have hc:∀j,j<16→0≤nth (rowN p i) j∧nth (rowN p i) j<256:=fun j hj=>by
  rw [APv9 hj];unfold nth;rw [List.getD_eq_getElem?_getD];cases h:p[16*i+j]? with
  |none=>simp
  |some x=>exact hb x (Zbi h)
 refine AUs9 (ACw9 _ _) (by simp [rowN]) fun j hj=> ?_;refine AFq9 (AYu9 p (two i) j hj) (hc j hj) ?_;refine BitVec.eq_of_getLsbD_eq fun k hk=> ?_;have:=APm9 (B:=p) (m:=two i) (by omega) h1 (j:=k) hj (Zay 16) (Zaf 16 0);unfold sumB;rw [this,APv9 hj];have e:nth (Zaf 16 0) j=0:=by unfold nth;rw [List.getD_eq_getElem?_getD,List.getElem?_replicate];split<;>rfl
 rw [e];have key:∀(n:Nat),xorF (fun t=>(two i).toNat.testBit t&&cB p j k t) (Zay n)=(decide (i<n)&&cB p j k i):=by
  have app:∀(f:Nat→Bool) (l l':List Nat),xorF f (l++l')=(xorF f l ^^ xorF f l'):=by
   intro f l l';induction l with
   |nil=>simp [xorF]
   |cons a l ih=>simp only [xorF,List.cons_append,List.foldr_cons] at ih ⊢;rw [ih,Bool.xor_assoc]
  intro n;induction n with
  |zero=>simp [xorF]
  | succ n ih=>
   rw [List.range_succ,app,ih];simp only [xorF,List.foldr_cons,List.foldr_nil,AFj9,Bool.xor_false];by_cases h1:i=n
   ·subst h1;simp
   ·by_cases h2:i<n
    ·simp [h1,h2,Nat.lt_succ_of_lt h2]
    ·simp [h1,h2,show ¬i<n+1 by omega]
 rw [key,decide_eq_true hi];simp [cB]
section
variable {p:List Int} {l:List Row}
theorem BHh9 (ht:Tru p l) {i:Nat} (hi:i<16) (hb:∀x∈p,0≤x∧x<256) (h:(AAx9 l (i:Int)).2=true):AAx9 l (i:Int)=(rowN p i,true):=by
 obtain ⟨h0,h1⟩:=AYr9 hi;rw [AIo9 ht.good ht.bytes hi] at h ⊢;rw [AKo9 ht.good ht.tr (by omega) h1 h,BUf9 hb hi]
theorem BHo9 (hp:p.length=256):(Zcm 0 16).flatMap (rowN p)=p:=by
 have key:∀n,n≤16→(Zcm 0 n).flatMap (rowN p)=p.take (16*n):=by
  intro n;induction n with
  |zero=>intro _;simp
  | succ n ih=>
   intro hn;rw [List.range'_concat,List.flatMap_append,ih (by omega)];simp only [Nat.zero_add,Nat.one_mul,List.flatMap_cons,List.flatMap_nil,List.append_nil];refine List.ext_getElem (by simp [rowN];omega) fun i h1 h2=> ?_;by_cases h3:i<16*n
   ·rw [List.getElem_append_left (by simp;omega)];simp
   ·rw [List.getElem_append_right (by simp;omega)];have h4:i<p.length:=by simp at h2;omega
    have e:16*n+(i - min (16*n) p.length)=i:=by simp [rowN] at h1;omega
    simp [rowN,nth,List.getD,e,h4]
 rw [key 16 (by omega),List.take_of_length_le (by omega)]
theorem AMn9:∀(n:Nat) {l:List Row},(l.Pairwise fun a b=>top b.1<top a.1)→(∀i,i<n→∃r∈l,top r.1=i)→n≤l.length
 |0,l,_,_=>Nat.zero_le _
 |n+1, [],_,h=>by obtain ⟨r,hr,_⟩:=h 0 (by omega);cases hr
 | n+1,a::l,hp,h=>by
  obtain ⟨h1,h2⟩:=Zcc.1 hp;have:=AMn9 n h2 fun i hi=>by
   obtain ⟨r,hr,hri⟩:=h i (by omega);rcases Zbx.1 hr with rfl|hr
   ·obtain ⟨s,hs,hsn⟩:=h n (by omega);rcases Zbx.1 hs with rfl|hs
    ·omega
    ·have:=h1 s hs;omega
   ·exact ⟨r,hr,hri⟩
  simp only [List.length_cons];omega
theorem ARj9 (i:Nat) (hi:i<16) (h:(AAx9 l (i:Int)).2=true):∃r∈l,top r.1=i:=by
 unfold AAx9 at h;split at h
 ·cases h
 ·split at h
  ·rename_i h2;unfold findS at h2;cases hf:l.find? fun r=>r.1==bit (i:Int) with
   |none=>rw [hf] at h2;cases h2
   | some s=>
    have h3:=List.find?_some hf;refine ⟨s,List.mem_of_find?_eq_some hf, ?_⟩;have h3:s.1=two i:=by rw [BGe9 hi] at h3;simpa using h3
    rw [h3,BBq9]
  ·cases h
theorem AWo9 (ht:Tru p l):(AFg9 l).2=decide (l.length=16):=by
 rw [AWp9];by_cases h:l.length=16
 ·rw [if_pos,decide_eq_true h];exact Zav.2 fun i hi=>by
   have hi:i<16:=by simp [List.mem_range'_1] at hi;omega
   rw [AIo9 ht.good ht.bytes hi];exact BQu9 ht.good ht.bytes h hi
 ·rw [if_neg,decide_eq_false h];intro hh;have h1:=AMn9 16 ht.good.falls fun i hi=>ARj9 i hi (Zav.1 hh i (by simp [List.mem_range'_1];omega));have h2:=ht.good.len;omega
theorem BDn9 (ht:Tru p l) (hp:p.length=256) (hb:∀x∈p,0≤x∧x<256) (h:(AFg9 l).2=true):(AFg9 l).1=p:=by
 rw [AWp9] at h ⊢;split
 ·rename_i h2;have e:(Zcm 0 16).flatMap (fun i:Nat=>(AAx9 l i).1)=(Zcm 0 16).flatMap (rowN p):=by
   rw [List.flatMap_def,List.flatMap_def];congr 1;refine List.map_congr_left fun i hi=> ?_;have:=BHh9 ht (i:=i) (by simp [List.mem_range'_1] at hi;omega) hb (Zav.1 h2 i hi);rw [this]
  simp only [e,BHo9 hp]
 ·rename_i h2;rw [if_neg h2] at h;cases h
theorem CAp9 (hg:Good l) {m:Int} {b:List Int} (h0:0≤m) (h1:m<65536) (h:InV l (vec (m,b))):(sumS l m).2=true:=by
 have hv:=(ACy9 l).2 hg;rw [AJl9 h0 h1 hv];have vU:=AFa9 (x:=(m, [])) ⟨h0,h1⟩ hg.mask;have bU:=ACo9 (l:=l) (x:=(m, [])) ⟨h0,h1⟩ hg.mask;unfold InV at h;rw [AIl9,ADu9,AGs9,←vU] at h;have:(l.foldl red (m, [])).1=0:=by
  refine AVt9 (x:=(_,(l.foldl red (m, [])).2)) (y:=(0,b)) bU.1 (Int.le_refl 0) ?_;have h2:=congrArg (fun v=>vx v (vec (0,b))) h;simp only [BNy9] at h2;rw [show z0=fun _=>false from rfl,AVo9] at h2;exact h2
 simp [this]
end
theorem CCu9 {p ms:List Int} (hm:∀x∈ms,0≤x∧x<65536) {m:Int} (h:m∈ms) (h0:m≠0):InV (allS p ms []).1 (vec (m,sumB p m)):=by
 rw [BIv9 (Tru.nil p) hm (es:= []) (fun v=>Iff.rfl)];refine Sp.mem ?_;simp only [List.append_nil,List.mem_reverse,eqsB,Zbd,List.mem_filter];exact ⟨m,⟨h,by simpa using h0⟩,rfl⟩
theorem BGk9 {p ms:List Int} (hb:∀x∈p,0≤x∧x<256) (hm:∀x∈ms,0≤x∧x<65536) (h:∀i,i<16→two i∈ms):(allS p ms []).1.length=16:=by
 obtain ⟨_,ht⟩:=AKp9 (Tru.nil p) hm;have h1:=AMn9 16 ht.good.falls fun i hi=>ARj9 i hi (by
  obtain ⟨h0,h1⟩:=AYr9 hi;rw [AIo9 ht.good ht.bytes hi];exact CAp9 ht.good (by omega) h1 (CCu9 hm (h i hi) (by omega)))
 have h2:=ht.good.len;omega
theorem Sp.bits:∀ {es:List Vc} {v:Vc} {i:Ix},Sp es v→v i=true→∃e∈es,e i=true
 | [],v,i,h,hv=>by rw [show v=z0 from h] at hv;cases hv
 | e::es,v,i,h,hv=>by
  rcases h with h|h
  ·obtain ⟨f,hf,hi⟩:=Sp.bits h hv;exact ⟨f,Zaw _ hf,hi⟩
  ·cases he:e i with
   |true=>exact ⟨e,Zbb ..,he⟩
   | false=>
    obtain ⟨f,hf,hi⟩:=Sp.bits (i:=i) h (by simp [vx,hv,he]);exact ⟨f,Zaw _ hf,hi⟩
def AKj9 (ss:List Int):Int:=ss.foldl (fun a s=>or64 a (setS s)) 0
theorem ARb9:∀(ss:List Int) (a:Int),(∀s∈ss,seedS s=true)→0≤a→a<65536→(0≤ss.foldl (fun a s=>or64 a (setS s)) a∧ss.foldl (fun a s=>or64 a (setS s)) a<65536)∧
 ∀k,(ss.foldl (fun a s=>or64 a (setS s)) a).toNat.testBit k=(a.toNat.testBit k||ss.any fun s=>(setS s).toNat.testBit k)
 | [],a,_,h0,h1=>⟨⟨h0,h1⟩,fun k=>by simp⟩
 | s::ss,a,hs,h0,h1=>by
  have hb:=ADz9 (hs s (Zbb ..));have ho:=BLw9 h0 h1 (b:=setS s) (by omega) (by omega);obtain ⟨g1,g2⟩:=ARb9 ss (or64 a (setS s)) (fun x hx=>hs x (Zaw _ hx)) ho.1 ho.2;refine ⟨g1,fun k=> ?_⟩;rw [Zbl,g2,AWr9 h0 h1 (by omega) (by omega),Zbn,Nat.testBit_or,List.any_cons,Bool.or_assoc]
theorem BJd9 {p ss:List Int} (hs:∀s∈ss,seedS s=true) {m:Int} (h0:1≤m) (h1:m<65536):or64 m (AKj9 ss)=AKj9 ss∨(addS (allS p (masks ss) []).1 m (sumB p m)).2.1=true:=by
 have hm:=BDu9 hs;obtain ⟨_,ht⟩:=AKp9 (Tru.nil p) hm;rcases AYh9 ht.good ⟨h0,h1⟩ (ACw9 p m) (AFl9 p m) with ⟨h2,h3,_⟩|⟨h2,h3⟩|⟨_,x,hx,h3,_⟩
 ·exact absurd (congrArg Zdz (AKo9 ht.good ht.tr (by omega) h1 h2)) h3
 ·left;have hi:=BUg9 ht.good (by omega) h1 h2;rw [BIv9 (Tru.nil p) hm (es:= []) (fun v=>Iff.rfl)] at hi;obtain ⟨hb,hk⟩:=ARb9 ss 0 hs (Int.le_refl 0) (by omega);have hb:0≤AKj9 ss∧AKj9 ss<65536:=hb;rw [AWr9 (by omega) h1 hb.1 hb.2];have e:m.toNat|||(AKj9 ss).toNat=(AKj9 ss).toNat:=by
   refine Nat.eq_of_testBit_eq fun k=> ?_;rw [Nat.testBit_or];cases hmk:m.toNat.testBit k with
   |false=>simp
   | true=>
    obtain ⟨e,he,hek⟩:=Sp.bits (i:= .inl k) hi hmk;simp only [List.append_nil,List.mem_reverse,eqsB,Zbd,List.mem_filter,masks] at he;obtain ⟨m',⟨⟨s,hs',rfl⟩,_⟩,rfl⟩:=he;rw [show (AKj9 ss).toNat.testBit k=_ from hk k];have:(ss.any fun s=>(setS s).toNat.testBit k)=true:=List.any_eq_true.2 ⟨s,hs',hek⟩;rw [this];simp
  show (((m.toNat|||(AKj9 ss).toNat:Nat)):Int)=AKj9 ss;rw [e];have:=hb.1;omega
 ·right;rw [h3]
def ss0:List Int:= [0,1,2,3,4,5,6,7,8,9,10,11,12,13,14,15]
theorem AMe9:∀i,i<16→two i∈masks ss0:=by decide+kernel
section
end
def AWf9 (l:List Row):Prop:=l.length≤1000∧∀r∈l,r.2.length≤1000
section
end
def zeroL (p:List Int):Bool:=p.all fun x=>x==0
def c35 (args:List AV) (K:AV→Prop):Prop:=∃(p:List Int) (r:Bool),args= [.d (.sl 1 (AAb9 p))]∧p.length≤9223372036854775807∧r=zeroL p∧K (.d (bo r))
section
variable (p:List Int) (S:Nat) (hp:p.length=256) (hS:S<65536)
include hp hS
end
end Go.Proofs.YtibhflogmbfpcaaGreatDoor.Am