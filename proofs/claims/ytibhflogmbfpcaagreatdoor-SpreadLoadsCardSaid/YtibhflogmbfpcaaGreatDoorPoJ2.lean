import Derived.Test.YtibhflogmbfpcaaGreatDoorPoJ1
import Derived.Scope
import Derived.ChangeArms
import Derived.OpenShut
import Derived.ChangeShapes
import Derived.Carry
import Derived.ProofKit
import Derived.LaidMore
import Derived.FnData
import Derived.Maps.OwnSet
set_option linter.unusedSimpArgs false
set_option linter.unusedVariables false
namespace Go.Proofs.YtibhflogmbfpcaaGreatDoor.Am
open Go Go.RowKit
open AV renaming view → Zck
open _root_.Array renaming getElem?_eq_some_iff → Zah
open Bool renaming and_eq_true → Zal
open Go.IntKind renaming wrap → Zac
open List renaming all_eq_true → Zav, getElem?_append_left → Zan, getElem?_append_right → Zao, getElem?_drop → Zbm, getElem?_eq_getElem → Zbk, getElem?_eq_some_iff → Zaa, getElem?_take → Zaq, getElem?_zip_eq_some → Zar, mem_append → Zco, mem_append_left → Zbc, mem_cons → Zbx, mem_cons_of_mem → Zaw, mem_cons_self → Zbb, mem_iff_getElem? → Zak, mem_of_getElem? → Zbi, range → Zay
open Nat renaming le_refl → Zas, le_trans → Zch
open Option renaming map_eq_some_iff → Zaj
open Go.Region renaming ready → Zek
open Go.Value renaming func → Zcd
open AV (bad)
set_option linter.unusedVariables false
def addE (j i:Nat) (ops:Array Oper):Array Oper:=ops.modify j fun o=> {o with after:=o.after.push ⟨i, .chain⟩}
def swN (k n:Nat):List Nat:=Zay k++(k+1)::k::(Zay (n - (k+2))).map (k+2+ ·)
def swL {α:Type} (n:Nat) (l:List α):List α:=
 match l.drop n with
 | [a,b]=>l.take n++ [b,a]
 |_=>l
def swA (n:Nat) (x:AV):AV:=
 match x with
 | .ptr g off=>if Nat.beq g n then .ptr (n+1) off else if Nat.beq g (n+1) then .ptr n off else .ptr g off
 |x=>x
def swOk (n:Nat) (x:AV):Bool:=
 match x with
 | .ptr g off=>true
 |x=>x.low n
section
variable {S X:Pr} {yv:Option Nat} {w:World} {m m':List MB} {B:List (AV×Value)} {hp:List Blk} {hv:List (List Value)} {a:Act}
theorem RV.swap {n:Nat} (hl:m.length=n+2) (hm:∀g,g<n→m'[g]? =m[g]?) (h1:m'[n]? =m[n+1]?) (h2:m'[n+1]? =m[n]?) {x:AV} {v:Value} (h:RV S w m yv x v) (hx:swOk n x=true):RV S w m' yv (swA n x) v:=by
 have low:∀ {x:AV},RV S w m yv x v→x.low n=true→RV S w m' yv x v:=fun h hx=>by
  refine (h.low hx).blocks fun g p hp=> .inl ?_;have hg:g<n:=Nat.lt_of_lt_of_le (Zaa.1 hp).1 (List.length_take_le _ _);rw [hm g hg]
  rwa [Zaq,if_pos hg] at hp
 cases x with
 | ptr g off=>
  cases h with
  | ptr h=>
   simp only [swA];cases e1:Nat.beq g n with
   | true=>
    have:=Nat.eq_of_beq_eq_true e1;subst this;exact .ptr (by rw [h2];exact h)
   | false=>
    cases e2:Nat.beq g (n+1) with
    | true=>
     have:=Nat.eq_of_beq_eq_true e2;subst this;exact .ptr (by rw [h1];exact h)
    | false=>
     have n1:=Nat.ne_of_beq_eq_false e1;have n2:=Nat.ne_of_beq_eq_false e2;have hg:=(Zaa.1 h).1;exact .ptr (by rw [hm g (by omega)];exact h)
 |_=>exact low h hx
theorem ARv9 {n:Nat}:∀ {cs:List AV},(∀(i:Nat) (c:AV),cs[i]? =some c→c.low n=true)→lows n cs=true
 | [],_=>rfl
 | x::r,h=>by
  simp only [lows,Zal];exact ⟨h 0 x rfl,ARv9 fun i c hc=>h (i+1) c hc⟩
theorem RV.lowOf {x:AV} {v:Value} (h:RV S w m yv x v):x.low m.length=true:=by
 have lt:∀ {g:Nat} {p:MB},m[g]? =some p→g<m.length:=fun h=>(Zaa.1 h).1;induction h with
 | @agg cs vs hl h ih=>
  refine ARv9 fun i c hc=> ?_;have hi:=(Zaa.1 hc).1;exact ih i c vs[i] hc (by simp)
 | @tup cs vs hl h ih=>
  refine ARv9 fun i c hc=> ?_;have hi:=(Zaa.1 hc).1;exact ih i c vs[i] hc (by simp)
 |ref h _ _=>exact decide_eq_true (lt h)
 |ptr h=>exact decide_eq_true (lt h)
 |gref h _ _ _=>exact decide_eq_true (lt h)
 |gptr h _ _ _=>exact decide_eq_true (lt h)
 | @fn f first caps fs cs hf hl hl' h h' ih ih'=>
  simp only [AV.low,Zal];refine ⟨ARv9 fun i c hc=> ?_,ARv9 fun i c hc=> ?_⟩
  ·have hi:=(Zaa.1 hc).1;exact ih i c fs[i] hc (by simp)
  ·have hi:=(Zaa.1 hc).1;exact ih' i c cs[i] hc (by simp)
 |_=>rfl
theorem AVy9 {α:Type} {n:Nat} {l:List α} (h:l.length=n+2):∃l0 a b,l0.length=n∧l=l0++ [a,b]∧swL n l=l0++ [b,a]:=by
 have h1:(l.drop n).length=2:=by simp;omega
 have h2:=List.take_append_drop n l;have h3:(l.take n).length=n:=by simp;omega
 match hd:l.drop n,h1 with
 | [a,b],_=>
  rw [hd] at h2;exact ⟨l.take n,a,b,h3,h2.symm,by simp only [swL,hd]⟩
theorem AVz9 {n:Nat} {x:AV} {v:Value}:ownB (swA n x,v)=ownB (x,v):=by
 cases x with
 | ptr g off=>
  simp only [swA];split
  ·rfl
  ·split<;>rfl
 |_=>rfl
theorem BBt9 {n:Nat} {x:AV}:ANq9 (swA n x)=ANq9 x:=by
 cases x with
 | ptr g off=>
  simp only [swA];split
  ·rfl
  ·split<;>rfl
 |_=>rfl
theorem RelS.swap {n:Nat} {tm:List AV} (hr:RelS S X yv w m B hv ⟨tm,hp, []⟩ a) (hB:∀p∈B,p.1.low n=true) (hN:hp.length=n+2) (hc:(hp.all fun blk=>lows n blk.cells)=true) (htm:(tm.all fun x=>swOk n x)=true):
 RelS S X yv w (swL n m) B (swL n hv) ⟨tm.map (swA n),swL n hp, []⟩ a:=by
 obtain ⟨h1,h2,_⟩:=hr;obtain ⟨hp0,b1,b2,lp,rfl,ep⟩:=AVy9 hN;have lm:m.length=n+2:=h2.ml.trans hN;have lv:hv.length=n+2:=h2.hl.trans hN;obtain ⟨m0,p1,p2,lm0,rfl,em⟩:=AVy9 lm;obtain ⟨v0,v1,v2,lv0,rfl,ev⟩:=AVy9 lv;rw [ep,em,ev];simp only at h1 h2;have hm:∀g,g<n→(m0++ [p2,p1])[g]? =(m0++ [p1,p2])[g]? :=fun g hg=>by
  rw [Zan (by omega),Zan (by omega)]
 have hm1:(m0++ [p2,p1])[n]? =(m0++ [p1,p2])[n+1]? :=by subst lm0;simp
 have hm2:(m0++ [p2,p1])[n+1]? =(m0++ [p1,p2])[n]? :=by subst lm0;simp
 have hcp:∀(b1 b2:Blk) (v1 v2:List Value),AAa9 (hp0++ [b1,b2]) (v0++ [v1,v2])=AAa9 hp0 v0++(b1.cells.zip v1++b2.cells.zip v2):=fun b1 b2 v1 v2=>by
  simp only [AAa9];rw [List.zip_append (by omega),List.flatMap_append];simp
 have hperm:List.Perm (tm.zip a.tmps.toList++(B++AAa9 (hp0++ [b2,b1]) (v0++ [v2,v1]))) (tm.zip a.tmps.toList++(B++AAa9 (hp0++ [b1,b2]) (v0++ [v1,v2]))):=by
  rw [hcp,hcp];exact List.Perm.append_left _ (List.Perm.append_left _ (List.Perm.append_left _ List.perm_append_comm))
 have hz:∀p∈(tm.map (swA n)).zip a.tmps.toList,∃x,(x,p.2)∈tm.zip a.tmps.toList∧p.1=swA n x:=by
  intro p hp;rw [List.zip_map_left] at hp;obtain ⟨q,hq,rfl⟩:=List.mem_map.1 hp;exact ⟨q.1,hq,rfl⟩
 have hcl:∀p∈AAa9 (hp0++ [b1,b2]) (v0++ [v1,v2]),p.1.low n=true:=by
  intro p hp;simp only [AAa9,List.mem_flatMap] at hp;obtain ⟨q,hq,hp⟩:=hp;obtain ⟨i,hi⟩:=Zak.1 hp;have h3:=(Zar.1 hi).1;exact AIb9 (Zav.1 hc _ (List.of_mem_zip hq).1) i _ h3
 have back:∀p∈(tm.map (swA n)).zip a.tmps.toList++(B++AAa9 (hp0++ [b2,b1]) (v0++ [v2,v1])),∃x,(x,p.2)∈tm.zip a.tmps.toList++(B++AAa9 (hp0++ [b1,b2]) (v0++ [v1,v2]))∧p.1=swA n x∧swOk n x=true:=by
  intro p hp;rcases Zco.1 hp with hp|hp
  ·obtain ⟨x,hx,e⟩:=hz p hp;refine ⟨x,Zbc _ hx,e, ?_⟩;exact Zav.1 htm x (List.of_mem_zip hx).1
  ·have hlo:p.1.low n=true:=by
    rcases Zco.1 hp with hp|hp
    ·exact hB p hp
    ·refine hcl p ?_;rw [hcp] at hp ⊢;exact (List.Perm.append_left _ List.perm_append_comm).mem_iff.1 hp
   refine ⟨p.1,hperm.mem_iff.1 (List.mem_append_right _ hp), ?_, ?_⟩
   ·cases hx:p.1 with
    | ptr g off=>
     rw [hx] at hlo;have hg:g<n:=by simpa [AV.low] using hlo
     simp only [swA];cases e1:Nat.beq g n with
     |true=>have:=Nat.eq_of_beq_eq_true e1;omega
     | false=>
      cases e2:Nat.beq g (n+1) with
      |true=>have:=Nat.eq_of_beq_eq_true e2;omega
      |false=>rfl
    |_=>rfl
   ·cases hx:p.1 with
    |ptr g off=>rfl
    |_=>rw [hx] at hlo;exact hlo
 have hown:∀ {p:AV×Value} {x:AV},p.1=swA n x→ownB p=ownB (x,p.2):=fun {p} {x} e=>by
  obtain ⟨p1,p2⟩:=p;cases e;exact AVz9
 refine ⟨by simpa using h1,⟨h2.lt,fun p hp=> ?_, ?_,fun p hp b hb x hx=> ?_,fun p hp b hb=> ?_, ?_, ?_, ?_, ?_,h2.gl⟩,fun p hp=>by cases hp⟩
 ·obtain ⟨x,hx,e,hok⟩:=back p hp;rw [e];exact (h2.rv _ hx).swap (n:=n) (by simp;omega) hm hm1 hm2 hok
 ·have h3:List.Pairwise Dis (tm.zip a.tmps.toList++(B++AAa9 (hp0++ [b2,b1]) (v0++ [v2,v1]))):=(hperm.pairwise_iff (fun {_ _} h=>h.symm)).2 h2.pw;have e4:(tm.map (swA n)).zip a.tmps.toList=(tm.zip a.tmps.toList).map fun q=>(swA n q.1,q.2):=by rw [List.zip_map_left];rfl
  rw [e4];rw [List.pairwise_append] at h3 ⊢;refine ⟨?_,h3.2.1,fun p hp q hq=> ?_⟩
  ·rw [List.pairwise_map];exact h3.1.imp fun {p q} h b h1 h2=>h b (AVz9▸h1) (AVz9▸h2)
  ·obtain ⟨p0,hp0,rfl⟩:=List.mem_map.1 hp;exact fun b h1 h2=>h3.2.2 p0 hp0 q hq b (AVz9▸h1) h2
 ·obtain ⟨y,hy,e,_⟩:=back p hp;refine h2.nm _ hy b ((hown e)▸hb) x ?_;rcases Zco.1 hx with hx|hx
  ·exact Zbc _ hx
  ·exact List.mem_append_right _ (by simp at hx ⊢;exact hx.symm)
 ·obtain ⟨y,hy,e,_⟩:=back p hp;have:=h2.sp _ hy b ((hown e)▸hb);rw [e,BBt9];exact this
 ·have hpm:List.Perm ((m0++ [p2,p1]).map (·.b)) ((m0++ [p1,p2]).map (·.b)):=List.Perm.map _ (List.Perm.append_left _ (List.Perm.swap ..));exact hpm.nodup_iff.2 h2.mnd
 ·have:=h2.ml;simp at this ⊢;omega
 ·have:=h2.hl;simp at this ⊢;omega
 ·intro g blk p vs e1 e2 e3;have key:∃g':Nat,(hp0++ [b1,b2])[g']? =some blk∧(m0++ [p1,p2])[g']? =some p∧(v0++ [v1,v2])[g']? =some vs:=by
   have lt:=(Zaa.1 e1).1;simp at lt;rcases Nat.lt_or_ge g n with hg|hg
   ·rw [Zan (by omega)] at e1 e2 e3;exact ⟨g,by rw [Zan (by omega)];exact e1,by rw [Zan (by omega)];exact e2,by rw [Zan (by omega)];exact e3⟩
   ·rw [Zao (by omega)] at e1 e2 e3;rw [lp] at e1;rw [lm0] at e2;rw [lv0] at e3;rcases Nat.lt_or_ge g (n+1) with hg'|hg'
    ·have:g - n=0:=by omega
     rw [this] at e1 e2 e3;refine ⟨n+1, ?_, ?_, ?_⟩
     ·rw [Zao (by omega),lp,show n+1 - n=1 by omega];exact e1
     ·rw [Zao (by omega),lm0,show n+1 - n=1 by omega];exact e2
     ·rw [Zao (by omega),lv0,show n+1 - n=1 by omega];exact e3
    ·have:g - n=1:=by omega
     rw [this] at e1 e2 e3;refine ⟨n, ?_, ?_, ?_⟩
     ·rw [Zao (by omega),lp,Nat.sub_self];exact e1
     ·rw [Zao (by omega),lm0,Nat.sub_self];exact e2
     ·rw [Zao (by omega),lv0,Nat.sub_self];exact e3
  obtain ⟨g',f1,f2,f3⟩:=key;exact h2.bl g' blk p vs f1 f2 f3
end
section
variable {F:Fence} {nn:Nat} {P:Program} {ops:Array Oper} {Q:Exit→Act→World→Prop}
theorem ABm9 {j i:Nat}:(addE j i ops).size=ops.size:=by simp [addE]
theorem AQo9 {j i x:Nat} {o:Oper} (h:ops[x]? =some o):(addE j i ops)[x]? =some (if j=x then {o with after:=o.after.push ⟨i, .chain⟩} else o):=by
 simp only [addE,Array.getElem?_modify];split
 ·rw [h];rfl
 ·exact h
theorem ANe9 {j i x:Nat} (h:j≠x):(addE j i ops)[x]? =ops[x]? :=by
 simp only [addE,Array.getElem?_modify,if_neg h]
theorem AVk9 {j i x:Nat} {o':Oper} (h:(addE j i ops)[x]? =some o'):∃o,ops[x]? =some o∧o'=(if j=x then {o with after:=o.after.push ⟨i, .chain⟩} else o):=by
 cases ho:ops[x]? with
 | none=>
  have:(addE j i ops)[x]? =none:=by
   rw [Array.getElem?_eq_none_iff,ABm9];exact Array.getElem?_eq_none_iff.1 ho
  rw [this] at h;cases h
 |some o=>rw [AQo9 ho] at h;exact ⟨o,rfl,(Option.some.inj h).symm⟩
theorem AMq9 {o:Oper} {i:Nat}:AAp9 {o with after:=o.after.push ⟨i, .chain⟩}=AAp9 o++ [i]:=by
 simp [AAp9,Region.binds]
theorem ATs9 {j i:Nat} (tmps:Array Value) (x:Nat):yielded (addE j i ops) tmps x=yielded ops tmps x:=by
 unfold yielded;cases ho:ops[x]? with
 | none=>
  have:(addE j i ops)[x]? =none:=by
   rw [Array.getElem?_eq_none_iff,ABm9];exact Array.getElem?_eq_none_iff.1 ho
  rw [this]
 | some o=>
  rw [AQo9 ho];by_cases hjx:j=x
  ·rw [if_pos hjx];rfl
  ·rw [if_neg hjx]
theorem AJi9 {j i x:Nat} {K:Act→World→Prop} {a:Act} {w:World} (h:wpOpIn F nn P (addE j i ops) Q x K a w):wpOpIn F nn P ops Q x K a w:=by
 unfold wpOpIn at h ⊢;cases ho:ops[x]? with
 | none=>
  have:(addE j i ops)[x]? =none:=by
   rw [Array.getElem?_eq_none_iff,ABm9];exact Array.getElem?_eq_none_iff.1 ho
  rw [this] at h;exact h
 | some o=>
  rw [AQo9 ho] at h;have e:(fun y=>yielded (addE j i ops) a.tmps y)=fun y=>yielded ops a.tmps y:=funext fun y=>ATs9 _ _;have e:yielded (addE j i ops) a.tmps=yielded ops a.tmps:=e;simp only [e] at h ⊢;split at h
  ·have hw:Region.wanted {o with after:=o.after.push ⟨i, .chain⟩} (yielded ops a.tmps)=Region.wanted o (yielded ops a.tmps):=rfl;rw [hw] at h;exact h
  ·exact h
theorem ALw9 {j i x:Nat} {listed:Array Bool} (hl:listed.getD i false=true):x∈Zek .any (addE j i ops) listed↔x∈Zek .any ops listed:=by
 constructor
 ·intro h;obtain ⟨o',ho',h0,he⟩:=ACe9 h;obtain ⟨o,ho,rfl⟩:=AVk9 ho';refine ABg9 ho h0 fun e hm=>he e ?_;split
  ·rw [AMq9];exact Zbc _ hm
  ·exact hm
 ·intro h;obtain ⟨o,ho,h0,he⟩:=ACe9 h;refine ABg9 (AQo9 ho) h0 fun e hm=> ?_;split at hm
  ·rw [AMq9] at hm;rcases Zco.1 hm with hm|hm
   ·exact he e hm
   ·simp at hm;subst hm;exact hl
  ·exact he e hm
theorem BHr9 {j i x:Nat} {listed:Array Bool} (h:x∈Zek .any (addE j i ops) listed):x∈Zek .any ops listed:=by
 obtain ⟨o',ho',h0,he⟩:=ACe9 h;obtain ⟨o,ho,rfl⟩:=AVk9 ho';refine ABg9 ho h0 fun e hm=>he e ?_;split
 ·rw [AMq9];exact Zbc _ hm
 ·exact hm
theorem ALh9 {j i:Nat}:∀(fuel:Nat) (listed:Array Bool) (a:Act) (w:World),listed.getD i false=true→wpAnyIn F nn P .any (addE j i ops) Q fuel listed a w→wpAnyIn F nn P .any ops Q fuel listed a w:=by
 have hnil:∀ {listed:Array Bool},listed.getD i false=true→(Zek .any (addE j i ops) listed= []↔Zek .any ops listed= []):=fun {listed} hl=>by
  rw [List.eq_nil_iff_forall_not_mem,List.eq_nil_iff_forall_not_mem];exact ⟨fun h x hx=>h x ((ALw9 hl).2 hx),fun h x hx=>h x ((ALw9 hl).1 hx)⟩
 intro fuel;induction fuel with
 |zero=>exact fun listed a w hl h=>⟨(hnil hl).1 h.1,h.2⟩
 | succ fuel ih=>
  intro listed a w hl h;refine ⟨fun h0=>h.1 ((hnil hl).2 h0),fun x hx=> ?_⟩;refine AJi9 (wpOpIn_mono (fun a' w' hw'=>ih _ _ _ ?_ hw') (h.2 x ((ALw9 hl).2 hx)));have hsz:i<listed.size:=by
   apply Classical.byContradiction;intro hn;rw [Array.getD_eq_getD_getElem?,Array.getElem?_eq_none (by omega)] at hl;cases hl
  simp only [Array.getD_eq_getD_getElem?,Array.getElem?_setIfInBounds];by_cases hxi:x=i
  ·subst hxi;simp [hsz]
  ·rw [if_neg hxi];simpa [Array.getD_eq_getD_getElem?] using hl
end
section
variable {P:Program} {S S' X:Pr} {r:Option Nat} {lo:Nat} {yv:Option Nat} {w w':World} {m m':List MB} {B:List (AV×Value)} {hp:List Blk} {hv:List (List Value)} {call:CallT} {a:Act} {ops:Array Oper} {Ev:Env P}
theorem ANi9.pure {k n:Nat} (hd:AAz9 ops k n=true) (hk:k+n≤ops.size) {tm0 tmK:List AV} {hp0:List Blk} {sts:List (List AV×List Blk)}
 (hls:ACg9 P ((ops.toList.drop k).take n) tmK hp0=some sts) (hx0:xPre P call ops hp0 (ops.toList.take k) tm0=some tmK) {tmF:List AV} {hpn:List Blk} (hlast:sts[n]? =some (tmF,hpn))
 {listed:Array Bool} {tm:List AV} (hI:ANi9 ops k n sts tm0 tmF tm hp0 listed 0) {j:Nat} {oj:Oper} (hoj:ops[j]? =some oj) (hj0:listed.getD j false=false) (hje:∀e∈AAp9 oj,listed.getD e false=true) (hjp:j<k):
 ADr9 oj=true∧∃x,xp P call ops hp0 tm oj=some x∧ANi9 ops k n sts tm0 tmF (putA tm oj.dst x) hp0 (listed.setIfInBounds j true) 0:=by
 obtain ⟨L1,L2⟩:=AQa9 hd hk hls hlast;have spec0:=AGi9 (call:=call) (P:=P) (hp:=hp0) hd (by omega) k (i:=0) (tm:=tm0) (tmK:=tmK) rfl (Nat.zero_le _) (by simpa using hx0);have sp2:=spec0.2.1;have sp3:=spec0.2.2;obtain ⟨lenF,L1n⟩:=L1 n tmF hpn hlast (Zas _);have hold:∀t,(∀(j:Nat) (o:Oper),j<k+n→ops[j]? =some o→o.dst≠some t)→tmF[t]? =tm0[t]? :=by
  intro t ht;rw [L1n t fun j o hj ho=>ht (k+j) o (by omega) ho,sp2 t fun j o _ hj ho=>ht j o (by omega) ho]
 have hjl:j<ops.size:=(Zah.1 hoj).1;have hjk:j<k+n:=by omega
 obtain ⟨hedge,hlook,hpure,huniq,hmidanc,_⟩:=ADn9 hd hoj;have hlk:=hlook hjk;have huq:=huniq hjk;have hsame:∀t∈oj.looksAt ops,tm[t]? =tmF[t]? :=by
  intro t ht;by_cases hc:∃(i:Nat) (o:Oper),i<k+n∧ops[i]? =some o∧o.dst=some t
  ·obtain ⟨i,o,g1,g2,g3⟩:=hc;exact hI.got i o t g1 g2 g3 (hje i (hlk t ht i o g1 g2 g3))
  ·rw [hI.old t (fun j o g1 g2 _ g3=>hc ⟨j,o,g1,g2,g3⟩),hold t (fun j o g1 g2 g3=>hc ⟨j,o,g1,g2,g3⟩)]
 have hget:∀i,(listed.setIfInBounds j true).getD i false=(if i=j then true else listed.getD i false):=by
  intro i;simp only [Array.getD_eq_getD_getElem?,Array.getElem?_setIfInBounds];by_cases hij:j=i
  ·subst hij;simp [hI.sz,hjl]
  ·simp [hij,Ne.symm hij]
 have hdown':∀(i:Nat) (o':Oper),ops[i]? =some o'→(listed.setIfInBounds j true).getD i false=true→∀e∈AAp9 o',(listed.setIfInBounds j true).getD e false=true:=by
  intro i o' ho' hi e he;rw [hget] at hi ⊢;split at hi
  ·rename_i hij;subst hij;rw [hoj] at ho';cases ho';split
   ·rfl
   ·exact hje e he
  ·split
   ·rfl
   ·exact hI.down i o' ho' hi e he
 have hdst:∀(i:Nat) (o:Oper),i<k+n→i≠j→ops[i]? =some o→oj.dst≠none→o.dst≠oj.dst:=by
  intro i o hik hij ho hne he;rcases Nat.lt_or_ge i j with h'|h'
  ·exact huq i o h' ho hne he
  ·exact (ADn9 hd ho).2.2.2.1 hik j oj (by omega) hoj (by rw [he];exact hne) he.symm
 have htl:tm.length=tmF.length:=by rw [hI.len,lenF,sp3]
 have hgot':∀(x:AV),(∀d,oj.dst=some d→d<tm.length→tmF[d]? =some x)→∀(i':Nat) (o:Oper) (d:Nat),i'<k+n→ops[i']? =some o→o.dst=some d→(listed.setIfInBounds j true).getD i' false=true→(putA tm oj.dst x)[d]? =tmF[d]? :=by
  intro x hxF i' o d hik ho hod hi';rw [hget] at hi';by_cases hij:i'=j
  ·subst hij;rw [hoj] at ho;cases ho;rw [hod];by_cases hdl:d<tm.length
   ·rw [hxF d hod hdl];simp [putA,hdl]
   ·simp only [putA];rw [List.getElem?_eq_none (by simp;omega),List.getElem?_eq_none (by omega)]
  ·rw [if_neg hij] at hi';rw [ACh9]
   ·exact hI.got i' o d hik ho hod hi'
   ·intro he;exact hdst i' o hik hij ho (by rw [he];simp) (by rw [hod,he])
 have hold':∀(x:AV) (t:Nat),(∀(j':Nat) (o:Oper),j'<k+n→ops[j']? =some o→(listed.setIfInBounds j true).getD j' false=true→o.dst≠some t)→(putA tm oj.dst x)[t]? =tm0[t]? :=by
  intro x t ht;rw [ACh9 (ht j oj hjk hoj (by rw [hget,if_pos rfl]))];exact hI.old t fun i' o hik ho hi'=>ht i' o hik ho (by rw [hget];split<;>simp_all)
 have hpk:=hpure hjp;obtain ⟨x,hxp0,hxd⟩:=spec0.1 j oj (Nat.zero_le _) hjp hoj;have hKF:∀t∈oj.looksAt ops,tmF[t]? =tmK[t]? :=fun t ht=>L1n t fun j' o' hj' ho' hd'=>by
  have:=hedge _ (hlk t ht (k+j') o' (by omega) ho' hd');omega
 have hxp':xp P call ops hp0 tm oj=some x:=by
  rw [AGa9 (tm':=tmK) (fun t ht=>AEb9 ((hsame t ht).trans (hKF t ht)))];exact hxp0
 have hxF:∀d,oj.dst=some d→d<tm.length→tmF[d]? =some x:=fun d hod hdl=>by
  rw [L1n d fun j' o' hj' ho' hd'=>(ADn9 hd ho').2.2.2.1 (by omega) j oj (by omega) hoj (by rw [hd'];simp) (by rw [hod,hd'])];exact hxd d hod (by rw [←hI.len];exact hdl)
 exact ⟨hpk,x,hxp',by simp [hI.sz],hI.hi,fun i' hi'=>by rw [hget,if_neg (by omega)];exact hI.far i' hi',fun i' h1 h2=>by rw [hget,if_neg (by omega)];exact hI.mid i' h1 h2,hdown',
  by rw [ABh9];exact hI.len,hgot' x hxF,hold' x,hI.heap⟩
theorem BYk9 {ops ops':Array Oper} {o:Oper} {tm:List AV} (h:o.guard=none):xp P call ops' hp tm o=xp P call ops hp tm o:=by
 unfold xp ABc9;simp only [h]
theorem BAq9 {ops ops':Array Oper} {σ:List Nat} {o:Oper} {tm:List AV} (h:o.guard=none):xp P call ops' hp tm (renum σ o)=xp P call ops hp tm o:=by
 have h':(renum σ o).guard=none:=by simp [renum,h]
 unfold xp ABc9;simp only [h,h'];rfl
theorem AZo9 {QQ:Exit→Act→World→Prop} {k n:Nat} (hE:AppOk P) (hcall:AGy9 P call) {σ:List Nat} (hσ:AGn9 (addE k (k+1) ops) σ) (hσk:posOf (k+1) σ=k) (hσk':posOf k σ=k+1) (hσo:∀j,j<k→posOf j σ=j) (hσp:∀j,k+1<j→j<ops.size→posOf j σ=j)
 (hgd:∀(j:Nat) (o:Oper),ops[j]? =some o→o.guard=none) (hk:k+n=ops.size) (hn:2≤n)
 (hd1:AAz9 (addE (k+1) k ops) k n=true) (hd2:AAz9 (AAv9 σ (addE k (k+1) ops)) k n=true) {tm0 tmK:List AV} {hp0:List Blk} {sts1 sts2:List (List AV×List Blk)}
 (hls1:ACg9 P (((addE (k+1) k ops).toList.drop k).take n) tmK hp0=some sts1) (hls2:ACg9 P (((AAv9 σ (addE k (k+1) ops)).toList.drop k).take n) tmK hp0=some sts2)
 (hLK1:∀(i:Nat) (o:Oper) (t:List AV) (h:List Blk),(((addE (k+1) k ops).toList.drop k).take n)[i]? =some o→sts1[i]? =some (t,h)→lateK P h t o True)
 (hLK2:∀(i:Nat) (o:Oper) (t:List AV) (h:List Blk),(((AAv9 σ (addE k (k+1) ops)).toList.drop k).take n)[i]? =some o→sts2[i]? =some (t,h)→lateK P h t o True)
 (hx1:xPre P call (addE (k+1) k ops) hp0 ((addE (k+1) k ops).toList.take k) tm0=some tmK) (hx2:xPre P call (AAv9 σ (addE k (k+1) ops)) hp0 ((AAv9 σ (addE k (k+1) ops)).toList.take k) tm0=some tmK)
 (hfr1:∀(i:Nat) (t:List AV) (h:List Blk),sts1[i]? =some (t,h)→∀(j:Nat) (o:Oper),j<k→(addE (k+1) k ops)[j]? =some o→(∀(i':Nat) (o':Oper),i'<i→(addE (k+1) k ops)[k+i']? =some o'→j∉AAp9 o')→xp P call (addE (k+1) k ops) h tmK o=xp P call (addE (k+1) k ops) hp0 tmK o)
 (hfr2:∀(i:Nat) (t:List AV) (h:List Blk),sts2[i]? =some (t,h)→∀(j:Nat) (o:Oper),j<k→(AAv9 σ (addE k (k+1) ops))[j]? =some o→(∀(i':Nat) (o':Oper),i'<i→(AAv9 σ (addE k (k+1) ops))[k+i']? =some o'→j∉AAp9 o')→xp P call (AAv9 σ (addE k (k+1) ops)) h tmK o=xp P call (AAv9 σ (addE k (k+1) ops)) hp0 tmK o)
 {tmF1 tmF2:List AV} {hpn1 hpn2:List Blk} (hlast1:sts1[n]? =some (tmF1,hpn1)) (hlast2:sts2[n]? =some (tmF2,hpn2)):
 ∀(u:Nat) {S:Pr} {w:World} {m:List MB} {hv:List (List Value)} {a:Act} {listed:Array Bool} {tm:List AV},u=(unl ops.size listed).length→
 ANi9 (addE (k+1) k ops) k n sts1 tm0 tmF1 tm hp0 listed 0→ANi9 (AAv9 σ (addE k (k+1) ops)) k n sts2 tm0 tmF2 tm hp0 listed 0→RelS S X yv w m B hv ⟨tm,hp0, []⟩ a→
 Nx S X yv w m B ⟨tmF1,hpn1, []⟩ a (QQ .normal)→Nx S X yv w m B ⟨tmF2,hpn2, []⟩ a (QQ .normal)→wpAnyIn (Fn r) 0 P .any ops QQ u listed a w:=by
 have sz2:(AAv9 σ (addE k (k+1) ops)).size=ops.size:=by rw [ADs9,hσ.len,ABm9]
 have full:∀ {ops':Array Oper} {listed:Array Bool},ops'.size=ops.size→listed.size=ops'.size→(∀j,j<ops'.size→listed.getD j false=decide (j<k+n))→Zek .any ops' listed= []:=by
  intro ops' listed hs hl h;rw [List.eq_nil_iff_forall_not_mem];intro x hx;obtain ⟨o,ho,h0,_⟩:=ACe9 hx;have hxl:=(Zah.1 ho).1;have:=h x hxl;have e:listed.getD x true=listed.getD x false:=by simp [hl,hxl]
  rw [e,this] at h0;simp at h0;omega
 intro u;induction u with
 | zero=>
  intro S w m hv a listed tm hu hI1 hI2 hr hK1 hK2;exfalso;have:k∈unl ops.size listed:=by
   simp only [unl,List.mem_filter,List.mem_range];refine ⟨by omega, ?_⟩;have:=hI1.mid k (Zas _) (by omega);rw [this];simp
  rw [List.length_eq_zero_iff.1 hu.symm] at this;cases this
 | succ u ih=>
  intro S w m hv a listed tm hu hI1 hI2 hr hK1 hK2;have hls:listed.size=ops.size:=hI1.sz.trans ABm9;have hW1:wpAnyIn (Fn r) 0 P .any (addE (k+1) k ops) QQ (u+1) listed a w:=
   AMi9 hE hcall hd1 (by rw [ABm9];omega) hls1 hLK1 hx1 hfr1 hlast1 (u+1) (by rw [ABm9];exact hu) hI1 hr
    fun S' w' m' hv' a' hg hr' hdd hsz listed hl1 hl2=>by
     have e0:(addE (k+1) k ops).size - (k+n)=0:=by rw [ABm9];omega
     rw [e0];exact ⟨full ABm9 hl1 hl2,hK1 S' w' m' hv' a' hg hr' hdd hsz⟩
  have hW2:wpAnyIn (Fn r) 0 P .any (AAv9 σ (addE k (k+1) ops)) QQ (u+1) listed a w:=
   AMi9 hE hcall hd2 (by rw [sz2];omega) hls2 hLK2 hx2 hfr2 hlast2 (u+1) (by rw [sz2];exact hu) hI2 hr
    fun S' w' m' hv' a' hg hr' hdd hsz listed hl1 hl2=>by
     have e0:(AAv9 σ (addE k (k+1) ops)).size - (k+n)=0:=by rw [sz2];omega
     rw [e0];exact ⟨full sz2 hl1 hl2,hK2 S' w' m' hv' a' hg hr' hdd hsz⟩
  have u0:listed.getD k false=false:=by
   have:=hI1.mid k (Zas _) (by omega);rw [this];simp
  have u1:listed.getD (k+1) false=false:=by
   have:=hI1.mid (k+1) (by omega) (by omega);rw [this];simp
  have hsame:∀i,i<(addE k (k+1) ops).size→listed.getD (posOf i σ) false=listed.getD i false:=by
   intro i hi;rw [ABm9] at hi;rcases Nat.lt_or_ge i k with h'|h'
   ·rw [hσo i h']
   ·rcases Nat.lt_or_ge (k+1) i with h''|h''
    ·rw [hσp i h'' hi]
    ·have:i=k∨i=k+1:=by omega
     rcases this with rfl|rfl
     ·rw [hσk',u0,u1]
     ·rw [hσk,u0,u1]
  have hW2':wpAnyIn (Fn r) 0 P .any (addE k (k+1) ops) QQ (u+1) listed a w:=ALg9 hσ _ listed listed a w (by rw [ABm9];exact hls) (by rw [ABm9];exact hls) hsame hW2;have hgt:∀j,j<ops.size→listed.getD j true=listed.getD j false:=by
   intro j hj;simp [hls,hj]
  have put:∀(j:Nat),j<ops.size→(listed.setIfInBounds j true).getD j false=true:=by
   intro j hj;simp [Array.getD_eq_getD_getElem?,Array.getElem?_setIfInBounds,hls,hj]
  refine ⟨fun h0=>hW1.1 ?_,fun j hj=> ?_⟩
  ·rw [List.eq_nil_iff_forall_not_mem] at h0 ⊢;exact fun x hx=>h0 x (BHr9 hx)
  obtain ⟨oj,hoj,hj0,hje⟩:=ACe9 hj;have hjl:j<ops.size:=(Zah.1 hoj).1;rw [hgt j hjl] at hj0;rcases Nat.lt_or_ge j k with hjk|hjk
  ·
   have h1:(addE (k+1) k ops)[j]? =some oj:=by rw [ANe9 (by omega)];exact hoj
   have h2:(AAv9 σ (addE k (k+1) ops))[j]? =some (renum σ oj):=by
    have:=hσ.get (i:=j) (o:=oj) (by rw [ANe9 (by omega)];exact hoj)
    rwa [hσo j hjk] at this
   have g0:=hgd j oj hoj;have hje2:∀e∈AAp9 (renum σ oj),listed.getD e false=true:=by
    intro e he;simp only [AAp9,renum,List.mem_map,List.mem_filter,Array.mem_toList_iff,Array.mem_map] at he;obtain ⟨e',⟨⟨e0,he0,rfl⟩,hb⟩,rfl⟩:=he;have h3:=hje e0.on (by
     simp only [AAp9,List.mem_map,List.mem_filter,Array.mem_toList_iff];exact ⟨e0,⟨he0,hb⟩,rfl⟩)
    have hlt:e0.on<ops.size:=by
     apply Classical.byContradiction;intro hn;rw [Array.getD_eq_getD_getElem?,Array.getElem?_eq_none (by omega)] at h3;cases h3
    rw [hsame _ (by rw [ABm9];exact hlt)];exact h3
   obtain ⟨hpk,x,hx,hI1'⟩:=hI1.pure hd1 (by rw [ABm9];omega) hls1 hx1 hlast1 h1 hj0 hje hjk;obtain ⟨_,x2,hx2',hI2'⟩:=hI2.pure hd2 (by rw [sz2];omega) hls2 hx2 hlast2 h2 hj0 hje2 hjk;have e2:x2=x:=by
    rw [BAq9 (ops:=addE (k+1) k ops) g0,hx] at hx2';exact (Option.some.inj hx2').symm
   subst e2;have hx0:xp P call ops hp0 tm oj=some x2:=(BYk9 g0).trans hx;obtain ⟨pv',hst,_,_⟩:=AVp9 (pv:= []) hpk hx0;unfold wpOpIn;simp only [hoj];refine AFp9 hcall hr hst fun S' w' m' hv' a' hg hr' hdd hsz=> ?_;exact ih (by have:=AJk9 hls hjl hj0;omega) hI1' hI2' ⟨hr'.1,hr'.2.1,by intro p hp;cases hp⟩
    (fun S'' w'' m'' hv'' a'' hg' hr'' hd' hsz'=>hK1 S'' w'' m'' hv'' a'' (hg.trans hg') hr'' (hd'.trans hdd) (hsz'.trans hsz))
    (fun S'' w'' m'' hv'' a'' hg' hr'' hd' hsz'=>hK2 S'' w'' m'' hv'' a'' (hg.trans hg') hr'' (hd'.trans hdd) (hsz'.trans hsz))
  ·rcases Nat.lt_or_ge (k+1) j with hj2|hj2
   ·
    exfalso;have h1:(addE (k+1) k ops)[j]? =some oj:=by rw [ANe9 (by omega)];exact hoj
    have hanc:=(ADn9 hd1 h1).2.2.2.2.1 (by omega) k (by omega) (by omega);have:=AFy9 hI1.down _ j oj h1 hje k hanc;rw [u0] at this;cases this
   ·have:j=k∨j=k+1:=by omega
    rcases this with rfl|rfl
    ·have hrd:j∈Zek .any (addE (j+1) j ops) listed:=ABg9 (by rw [ANe9 (by omega)];exact hoj) (by rw [hgt _ hjl];exact hj0) hje;exact AJi9 (wpOpIn_mono (fun a' w' hw'=>ALh9 _ _ _ _ (put j hjl) hw') (hW1.2 j hrd))
    ·have hrd:k+1∈Zek .any (addE k (k+1) ops) listed:=ABg9 (by rw [ANe9 (by omega)];exact hoj) (by rw [hgt _ hjl];exact hj0) hje;exact AJi9 (wpOpIn_mono (fun a' w' hw'=>ALh9 _ _ _ _ (put (k+1) hjl) hw') (hW2'.2 (k+1) hrd))
theorem WA.late2 {s:St Ev.β} {Q:Exit→St Ev.β→Prop} {k n:Nat} (call:CallT) (hE:AppOk P) (hcall:AGy9 P call) {σ:List Nat} (hσ:AGn9 (addE k (k+1) ops) σ) (hσk:posOf (k+1) σ=k) (hσk':posOf k σ=k+1) (hσo:∀j,j<k→posOf j σ=j) (hσp:∀j,k+1<j→j<ops.size→posOf j σ=j)
 (hgd:∀(j:Nat) (o:Oper),ops[j]? =some o→o.guard=none) (hk:k+n=ops.size) (hn:2≤n)
 (hd1:AAz9 (addE (k+1) k ops) k n=true) (hd2:AAz9 (AAv9 σ (addE k (k+1) ops)) k n=true) {tmK:List AV} {sts1 sts2:List (List AV×List Blk)}
 (hls1:ACg9 P (((addE (k+1) k ops).toList.drop k).take n) tmK s.hp=some sts1) (hls2:ACg9 P (((AAv9 σ (addE k (k+1) ops)).toList.drop k).take n) tmK s.hp=some sts2)
 (hLK1:∀(i:Nat) (o:Oper) (t:List AV) (h:List Blk),(((addE (k+1) k ops).toList.drop k).take n)[i]? =some o→sts1[i]? =some (t,h)→lateK P h t o True)
 (hLK2:∀(i:Nat) (o:Oper) (t:List AV) (h:List Blk),(((AAv9 σ (addE k (k+1) ops)).toList.drop k).take n)[i]? =some o→sts2[i]? =some (t,h)→lateK P h t o True)
 (hx1:xPre P call (addE (k+1) k ops) s.hp ((addE (k+1) k ops).toList.take k) s.tm=some tmK) (hx2:xPre P call (AAv9 σ (addE k (k+1) ops)) s.hp ((AAv9 σ (addE k (k+1) ops)).toList.take k) s.tm=some tmK)
 (hfr1:∀(i:Nat) (t:List AV) (h:List Blk),sts1[i]? =some (t,h)→∀(j:Nat) (o:Oper),j<k→(addE (k+1) k ops)[j]? =some o→(∀(i':Nat) (o':Oper),i'<i→(addE (k+1) k ops)[k+i']? =some o'→j∉AAp9 o')→xp P call (addE (k+1) k ops) h tmK o=xp P call (addE (k+1) k ops) s.hp tmK o)
 (hfr2:∀(i:Nat) (t:List AV) (h:List Blk),sts2[i]? =some (t,h)→∀(j:Nat) (o:Oper),j<k→(AAv9 σ (addE k (k+1) ops))[j]? =some o→(∀(i':Nat) (o':Oper),i'<i→(AAv9 σ (addE k (k+1) ops))[k+i']? =some o'→j∉AAp9 o')→xp P call (AAv9 σ (addE k (k+1) ops)) h tmK o=xp P call (AAv9 σ (addE k (k+1) ops)) s.hp tmK o)
 {tmF1 tmF2:List AV} {hpn1 hpn2:List Blk} (hlast1:sts1[n]? =some (tmF1,hpn1)) (hlast2:sts2[n]? =some (tmF2,hpn2))
 (hN:hpn2.length=s.hp.length+2) (hc:(hpn2.all fun blk=>lows s.hp.length blk.cells)=true) (htm:(tmF2.all fun x=>swOk s.hp.length x)=true) (etm:tmF2.map (swA s.hp.length)=tmF1) (ehp:swL s.hp.length hpn2=hpn1)
 (hq:Q .normal ⟨tmF1,hpn1,s.b⟩):WA Ev ops s Q:=by
 intro lo r S X V w m B hv a ht;have ht':=ht.drew;have hget:∀j,(Array.replicate ops.size false).getD j false=false:=by intro j;simp [Array.getElem?_replicate];split<;>rfl
 have h01:sts1[0]? =some (tmK,s.hp):=(ABw9 hls1).2.1;have h02:sts2[0]? =some (tmK,s.hp):=(ABw9 hls2).2.1;have sz2:(AAv9 σ (addE k (k+1) ops)).size=ops.size:=by rw [ADs9,hσ.len,ABm9]
 have lm:m.length=s.hp.length:=ht.rel.2.1.ml;refine AZo9 hE hcall hσ hσk hσk' hσo hσp hgd hk hn hd1 hd2 hls1 hls2 hLK1 hLK2 hx1 hx2 hfr1 hfr2 hlast1 hlast2 ops.size (tm:=s.tm) ?_
  ⟨by simp [ABm9],Nat.zero_le _,fun j _=>hget j,fun j h1 _=>(by rw [hget];simp;omega),fun j o' _ hj=>(by rw [hget] at hj;cases hj),rfl,fun j o d _ _ _ hj=>(by rw [hget] at hj;cases hj),fun _ _=>rfl,⟨_,h01⟩⟩
  ⟨by simp [sz2],Nat.zero_le _,fun j _=>hget j,fun j h1 _=>(by rw [hget];simp;omega),fun j o' _ hj=>(by rw [hget] at hj;cases hj),rfl,fun j o d _ _ _ hj=>(by rw [hget] at hj;cases hj),fun _ _=>rfl,⟨_,h02⟩⟩ ht'.rel ?_ ?_
 ·have:unl ops.size (Array.replicate ops.size false)=Zay ops.size:=by
   unfold unl;rw [List.filter_eq_self];intro j _;rw [hget];rfl
  rw [this];simp
 ·intro S' w' m' hv' a' hg hr hd' hsz;have ht'':=ht'.step hg hr hd';exact ⟨⟨tmF1,hpn1,s.b⟩,S',X,V,m',hv',hq,⟨(AIk9 ht.rel.slt).trans (hg.went hr.slt),hg.ms⟩,⟨⟨ht''.rel.1,ht''.rel.2.1,by intro p hp;cases hp⟩,ht''.sub,ht''.env,ht''.round,ht''.marks,ht''.base⟩⟩
 ·intro S' w' m' hv' a' hg hr hd' hsz;have hB:∀p∈B,p.1.low s.hp.length=true:=fun p hp=>by
   rw [←lm];exact (ht.rel.2.1.rv p (List.mem_append_right _ (Zbc _ hp))).lowOf
  have hr2:=hr.swap hB hN hc htm;rw [etm,ehp] at hr2;have hg2:Gs S X none {w with drawn:=w.drawn+1} m S' w' (swL s.hp.length m'):=by
   refine ⟨hg.ag,hg.up,hg.new,fun g p hp=> ?_⟩;have hgl:g<s.hp.length:=by rw [←lm];exact (Zaa.1 hp).1
   obtain ⟨m0,p1,p2,l0,e1,e2⟩:=AVy9 (n:=s.hp.length) (l:=m') (hr.2.1.ml.trans hN);have:=hg.ms g p hp;rw [e1,Zan (by omega)] at this;rw [e2,Zan (by omega)];exact this
  have ht'':=ht'.step hg2 hr2 hd';exact ⟨⟨tmF1,hpn1,s.b⟩,S',X,V,_,_,hq,⟨(AIk9 ht.rel.slt).trans (hg2.went hr2.slt),hg2.ms⟩,⟨⟨ht''.rel.1,ht''.rel.2.1,by intro p hp;cases hp⟩,ht''.sub,ht''.env,ht''.round,ht''.marks,ht''.base⟩⟩
theorem AQp9 {ops ops':Array Oper} {σ:List Nat}:∀ {l:List Oper} {tm:List AV},(∀o∈l,o.guard=none)→xPre P call ops' hp (l.map (renum σ)) tm=xPre P call ops hp l tm
 | [],_,_=>rfl
 | o::l,tm,h=>by
  simp only [List.map_cons,xPre];rw [BAq9 (h o (Zbb ..))];cases xp P call ops hp tm o with
  |none=>rfl
  |some x=>exact AQp9 fun o ho=>h o (Zaw _ ho)
end
set_option linter.unusedSimpArgs false
structure CX (β:Type) where
 call:List (Nat×(List AV→(AV→Prop)→Prop))
 scall:List (Nat×(List AV→List Blk→(AV→List Blk→Prop)→Prop))
 wl:Code→List AV→List Blk→β→(Exit→List AV→List Blk→β→Prop)→Prop
 y:ACx9 β
 unroll:Bool
def setB (tm:List AV) (x:Operand) (v:Bool):List AV:=
 match x with
 | .tmp t=>tm.set t (.d (.s (.bool v)))
 |_=>tm
def BJb9 (ops:Array Oper) (o:Oper) (tm:List AV) (A B:List AV→Prop):Prop:=
 match o.guard with
 |none=>A tm
 | some (j,want)=>match (ops[j]?).bind (·.dst) with
  | some t=>match tm.getD t .bad with
   | .d (.s (.bool b))=>BIf b ((if want then A else B) (setB tm (.tmp t) true)) ((if want then B else A) (setB tm (.tmp t) false))
   | .d (.s (.tuple _))=>B tm
   |_=>False
  |none=>False
def AZx9 (o:Oper):Operand:=
 match o.op with
 | .pick c _ _=>c
 |_=> .const undef
def pickO (tm:List AV) (o:Oper):Option (Bool×AV×AV):=
 match o.op with
 | .pick c a b=>match evalA tm c with
  | .d (.s (.bool t))=>some (t,(evalA tm a).view,(evalA tm b).view)
  |_=>none
 |_=>none
def bodyX (P:Program) (s:RS) (o:Oper):Option RS:=
 match xa P s o with
 |some s'=>some s'
 |none=>match xh P AHz9 s o with
 |some s'=>some s'
 | none=>match xq P s.hp (evalA s.tm) o with
  |some x=>some {s with tm:=putA s.tm o.dst x,pv:=(AEe9 P s o).toList++pvPut s.pv o.dst}
  |none=>none
def restC (P:Program) (s:RS) (o:Oper) (K:RS→Prop):Prop:=
 match bodyX P s o with
 |some s'=>K s'
 |none=>False
def accOf (s:RS) (x:Operand):Option (Loc×TypeId×Nat×List (List Dv)):=
 match x with
 | .tmp t=>match s.pv.lookup t with
  | some loc=>match ownAt s loc with
   |some (e,k,xs)=>some (loc,e,k,xs)
   |none=>none
  |none=>none
 |_=>none
def BGh9 (P:Program) (s:RS) (o:Oper) (c:Call) (K:RS→Prop):Prop:=
 match c.callee,c.args[0]?,c.args[1]? with
 | .builtin .append,some x,some y=>match AFw9 P c.argTypes with
  | some (e',i)=>match ADy9 i.size (evalA s.tm y) with
   | some ys=>match accOf s x with
    |some (loc,e,k,xs)=>BIf (decide (e=e')&&decide (k=i.size)&&decide (c.args.size=2)&&decide ((xs.length+ys.length)*i.bytes≤140737488355328))
     (K {tm:=putA (AKm9 s loc).tm o.dst (.own e k (xs++ys)),hp:=(AKm9 s loc).hp,pv:= []}) False
    |none=>BIf (AAl9 (evalA s.tm x)&&decide (c.args.size=2)) (BIf (decide (ys.length*i.bytes≤140737488355328))
     (K {s with tm:=putA s.tm o.dst (.own e' i.size ys),pv:=(AEe9 P s o).toList++pvPut s.pv o.dst}) False) (match evalA s.tm x with
     | .full k xs=>BIf (decide (k=i.size)&&decide (c.args.size=2)) (BIf (decide ((xs.length+ys.length)*i.bytes≤140737488355328)) (BIf ys.isEmpty
      (K {s with tm:=putA s.tm o.dst (.full k xs),pv:=(AEe9 P s o).toList++pvPut s.pv o.dst})
      (K {s with tm:=putA s.tm o.dst (.own e' k (xs++ys)),pv:=(AEe9 P s o).toList++pvPut s.pv o.dst})) False) (restC P s o K)
     |_=>restC P s o K)
   |none=>restC P s o K
  |none=>restC P s o K
 |_,_,_=>restC P s o K
def copyC (P:Program) (s:RS) (o:Oper) (c:Call) (K:RS→Prop):Prop:=
 match c.args[0]?,c.args[1]? with
 | some x,some y=>match evalA s.tm x,(evalA s.tm y).rows? with
  | .ref g off n cap k,some (k',xs)=>match c.argTypes[0]? with
   | some t=>match P.underlying t with
    | some (.slice e)=>match P.info? e,s.hp[g]? with
     |some i,some blk=>BIf (decide (c.args.size=2)&&decide (c.argTypes.size=2)&&decide (i.size=1)&&decide (k=1)&&decide (k'=1)&& !blk.fro&& !blk.grow&&decide (off+n≤blk.cells.length))
      (if 64<n then BIf (((xs.take n).map fun r=>AV.d (r.headD (.s undef))).all AV.one)
       (K {tm:=putA s.tm o.dst (.d (.s (goInt (min n xs.length:Nat)))),hp:=s.hp.set g {blk with cells:=blk.cells.take off++((xs.take n).map fun r=>AV.d (r.headD (.s undef)))++blk.cells.drop (off+min n xs.length)},pv:= []}) False
      else ALp9 P 400 (List.replicate n e) fun row=>((xs.take n).map fun r=>AV.d (r.headD (.s undef)))++((blk.cells.drop off).take n).drop (min n xs.length)=row.map AV.d∧BIf ((row.map AV.d).all AV.one)
       (K {tm:=putA s.tm o.dst (.d (.s (goInt (min n xs.length:Nat)))),hp:=s.hp.set g {blk with cells:=blk.cells.take off++row.map AV.d++blk.cells.drop (off+n)},pv:= []}) False) False
     |_,_=>False
    |_=>False
   |none=>False
  |_,_=>restC P s o K
 |_,_=>restC P s o K
def BHs9:Op→Bool
 | .indexAddr .. =>true
 | .sliceToArrayPointer .. =>true
 | .slice .. =>true
 | .binOp .. =>true
 | .index .. =>true
 |_=>false
def bodyC (P:Program) (s:RS) (o:Oper) (K:RS→Prop):Prop:=
 match valG P s.hp s.tm o (fun x=>K {s with tm:=putA s.tm o.dst x,pv:=(AEe9 P s o).toList++pvPut s.pv o.dst}) with
 |some p=>p
 |none=>match pickO s.tm o with
 |some (t,x,y)=>BIf t (K {s with tm:=putA (setB s.tm (AZx9 o) true) o.dst x,pv:=pvPut s.pv o.dst}) (K {s with tm:=putA (setB s.tm (AZx9 o) false) o.dst y,pv:=pvPut s.pv o.dst})
 | none=>if BHs9 o.op then valC P s.hp s.tm o fun x=>K {s with tm:=putA s.tm o.dst x,pv:=(AEe9 P s o).toList++pvPut s.pv o.dst}
  else match o.op with
   | .call c=>match c.callee with
    | .builtin .copy=>copyC P s o c K
    |_=>BGh9 P s o c K
   |_=>restC P s o K
mutual
def sealC (hp:List Blk):AV→(AV→Prop)→Prop
 | .gref g ver n k,K=>match hp[g]? with
  |some blk=>BIf blk.grow (blk.ver=ver∧∃xs:List (List Dv),blk.cells=flatA xs∧xs.length=n∧(∀r∈xs,r.length=k)∧K (.d (.sl k xs))) False
  |none=>False
 | .agg cs,K=>ARl9 hp cs fun ys=>K (.agg ys)
 | .tup cs,K=>ARl9 hp cs fun ys=>K (.tup ys)
 | .fn f a b,K=>ARl9 hp a fun a=>ARl9 hp b fun b=>K (.fn f a b)
 | .own _ k xs,K=>K (.d (.sl k xs))
 | .ref g off n cap k,K=>match sealV hp (.ref g off n cap k) with
  |some y=>K y
  |none=>False
 | .ptr g off,K=>match sealV hp (.ptr g off) with
  |some y=>K y
  |none=>False
 | .gptr ..,_=>False
 | .yl,_=>False
 | .d x,K=>K (.d x)
 | .full k xs,K=>K (.full k xs)
 | .rptr cs,K=>K (.rptr cs)
 | .bad,K=>K .bad
def ARl9 (hp:List Blk):List AV→(List AV→Prop)→Prop
 | [],K=>K []
 |x::l,K=>sealC hp x fun y=>ARl9 hp l fun ys=>K (y::ys)
end
mutual
def BCb9 (hp:List Blk):Nat→AV→(AV→Prop)→Prop
 |0,_,_=>False
 | n+1,x,K=>match x with
  | .ptr g off=>match sealV hp (.ptr g off) with
   |some y=>K y
   | none=>match hp[g]? with
    | some blk=>if blk.grow then False else AHq9 hp n (blk.cells.drop off) fun ys=>match toDs ys with
     |some (d::ds)=>K (.rptr (d::ds))
     |_=>False
    |none=>False
  | .agg cs=>AHq9 hp n cs fun ys=>K (.agg ys)
  | .tup cs=>AHq9 hp n cs fun ys=>K (.tup ys)
  | .fn f a b=>AHq9 hp n a fun a=>AHq9 hp n b fun b=>K (.fn f a b)
  |x=>sealC hp x K
def AHq9 (hp:List Blk):Nat→List AV→(List AV→Prop)→Prop
 |0,_,_=>False
 | n+1,l,K=>match l with
  | []=>K []
  |x::l=>BCb9 hp n x fun y=>AHq9 hp n l fun ys=>K (y::ys)
end
def ALq9 (hp:List Blk):List Nat→List AV→(List AV→Prop)→Prop
 | [],tm,K=>K tm
 |t::ts,tm,K=>sealC hp (tm.getD t .bad) fun y=>BIf y.isOwn False (ALq9 hp ts (tm.set t y) K)
def leans (tm:List AV) (x:Operand):List Nat:=
 match x with
 | .tmp t=>if (occ (tm.getD t .bad)).isEmpty then [] else [t]
 |_=> []
def CDr9:Op→Bool
 | .call c=>match c.callee with
  | .builtin .append=>true
  |_=>false
 |_=>false
def AWw9 (pc:Nat→Bool) (s:RS) (o:Oper):List Nat:=
 match o.op with
 | .call c=>match c.callee with
  | .value _=>match AMb9 s.tm o with
   |some (k,args)=>if pc k&& !ABy9 args then (c.args.toList.flatMap (leans s.tm)).eraseDups else []
   |none=> []
  | .builtin .append=>match c.args[1]? with
   |some y=>leans s.tm y
   |none=> []
  |_=> []
 | .buildSlice _ _ parts=>(parts.toList.flatMap fun p=>leans s.tm p.2).eraseDups
 |_=> []
def frzC (pc:Nat→Bool) (s:RS) (o:Oper) (K:RS→Prop):Prop:=
 match AWw9 pc s o with
 | []=>K s
 |t::ts=>ALq9 s.hp (t::ts) s.tm fun tm1=>K ⟨tm1,frz s.hp (occs ((t::ts).map fun t=>s.tm.getD t .bad)),s.pv⟩
def CBz9 (x y:Operand):Bool:=
 match x,y with
 | .const _, .const _=>true
 |_,_=>false
def BMe9 (ax:AV) (n:Nat):Bool:=
 match ax with
 | .full k []=>decide (k=n)
 |_=>false
def extZ (P:Program) (gt:Nat→Bool) (s:RS) (o:Oper) (c:Call) (x y:Operand) (K:RS→Prop):Option Prop:=
 match c.argTypes[0]?,c.argTypes[1]? with
  | some t,some tn=>match P.underlying t,P.underlying tn,evalA s.tm y with
   | some (.slice e),some (.int _), .d (.s (.int _ n))=>match P.info? e with
    | some i=>if gt e&&AAl9 (evalA s.tm x) then match zrow i with
     |some zr=>some (BIf (decide (c.args.size=2)&&decide (c.argTypes.size=2)&&decide (0<n)&&decide (n*(i.bytes:Int)≤281474976710656)&&decide (n≤9223372036854775807)&&decide (zr.length=i.size)&&decide (0<i.size)&&decide (0<i.bytes)&&(zr.map AV.d).all AV.one)
      (K {tm:=putA s.tm o.dst (.gref s.hp.length 0 n.toNat i.size),hp:=s.hp++ [⟨flatA (List.replicate n.toNat zr),false,true,0⟩],pv:= []}) False)
     |none=>none
     else none
    |none=>none
   |_,_,_=>none
  |_,_=>none
def extCp (P:Program) (s:RS) (o:Oper) (c:Call) (x y:Operand) (K:RS→Prop):Option Prop:=
 match evalA s.tm x,c.argTypes[0]? with
  | .gref g ver n k,some t=>match s.hp[g]?,ADy9 1 (evalA s.tm y),P.underlying t with
   | some blk,some ys,some (.slice e)=>match P.info? e with
    |some i=>some (BIf (decide (c.args.size=2)&&decide (c.argTypes.size=2)&&decide (i.size=1)&&decide (k=1)&&blk.grow&& !blk.fro) (blk.ver=ver∧
     K {tm:=putA s.tm o.dst (.d (.s (goInt ((ys.take n).length:Nat)))),hp:=s.hp.set g {blk with cells:=flatA (ys.take n)++blk.cells.drop (ys.take n).length},pv:= []}) False)
    |none=>none
   |_,_,_=>none
  |_,_=>none
def extMk (P:Program) (gt:Nat→Bool) (s:RS) (o:Oper) (t:TypeId) (lo co:Operand) (K:RS→Prop):Option Prop:=
 match P.underlying t with
  | some (.slice e)=>if gt e|| !CBz9 lo co then match evalA s.tm lo,evalA s.tm co,P.info? e with
   | .d (.s (.int _ l)), .d (.s (.int _ c)),some i=>match zrow i with
    |some zr=>some (BIf (decide (0≤l)&&decide (l≤c)&&decide ((i.bytes:Int)*c≤281474976710656)&&decide (c≤9223372036854775807)&&decide (zr.length=i.size)&&decide (0<i.size)&&(zr.map AV.d).all AV.one)
     (K {tm:=putA s.tm o.dst (.gref s.hp.length 0 l.toNat i.size),hp:=s.hp++ [⟨flatA (List.replicate l.toNat zr),false,true,0⟩],pv:= []}) False)
    |none=>none
   |_,_,_=>none
   else none
  |_=>none
def BRa9 (P:Program) (s:RS) (o:Oper) (t:TypeId) (x hi:Operand) (K:RS→Prop):Option Prop:=
 match evalA s.tm x,evalA s.tm hi,P.underlying t with
  | .gref g ver n k, .d (.s (.int _ j)),some (.slice e)=>match P.info? e,s.hp[g]? with
   |some i,some blk=>some (BIf (decide (k=i.size)&&blk.grow&& !blk.fro&&decide (0≤j)&&decide (j≤n)) (blk.ver=ver∧
    K {tm:=putA s.tm o.dst (.gref g (ver+1) j.toNat i.size),hp:=s.hp.set g ⟨blk.cells.take (j.toNat*i.size),false,true,ver+1⟩,pv:= []}) False)
   |_,_=>none
  |_,_,_=>none
def extC (P:Program) (gt:Nat→Bool) (s:RS) (o:Oper) (K:RS→Prop):Option Prop:=
 match o.op with
 | .call c=>match c.callee,c.args[0]?,c.args[1]? with
  | .builtin .append,some x,some y=>match AFw9 P c.argTypes with
   | some (e,i)=>match evalA s.tm x with
    | .gref g ver n k=>match s.hp[g]?,ADy9 i.size (evalA s.tm y) with
     |some blk,some ys=>some (BIf (decide (c.args.size=2)&&decide (k=i.size)&&blk.grow&& !blk.fro) (blk.ver=ver∧BIf (decide ((n+ys.length)*i.bytes≤140737488355328))
      (K {tm:=putA s.tm o.dst (.gref g (ver+1) (n+ys.length) i.size),hp:=s.hp.set g ⟨blk.cells++flatA ys,false,true,ver+1⟩,pv:= []}) False) False)
     |_,_=>none
    | ax=>if gt e&&(AAl9 ax||BMe9 ax i.size) then match ADy9 i.size (evalA s.tm y) with
     |some ys=>some (BIf (decide (c.args.size=2)&&decide (ys.length*i.bytes≤140737488355328)) (BIf (decide (0<ys.length))
      (K {tm:=putA s.tm o.dst (.gref s.hp.length 0 ys.length i.size),hp:=s.hp++ [⟨flatA ys,false,true,0⟩],pv:= []})
      (K {tm:=putA s.tm o.dst ax,hp:=s.hp,pv:= []})) False)
     |none=>none
     else none
   |none=>extZ P gt s o c x y K
  | .builtin .copy,some x,some y=>extCp P s o c x y K
  |_,_,_=>none
 | .makeSlice t lo co=>extMk P gt s o t lo co K
 | .slice t x none (some hi) none=>BRa9 P s o t x hi K
 | .store t ax x=>match evalA s.tm ax with
  | .gptr g ver off=>match P.info? t,s.hp[g]?,APh9 (evalA s.tm x) with
   |some i,some blk,some xs=>some (BIf (decide (xs.length=i.size)&&blk.grow&& !blk.fro) (blk.ver=ver∧BIf (decide (off+xs.length≤blk.cells.length))
    (K {tm:=putA s.tm o.dst .bad,hp:=s.hp.set g {blk with cells:=blk.cells.take off++xs++blk.cells.drop (off+xs.length)},pv:= []}) False) False)
   |_,_,_=>none
  |_=>none
 |_=>none
def demC (P:Program) (s:RS) (o:Oper) (K:RS→Prop):Option Prop:=
 match o.op with
 | .binOp op t x y _=>if AAl9 (evalA s.tm y) then match (evalA s.tm x).rows?,op,P.underlying t with
  |some (_,xs), .eql,some (.slice _)=>some (∀t:Bool,(t=true→xs= [])→K {tm:=putA s.tm o.dst (.d (.s (.bool t))),hp:=s.hp,pv:=pvPut s.pv o.dst})
  |some (_,xs), .neq,some (.slice _)=>some (∀t:Bool,(t=true→xs= [])→K {tm:=putA s.tm o.dst (.d (.s (.bool !t))),hp:=s.hp,pv:=pvPut s.pv o.dst})
  |_,_,_=>none
  else none
 |_=>none
section
variable {β:Type}
def opC (P:Program) (X:CX β) (ops:Array Oper) (o:Oper) (s:RS) (b:β) (K:RS→β→Prop):Prop:=
 BJb9 ops o s.tm
  (fun tm=>frzC (fun k=>(X.call.lookup k).isSome) {s with tm:=tm} o fun s=>match AMb9 s.tm o with
   | some (k,args)=>match X.call.lookup k with
    |some f=>BIf (ABy9 args) (f args fun x=>K {tm:=putA s.tm o.dst x.view,hp:=s.hp,pv:=pvPut s.pv o.dst} b) False
    | none=>match X.scall.lookup k with
     |some f=>f args s.hp fun x hp'=>K {tm:=putA s.tm o.dst x.view,hp:=hp',pv:= []} b
     |none=>False
   | none=>match AKn9 s.tm o with
    |some args=>BIf (ABy9 args) (X.y b args fun cont b'=>K {tm:=putA s.tm o.dst (.d (.s (.bool cont))),hp:=s.hp,pv:= []} b') False
    | none=>match demC P s o fun s'=>K s' b with
     |some p=>p
     |none=>match extC P (fun e=>(X.scall.lookup (1000000+e)).isSome) s o fun s'=>K s' b with
     |some p=>p
     |none=>bodyC P s o fun s'=>K s' b)
  (fun tm=>K {s with tm:=putA tm o.dst (.d (.s undef)),pv:=pvPut s.pv o.dst} b)
def opsC (P:Program) (X:CX β) (ops:Array Oper):List Oper→RS→β→(RS→β→Prop)→Prop
 | [],s,b,K=>K s b
 |o::l,s,b,K=>opC P X ops o s b fun s b=>opsC P X ops l s b K
def BMf9 (P:Program) (tm:List AV) (o:Oper):Option (Nat×List AV):=
 match o.op with
 | .call c=>match c.callee with
  | .invoke r name=>AOt9 P tm r name c.args
  |_=>none
 |_=>none
abbrev Tbl:=List (Option Nat×Nat×List AV×AV)
def preC (P:Program) (X:CX β) (ops:Array Oper) (hp:List Blk):List Oper→List AV→Tbl→(List AV→Tbl→Prop)→Prop
 | [],tm,tb,K=>K tm tb
 | o ::l,tm,tb,K=>BJb9 ops o tm
  (fun tm=>match AMb9 tm o with
   | some (k,args)=>match X.call.lookup k with
    |some f=>BIf (ABy9 args) (f args fun x=>preC P X ops hp l (putA tm o.dst x.view) ((o.dst,k,args,x)::tb) K) False
    |none=>False
   |none=>match BMf9 P tm o with
   | some (k,args)=>match X.call.lookup k with
    |some f=>BIf (ABy9 args) (f args fun x=>preC P X ops hp l (putA tm o.dst x.view) ((o.dst,k,args,x)::tb) K) False
    |none=>False
   | none=>match pickO tm o with
    |some (t,x,y)=>BIf t (preC P X ops hp l (putA (setB tm (AZx9 o) true) o.dst x) tb K) (preC P X ops hp l (putA (setB tm (AZx9 o) false) o.dst y) tb K)
    |none=>valC P hp tm o fun x=>preC P X ops hp l (putA tm o.dst x) tb K)
  (fun tm=>preC P X ops hp l (putA tm o.dst (.d (.s undef))) tb K)
def AEa9:List Oper→Nat
 | o::l=>match o.op,o.guard,o.dst with
  | .store ..,none,none=>AEa9 l+1
  | .alloc ..,none,some _=>AEa9 l+1
  |_,_,_=>0
 | []=>0
def findN (ops:Array Oper) (k:Nat):Nat→Option Nat
 |0=>none
 |n+1=>if AAz9 ops k (n+1) then some (n+1) else findN ops k n
def ABs9 (tm:List AV):List Oper→List (Nat×Nat×Nat)
 | []=> []
 | o::l=>match o.op with
  | .store t a x=>match evalA tm a,APh9 (evalA tm x) with
   | .ptr g off,some xs=>(g,off,xs.length)::ABs9 tm l
   |_,_=>ABs9 tm l
  |_=>ABs9 tm l
def BAi9 (fp:List (Nat×Nat×Nat)) (g off n:Nat):Bool:=fp.all fun q=>q.1 !=g||decide (q.2.1+q.2.2≤off)||decide (off+n≤q.2.1)
def lowB (n:Nat) (tm:List AV) (o:Oper):Bool:=o.op.operands.toList.all fun x=>(evalA tm x).low n
def BJe9 (P:Program) (tm:List AV) (fp:List (Nat×Nat×Nat)) (o:Oper):Bool:=
 match o.op with
 | .load t a=>match evalA tm a with
  | .ptr g off=>match P.info? t with
   |some i=>BAi9 fp g off (max i.size 1)
   |none=>true
  | .gptr .. =>false
  |_=>true
 | .call c=>match c.callee with
  | .value _=>true
  | .builtin .len=>true
  | .builtin .append=>true
  |_=>false
 |_=>true
def ADl9:List Oper→Bool
 | []=>false
 | o::l=>match o.op with
  | .alloc .. =>true
  | .call c=>match c.callee with
   | .builtin .append=>true
   |_=>ADl9 l
  |_=>ADl9 l
def AV.hd? :AV→Option Nat
 | .ptr g _| .ref g _ _ _ _| .gref g _ _ _| .gptr g _ _=>some g
 |_=>none
def appGs (tm:List AV):List Oper→List Nat
 | []=> []
 | o::l=>match o.op with
  | .call c=>match c.args[0]? with
   | some x=>match (evalA tm x).hd? with
    |some g=>g::appGs tm l
    |none=>appGs tm l
   |none=>appGs tm l
  |_=>appGs tm l
def BKq9 (gs:List Nat) (tm:List AV) (o:Oper):Bool:=gs.isEmpty||match o.op with
 | .move _=>true
 | .call c=>match c.callee with
  | .value _=>true
  | _=>o.op.operands.toList.all fun x=>match (evalA tm x).hd? with
   |some g=> !gs.contains g
   |none=>true
 | _=>o.op.operands.toList.all fun x=>match (evalA tm x).hd? with
  |some g=> !gs.contains g
  |none=>true
def AQc9 (P:Program) (n:Nat) (tm tmF:List AV) (pre sts:List Oper):Bool:=(Zay pre.length).all fun j=>match pre[j]? with
 |some o=>BJe9 P tm (ABs9 tmF (sts.filter fun o'=> !(AAp9 o').contains j)) o&&(!ADl9 sts||lowB n tm o)&&BKq9 (appGs tmF sts) tm o
 |none=>true
def AOg9 (P:Program) (X:CX β) (ops:Array Oper) (k:Nat) (tm:List AV) (hp:List Blk) (b:β) (K:List AV→List Blk→β→Prop):Prop:=
 if k≤ops.size then preC P X ops hp (ops.toList.take k) tm [] fun tmK tb=>
  if (tb.map (·.1)).Nodup then opsC P X ops (ops.toList.drop k) ⟨tmK,hp,pvAll P hp tmK (ops.toList.take k)⟩ b fun s b=>K s.tm s.hp b else False
 else False
def AGj9 (P:Program) (X:CX β) (ops:Array Oper) (q n:Nat) (tm:List AV) (hp:List Blk) (b:β) (K:List AV→List Blk→β→Prop):Prop:=
 if q+n≤ops.size then preC P X ops hp (ops.toList.take q) tm [] fun tmK tb=>
  if (tb.map (·.1)).Nodup then match ACg9 P ((ops.toList.drop q).take n) tmK hp with
   | some sts=>match sts[n]? with
    |some st=>ASd9 P (BIf (AQc9 P hp.length tmK st.1 (ops.toList.take q) ((ops.toList.drop q).take n))
     (opsC P X ops (ops.toList.drop (q+n)) ⟨st.1,st.2, []⟩ b fun s b=>K s.tm s.hp b) False) ((ops.toList.drop q).take n) tmK hp
    |none=>False
   |none=>False
  else False
 else False
def BMd9 (ops:Array Oper) (k:Nat):Bool:=
 Nat.ble (k+2) ops.size&&(AUm9 (addE k (k+1) ops) (swN k ops.size)&&(Nat.beq (posOf (k+1) (swN k ops.size)) k&&(Nat.beq (posOf k (swN k ops.size)) (k+1)&&((Zay k).all (fun j=>Nat.beq (posOf j (swN k ops.size)) j)&&
  ((Zay ops.size).all (fun j=>Nat.ble j (k+1)||Nat.beq (posOf j (swN k ops.size)) j)&&((Zay ops.size).all (fun j=>match ops[j]? with
   |some o=>o.guard.isNone
   |none=>true)&&(AAz9 (addE (k+1) k ops) k (ops.size - k)&&AAz9 (AAv9 (swN k ops.size) (addE k (k+1) ops)) k (ops.size - k))))))))
def lateT (n:Nat) (ops:Array Oper) (k:Nat):List Oper:=(ops.toList.drop k).take n
def BQn9 (P:Program) (ops o1 o2:Array Oper) (k:Nat) (tmK:List AV) (hp:List Blk) (b:β) (K:List AV→List Blk→β→Prop) (st1 st2:List AV×List Blk):Prop:=
 ASd9 P (ASd9 P (BIf (AQc9 P hp.length tmK st1.1 (o1.toList.take k) (lateT (ops.size - k) o1 k)&&(AQc9 P hp.length tmK st2.1 (o2.toList.take k) (lateT (ops.size - k) o2 k)&&(Nat.beq st2.2.length (hp.length+2)&&((st2.2.all fun blk=>lows hp.length blk.cells)&&st2.1.all fun x=>swOk hp.length x))))
  (st2.1.map (swA hp.length)=st1.1∧swL hp.length st2.2=st1.2∧K st1.1 st1.2 b) False) (lateT (ops.size - k) o2 k) tmK hp) (lateT (ops.size - k) o1 k) tmK hp
def AQb9 (P:Program) (X:CX β) (ops:Array Oper) (k:Nat) (tm:List AV) (hp:List Blk) (b:β) (K:List AV→List Blk→β→Prop):Prop:=
 if BMd9 ops k then preC P X (addE (k+1) k ops) hp ((addE (k+1) k ops).toList.take k) tm [] fun tmK tb=>
  if (tb.map (·.1)).Nodup then match ACg9 P (lateT (ops.size - k) (addE (k+1) k ops) k) tmK hp,ACg9 P (lateT (ops.size - k) (AAv9 (swN k ops.size) (addE k (k+1) ops)) k) tmK hp with
   | some sts1,some sts2=>match sts1[ops.size - k]?,sts2[ops.size - k]? with
    |some st1,some st2=>BQn9 P ops (addE (k+1) k ops) (AAv9 (swN k ops.size) (addE k (k+1) ops)) k tmK hp b K st1 st2
    |_,_=>False
   |_,_=>False
  else False
 else False
def growT (tm:List AV) (t:Nat):Bool:=
 match tm.getD t .bad with
 | .gref .. =>true
 |_=>false
def tmpOf:Operand→Option Nat
 | .tmp t=>some t
 |_=>none
def BUj9 (pc:Nat→Bool) (tm:List AV) (l:List Oper):List Nat:=
 let azz:=l.flatMap fun o=>match o.op with
  | .call c=>match c.callee with
   | .value f=>match AJw9 tm (evalA tm f) #[] with
    |some (k,_)=>if pc k then c.args.toList.filterMap tmpOf else []
    |none=> []
   |_=> []
  |_=> []
 (l.filterMap fun o=>match o.op,o.dst with
  | .move (.tmp t),some d=>if azz.contains d&&growT tm t then some t else none
  |_,_=>none).eraseDups
def isYl:AV→Bool
 | .yl=>true
 |_=>false
def BAm9 (tm:List AV):List Oper→List Nat
 | []=> []
 | o::l=>match o.op,o.dst with
  | .move (.tmp s),some d=>if isYl (tm.getD s .bad) then d::BAm9 tm l else BAm9 tm l
  |_,_=>BAm9 tm l
def isYield (tm:List AV) (ys:List Nat) (o:Oper):Bool:=
 match o.op with
 | .call c=>match c.callee with
  | .value (.tmp t)=>isYl (tm.getD t .bad)||ys.contains t
  |_=>false
 |_=>false
def BAn9 (tm:List AV) (ys:List Nat):Nat→List Oper→Option Nat
 |_, []=>none
 |n,o::l=>if isYield tm ys o then some n else BAn9 tm ys (n+1) l
def BRd9 (P:Program) (X:CX β) (ops:Array Oper) (tm:List AV) (hp:List Blk) (b:β) (K:List AV→List Blk→β→Prop):Prop:=
 match findK ops (ABz9 ops.toList) with
 |some k=>AOg9 P X ops k tm hp b K
 | none=>match findN ops (ABz9 ops.toList) (AEa9 (ops.toList.drop (ABz9 ops.toList))) with
  |some n=>AGj9 P X ops (ABz9 ops.toList) n tm hp b K
  | none=>match findK ops (AIw9 ops.toList) with
   |some k=>AOg9 P X ops k tm hp b K
   | none=>match findN ops (AIw9 ops.toList) (AEa9 (ops.toList.drop (AIw9 ops.toList))) with
    |some n=>AGj9 P X ops (AIw9 ops.toList) n tm hp b K
    | none=>match findK ops (ASa9 ops.toList) with
     |some k=>AOg9 P X ops k tm hp b K
     | none=>match findN ops (ASa9 ops.toList) (AEa9 (ops.toList.drop (ASa9 ops.toList))) with
      |some n=>AGj9 P X ops (ASa9 ops.toList) n tm hp b K
      |none=>False
def BMi9 (tm:List AV) (ops:List Oper) (q:Nat):Bool:=
 match ops[q]? with
 | some o=>match o.op with
  | .call c=>match c.callee,c.args[0]? with
   | .builtin .append,some (Operand.tmp t)=>ops.any fun o'=>match o'.op,o'.dst with
    | .move (.tmp u),some d=>d==t&&growT tm u
    |_,_=>false
   |_,_=>false
  |_=>false
 |none=>false
def drawC (P:Program) (X:CX β) (ops:Array Oper) (tm:List AV) (hp:List Blk) (b:β) (K:List AV→List Blk→β→Prop):Prop:=
 match BAn9 tm (BAm9 tm ops.toList) 0 ops.toList with
 | some q=>match findK ops q with
  |some k=>AOg9 P X ops k tm hp b K
  |none=>False
 |none=>if BMi9 tm ops.toList (ABz9 ops.toList)&&AAz9 ops (ABz9 ops.toList) 1 then AGj9 P X ops (ABz9 ops.toList) 1 tm hp b K else BRd9 P X ops tm hp b K
def BWh9 (tm:List AV) (ops:List Oper) (o:Oper):Bool:=
 match o.op with
 | .call c=>match c.callee,c.args[0]? with
  | .builtin .append,some (Operand.tmp t)=>ops.any fun o'=>match o'.op,o'.dst with
   | .move (.tmp u),some d=>d==t&&growT tm u
   |_,_=>false
  |_,_=>false
 |_=>false
def CAo9:Op→Bool
 | .load .. =>true
 |_=>false
def BQs9 (P:Program) (gt:Nat→Bool) (ops:List Oper) (o:Oper):Bool:=
 match o.op with
 | .call c=>match c.callee,c.args[0]?,AFw9 P c.argTypes with
  | .builtin .append,some (Operand.tmp t),some (e,_)=>gt e&&ops.any fun o'=>match o'.dst with
   |some d=>CAo9 o'.op&&d==t
   |none=>false
  |_,_,_=>false
 |_=>false
def AYw9 (lt:Oper→Bool):Nat→List Oper→List Nat→List Nat→List Nat
 |_, [],pre,post=>pre.reverse++post.reverse
 |i,o::l,pre,post=>if !ADr9 o||isMk o||lt o||(AAp9 o).any (fun j=>post.contains j) then AYw9 lt (i+1) l pre (i::post) else AYw9 lt (i+1) l (i::pre) post
def BEw9 (ops:Array Oper) (tm:List AV):Bool:=
 match BAn9 tm (BAm9 tm ops.toList) 0 ops.toList with
 |some q=>true
 | none=>(BMi9 tm ops.toList (ABz9 ops.toList)&&AAz9 ops (ABz9 ops.toList) 1)||(findK ops (ABz9 ops.toList)).isSome||(findN ops (ABz9 ops.toList) (AEa9 (ops.toList.drop (ABz9 ops.toList)))).isSome||
  (findK ops (AIw9 ops.toList)).isSome||(findN ops (AIw9 ops.toList) (AEa9 (ops.toList.drop (AIw9 ops.toList)))).isSome
  ||(findK ops (ASa9 ops.toList)).isSome||(findN ops (ASa9 ops.toList) (AEa9 (ops.toList.drop (ASa9 ops.toList)))).isSome
def APz9:List Oper→Nat
 | o::l=>if lateQ o then APz9 l+1 else match o.op,o.guard,o.dst with
  | .store ..,none,none=>APz9 l+1
  | .alloc ..,none,some _=>APz9 l+1
  |_,_,_=>0
 | []=>0
def findL (ops:Array Oper):Nat→Option (Nat×Nat)
 |0=>none
 | k+1=>match findN ops (k+1) (APz9 (ops.toList.drop (k+1))) with
  |some n=>some (k+1,n)
  |none=>findL ops k
def drawQ (P:Program) (X:CX β) (ops:Array Oper) (tm:List AV) (hp:List Blk) (b:β) (K:List AV→List Blk→β→Prop):Prop:=
 if BEw9 ops tm then drawC P X ops tm hp b K
 else match findL ops (ABz9 ops.toList) with
  |some (k,n)=>AGj9 P X ops k n tm hp b K
  |none=>AQb9 P X ops (ABz9 ops.toList) tm hp b K
def drawL (P:Program) (X:CX β) (ops:Array Oper) (tm:List AV) (hp:List Blk) (b:β) (K:List AV→List Blk→β→Prop):Prop:=
 if AAz9 ops (ABz9 ops.toList) 1 then AGj9 P X ops (ABz9 ops.toList) 1 tm hp b K
 else match findL ops (ABz9 ops.toList) with
 |some (k,n)=>AGj9 P X ops k n tm hp b K
 |none=>drawC P X ops tm hp b K
def drawP (P:Program) (X:CX β) (ops:Array Oper) (tm:List AV) (hp:List Blk) (b:β) (K:List AV→List Blk→β→Prop):Prop:=
 if ops.toList.any (BQs9 P (fun e=>(X.scall.lookup (1000000+e)).isSome) ops.toList) then
  if AUm9 ops (AYw9 (BQs9 P (fun e=>(X.scall.lookup (1000000+e)).isSome) ops.toList) 0 ops.toList [] []) then drawL P X (AAv9 (AYw9 (BQs9 P (fun e=>(X.scall.lookup (1000000+e)).isSome) ops.toList) 0 ops.toList [] []) ops) tm hp b K else False
 else if BEw9 ops tm then drawC P X ops tm hp b K
 else if AUm9 ops (AYw9 (BWh9 tm ops.toList) 0 ops.toList [] []) then drawQ P X (AAv9 (AYw9 (BWh9 tm ops.toList) 0 ops.toList [] []) ops) tm hp b K else False
def CCd9 (l:List Oper):List Nat:=
 let azz:=l.flatMap fun o=>match o.op with
  | .call c=>c.args.toList.filterMap tmpOf
  |_=> []
 (l.flatMap fun o=>match o.op,o.dst with
  | .makeFunc _ _ caps,some d=>if azz.contains d then caps.toList.filterMap tmpOf else []
  |_,_=> []).eraseDups
def sealL:List Nat→List AV→List Blk→(List AV→List Blk→Prop)→Prop
 | [],tm,hp,K=>K tm hp
 |t::ts,tm,hp,K=>ALq9 hp [t] tm fun tm1=>sealL ts tm1 (frz hp (occ (tm.getD t .bad))) K
def AWi9 (P:Program) (X:CX β) (ops:Array Oper) (draw:Bool) (tm:List AV) (hp:List Blk) (b:β) (K:List AV→List Blk→β→Prop):Prop:=
 if draw then match BUj9 (fun k=>(X.call.lookup k).isSome) tm (ops.toList.take (AIw9 ops.toList)) with
  | [t]=>ALq9 hp [t] tm fun tm1=>drawP P X ops tm1 (frz hp (occ (tm.getD t .bad))) b K
  |_=>sealL (CCd9 ops.toList) tm hp fun tm hp=>drawP P X ops tm hp b K
 else opsC P X ops ops.toList ⟨tm,hp, []⟩ b fun s b=>K s.tm s.hp b
def BXp9 (id:Nat) (K:Exit→List AV→List Blk→β→Prop):Exit→List AV→List Blk→β→Prop
 | .exit id',tm,hp,b=>if id'=id then K .normal tm hp b else K (.exit id') tm hp b
 |e,tm,hp,b=>K e tm hp b
def thenK (K':List AV→List Blk→β→Prop) (K:Exit→List AV→List Blk→β→Prop):Exit→List AV→List Blk→β→Prop
 | .normal,tm,hp,b=>K' tm hp b
 |e,tm,hp,b=>K e tm hp b
def BYu9 (K:Exit→List AV→List Blk→β→Prop):Exit→List AV→List Blk→β→Prop
 | .goto _,_,_,_=>False
 |e,tm,hp,b=>K e tm hp b
def rounds (body:List AV→List Blk→β→(Exit→List AV→List Blk→β→Prop)→Prop):Nat→List AV→List Blk→β→(Exit→List AV→List Blk→β→Prop)→Prop
 |0,_,_,_,_=>False
 |m+1,tm,hp,b,K=>body tm hp b (thenK (fun tm hp b=>rounds body m tm hp b K) K)
def wpc (P:Program) (X:CX β):Nat→Code→List AV→List Blk→β→(Exit→List AV→List Blk→β→Prop)→Prop
 |0,_,_,_,_,_=>False
 | n+1,c,tm,hp,b,K=>match c with
  | .skip=>K .normal tm hp b
  | .label _=>K .normal tm hp b
  | .exit id=>K (.exit id) tm hp b
  | .goto l=>K (.goto l) tm hp b
  | .ret=>K .ret tm hp b
  | .region id ops d=>if (X.call.lookup (4000000+id)).isSome then X.wl (.region id ops d) tm hp b K else AWi9 P X ops d tm hp b (K .normal)
  | .seq x y=>wpc P X n x tm hp b (thenK (fun tm hp b=>wpc P X n y tm hp b K) K)
  | .cond x c c'=>match evalA tm x with
   | .d (.s (.bool t))=>BIf t (wpc P X n c (setB tm x true) hp b K) (wpc P X n c' (setB tm x false) hp b K)
   |_=>False
  | .block id c=>wpc P X n c tm hp b (BXp9 id K)
  | .loop c=>if X.unroll then rounds (wpc P X n c) 1000 tm hp b K else X.wl (.loop c) tm hp b K
  | .rangeFunc f ps assign body=>X.wl (.rangeFunc f ps assign body) tm hp b K
  | .scope c=>wpc P X n c tm hp b (BYu9 K)
  | .refuse _=>False
def fnK (P:Program) (fn:Func) (R:AV→β→Prop):Exit→List AV→List Blk→β→Prop:=fun e tm hp b=>
 BIf (match e with| .ret=>true| .normal=>true|_=>false) (match resAs P hp tm fn.results.toList with
  |some ys=>BCb9 hp 200 (resV ys) fun y=>R y b
  |none=>False) False
def wpFn (P:Program) (X:CX β) (n:Nat) (fn:Func) (args:List AV) (b:β) (R:AV→β→Prop):Prop:=
 match fn.body with
 |some c=>wpc P X n c (AAw9 fn args) [] b (fnK P fn R)
 |none=>False
end
structure CX.Ok {P:Program} (Ev:Env P) (X:CX Ev.β):Prop where
 call:∀(k:Nat) f,X.call.lookup k=some f→∀args K,f args K→∃x,PCall P k args x∧K x
 scall:∀(k:Nat) f,X.scall.lookup k=some f→∀args hp K,f args hp K→∃x hp',SCall P k args hp x hp'∧K x hp'
 wl:∀c tm hp b K,X.wl c tm hp b K→W Ev c ⟨tm,hp,b⟩ (fun e s=>K e s.tm s.hp s.b)
 y:X.y=Ev.Y
section
variable {P:Program} {hp hp':List Blk} {tm tm':List AV} {o:Oper} {ops:Array Oper} {Ev:Env P} {X:CX Ev.β} {s:RS} {b:Ev.β}
theorem APo9 {x:Operand} {v:Bool} (h:evalA tm x= .d (.s (.bool v))):setB tm x v=tm:=by
 cases x with
 | tmp t=>
  simp only [evalA,List.getD] at h;simp only [setB];cases ht:tm[t]? with
  |none=>rw [ht] at h;cases h
  |some y=>rw [ht] at h;simp only [Option.getD_some] at h;subst h;exact ACn9 ht
 |_=>rfl
theorem AMj9 {A B:List AV→Prop} (h:BJb9 ops o tm A B):(ABc9 ops o tm=some true∧A tm)∨(ABc9 ops o tm=some false∧B tm):=by
 unfold BJb9 at h;unfold ABc9;split at h
 ·rename_i hg;rw [hg];exact .inl ⟨rfl,h⟩
 ·rename_i j want hg;rw [hg];split at h
  ·rename_i t ht;split at h
   ·rename_i bb hb;simp only [ht,hb];have hs:setB tm (.tmp t) bb=tm:=APo9 hb;rcases h.elim with ⟨rfl,h⟩|⟨rfl,h⟩<;>rw [hs] at h<;>cases want<;>simp only [Bool.false_eq_true,if_true,if_false] at h
    ·exact .inr ⟨rfl,h⟩
    ·exact .inl ⟨rfl,h⟩
    ·exact .inl ⟨rfl,h⟩
    ·exact .inr ⟨rfl,h⟩
   ·rename_i vs hb;simp only [ht,hb];exact .inr ⟨trivial,h⟩
   ·exact h.elim
  ·exact h.elim
theorem ARo9 {t:Bool} {x y:AV} (h:pickO tm o=some (t,x,y)):setB tm (AZx9 o) t=tm:=by
 unfold pickO at h;split at h<;>try (cases h;done)
 rename_i c a b ho;split at h<;>try (cases h;done)
 rename_i t' hc;cases h;simp only [AZx9,ho];exact APo9 hc
theorem ARp9 {pv:List (Nat×Loc)} {t:Bool} {x y:AV} (h:pickO tm o=some (t,x,y)):bodyX P ⟨tm,hp,pv⟩ o=some ⟨putA tm o.dst (if t then x else y),hp,pvPut pv o.dst⟩:=by
 unfold pickO at h;split at h<;>try (cases h;done)
 rename_i c a b ho;split at h<;>try (cases h;done)
 rename_i t' hc;cases h;have h1:xa P ⟨tm,hp,pv⟩ o=none:=by simp [xa,ho]
 have h2:xh P AHz9 ⟨tm,hp,pv⟩ o=none:=by simp [xh,ho]
 have h3:AEe9 P ⟨tm,hp,pv⟩ o=none:=by
  unfold AEe9;rw [ho];cases o.dst<;>rfl
 simp only [bodyX,h1,h2,h3];simp [xq,ho,hc]
theorem BAy9 (hw:ABc9 ops o s.tm=some true):xStep P AHz9 ops s o=bodyX P s o:=by
 simp only [xStep,hw,bodyX];cases xa P s o with
 |some s1=>rfl
 | none=>cases xh P AHz9 s o with
  |some s1=>rfl
  |none=>cases xq P s.hp (evalA s.tm) o<;>rfl
theorem ADa9 {K:RS→Prop} (h:restC P s o K):∃s',bodyX P s o=some s'∧K s':=by
 unfold restC at h;split at h
 ·rename_i s' hs;exact ⟨s',hs,h⟩
 ·exact h.elim
theorem ATm9 {c:Call} {K:RS→Prop} (ho:o.op= .call c) (h:BGh9 P s o c K):∃s',bodyX P s o=some s'∧K s':=by
 unfold BGh9 at h;split at h
 ·rename_i x y hcal hx hy;split at h
  ·rename_i e' i hi;split at h
   ·rename_i ys hys;split at h
    ·rename_i loc e k xs hacc;obtain ⟨hc,hK⟩:=h.elim';simp only [Zal,decide_eq_true_eq] at hc;obtain ⟨⟨⟨h1,h2⟩,h3⟩,h4⟩:=hc;refine ⟨_, ?_,hK⟩;unfold accOf at hacc;split at hacc<;>try (cases hacc;done)
     rename_i t;split at hacc<;>try (cases hacc;done)
     rename_i loc' hl;split at hacc<;>try (cases hacc;done)
     rename_i e1 k1 xs1 hown;cases hacc;simp only [bodyX,xa,ho,hcal,hx,hy,h3,hl,hown,hi,hys,if_true];rw [if_pos ⟨h1,h2,h4⟩]
    ·rename_i hacc;rcases h.elim with ⟨hc,h⟩|⟨hc,h⟩
     ·obtain ⟨h4,hK⟩:=h.elim';simp only [Zal,decide_eq_true_eq] at hc h4;refine ⟨_, ?_,hK⟩;have hxa:xa P s o=none:=by
       simp only [xa,ho,hcal,hx,hy];split<;>try rfl
       rename_i t y' _ e1 e2;cases e1;cases e2;split<;>try rfl
       split<;>try rfl
       rename_i loc hl;split<;>try rfl
       rename_i e k xs e1 i1 hown hi1;exfalso;simp only [accOf,hl,hown] at hacc;cases hacc
      have hxh:xh P AHz9 s o=none:=by simp [xh,ho,hcal]
      have hxq:xq P s.hp (evalA s.tm) o=some (.own e' i.size ys):=by
       simp only [xq,ho,hcal,hx,hy,hc.2,if_true,AGb9,hi,hys,hc.1];rw [if_pos h4]
      simp only [bodyX,hxa,hxh,hxq]
     ·split at h
      ·rename_i k xs hfull;rcases h.elim with ⟨hc,h⟩|⟨_,h⟩
       ·obtain ⟨h4,h⟩:=h.elim';simp only [Zal,decide_eq_true_eq] at hc h4;have hxa:xa P s o=none:=by
         simp only [xa,ho,hcal,hx,hy];split<;>try rfl
         rename_i t y' _ e1 e2;cases e1;cases e2;split<;>try rfl
         split<;>try rfl
         rename_i loc hl;split<;>try rfl
         rename_i e k xs e1 i1 hown hi1;exfalso;simp only [accOf,hl,hown] at hacc;cases hacc
        have hxh:xh P AHz9 s o=none:=by simp [xh,ho,hcal]
        rcases h.elim with ⟨he,hK⟩|⟨he,hK⟩
        ·have hxq:xq P s.hp (evalA s.tm) o=some (.full k xs):=by
          simp only [xq,ho,hcal,hx,hy,hc.2,if_true,AGb9,hi,hys,hfull,AAl9];rw [if_neg (by simp),if_pos ⟨hc.1,h4⟩,if_pos he]
         exact ⟨_,by simp only [bodyX,hxa,hxh,hxq],hK⟩
        ·have hxq:xq P s.hp (evalA s.tm) o=some (.own e' k (xs++ys)):=by
          simp only [xq,ho,hcal,hx,hy,hc.2,if_true,AGb9,hi,hys,hfull,AAl9];rw [if_neg (by simp),if_pos ⟨hc.1,h4⟩,if_neg (by simp [he])]
         exact ⟨_,by simp only [bodyX,hxa,hxh,hxq],hK⟩
       ·exact ADa9 h
      ·exact ADa9 h
   ·exact ADa9 h
  ·exact ADa9 h
 ·exact ADa9 h
theorem AZv9 {c:Call} {K:RS→Prop} (ho:o.op= .call c) (hc:c.callee= .builtin .copy) (h:copyC P s o c K):∃s',bodyX P s o=some s'∧K s':=by
 unfold copyC at h;split at h
 ·rename_i x y hx hy;split at h
  ·rename_i g off n cap k k' xs hd hs;split at h
   ·rename_i t ht;split at h
    ·rename_i e hu;split at h
     ·rename_i i blk hi hblk;obtain ⟨hcond,h⟩:=h.elim';simp only [Zal,decide_eq_true_eq,Bool.not_eq_true'] at hcond;obtain ⟨⟨⟨⟨⟨⟨⟨h1,h2⟩,h3⟩,h4⟩,h5⟩,h6⟩,h7⟩,h8⟩:=hcond;have hxa:xa P s o=none:=by simp [xa,ho,hc]
      have hsrc:ALm9 s.hp (evalA s.tm y)=some (xs.map fun r=>AV.d (r.headD (.s undef))):=by
       have hr:=hs;unfold ALm9;have hnil:AAl9 (evalA s.tm y)=false:=by
        unfold AAl9;split
        ·rename_i he;rw [he] at hr;cases hr
        ·rfl
       rw [hnil];simp only [Bool.false_eq_true,if_false];split
       ·rename_i he;rw [he] at hr;cases hr
       ·rw [hs];simp only [h5,if_true]
      have htake:(xs.map fun r=>AV.d (r.headD (.s undef))).take n=(xs.take n).map fun r=>AV.d (r.headD (.s undef)):=by rw [List.map_take]
      have hlen:((xs.take n).map fun r=>AV.d (r.headD (.s undef))).length=min n xs.length:=by simp
      split at h
      ·obtain ⟨hone,hK⟩:=h.elim';refine ⟨_, ?_,hK⟩;have hcopy:xCopy P s.hp c.argTypes (evalA s.tm x) (evalA s.tm y)=some (.d (.s (goInt (min n xs.length:Nat))),s.hp.set g {blk with cells:=blk.cells.take off++((xs.take n).map fun r=>AV.d (r.headD (.s undef)))++blk.cells.drop (off+min n xs.length)}):=by
        unfold xCopy;simp only [ht,hu,hi,hd,hsrc,hblk];rw [if_pos ⟨h2,h3,h4,h6,h7,by rw [htake];exact hone,h8⟩,htake,hlen]
       have hxh:xh P AHz9 s o=some {tm:=putA s.tm o.dst (.d (.s (goInt (min n xs.length:Nat)))),hp:=s.hp.set g {blk with cells:=blk.cells.take off++((xs.take n).map fun r=>AV.d (r.headD (.s undef)))++blk.cells.drop (off+min n xs.length)},pv:= []}:=by
        simp only [xh,ho,hc,hx,hy,h1,if_true,hcopy]
       simp only [bodyX,hxa,hxh]
      obtain ⟨row,hrow,h⟩:=(AEl9 P 400).2 _ _ h;obtain ⟨hone,hK⟩:=h.elim';refine ⟨_, ?_,hK⟩;have hall:(((xs.map fun r=>AV.d (r.headD (.s undef))).take n).all AV.one)=true:=by
       rw [htake];rw [←hrow,List.all_append,Zal] at hone;exact hone.1
      have hcopy:xCopy P s.hp c.argTypes (evalA s.tm x) (evalA s.tm y)=some (.d (.s (goInt (min n xs.length:Nat))),s.hp.set g {blk with cells:=blk.cells.take off++row.map AV.d++blk.cells.drop (off+n)}):=by
       unfold xCopy;simp only [ht,hu,hi,hd,hsrc,hblk];rw [if_pos ⟨h2,h3,h4,h6,h7,hall,h8⟩,htake,hlen];congr 4;rw [←hrow,List.append_assoc,List.append_assoc,List.append_assoc];congr 2;have e1:blk.cells.drop (off+min n xs.length)=(blk.cells.drop off).drop (min n xs.length):=by rw [List.drop_drop]
       have e2:blk.cells.drop (off+n)=(blk.cells.drop off).drop n:=by rw [List.drop_drop]
       rw [e1,e2]
       conv=>lhs;rw [←List.take_append_drop n (blk.cells.drop off)]
       rw [List.drop_append_of_le_length];simp only [List.length_take,List.length_drop];omega
      have hxh:xh P AHz9 s o=some {tm:=putA s.tm o.dst (.d (.s (goInt (min n xs.length:Nat)))),hp:=s.hp.set g {blk with cells:=blk.cells.take off++row.map AV.d++blk.cells.drop (off+n)},pv:= []}:=by
       simp only [xh,ho,hc,hx,hy,h1,if_true,hcopy]
      simp only [bodyX,hxa,hxh]
     ·exact h.elim
    ·exact h.elim
   ·exact h.elim
  ·exact ADa9 h
 ·exact ADa9 h
theorem BTy9 {K:AV→Prop} {p:Prop} (h:valG P s.hp s.tm o K=some p):xa P s o=none∧xh P AHz9 s o=none:=by
 unfold valG at h;split at h
 ·rename_i ho;exact ⟨by simp [xa,ho],by simp [xh,ho]⟩
 ·rename_i ho;exact ⟨by simp [xa,ho],by simp [xh,ho]⟩
 ·rename_i ho;exact ⟨by simp [xa,ho],by simp [xh,ho]⟩
 ·rename_i c ho;split at h<;>try (cases h;done)
  ·rename_i x hc hx0;exact ⟨by simp [xa,ho,hc],by simp [xh,ho,hc]⟩
  ·rename_i x hc hx0;exact ⟨by simp [xa,ho,hc],by simp [xh,ho,hc]⟩
 ·rename_i ho;exact ⟨by simp [xa,ho],by simp [xh,ho]⟩
 ·cases h
theorem BAf9 {K:RS→Prop} (h:bodyC P s o K):∃s',bodyX P s o=some s'∧K s':=by
 unfold bodyC at h;split at h
 ·rename_i p hv;obtain ⟨x,hx,hK⟩:=AQw9 hv h;obtain ⟨h1,h2⟩:=BTy9 hv;exact ⟨_,by simp only [bodyX,h1,h2,hx],hK⟩
 split at h
 ·rename_i t x y hp';have hs:=ARo9 hp';rcases h.elim with ⟨rfl,hK⟩|⟨rfl,hK⟩
  ·rw [hs] at hK;exact ⟨_,ARp9 hp',hK⟩
  ·rw [hs] at hK;exact ⟨_,ARp9 hp',hK⟩
 ·split at h
  ·rename_i hq;obtain ⟨x,hx,hK⟩:=AQx9 h;refine ⟨_, ?_,hK⟩;have hxa:xa P s o=none:=by
    unfold xa;split<;>try rfl
    rename_i c ho;rw [ho] at hq;cases hq
   have hxh:xh P AHz9 s o=none:=by
    unfold xh;split<;>first|rfl|(rename_i ho;rw [ho] at hq;cases hq)
   simp only [bodyX,hxa,hxh,hx]
  ·split at h
   ·rename_i c ho;split at h
    ·rename_i hc;exact AZv9 ho hc h
    ·exact ATm9 ho h
   ·exact ADa9 h
mutual
theorem AJo9:∀ {x:AV} {K:AV→Prop},sealC hp x K→∃y,SealR hp x y∧K y
 | .gref g ver n k,K,h=>by
  simp only [sealC] at h;split at h
  ·rename_i blk hb;obtain ⟨hg,hv,xs,h1,h2,h3,hK⟩:=h.elim';exact ⟨_, .gref hb hg hv h1 h2 h3,hK⟩
  ·exact h.elim
 | .agg cs,K,h=>by
  simp only [sealC] at h;obtain ⟨ys,hl,hs,hK⟩:=AEu9 h;exact ⟨_, .agg hl hs,hK⟩
 | .tup cs,K,h=>by
  simp only [sealC] at h;obtain ⟨ys,hl,hs,hK⟩:=AEu9 h;exact ⟨_, .tup hl hs,hK⟩
 | .fn f a b,K,h=>by
  simp only [sealC] at h;obtain ⟨ys,hl,hs,h2⟩:=AEu9 h;obtain ⟨zs,hl',hs',hK⟩:=AEu9 h2;exact ⟨_, .fn hl hl' hs hs',hK⟩
 | .own e k xs,K,h=>⟨.d (.sl k xs), .v (by simp [sealV]),by simpa only [sealC] using h⟩
 | .ref g off n cap k,K,h=>by
  simp only [sealC] at h;split at h
  ·rename_i y hy;exact ⟨y, .v hy,h⟩
  ·exact h.elim
 | .ptr g off,K,h=>by
  simp only [sealC] at h;split at h
  ·rename_i y hy;exact ⟨y, .v hy,h⟩
  ·exact h.elim
 | .gptr ..,K,h=>by simp only [sealC] at h
 | .yl,K,h=>by simp only [sealC] at h
 | .d x,K,h=>⟨.d x, .v (by simp [sealV]),by simpa only [sealC] using h⟩
 | .full k xs,K,h=>⟨.full k xs, .v (by simp [sealV]),by simpa only [sealC] using h⟩
 | .rptr cs,K,h=>⟨.rptr cs, .v (by simp [sealV]),by simpa only [sealC] using h⟩
 | .bad,K,h=>⟨.bad, .v (by simp [sealV]),by simpa only [sealC] using h⟩
theorem AEu9:∀ {cs:List AV} {K:List AV→Prop},ARl9 hp cs K→∃ys,cs.length=ys.length∧(∀(i:Nat) (c y:AV),cs[i]? =some c→ys[i]? =some y→SealR hp c y)∧K ys
 | [],K,h=>⟨[],rfl,fun i c y h=>by simp at h,by simpa only [ARl9] using h⟩
 | x::l,K,h=>by
  simp only [ARl9] at h;obtain ⟨y,hy,h2⟩:=AJo9 h;obtain ⟨ys,hl,hs,hK⟩:=AEu9 h2;refine ⟨y::ys,by simp [hl],fun i c z h3 h4=> ?_,hK⟩;cases i with
  |zero=>simp at h3 h4;subst h3;subst h4;exact hy
  |succ i=>exact hs i c z (by simpa using h3) (by simpa using h4)
end
mutual
theorem ALr9:∀ {n:Nat} {x:AV} {K:AV→Prop},BCb9 hp n x K→∃y,SealD hp x y∧K y
 |0,x,K,h=>by simp only [BCb9] at h
 | n+1,x,K,h=>by
  unfold BCb9 at h;split at h
  ·split at h
   ·rename_i y hy;exact ⟨y, .r (.v hy),h⟩
   ·split at h
    ·rename_i blk hb;split at h
     ·exact h.elim
     ·rename_i hgr;obtain ⟨ys,hl,hs,h2⟩:=ACl9 h;split at h2
      ·rename_i d ds hds;exact ⟨_, .ptr hb (by simpa using hgr) hl hs hds,h2⟩
      ·exact h2.elim
    ·exact h.elim
  ·obtain ⟨ys,hl,hs,hK⟩:=ACl9 h;exact ⟨_, .agg hl hs,hK⟩
  ·obtain ⟨ys,hl,hs,hK⟩:=ACl9 h;exact ⟨_, .tup hl hs,hK⟩
  ·obtain ⟨ys,hl,hs,h2⟩:=ACl9 h;obtain ⟨zs,hl',hs',hK⟩:=ACl9 h2;exact ⟨_, .fn hl hl' hs hs',hK⟩
  ·obtain ⟨y,hy,hK⟩:=AJo9 h;exact ⟨y, .r hy,hK⟩
theorem ACl9:∀ {n:Nat} {cs:List AV} {K:List AV→Prop},AHq9 hp n cs K→∃ys,cs.length=ys.length∧(∀(i:Nat) (c y:AV),cs[i]? =some c→ys[i]? =some y→SealD hp c y)∧K ys
 |0,cs,K,h=>by simp only [AHq9] at h
 | n+1,cs,K,h=>by
  unfold AHq9 at h;split at h
  ·exact ⟨[],rfl,fun i c y h=>by simp at h,h⟩
  ·obtain ⟨y,hy,h2⟩:=ALr9 h;obtain ⟨ys,hl,hs,hK⟩:=ACl9 h2;refine ⟨y::ys,by simp [hl],fun i c z h3 h4=> ?_,hK⟩;cases i with
   |zero=>simp at h3 h4;subst h3;subst h4;exact hy
   |succ i=>exact hs i c z (by simpa using h3) (by simpa using h4)
end
theorem AIy9 (gs:List Nat):∀l:List AV,FrzTm hp gs l l
 | []=>trivial
 |x::l=>⟨.inl rfl,AIy9 gs l⟩
theorem AGf9 {gs:List Nat} {tm0:List AV}:∀ {ts:List Nat} {tm:List AV} {K:List AV→Prop},ALq9 hp ts tm K→ts.Nodup→FrzTm hp gs tm0 tm→(∀t∈ts,tm.getD t .bad=tm0.getD t .bad)→(∀t∈ts,∀g∈occ (tm0.getD t .bad),g∈gs)→
 ∃tm1,FrzTm hp gs tm0 tm1∧K tm1
 | [],tm,K,h,_,hf,_,_=>⟨tm,hf,h⟩
 | t::ts,tm,K,h,hnd,hf,hsame,hocc=>by
  simp only [ALq9] at h;obtain ⟨y,hy,h⟩:=AJo9 h;rcases h.elim with ⟨_,h⟩|⟨ho,h⟩
  ·exact h.elim
  obtain ⟨hn1,hn2⟩:=List.nodup_cons.1 hnd;have hset:FrzTm hp gs tm0 (tm.set t y):=by
   have key:∀(l l':List AV) (t:Nat),FrzTm hp gs l l'→(t<l.length→SealR hp (l.getD t .bad) y∧∀g∈occ (l.getD t .bad),g∈gs)→FrzTm hp gs l (l'.set t y):=by
    intro l;induction l with
    | nil=>
     intro l' t h _;cases l' with
     |nil=>exact trivial
     |cons _ _=>exact h.elim
    | cons x l ih=>
     intro l' t h hs;cases l' with
     |nil=>exact h.elim
     | cons z l'=>
      cases t with
      | zero=>
       have:=hs (by simp);exact ⟨.inr ⟨by simpa using this.1,by simpa using this.2,ho⟩,h.2⟩
      |succ t=>exact ⟨h.1,ih l' t h.2 fun ht=>by simpa using hs (by simpa using ht)⟩
   refine key tm0 tm t hf fun ht=>⟨?_,hocc t (Zbb ..)⟩;rw [←hsame t (Zbb ..)];exact hy
  refine AGf9 h hn2 hset (fun t' ht'=> ?_) fun t' ht'=>hocc t' (Zaw _ ht');have hne:t≠t':=fun he=>hn1 (he▸ht');rw [←hsame t' (Zaw _ ht')];simp [List.getD,List.getElem?_set_ne hne]
theorem FrzTm.at {gs:List Nat}:∀ {l l':List AV} {t:Nat} {x:Dv},FrzTm hp gs l l'→l.getD t .bad= .d x→l'.getD t .bad= .d x
 | [], [],_,_,_,h=>h
 | [],_::_,_,_,h,_=>h.elim
 |_::_, [],_,_,h,_=>h.elim
 | y::l,z::l',0,x,h,hx=>by
  simp only [List.getD_cons_zero] at hx ⊢;subst hx;rcases h.1 with rfl|⟨h1,_⟩
  ·rfl
  ·cases h1 with
   |v h1=>simp only [sealV,Option.some.injEq] at h1;exact h1.symm
 | y::l,z::l',t+1,x,h,hx=>by
  simp only [List.getD_cons_succ] at hx ⊢;exact FrzTm.at h.2 hx
theorem AYp9 {gs:List Nat} {tm tm':List AV} {v:Bool} (h:FrzTm hp gs tm tm') (hw:ABc9 ops o tm=some v):ABc9 ops o tm'=some v:=by
 unfold ABc9 at hw ⊢;split at hw
 ·exact hw
 ·rename_i j want hg;split at hw<;>try (cases hw;done)
  rename_i t ht;split at hw<;>try (cases hw;done)
  ·rename_i b hb;simp only [h.at hb];exact hw
  ·rename_i b hb;simp only [h.at hb];exact hw
theorem BEk9 {pc:Nat→Bool} {K:RS→Prop} (h:frzC pc s o K) (hnd:(AWw9 pc s o).Nodup):∃s0,FrzOk s s0∧(∀v,ABc9 ops o s.tm=some v→ABc9 ops o s0.tm=some v)∧K s0:=by
 unfold frzC at h;split at h
 ·exact ⟨s, .rfl,fun _ h=>h,h⟩
 ·rename_i t ts hn;rw [hn] at hnd;obtain ⟨tm1,hf,hK⟩:=AGf9 (gs:=occs ((t::ts).map fun t=>s.tm.getD t .bad)) (tm0:=s.tm) h hnd (AIy9 _ _) (fun _ _=>rfl) fun t' ht' g hg=>by
   obtain ⟨j,hj⟩:=Zak.1 ht';exact AFh9 (i:=j) (by rw [List.getElem?_map,hj];rfl) g hg
  exact ⟨_,BQv9 hf,fun v hw=>AYp9 hf hw,hK⟩
theorem AHs9 (l:List Nat):l.eraseDups.Nodup:=by
 have key:∀(n:Nat) (l:List Nat),l.length≤n→l.eraseDups.Nodup:=by
  intro n;induction n with
  |zero=>intro l h;have:l= []:=List.length_eq_zero_iff.1 (by omega);subst this;simp
  | succ n ih=>
   intro l h;cases l with
   |nil=>simp
   | cons a l=>
    rw [List.eraseDups_cons];refine List.nodup_cons.2 ⟨?_,ih _ ?_⟩
    ·rw [List.mem_eraseDups];simp
    ·have:=List.length_filter_le (fun b=> !b==a) l;simp only [List.length_cons] at h;omega
 exact key l.length l (Zas _)
theorem ARt9 (pc:Nat→Bool) (s:RS) (o:Oper):(AWw9 pc s o).Nodup:=by
 unfold AWw9;split
 ·split
  ·split
   ·split
    ·exact AHs9 _
    ·simp
   ·simp
  ·split
   ·unfold leans;split
    ·split<;>simp
    ·simp
   ·simp
  ·simp
 ·exact AHs9 _
 ·simp
theorem BEt9 {gt:Nat→Bool} {c:Call} {x y:Operand} {K:RS→Prop} {p:Prop} (h:extZ P gt s o c x y K=some p) (hp0:p) (ho:o.op= .call c) (hc:c.callee= .builtin .append) (h0:c.args[0]? =some x) (h1:c.args[1]? =some y):∃s',ExtOk P o s s'∧K s':=by
 unfold extZ at h;split at h<;>try (cases h;done)
 rename_i t tn ht htn;split at h<;>try (cases h;done)
 rename_i e kn k n hu hun hy;split at h<;>try (cases h;done)
 rename_i i hi;split at h<;>try (cases h;done)
 rename_i hgt;split at h<;>try (cases h;done)
 rename_i zr hz;cases h;obtain ⟨hcc,hK⟩:=hp0.elim';simp only [Zal,decide_eq_true_eq] at hcc hgt;obtain ⟨⟨⟨⟨⟨⟨⟨⟨a1,a2⟩,a3⟩,a4⟩,a5⟩,a6⟩,a7⟩,a8⟩,a9⟩:=hcc;exact ⟨_,BJm9 ho hc a1 h0 h1 a2 ht htn hu hun hi hgt.2 hy hz a3 a4 a5 a6 a7 a8 a9,hK⟩
theorem AZs9 {c:Call} {x y:Operand} {K:RS→Prop} {p:Prop} (h:extCp P s o c x y K=some p) (hp0:p) (ho:o.op= .call c) (hc:c.callee= .builtin .copy) (h0:c.args[0]? =some x) (h1:c.args[1]? =some y):∃s',ExtOk P o s s'∧K s':=by
 unfold extCp at h;split at h<;>try (cases h;done)
 rename_i g ver n k t hx ht;split at h<;>try (cases h;done)
 rename_i blk ys e hg hys hu;split at h<;>try (cases h;done)
 rename_i i hi;cases h;obtain ⟨hcc,hv,hK⟩:=hp0.elim';simp only [Zal,decide_eq_true_eq,Bool.not_eq_true'] at hcc;obtain ⟨⟨⟨⟨⟨a1,a2⟩,a3⟩,rfl⟩,a5⟩,a6⟩:=hcc;exact ⟨_,BQz9 ho hc a1 h0 h1 a2 ht hu hi a3 hx hys hg a5 hv a6,hK⟩
theorem AZr9 {gt:Nat→Bool} {t:TypeId} {lo co:Operand} {K:RS→Prop} {p:Prop} (h:extMk P gt s o t lo co K=some p) (hp0:p) (ho:o.op= .makeSlice t lo co):∃s',ExtOk P o s s'∧K s':=by
 unfold extMk at h;split at h<;>try (cases h;done)
 rename_i e hu;split at h<;>try (cases h;done)
 split at h<;>try (cases h;done)
 rename_i kl l kc c i hl hc hi;split at h<;>try (cases h;done)
 rename_i zr hz;cases h;obtain ⟨hcc,hK⟩:=hp0.elim';simp only [Zal,decide_eq_true_eq] at hcc;obtain ⟨⟨⟨⟨⟨⟨a1,a2⟩,a3⟩,a4⟩,a5⟩,a6⟩,a7⟩:=hcc;exact ⟨_,BQy9 ho hu hi hl hc hz a1 a2 a3 a4 a5 a6 a7,hK⟩
theorem AUy9 {t:TypeId} {x hi:Operand} {K:RS→Prop} {p:Prop} (h:BRa9 P s o t x hi K=some p) (hp0:p) (ho:o.op= .slice t x none (some hi) none):∃s',ExtOk P o s s'∧K s':=by
 unfold BRa9 at h;split at h<;>try (cases h;done)
 rename_i g ver n k kk j e hx hj hu;split at h<;>try (cases h;done)
 rename_i i blk hi' hg;cases h;obtain ⟨hcc,hv,hK⟩:=hp0.elim';simp only [Zal,decide_eq_true_eq,Bool.not_eq_true'] at hcc;obtain ⟨⟨⟨⟨rfl,a2⟩,a3⟩,a4⟩,a5⟩:=hcc;exact ⟨_,BWr9 ho hu hi' hx hj hg a2 hv a3 a4 a5,hK⟩
theorem BEu9 {gt:Nat→Bool} {K:RS→Prop} {p:Prop} (h:extC P gt s o K=some p) (hp0:p):∃s',ExtOk P o s s'∧K s':=by
 unfold extC at h;split at h
 ·rename_i c ho;split at h
  ·rename_i x y hc h0 h1;split at h
   rotate_left
   ·exact BEt9 h hp0 ho hc h0 h1
   rename_i e i hinf;split at h
   ·rename_i g ver n k hx;split at h<;>try (cases h;done)
    rename_i blk ys hg hys;cases h;obtain ⟨hcc,hv,h2⟩:=hp0.elim';obtain ⟨hfit,hK⟩:=h2.elim';simp only [Zal,decide_eq_true_eq,Bool.not_eq_true'] at hcc hfit;obtain ⟨⟨⟨hsz,rfl⟩,hgr⟩,hf⟩:=hcc;exact ⟨_,ASp9 ho hc hsz h0 h1 hinf hx hys hg hgr hv hf hfit,hK⟩
   ·split at h<;>try (cases h;done)
    rename_i hgt;split at h<;>try (cases h;done)
    rename_i ys hys;cases h;obtain ⟨hcc,h2⟩:=hp0.elim';simp only [Zal,decide_eq_true_eq,Bool.or_eq_true] at hcc hgt;have hbase:AAl9 (evalA s.tm x)=true∨evalA s.tm x= .full i.size []:=by
     rcases hgt.2 with h3|h3
     ·exact .inl h3
     ·right;unfold BMe9 at h3;split at h3
      ·rename_i k hk;rw [hk];simp only [decide_eq_true_eq] at h3;rw [h3]
      ·cases h3
    rcases h2.elim with ⟨hpos,hK⟩|⟨hpos,hK⟩
    ·have hpos:0<ys.length:=by simpa using hpos
     exact ⟨_,AXn9 ho hc hcc.1 h0 h1 hinf hbase hys (List.length_pos_iff.1 hpos) hcc.2,hK⟩
    ·have hpos:ys= []:=by
      have:¬0<ys.length:=by simpa using hpos
      exact List.length_eq_zero_iff.1 (by omega)
     subst hpos;exact ⟨_,BQx9 ho hc hcc.1 h0 h1 hinf hbase hys,hK⟩
  ·rename_i x y hc h0 h1;exact AZs9 h hp0 ho hc h0 h1
  ·cases h
 ·rename_i t lo co ho;exact AZr9 h hp0 ho
 ·rename_i t x hi ho;exact AUy9 h hp0 ho
 ·rename_i t ax x ho;split at h<;>try (cases h;done)
  rename_i g ver off hax;split at h<;>try (cases h;done)
  rename_i i blk xs hi hg hxs;cases h;obtain ⟨hcc,hv,h2⟩:=hp0.elim';obtain ⟨hoff,hK⟩:=h2.elim';simp only [Zal,decide_eq_true_eq,Bool.not_eq_true'] at hcc hoff;exact ⟨_,BJn9 ho hi hax hxs hg hcc.1.1 hcc.1.2 hv hcc.2 hoff,hK⟩
 ·cases h
theorem BEx9 {K:RS→Prop} {p:Prop} (h:demC P s o K=some p) (hp0:p):∃T:RS→Prop,DemOk P o s T∧∀s',T s'→K s':=by
 unfold demC at h;split at h<;>try (cases h;done)
 rename_i op t x y ty ho;split at h<;>try (cases h;done)
 rename_i hn;split at h<;>try (cases h;done)
 all_goals
  rename_i k xs e hrows hu;cases h
 ·refine ⟨fun s'=>∃t:Bool,(t=true→xs= [])∧s'= {tm:=putA s.tm o.dst (.d (.s (.bool t))),hp:=s.hp,pv:=pvPut s.pv o.dst}, ?_, ?_⟩
  ·intro r S X yv w m B hv a K' Q hr hK;have h1:=AEv9 hrows (AAj9 hr x);have h2:=AAq9 hn (AAj9 hr y);obtain ⟨hl,hr',hpv⟩:=hr;obtain ⟨base,n,cap,hv1,hbb⟩:∃base n cap,a.eval x= .slice base n cap∧(base.isNone=true→xs= []):=by
    generalize a.eval x=v at h1;cases h1 with
    |nil=>exact ⟨_,_,_,rfl,fun _=>rfl⟩
    |sl=>exact ⟨_,_,_,rfl,fun h=>by cases h⟩
   obtain ⟨q1,q2,q3,q4⟩:=AHj9 hu base n cap x y w;have hexec:(execOp a.eval o).run P w= .ok (.value (.bool base.isNone)) w:=by
    unfold execOp;rw [ho];simp only [hv1,h2,Sem.run_bind];simp only [Sem.run_bind] at q1;rw [q1];rfl
   refine ABa9 (by simp [ho]) hexec (.inl rfl) ?_;exact Nx.of (hK _ ⟨base.isNone,hbb,rfl⟩) (Gs.refl S X none w m) hl (hr'.cons (x:= .d (.s (.bool base.isNone))) (v:= .bool base.isNone) (.d (.s _)) rfl) (AFf9 hpv _ _)
  ·rintro _ ⟨t,ht,rfl⟩;exact hp0 t ht
 ·refine ⟨fun s'=>∃t:Bool,(t=true→xs= [])∧s'= {tm:=putA s.tm o.dst (.d (.s (.bool !t))),hp:=s.hp,pv:=pvPut s.pv o.dst}, ?_, ?_⟩
  ·intro r S X yv w m B hv a K' Q hr hK;have h1:=AEv9 hrows (AAj9 hr x);have h2:=AAq9 hn (AAj9 hr y);obtain ⟨hl,hr',hpv⟩:=hr;obtain ⟨base,n,cap,hv1,hbb⟩:∃base n cap,a.eval x= .slice base n cap∧(base.isNone=true→xs= []):=by
    generalize a.eval x=v at h1;cases h1 with
    |nil=>exact ⟨_,_,_,rfl,fun _=>rfl⟩
    |sl=>exact ⟨_,_,_,rfl,fun h=>by cases h⟩
   obtain ⟨q1,q2,q3,q4⟩:=AHj9 hu base n cap x y w;have hexec:(execOp a.eval o).run P w= .ok (.value (.bool !base.isNone)) w:=by
    unfold execOp;rw [ho];simp only [hv1,h2,Sem.run_bind];simp only [Sem.run_bind] at q2;rw [q2];rfl
   refine ABa9 (by simp [ho]) hexec (.inl rfl) ?_;exact Nx.of (hK _ ⟨base.isNone,hbb,rfl⟩) (Gs.refl S X none w m) hl (hr'.cons (x:= .d (.s (.bool !base.isNone))) (v:= .bool !base.isNone) (.d (.s _)) rfl) (AFf9 hpv _ _)
  ·rintro _ ⟨t,ht,rfl⟩;exact hp0 t ht
theorem BIj9 {K:RS→Ev.β→Prop} {R:RS→Ev.β→Prop} {l:List Oper} (hX:X.Ok) (h:opC P X ops o s b K) (hK:∀s' b',K s' b'→wOps Ev ops l s' b' R):wOps Ev ops (o::l) s b R:=by
 unfold opC at h;rcases AMj9 h with ⟨hw0,h⟩|⟨hw,h⟩
 ·obtain ⟨s0,hfz,hgd,h⟩:=BEk9 h (ARt9 _ _ _);have hw:ABc9 ops o s0.tm=some true:=hgd _ hw0;refine ⟨s0,hfz, ?_⟩;split at h
  ·rename_i k args hc;split at h
   ·rename_i f hf;obtain ⟨hcl,h⟩:=h.elim';obtain ⟨x,hp,h⟩:=hX.call k f hf args _ h;exact .inr (.inl ⟨hw,k,args,hc, .inl ⟨hcl,x,hp,hK _ _ h⟩⟩)
   ·split at h
    ·rename_i f hf;obtain ⟨x,hp',hp,h⟩:=hX.scall k f hf args _ _ h;exact .inr (.inl ⟨hw,k,args,hc, .inr ⟨x,hp',hp,hK _ _ h⟩⟩)
    ·exact h.elim
  ·split at h
   ·rename_i args hy;obtain ⟨hcl,h⟩:=h.elim';rw [hX.y] at h;exact .inr (.inr (.inl ⟨hw,args,hy,hcl,Ev.Ymono h fun _ _ h=>hK _ _ h⟩))
   ·split at h
    ·rename_i p hpx;obtain ⟨T,he,h⟩:=BEx9 hpx h;exact .inr (.inr (.inr ⟨hw, .inl ⟨T,he,fun s' hs=>hK _ _ (h s' hs)⟩⟩))
    split at h
    ·rename_i p hpx;obtain ⟨s',he,h⟩:=BEu9 hpx h;exact .inr (.inr (.inr ⟨hw, .inl ⟨_,he.dem,fun s'' hs=>by subst hs;exact hK _ _ h⟩⟩))
    ·obtain ⟨s',hs,h⟩:=BAf9 h;exact .inl ⟨s',by rw [BAy9 hw];exact hs,hK _ _ h⟩
 ·exact ⟨s, .rfl, .inl ⟨_,by simp only [xStep,hw],hK _ _ h⟩⟩
theorem AIu9 (hX:X.Ok) {R:RS→Ev.β→Prop}:∀ {l:List Oper} {s:RS} {b:Ev.β} {K:RS→Ev.β→Prop},opsC P X ops l s b K→(∀s' b',K s' b'→R s' b')→wOps Ev ops l s b R
 | [],s,b,K,h,hK=>hK _ _ h
 |o::l,s,b,K,h,hK=>BIj9 hX h fun s' b' h=>AIu9 hX h hK
open Classical in
noncomputable def tblD (tb:Tbl):CallT:=
 ⟨fun d k args=>match tb.find? (fun t=>t.1==d) with
  |some t=>if t.2.1=k∧t.2.2.1=args then some t.2.2.2 else none
  |none=>none,fun _ _ _=>none⟩
theorem AVx9 {tb:Tbl} (h:∀t∈tb,PCall P t.2.1 t.2.2.1 t.2.2.2):AGy9 P (tblD tb):=by
 refine ⟨fun d f args r hr=> ?_,fun _ _ _ _ _ h=>by cases h⟩;simp only [tblD] at hr;split at hr<;>try (cases hr;done)
 rename_i t ht;split at hr<;>try (cases hr;done)
 rename_i hc;cases hr;have:=h t (List.mem_of_find?_eq_some ht);rw [hc.1,hc.2] at this;exact this
theorem ATt9 {call:CallT} {x:AV} (hw:ABc9 ops o tm=some true) (hx:xq P hp (evalA tm) o=some x):xp P call ops hp tm o=some x:=by
 unfold xp;rw [hw];simp only;split
 ·rename_i c ho;split
  ·rename_i f hc;simp [xq,ho,hc] at hx
  ·rename_i f hc;simp [xq,ho,hc] at hx
  ·exact hx
 ·exact hx
theorem AEc9:∀ {T:Tbl},(T.map (·.1)).Nodup→∀t∈T,T.find? (fun e=>e.1==t.1)=some t
 | [],_,t,h=>by cases h
 | e::T,hn,t,h=>by
  simp only [List.map_cons,List.nodup_cons] at hn;rcases Zbx.1 h with rfl|h
  ·simp
  ·have hne:¬e.1=t.1:=fun he=>hn.1 (he▸List.mem_map.2 ⟨t,h,rfl⟩);rw [List.find?_cons_of_neg (by simpa using hne)];exact AEc9 hn.2 t h
theorem ACm9 (hX:X.Ok):∀ {l:List Oper} {tm:List AV} {tb:Tbl} {K:List AV→Tbl→Prop},preC P X ops hp l tm tb K→
 ∃tmK tb',K tmK tb'∧(∀t∈tb,t∈tb')∧((∀t∈tb,PCall P t.2.1 t.2.2.1 t.2.2.2)→∀t∈tb',PCall P t.2.1 t.2.2.1 t.2.2.2)∧∀T:Tbl,(∀t∈tb',T.find? (fun e=>e.1==t.1)=some t)→xPre P (tblD T) ops hp l tm=some tmK
 | [],tm,tb,K,h=>⟨tm,tb,h,fun _ h=>h,fun h=>h,fun _ _=>rfl⟩
 | o::l,tm,tb,K,h=>by
  simp only [preC] at h;rcases AMj9 h with ⟨hw,h⟩|⟨hw,h⟩
  ·split at h
   ·rename_i k args hc;split at h
    ·rename_i f hf;obtain ⟨hcl,h⟩:=h.elim';obtain ⟨x,hpc,h⟩:=hX.call k f hf args _ h;obtain ⟨tmK,tb',h1,h2,h3,h4⟩:=ACm9 hX h;refine ⟨tmK,tb',h1,fun t ht=>h2 t (Zaw _ ht),fun hall=>h3 fun t ht=> ?_,fun T hT=> ?_⟩
     ·rcases Zbx.1 ht with rfl|ht
      ·exact hpc
      ·exact hall t ht
     ·have hf':=hT _ (h2 _ (Zbb ..));have hxp:xp P (tblD T) ops hp tm o=some x.view:=by
       unfold AMb9 at hc;split at hc<;>try (cases hc;done)
       rename_i c ho;split at hc<;>try (cases hc;done)
       rename_i f hcc;unfold xp;simp only [hw,ho,hcc,hc,hcl,if_true];simp only at hf';simp [tblD,hf']
      simp only [xPre,hxp];exact h4 T hT
    ·exact h.elim
   ·split at h
    ·rename_i k args hc;split at h
     ·rename_i f hf;obtain ⟨hcl,h⟩:=h.elim';obtain ⟨x,hpc,h⟩:=hX.call k f hf args _ h;obtain ⟨tmK,tb',h1,h2,h3,h4⟩:=ACm9 hX h;refine ⟨tmK,tb',h1,fun t ht=>h2 t (Zaw _ ht),fun hall=>h3 fun t ht=> ?_,fun T hT=> ?_⟩
      ·rcases Zbx.1 ht with rfl|ht
       ·exact hpc
       ·exact hall t ht
      ·have hf':=hT _ (h2 _ (Zbb ..));have hxp:xp P (tblD T) ops hp tm o=some x.view:=by
        unfold BMf9 at hc;split at hc<;>try (cases hc;done)
        rename_i c ho;split at hc<;>try (cases hc;done)
        rename_i ro name hcc;unfold xp;simp only [hw,ho,hcc,hc,hcl,if_true];simp only at hf';simp [tblD,hf']
       simp only [xPre,hxp];exact h4 T hT
     ·exact h.elim
    ·split at h
     ·rename_i t x y hpick;have hxq:xq P hp (evalA tm) o=some (if t then x else y):=by
       unfold pickO at hpick;split at hpick<;>try (cases hpick;done)
       rename_i c a b ho;split at hpick<;>try (cases hpick;done)
       rename_i t'' hc;cases hpick;simp [xq,ho,hc]
      have hs:=ARo9 hpick;rcases h.elim with ⟨rfl,h⟩|⟨rfl,h⟩<;>rw [hs] at h
      ·obtain ⟨tmK,tb',h1,h2,h3,h4⟩:=ACm9 hX h;exact ⟨tmK,tb',h1,h2,h3,fun T hT=>by simp only [xPre,ATt9 hw hxq];exact h4 T hT⟩
      ·obtain ⟨tmK,tb',h1,h2,h3,h4⟩:=ACm9 hX h;exact ⟨tmK,tb',h1,h2,h3,fun T hT=>by simp only [xPre,ATt9 hw hxq];exact h4 T hT⟩
     ·obtain ⟨x,hxq,h⟩:=AQx9 h;obtain ⟨tmK,tb',h1,h2,h3,h4⟩:=ACm9 hX h;exact ⟨tmK,tb',h1,h2,h3,fun T hT=>by simp only [xPre,ATt9 hw hxq];exact h4 T hT⟩
  ·obtain ⟨tmK,tb',h1,h2,h3,h4⟩:=ACm9 hX h;refine ⟨tmK,tb',h1,h2,h3,fun T hT=> ?_⟩;have:xp P (tblD T) ops hp tm o=some (.d (.s undef)):=by unfold xp;rw [hw]
   simp only [xPre,this];exact h4 T hT
def hdr (blk:Blk):Bool×Nat×Nat:=(blk.grow,blk.ver,blk.cells.length)
structure Sim (fp:List (Nat×Nat×Nat)) (ex:List Nat) (h h':List Blk):Prop where
 hd:∀g,g<h.length→g∉ex→(h'[g]?).map hdr=(h[g]?).map hdr
 ln:h.length≤h'.length
 same:∀(g:Nat) (blk blk':Blk) (i:Nat),g∉ex→h[g]? =some blk→h'[g]? =some blk'→BAi9 fp g i 1=true→blk'.cells[i]? =blk.cells[i]?
theorem Sim.refl (fp:List (Nat×Nat×Nat)) (ex:List Nat) (h:List Blk):Sim fp ex h h:=⟨fun _ _ _=>rfl,Zas _,fun g blk blk' i _ h1 h2 _=>by rw [h1] at h2;cases h2;rfl⟩
theorem Sim.widen {fp fp1:List (Nat×Nat×Nat)} {ex:List Nat} {h h':List Blk} (hs:Sim fp ex h h'):Sim (fp++fp1) ex h h':=
 ⟨hs.hd,hs.ln,fun g blk blk' i h0 h1 h2 h3=>hs.same g blk blk' i h0 h1 h2 (by simp only [BAi9,List.all_append,Zal] at h3;exact h3.1)⟩
theorem AGo9 {tm:List AV} {o:Oper} {l:List Oper} (h:∀t a x,o.op≠ .store t a x):ABs9 tm (o::l)=ABs9 tm l:=by
 simp only [ABs9]
theorem AIh9 {ex:List Nat} {l:List Oper} {tmF:List AV}:∀ {tm:List AV} {h0 h:List Blk} {sts:List (List AV×List Blk)},ACg9 P l tm h=some sts→(∀g∈appGs tmF l,g∈ex)→
 (∀(i:Nat) (o:Oper) (t:List AV) (hh:List Blk),l[i]? =some o→sts[i]? =some (t,hh)→∀y∈o.op.operands,evalA t y=evalA tmF y)→
 ∀fp0,Sim fp0 ex h0 h→∀st∈sts,Sim (fp0++ABs9 tmF l) ex h0 st.2∧(ADl9 l=false→st.2.length=h.length):=by
 induction l with
 | nil=>
  intro tm h0 h sts hx _ _ fp0 hs st hh;simp only [ACg9,Option.some.injEq] at hx;subst hx;rw [List.mem_singleton.1 hh];exact ⟨by simpa [ABs9] using hs,fun _=>rfl⟩
 | cons o l ih=>
  intro tm h0 h sts hx hex hev fp0 hs st hh;simp only [ACg9] at hx;split at hx<;>try (cases hx;done)
  rename_i xr h1 hl;simp only [Zaj] at hx;obtain ⟨sts',hx,rfl⟩:=hx;have hev':∀(i:Nat) (o:Oper) (t:List AV) (hh:List Blk),l[i]? =some o→sts'[i]? =some (t,hh)→∀y∈o.op.operands,evalA t y=evalA tmF y:=
   fun i o' t hh e1 e2=>hev (i+1) o' t hh (by simpa using e1) (by simpa using e2)
  have hex':∀g∈appGs tmF l,g∈ex:=fun g hg=>hex g (by
   unfold appGs;split<;>try exact hg
   split<;>try exact hg
   split<;>try exact hg
   exact Zaw _ hg)
  unfold xLate at hl;split at hl<;>try (cases hl;done)
  ·rename_i t a x ho hg hd;have ea:=hev 0 o tm h rfl rfl a (by simp [ho,Op.operands]);have ex':=hev 0 o tm h rfl rfl x (by simp [ho,Op.operands]);split at hl<;>try (cases hl;done)
   rename_i hown;split at hl<;>try (cases hl;done)
   rename_i xs hxs;simp only [Zaj,Prod.mk.injEq] at hl;obtain ⟨h2,hl,rfl,rfl⟩:=hl;unfold BAx9 at hl;split at hl<;>try (cases hl;done)
   rename_i i g off hi ha;split at hl<;>try (cases hl;done)
   rename_i blk hblk;split at hl<;>try (cases hl;done)
   rename_i hc;cases hl;have e:ABs9 tmF (o::l)=(g,off,xs.length)::ABs9 tmF l:=by simp only [ABs9,ho,←ea,←ex',ha,hxs]
   have hal:ADl9 (o::l)=ADl9 l:=by simp only [ADl9,ho]
   rw [e,hal];have hgl:g<h.length:=(Zaa.1 hblk).1;have hs1:Sim (fp0++ [(g,off,xs.length)]) ex h0 (h.set g {blk with cells:=blk.cells.take off++xs++blk.cells.drop (off+xs.length)}):=by
    refine ⟨fun g' hg' hge=> ?_,by rw [List.length_set];exact hs.ln,fun g' b0 b1 j hge e1 e2 e3=> ?_⟩
    ·rw [←hs.hd g' hg' hge];by_cases hgg:g'=g
     ·subst hgg;rw [List.getElem?_set_self hgl,hblk];have hlen:(blk.cells.take off++xs++blk.cells.drop (off+xs.length)).length=blk.cells.length:=by
       simp only [List.length_append,List.length_take,List.length_drop];have:=hc.2.2.2;omega
      simp only [Option.map_some,hdr,hlen]
     ·rw [List.getElem?_set_ne (Ne.symm hgg)]
    ·simp only [BAi9,List.all_append,Zal] at e3;obtain ⟨e3,e4⟩:=e3;by_cases hgg:g'=g
     ·subst hgg;rw [List.getElem?_set_self hgl] at e2;cases e2;simp only [List.all_cons,List.all_nil,Bool.and_true,bne_self_eq_false,Bool.false_or,Bool.or_eq_true,decide_eq_true_eq] at e4;rw [←hs.same g' b0 blk j hge e1 hblk e3];simp only;rcases e4 with e4|e4
      ·rw [Zao (by simp;omega),Zbm];congr 1;simp only [List.length_append,List.length_take];have:=hc.2.2.2;omega
      ·rw [List.append_assoc,Zan (by simp;have:=hc.2.2.2;omega),Zaq,if_pos (by omega)]
     ·rw [List.getElem?_set_ne (Ne.symm hgg)] at e2;exact hs.same g' b0 b1 j hge e1 e2 e3
   rcases Zbx.1 hh with rfl|hh
   ·exact ⟨hs.widen,fun _=>rfl⟩
   ·obtain ⟨h3,h4⟩:=ih hx hex' hev' _ hs1 st hh;exact ⟨by simpa using h3,fun ha=>by rw [h4 ha,List.length_set]⟩
  ·rename_i t d ho hg hd;split at hl<;>try (cases hl;done)
   rename_i xs hxs;simp only [Option.some.injEq,Prod.mk.injEq] at hl;obtain ⟨rfl,rfl⟩:=hl;have hal:ADl9 (o::l)=true:=by simp only [ADl9,ho]
   rw [AGo9 (fun t a x h=>by rw [ho] at h;cases h),hal];rcases Zbx.1 hh with rfl|hh
   ·exact ⟨hs.widen,fun h=>by cases h⟩
   ·have hs1:Sim fp0 ex h0 (h++ [⟨xs,false,false,0⟩]):=by
     have hln:=hs.ln;refine ⟨fun g hg hge=> ?_,by simp;omega,fun g b0 b1 j hge e1 e2 e3=> ?_⟩
     ·rw [Zan (by omega)];exact hs.hd g hg hge
     ·have hg:=(Zaa.1 e1).1;rw [Zan (by omega)] at e2;exact hs.same g b0 b1 j hge e1 e2 e3
    exact ⟨(ih hx hex' hev' _ hs1 st hh).1,fun h=>by cases h⟩
  ·rename_i c d ho hg hd;rw [AGo9 (fun t a x h=>by rw [ho] at h;cases h)];unfold AQq9 at hl;split at hl<;>try (cases hl;done)
   rename_i x y hc h0' h1';have hal:ADl9 (o::l)=true:=by simp only [ADl9,ho,hc]
   rw [hal];split at hl<;>try (cases hl;done)
   split at hl
   rotate_left
   ·split at hl<;>try (cases hl;done)
    split at hl<;>try (cases hl;done)
    rename_i y0 ys0 hys0;split at hl<;>try (cases hl;done)
    cases hl;rcases Zbx.1 hh with rfl|hh
    ·exact ⟨hs.widen,fun h=>by cases h⟩
    ·have hs1:Sim fp0 ex h0 (h++ [⟨flatA (y0::ys0),false,true,0⟩]):=by
      have hln:=hs.ln;refine ⟨fun g hg hge=> ?_,by simp;omega,fun g b0 b1 j hge e1 e2 e3=> ?_⟩
      ·rw [Zan (by omega)];exact hs.hd g hg hge
      ·have hg:=(Zaa.1 e1).1;rw [Zan (by omega)] at e2;exact hs.same g b0 b1 j hge e1 e2 e3
     exact ⟨(ih hx hex' hev' _ hs1 st hh).1,fun h=>by cases h⟩
   rename_i g ver n k hxg;split at hl<;>try (cases hl;done)
   rename_i blk ys hblk hys;split at hl<;>try (cases hl;done)
   cases hl;have hxm:x∈o.op.operands:=by
    rw [ho];show x∈c.operands;unfold Call.operands;exact Array.mem_append_right _ (Array.mem_of_getElem? h0')
   have hge:g∈ex:=by
    refine hex g ?_;unfold appGs;simp only [ho,h0',←hev 0 o tm h rfl rfl x hxm,hxg,AV.hd?];exact Zbb
   have hgl:g<h.length:=(Zaa.1 hblk).1;have hs1:Sim fp0 ex h0 (h.set g ⟨blk.cells++flatA ys,false,true,ver+1⟩):=by
    refine ⟨fun g' hg' hne=> ?_,by rw [List.length_set];exact hs.ln,fun g' b0 b1 j hne e1 e2 e3=> ?_⟩
    ·have hgg:¬g'=g:=fun e=>hne (e▸hge);rw [List.getElem?_set_ne (Ne.symm hgg)];exact hs.hd g' hg' hne
    ·have hgg:¬g'=g:=fun e=>hne (e▸hge);rw [List.getElem?_set_ne (Ne.symm hgg)] at e2;exact hs.same g' b0 b1 j hne e1 e2 e3
   rcases Zbx.1 hh with rfl|hh
   ·exact ⟨hs.widen,fun h=>by cases h⟩
   ·exact ⟨(ih hx hex' hev' _ hs1 st hh).1,fun h=>by cases h⟩
  ·split at hl<;>try (cases hl;done)
   rename_i hq;simp only [Zaj,Prod.mk.injEq] at hl;obtain ⟨x',_,rfl,rfl⟩:=hl;have hal:ADl9 (o::l)=ADl9 l:=by
    unfold lateQ at hq;split at hq<;>first|exact absurd hq Bool.false_ne_true|(rename_i ho hg;simp only [ADl9,ho])
   have hns:∀t a x,o.op≠ .store t a x:=by
    intro t a x he;unfold lateQ at hq;rw [he] at hq;cases hq
   rw [AGo9 hns,hal];rcases Zbx.1 hh with rfl|hh
   ·exact ⟨hs.widen,fun _=>rfl⟩
   ·exact ih hx hex' hev' _ hs st hh
end
section
variable {P:Program} {h h':List Blk} {tm:List AV} {o:Oper} {ops:Array Oper} {fp:List (Nat×Nat×Nat)} {ex:List Nat}
theorem Sim.cases (hs:Sim fp ex h h') (g:Nat) (hg:g<h.length∨h'.length=h.length) (hge:g∉ex):(h[g]? =none∧h'[g]? =none)∨∃b b',h[g]? =some b∧h'[g]? =some b'∧b'.grow=b.grow∧b'.ver=b.ver∧b'.cells.length=b.cells.length:=by
 cases h1:h[g]? with
 | none=>
  have h2:h.length≤g:=List.getElem?_eq_none_iff.1 h1;exact .inl ⟨rfl,List.getElem?_eq_none (by omega)⟩
 | some b=>
  have:=hs.hd g (Zaa.1 h1).1 hge;rw [h1] at this;simp only [Option.map_some,Zaj] at this;obtain ⟨b',h2,h3⟩:=this;simp only [hdr,Prod.mk.injEq] at h3;exact .inr ⟨b,b',rfl,h2,h3⟩
def LowIn (ex:List Nat) (h h':List Blk) (a:AV):Prop:=(a.low h.length=true∨h'.length=h.length)∧∀g,a.hd? =some g→g∉ex
theorem BJw9 (h h':List Blk) (x:Dv):ADc9 h' (.d x)=ADc9 h (.d x):=by
 cases x with
 | s v=>
  cases v<;>try rfl
  rename_i oa;cases oa<;>rfl
 |sl k xs=>rfl
 |pt cs=>rfl
 |fn f0 ds0=>rfl
theorem BBy9 (h h':List Blk) (x:Dv) (n:Nat):ABt9 h' (.d x) n=ABt9 h (.d x) n:=by
 cases x with
 | s v=>
  cases v<;>try rfl
  rename_i oa;cases oa<;>rfl
 |sl k xs=>rfl
 |pt cs=>rfl
 |fn f0 ds0=>rfl
theorem ALo9 (hs:Sim fp ex h h') (a:AV) (ha:LowIn ex h h' a) (n:Nat):ABt9 h' a n=ABt9 h a n:=by
 cases a<;>first|exact BBy9 _ _ _ _|simp only [ABt9]
 ·rename_i g off;rcases hs.cases g (ha.1.imp (fun h=>by simpa [AV.low] using h) id) (ha.2 g rfl) with ⟨h1,h2⟩|⟨b,b',h1,h2,h3,h4,h5⟩
  ·simp only [h1,h2]
  ·simp only [h1,h2,h3]
 ·rename_i g v off;rcases hs.cases g (ha.1.imp (fun h=>by simpa [AV.low] using h) id) (ha.2 g rfl) with ⟨h1,h2⟩|⟨b,b',h1,h2,h3,h4,h5⟩
  ·simp only [h1,h2]
  ·simp only [h1,h2,h3,h4]
theorem ASo9 (hs:Sim fp ex h h') (t:TypeId) (a:AV) (ha:LowIn ex h h' a) (f:Nat):AEr9 P h' t a f=AEr9 P h t a f:=by
 unfold AEr9;simp only [ALo9 hs a ha]
theorem ASh9 (hs:Sim fp ex h h') (t:TypeId) (a ix:AV) (ha:LowIn ex h h' a):ADh9 P h' t a ix=ADh9 P h t a ix:=by
 unfold ADh9;simp only [ALo9 hs a ha];split<;>try rfl
 split<;>try rfl
 cases a<;>try rfl
 rename_i g v l k;simp only;rcases hs.cases g (ha.1.imp (fun h=>by simpa [AV.low] using h) id) (ha.2 g rfl) with ⟨h1,h2⟩|⟨b,b',h1,h2,h3,h4,h5⟩
 ·simp only [h1,h2]
 ·simp only [h1,h2,h3,h4]
theorem BVy9 (hs:Sim fp ex h h') (a:AV) (ha:LowIn ex h h' a):a.len? h'=a.len? h:=by
 cases a;case gref g v l k=>
  simp only [AV.len?];rcases hs.cases g (ha.1.imp (fun h=>by simpa [AV.low] using h) id) (ha.2 g rfl) with ⟨h1,h2⟩|⟨b,b',h1,h2,h3,h4,h5⟩
  ·simp only [h1,h2]
  ·simp only [h1,h2,h3,h4]
 all_goals first|rfl|(rename_i x;cases x<;>rfl)
theorem BHi9 (hs:Sim fp ex h h') (t:TypeId) (x:AV) (ha:LowIn ex h h' x) (lo hi mx:Option AV):APg9 P h' t x lo hi mx=APg9 P h t x lo hi mx:=by
 unfold APg9;split<;>try rfl
 split<;>try rfl
 cases x<;>try rfl
 rename_i g off;simp only;rcases hs.cases g (ha.1.imp (fun h=>by simpa [AV.low] using h) id) (ha.2 g rfl) with ⟨h1,h2⟩|⟨b,b',h1,h2,h3,h4,h5⟩
 ·simp only [h1,h2]
 ·simp only [h1,h2,h3,h5]
theorem BQi9 (hs:Sim fp ex h h') (t:TypeId) (a:AV) (ha0:LowIn ex h h' a) (hf:∀g off,a= .ptr g off→∀i,P.info? t=some i→BAi9 fp g off (max i.size 1)=true) (hg:∀g v off,a≠ .gptr g v off):xLoad P h' t a=xLoad P h t a:=by
 unfold xLoad;cases a<;>try rfl
 ·rw [BJw9 h h']
 ·rename_i g off;simp only [ADc9];rcases hs.cases g (ha0.1.imp (fun h=>by simpa [AV.low] using h) id) (ha0.2 g rfl) with ⟨h1,h2⟩|⟨b,b',h1,h2,h3,h4,h5⟩
  ·simp only [h1,h2]
  ·simp only [h1,h2,h3];cases hgr:b.grow
   ·simp only [Bool.false_eq_true,if_false];unfold ANl9;cases hi:P.info? t with
    |none=>rfl
    | some i=>
     simp only;have ha:=hf g off rfl i hi;have hcell:∀j,j<max i.size 1→(b'.cells.drop off)[j]? =(b.cells.drop off)[j]? :=by
      intro j hj;simp only [Zbm];refine hs.same g b b' (off+j) (ha0.2 g rfl) h1 h2 ?_;simp only [BAi9,Zav,Bool.or_eq_true,bne_iff_ne,decide_eq_true_eq] at ha ⊢;intro q hq;rcases ha q hq with (h6|h6)|h6
      ·exact .inl (.inl h6)
      ·exact .inl (.inr (by omega))
      ·exact .inr (by omega)
     have hlen:(b'.cells.drop off).length=(b.cells.drop off).length:=by simp [h5]
     have htake:(b'.cells.drop off).take i.size=(b.cells.drop off).take i.size:=by
      apply List.ext_getElem?;intro j;simp only [Zaq];split
      ·exact hcell j (by omega)
      ·rfl
     rw [hlen,htake,hcell 0 (by omega)]
   ·simp only [if_true]
 ·exact absurd rfl (hg _ _ _)
theorem BYj9 (hs:Sim fp ex h h') (hl:lowB h.length tm o=true∨h'.length=h.length) (hf:BJe9 P tm fp o=true) (hav:BKq9 ex tm o=true):xq P h' (evalA tm) o=xq P h (evalA tm) o:=by
 have hlo:∀x∈o.op.operands,(ex.isEmpty=true∨∀x∈o.op.operands.toList,(match (evalA tm x).hd? with|some g=> !ex.contains g|none=>true)=true)→LowIn ex h h' (evalA tm x):=fun x hx hv=>⟨hl.imp (fun h=>by
  unfold lowB at h;exact Zav.1 h x (by simpa using hx)) id,fun g hg hge=>by
  rcases hv with hv|hv
  ·rw [List.isEmpty_iff.1 hv] at hge;cases hge
  ·have:=hv x (by simpa using hx);rw [hg] at this;simp only [Bool.not_eq_true'] at this;rw [List.contains_iff_mem.2 hge] at this;cases this⟩
 unfold BJe9 at hf;unfold BKq9 at hav;unfold xq;split<;>try rfl
 ·rename_i t a ho;simp only [ho,Bool.or_eq_true,Zav] at hf hav;refine BQi9 hs t _ (hlo a (by simp [ho,Op.operands]) (by rw [ho];exact hav)) (fun g off he i hi=> ?_) (fun g v off he=> ?_)
  ·rw [he] at hf;simp only [hi] at hf;exact hf
  ·rw [he] at hf;cases hf
 ·rename_i t x lo hi mx ho;simp only [ho,Bool.or_eq_true,Zav] at hav;simp only [BHi9 hs t _ (hlo x (by simp [ho,Op.operands]) (by rw [ho];exact hav))]
 ·rename_i t x f ho;simp only [ho,Bool.or_eq_true,Zav] at hav;simp only [ASo9 hs t _ (hlo x (by simp [ho,Op.operands]) (by rw [ho];exact hav))]
 ·rename_i t x ix ho;simp only [ho,Bool.or_eq_true,Zav] at hav;simp only [ASh9 hs t _ _ (hlo x (by simp [ho,Op.operands]) (by rw [ho];exact hav))]
 ·rename_i c ho;split<;>try rfl
  rename_i hcb;split<;>try rfl
  rename_i x hx;split<;>try rfl
  simp only [ho,hcb,Bool.or_eq_true,Zav] at hav;have hmem:x∈o.op.operands:=by
   rw [ho];have:=Array.mem_of_getElem? hx;show x∈c.operands;unfold Call.operands;exact Array.mem_append_right _ this
  simp only [xLen,BVy9 hs _ (hlo x hmem (by rw [ho];exact hav))]
theorem BSu9 {call:CallT} (hs:Sim fp ex h h') (hl:lowB h.length tm o=true∨h'.length=h.length) (hf:BJe9 P tm fp o=true) (hav:BKq9 ex tm o=true):xp P call ops h' tm o=xp P call ops h tm o:=by
 unfold xp;simp only [BYj9 hs hl hf hav]
theorem AJf9:∀ {l:List Oper} {tm:List AV} {h:List Blk} {sts:List (List AV×List Blk)} (i:Nat),ACg9 P l tm h=some sts→ACg9 P (l.take i) tm h=some (sts.take (i+1))
 | [],tm,h,sts,i,hx=>by simp only [ACg9,Option.some.injEq] at hx;subst hx;simp [ACg9]
 | o::l,tm,h,sts,i,hx=>by
  simp only [ACg9] at hx;split at hx<;>try (cases hx;done)
  rename_i x h1 hl;simp only [Zaj] at hx;obtain ⟨sts',hx,rfl⟩:=hx;cases i with
  |zero=>simp [ACg9]
  |succ i=>simp only [List.take_succ_cons,ACg9,hl,AJf9 i hx,Option.map_some]
theorem AJz9 (tm:List AV) (o:Oper) (l:List Oper):ABs9 tm (o::l)=ABs9 tm [o]++ABs9 tm l:=by
 simp only [ABs9];split
 ·split<;>rfl
 ·rfl
theorem ALl9 {tm:List AV} {o:Oper} {q:Nat×Nat×Nat} (hq:q∈ABs9 tm [o]):∀ {l:List Oper},o∈l→q∈ABs9 tm l
 | [],h=>by cases h
 | x::l,h=>by
  rw [AJz9];rcases Zbx.1 h with rfl|h
  ·exact Zbc _ hq
  ·exact List.mem_append_right _ (ALl9 hq h)
theorem AHy9 {tm:List AV} {l':List Oper}:∀ {l:List Oper},(∀o∈l,o∈l')→∀q∈ABs9 tm l,q∈ABs9 tm l'
 | [],h,q,hq=>by simp [ABs9] at hq
 | x::l,h,q,hq=>by
  rw [AJz9] at hq;rcases Zco.1 hq with hq|hq
  ·exact ALl9 hq (h x Zbb)
  ·exact AHy9 (fun o ho=>h o (Zaw _ ho)) q hq
theorem AFx9 (tm:List AV):∀(l:List Oper) (i g:Nat),g∈appGs tm (l.take i)→g∈appGs tm l
 | [],i,g,h=>by simpa using h
 |o::l,0,g,h=>by simp [appGs] at h
 | o::l,i+1,g,h=>by
  rw [List.take_succ_cons] at h;unfold appGs at h ⊢;split at h
  ·split at h
   ·split at h
    ·rcases Zbx.1 h with rfl|h
     ·exact Zbb
     ·exact Zaw _ (AFx9 tm l i g h)
    ·exact AFx9 tm l i g h
   ·exact AFx9 tm l i g h
  ·exact AFx9 tm l i g h
theorem Sim.sub {fp fp':List (Nat×Nat×Nat)} {h h':List Blk} (hs:Sim fp ex h h') (hf:∀q∈fp,q∈fp'):Sim fp' ex h h':=
 ⟨hs.hd,hs.ln,fun g blk blk' i h0 h1 h2 h3=>hs.same g blk blk' i h0 h1 h2 (Zav.2 fun q hq=>Zav.1 h3 q (hf q hq))⟩
theorem AGt9 {k:Nat}:∀ {m n:Nat},findN ops k m=some n→AAz9 ops k n=true
 |0,n,h=>by simp [findN] at h
 | m+1,n,h=>by
  simp only [findN] at h;split at h
  ·rename_i h1;cases h;exact h1
  ·exact AGt9 h
end
section
variable {P:Program} {hp hp':List Blk} {tm tm':List AV} {ops:Array Oper} {Ev:Env P} {X:CX Ev.β} {b:Ev.β}
theorem AFb9 {k:Nat} (hX:X.Ok) (hk:ASr9 ops k=true) {K:List AV→List Blk→Ev.β→Prop} {Q:Exit→St Ev.β→Prop} (h:AOg9 P X ops k tm hp b K) (hq:∀tm' hp' b',K tm' hp' b'→Q .normal ⟨tm',hp',b'⟩):
 WA Ev ops ⟨tm,hp,b⟩ Q:=by
 unfold AOg9 at h;split at h
 ·rename_i hks;obtain ⟨tmK,tb,h1,h2,h3,h4⟩:=ACm9 hX h;split at h1
  ·rename_i hnd;exact WA.draw (s:=⟨tm,hp,b⟩) k (tblD tb) (AVx9 (h3 (by simp))) hk hks (h4 tb (AEc9 hnd)) (AIu9 hX h1 fun s' b' h=>hq _ _ _ h)
  ·exact h1.elim
 ·exact h.elim
theorem appOk (P:Program):AppOk P:=by
 intro o c tm hp hp' x ho hk h;unfold AQq9 at h;split at h<;>try (cases h;done)
 rename_i x' y hc h0 h1;split at h<;>try (cases h;done)
 rename_i e i hinf;split at h
 ·rename_i g ver n k hx;split at h<;>try (cases h;done)
  rename_i blk ys hg hys;split at h<;>try (cases h;done)
  rename_i hcc;cases h;simp only [Zal,decide_eq_true_eq,Bool.not_eq_true'] at hcc;obtain ⟨⟨⟨hsz,rfl⟩,hgr⟩,hf⟩:=hcc;unfold lateK at hk;simp only [ho,h0,h1,hinf,hx,hg,hys] at hk;exact ASp9 (s:=⟨tm,hp, []⟩) ho hc hsz h0 h1 hinf hx hys hg hgr hk.1 hf hk.2.1
 ·rename_i ax hax;split at h<;>try (cases h;done)
  rename_i hnil;split at h<;>try (cases h;done)
  rename_i y0 ys hys;split at h<;>try (cases h;done)
  rename_i hsz;cases h;have hfit:(y0::ys).length*i.bytes≤140737488355328:=by
   unfold lateK at hk;simp only [ho,h0,h1,hinf] at hk;split at hk
   ·simp only [hys] at hk;exact hk.1
   ·rename_i hn;exact absurd hnil hn
  exact AXn9 (s:=⟨tm,hp, []⟩) ho hc hsz h0 h1 hinf (.inl hnil) hys (by simp) hfit
theorem ASj9 {q n:Nat} {call:CallT} {tmK tmF:List AV} {hpn:List Blk} {sts:List (List AV×List Blk)} (hn:AAz9 ops q n=true) (hks:q+n≤ops.size) (hlates:ACg9 P ((ops.toList.drop q).take n) tmK hp=some sts) (hlast:sts[n]? =some (tmF,hpn))
 (hfr:AQc9 P hp.length tmK tmF (ops.toList.take q) ((ops.toList.drop q).take n)=true) (i:Nat) (t:List AV) (h':List Blk) (hh:sts[i]? =some (t,h')) (j:Nat) (o:Oper) (hj:j<q) (ho:ops[j]? =some o) (hne:∀(i':Nat) (o':Oper),i'<i→ops[q+i']? =some o'→j∉AAp9 o'):
 xp P call ops h' tmK o=xp P call ops hp tmK o:=by
 obtain ⟨sl1,sl2,sl3⟩:=ABw9 hlates;obtain ⟨L1,L2⟩:=AQa9 hn hks hlates hlast;have hedges:∀(i:Nat) (o:Oper),ops[i]? =some o→(∀j∈AAp9 o,j<i):=fun i o ho=>(ADn9 hn ho).1;have hev:∀(i:Nat) (o:Oper) (t:List AV) (hh:List Blk),((ops.toList.drop q).take n)[i]? =some o→sts[i]? =some (t,hh)→∀y∈o.op.operands,evalA t y=evalA tmF y:=by
  intro i o t hh e1 e2;rw [Zaq] at e1;split at e1<;>try (cases e1;done)
  rename_i hin;rw [Zbm] at e1;have ho:ops[q+i]? =some o:=by simpa using e1
  exact AFs9 (o:=o) (ops:=ops) (tm:=t) (tm':=tmF) fun x hx=>AEb9 (L2 i t hh e2 (by omega) x fun j' o' hj' hjn ho' hd'=>by
   have h3:=(ADn9 hn ho).2.1 (by omega) x hx (q+j') o' (by omega) ho' hd';have:=hedges _ o ho _ h3;omega)
 have hin:i≤n:=by
  have h1:=(Zaa.1 hh).1;have h2:((ops.toList.drop q).take n).length≤n:=List.length_take_le _ _;omega
 have ho':(ops.toList.take q)[j]? =some o:=by rw [Zaq,if_pos hj];simpa using ho
 have hfj:=Zav.1 hfr j (List.mem_range.2 (Zaa.1 ho').1);rw [ho'] at hfj;simp only [Zal,Bool.or_eq_true,Bool.not_eq_true'] at hfj;have hsimA:=AIh9 (ex:=appGs tmF ((ops.toList.drop q).take n)) hlates (fun _ h=>h) hev [] (Sim.refl _ _ _) (t,h') (Zbi hh);have hsim:=AIh9 (ex:=appGs tmF ((ops.toList.drop q).take n)) (AJf9 i hlates) (fun g hg=>AFx9 _ _ _ _ hg) (fun i' o t hh e1 e2=>by
  rw [Zaq] at e1 e2;split at e1<;>try (cases e1;done)
  split at e2<;>try (cases e2;done)
  exact hev i' o t hh e1 e2) [] (Sim.refl _ _ _) (t,h') (Zbi (i:=i) (by rw [Zaq,if_pos (by omega)];exact hh))
 simp only [List.nil_append] at hsim;refine BSu9 (hsim.1.sub (AHy9 fun o' ho'=> ?_)) ?_ hfj.1.1 hfj.2
 ·obtain ⟨i',hi'⟩:=Zak.1 ho';rw [Zaq] at hi';split at hi'<;>try (cases hi';done)
  rename_i hlt;refine List.mem_filter.2 ⟨Zbi hi', ?_⟩;rw [Zaq] at hi';split at hi'<;>try (cases hi';done)
  rw [Zbm] at hi';have:=hne i' o' hlt (by simpa using hi');simpa using this
 ·rcases hfj.1.2 with h5|h5
  ·exact .inr (hsimA.2 h5)
  ·exact .inl h5
theorem ANs9 {k:Nat} (hX:X.Ok) {K:List AV→List Blk→Ev.β→Prop} {Q:Exit→St Ev.β→Prop} (h:AQb9 P X ops k tm hp b K) (hq:∀tm' hp' b',K tm' hp' b'→Q .normal ⟨tm',hp',b'⟩):
 WA Ev ops ⟨tm,hp,b⟩ Q:=by
 unfold AQb9 at h;split at h
 ·rename_i hok;simp only [BMd9,Zal,Zav,List.mem_range,Bool.or_eq_true] at hok;obtain ⟨c1,c2,c3,c4,c5,c6,c7,c8,c9⟩:=hok;have c1:=Nat.le_of_ble_eq_true c1;have c2:=AOh9 c2;have hgd:∀(j:Nat) (o:Oper),ops[j]? =some o→o.guard=none:=fun j o ho=>by
   have:=c7 j (Zah.1 ho).1;rw [ho] at this;simpa using this
  have sz2:(AAv9 (swN k ops.size) (addE k (k+1) ops)).size=ops.size:=by rw [ADs9,c2.len,ABm9]
  obtain ⟨tmK,tb,h1,h2,h3,h4⟩:=ACm9 hX h;split at h1
  ·rename_i hnd;split at h1
   ·rename_i sts1 sts2 hls1 hls2;split at h1
    ·rename_i st1 st2 hlast1 hlast2;obtain ⟨h1,hlk1⟩:=AEo9 hls1 h1;obtain ⟨h1,hlk2⟩:=AEo9 hls2 h1;obtain ⟨hb,etm,ehp,hK⟩:=h1.elim';obtain ⟨tmF1,hpn1⟩:=st1;obtain ⟨tmF2,hpn2⟩:=st2;simp only [Zal] at hb;obtain ⟨b1,b2,b3,b4,b5⟩:=hb;have hx1:=h4 tb (AEc9 hnd);have etake:(AAv9 (swN k ops.size) (addE k (k+1) ops)).toList.take k=((addE (k+1) k ops).toList.take k).map (renum (swN k ops.size)):=by
      apply List.ext_getElem?;intro j;rw [List.getElem?_map,Zaq,Zaq];split
      ·rename_i hj;have hjl:j<ops.size:=by omega
       have e1:(AAv9 (swN k ops.size) (addE k (k+1) ops))[posOf j (swN k ops.size)]? =some (renum (swN k ops.size) ops[j]):=c2.get (by rw [ANe9 (by omega)];simp [hjl]);rw [Nat.eq_of_beq_eq_true (c5 j hj)] at e1;have e2:(addE (k+1) k ops)[j]? =some ops[j]:=by rw [ANe9 (by omega)];simp [hjl]
       simp only [Array.getElem?_toList];rw [e1,e2];rfl
      ·rfl
     have hx2:xPre P (tblD tb) (AAv9 (swN k ops.size) (addE k (k+1) ops)) hp ((AAv9 (swN k ops.size) (addE k (k+1) ops)).toList.take k) tm=some tmK:=by
      rw [etake,AQp9 (ops:=addE (k+1) k ops)]
      ·exact hx1
      ·intro o ho;obtain ⟨j,hj⟩:=Zak.1 (List.mem_of_mem_take ho);simp only [Array.getElem?_toList] at hj;obtain ⟨o0,ho0,rfl⟩:=AVk9 hj;have:=hgd j o0 ho0;split<;>exact this
     exact WA.late2 (s:=⟨tm,hp,b⟩) (k:=k) (n:=ops.size - k) (tblD tb) (appOk P) (AVx9 (h3 (by simp))) c2 (Nat.eq_of_beq_eq_true c3) (Nat.eq_of_beq_eq_true c4) (fun j hj=>Nat.eq_of_beq_eq_true (c5 j hj))
      (fun j h1 h2=>by
       rcases c6 j h2 with h|h
       ·have:=Nat.le_of_ble_eq_true h;omega
       ·exact Nat.eq_of_beq_eq_true h) hgd (by omega) (by omega) c8 c9 hls1 hls2 hlk1 hlk2 hx1 hx2
      (fun i t h' hh j o hj ho hne=>ASj9 c8 (by rw [ABm9];omega) hls1 hlast1 b1 i t h' hh j o hj ho hne)
      (fun i t h' hh j o hj ho hne=>ASj9 c9 (by rw [sz2];omega) hls2 hlast2 b2 i t h' hh j o hj ho hne)
      hlast1 hlast2 (Nat.eq_of_beq_eq_true b3) b4 b5 etm ehp (hq _ _ _ hK)
    ·exact h1.elim
   ·exact h1.elim
  ·exact h1.elim
 ·exact h.elim
theorem ACa9 {q n:Nat} (hX:X.Ok) (hn:AAz9 ops q n=true) {K:List AV→List Blk→Ev.β→Prop} {Q:Exit→St Ev.β→Prop} (h:AGj9 P X ops q n tm hp b K) (hq:∀tm' hp' b',K tm' hp' b'→Q .normal ⟨tm',hp',b'⟩):
 WA Ev ops ⟨tm,hp,b⟩ Q:=by
 unfold AGj9 at h;split at h
 ·rename_i hks;obtain ⟨tmK,tb,h1,h2,h3,h4⟩:=ACm9 hX h;split at h1
  ·rename_i hnd;split at h1
   ·rename_i sts hlates;split at h1
    ·rename_i st hlast;obtain ⟨h1,hlk⟩:=AEo9 hlates h1;obtain ⟨hfr,h1⟩:=h1.elim';obtain ⟨tmF,hpn⟩:=st;obtain ⟨sl1,sl2,sl3⟩:=ABw9 hlates;obtain ⟨L1,L2⟩:=AQa9 hn hks hlates hlast;have hedges:∀(i:Nat) (o:Oper),ops[i]? =some o→(∀j∈AAp9 o,j<i):=fun i o ho=>(ADn9 hn ho).1;have hev:∀(i:Nat) (o:Oper) (t:List AV) (hh:List Blk),((ops.toList.drop q).take n)[i]? =some o→sts[i]? =some (t,hh)→∀y∈o.op.operands,evalA t y=evalA tmF y:=by
      intro i o t hh e1 e2;rw [Zaq] at e1;split at e1<;>try (cases e1;done)
      rename_i hin;rw [Zbm] at e1;have ho:ops[q+i]? =some o:=by simpa using e1
      exact AFs9 (o:=o) (ops:=ops) (tm:=t) (tm':=tmF) fun x hx=>AEb9 (L2 i t hh e2 (by omega) x fun j' o' hj' hjn ho' hd'=>by
       have h3:=(ADn9 hn ho).2.1 (by omega) x hx (q+j') o' (by omega) ho' hd';have:=hedges _ o ho _ h3;omega)
     refine WA.late (s:=⟨tm,hp,b⟩) q n (tblD tb) (appOk P) (AVx9 (h3 (by simp))) hn hks hlates hlk (h4 tb (AEc9 hnd)) (fun i t h' hh j o hj ho hne=> ?_) hlast (AIu9 hX h1 fun s' b' h=>hq _ _ _ h);have ho':(ops.toList.take q)[j]? =some o:=by rw [Zaq,if_pos hj];simpa using ho
     have hfj:=Zav.1 hfr j (List.mem_range.2 (Zaa.1 ho').1);rw [ho'] at hfj;simp only [Zal,Bool.or_eq_true,Bool.not_eq_true'] at hfj;have hsimA:=AIh9 (ex:=appGs tmF ((ops.toList.drop q).take n)) hlates (fun _ h=>h) hev [] (Sim.refl _ _ _) (t,h') (Zbi hh);have hsim:=AIh9 (ex:=appGs tmF ((ops.toList.drop q).take n)) (AJf9 i hlates) (fun g hg=>AFx9 _ _ _ _ hg) (fun i' o t hh e1 e2=>by
      rw [Zaq] at e1 e2;split at e1<;>try (cases e1;done)
      split at e2<;>try (cases e2;done)
      exact hev i' o t hh e1 e2) [] (Sim.refl _ _ _) (t,h') (Zbi (i:=i) (by rw [Zaq,if_pos (by omega)];exact hh))
     simp only [List.nil_append] at hsim;refine BSu9 (hsim.1.sub (AHy9 fun o' ho'=> ?_)) ?_ hfj.1.1 hfj.2
     ·obtain ⟨i',hi'⟩:=Zak.1 ho';rw [Zaq] at hi';split at hi'<;>try (cases hi';done)
      rename_i hlt;refine List.mem_filter.2 ⟨Zbi hi', ?_⟩;rw [Zaq] at hi';split at hi'<;>try (cases hi';done)
      rw [Zbm] at hi';have:=hne i' o' hlt (by simpa using hi');simpa using this
     ·rcases hfj.1.2 with h5|h5
      ·exact .inr (hsimA.2 h5)
      ·exact .inl h5
    ·exact h1.elim
   ·exact h1.elim
  ·exact h1.elim
 ·exact h.elim
theorem AVa9 (hX:X.Ok) {K:List AV→List Blk→Ev.β→Prop} {Q:Exit→St Ev.β→Prop} (h:BRd9 P X ops tm hp b K) (hq:∀tm' hp' b',K tm' hp' b'→Q .normal ⟨tm',hp',b'⟩):
 WA Ev ops ⟨tm,hp,b⟩ Q:=by
 unfold BRd9 at h;split at h
 ·rename_i k hk;exact AFb9 hX (AGu9 hk) h hq
 ·split at h
  ·rename_i n hn;exact ACa9 hX (AGt9 hn) h hq
  ·split at h
   ·rename_i k hk;exact AFb9 hX (AGu9 hk) h hq
   ·split at h
    ·rename_i n hn;exact ACa9 hX (AGt9 hn) h hq
    ·split at h
     ·rename_i k hk;exact AFb9 hX (AGu9 hk) h hq
     ·split at h
      ·rename_i n hn;exact ACa9 hX (AGt9 hn) h hq
      ·exact h.elim
theorem AJv9 (hX:X.Ok) {K:List AV→List Blk→Ev.β→Prop} {Q:Exit→St Ev.β→Prop} (h:drawC P X ops tm hp b K) (hq:∀tm' hp' b',K tm' hp' b'→Q .normal ⟨tm',hp',b'⟩):
 WA Ev ops ⟨tm,hp,b⟩ Q:=by
 unfold drawC at h;split at h
 ·split at h
  ·rename_i k hk;exact AFb9 hX (AGu9 hk) h hq
  ·exact h.elim
 ·split at h
  ·rename_i hg;simp only [Zal] at hg;exact ACa9 hX hg.2 h hq
  ·exact AVa9 hX h hq
theorem AMm9 {ops:Array Oper}:∀ {m k n:Nat},findL ops m=some (k,n)→AAz9 ops k n=true
 |0,k,n,h=>by simp [findL] at h
 | m+1,k,n,h=>by
  simp only [findL] at h;split at h
  ·rename_i n' hn;cases h;exact AGt9 hn
  ·exact AMm9 h
theorem AZt9 (hX:X.Ok) {K:List AV→List Blk→Ev.β→Prop} {Q:Exit→St Ev.β→Prop} (h:drawQ P X ops tm hp b K) (hq:∀tm' hp' b',K tm' hp' b'→Q .normal ⟨tm',hp',b'⟩):
 WA Ev ops ⟨tm,hp,b⟩ Q:=by
 unfold drawQ at h;split at h
 ·exact AJv9 hX h hq
 ·split at h
  ·rename_i k n hk;exact ACa9 hX (AMm9 hk) h hq
  ·exact ANs9 hX h hq
theorem AZu9 (hX:X.Ok) {K:List AV→List Blk→Ev.β→Prop} {Q:Exit→St Ev.β→Prop} (h:drawL P X ops tm hp b K) (hq:∀tm' hp' b',K tm' hp' b'→Q .normal ⟨tm',hp',b'⟩):
 WA Ev ops ⟨tm,hp,b⟩ Q:=by
 unfold drawL at h;split at h
 ·rename_i hg;exact ACa9 hX hg h hq
 ·split at h
  ·rename_i k n hk;exact ACa9 hX (AMm9 hk) h hq
  ·exact AJv9 hX h hq
theorem AOv9 (hX:X.Ok) {K:List AV→List Blk→Ev.β→Prop} {Q:Exit→St Ev.β→Prop} (h:drawP P X ops tm hp b K) (hq:∀tm' hp' b',K tm' hp' b'→Q .normal ⟨tm',hp',b'⟩):
 WA Ev ops ⟨tm,hp,b⟩ Q:=by
 unfold drawP at h;split at h
 ·split at h
  ·rename_i hp;exact WA.perm hp (AZu9 hX h hq)
  ·exact h.elim
 ·split at h
  ·exact AJv9 hX h hq
  ·split at h
   ·rename_i hp;exact WA.perm hp (AZt9 hX h hq)
   ·exact h.elim
theorem W.ofFrz {P:Program} {Ev:Env P} {c:Code} {b:Ev.β} {Q:Exit→St Ev.β→Prop} {tm tm1:List AV} {hp hp1:List Blk} (hf:FrzOk ⟨tm,hp, []⟩ ⟨tm1,hp1, []⟩) (h:W Ev c ⟨tm1,hp1,b⟩ Q):W Ev c ⟨tm,hp,b⟩ Q:=by
 intro lo r S X V w m B hv a ht;obtain ⟨S',hg,hr⟩:=hf S X Ev.yl w m B hv a ht.rel;have ht':=ht.step hg hr rfl;refine wpIn_mono (h lo r S' X V w m B hv a ht') ?_;rintro e a' w' ⟨s',S'',X',V',m',hv',hq,⟨hw,hm⟩,h3⟩;exact ⟨s',S'',X',V',m',hv',hq,⟨(hg.went hr.slt).trans hw,hm⟩,h3⟩
theorem W.sealed {P:Program} {Ev:Env P} {c:Code} {b:Ev.β} {Q:Exit→St Ev.β→Prop} {tm:List AV} {hp:List Blk} {t:Nat} {K:List AV→Prop} (h:ALq9 hp [t] tm K) (hK:∀tm1,K tm1→W Ev c ⟨tm1,frz hp (occ (tm.getD t .bad)),b⟩ Q):W Ev c ⟨tm,hp,b⟩ Q:=by
 obtain ⟨tm1,hf,h1⟩:=AGf9 (gs:=occ (tm.getD t .bad)) (tm0:=tm) h (by simp) (AIy9 _ _) (fun _ _=>rfl) fun t' ht' g hg=>by
  simp at ht';subst ht';exact hg
 exact W.ofFrz (BQv9 (s:=⟨tm,hp, []⟩) hf) (hK _ h1)
theorem W.sealedL {P:Program} {Ev:Env P} {c:Code} {b:Ev.β} {Q:Exit→St Ev.β→Prop}:∀ {ts:List Nat} {tm:List AV} {hp:List Blk} {K:List AV→List Blk→Prop},sealL ts tm hp K→(∀tm1 hp1,K tm1 hp1→W Ev c ⟨tm1,hp1,b⟩ Q)→W Ev c ⟨tm,hp,b⟩ Q
 | [],tm,hp,K,h,hK=>hK _ _ h
 |t::ts,tm,hp,K,h,hK=>W.sealed h fun tm1 h1=>W.sealedL h1 hK
theorem AKc9 {id:Nat} {d:Bool} (hm:P.follows .mixedOrders=true) (hX:X.Ok) {K:List AV→List Blk→Ev.β→Prop} {Q:Exit→St Ev.β→Prop} (h:AWi9 P X ops d tm hp b K) (hq:∀tm' hp' b',K tm' hp' b'→Q .normal ⟨tm',hp',b'⟩):
 W Ev (.region id ops d) ⟨tm,hp,b⟩ Q:=by
 unfold AWi9 at h;cases d with
 | false=>
  simp only [Bool.false_eq_true,if_false] at h;exact W.region (s:=⟨tm,hp,b⟩) (AIu9 hX h fun s' b' h=>hq _ _ _ h)
 | true=>
  simp only [if_true] at h;split at h
  ·exact W.sealed h fun tm1 h1=>W.ofWA hm (AOv9 hX h1 hq)
  ·exact W.sealedL h fun tm1 hp1 h1=>W.ofWA hm (AOv9 hX h1 hq)
theorem AEk9 {c:Code} {fr:Frame} {a:Act} {k:List Item} {cs:List Frame} {w:World}:step P (lone (fr.atR a (.code (.scope c)::k)) cs w)= .next (lone (fr.atR a (.code c:: .inScope c::k)) cs w):=
 step_lone_go (by simp [stepG,stepG.exec,Frame.atR])
theorem ARf9 {c:Code} {fr:Frame} {a:Act} {k:List Item} {cs:List Frame} {w:World}:step P (lone (fr.atR a (.inScope c::k)) cs w)= .next (lone (fr.atR a k) cs w):=
 step_lone_go (by simp [stepG,stepG.exec,Frame.atR])
def noGoto {α:Type} (Q:Exit→α→Prop):Exit→α→Prop
 | .goto _,_=>False
 |e,s=>Q e s
theorem BBd9 {F:Fence} {n:Nat} {c:Code} {Q:Exit→Act→World→Prop} {a:Act} {w:World} (h:c.wpIn F n P (Exit.noGoto Q) a w):(Code.scope c).wpIn F n P Q a w:=by
 intro b k cs hro hb hr;have h0:(lone (b.atR a (.code (.scope c)::k)) cs w).fenced P F:=fenced_calm hb hr rfl;obtain ⟨e,a₁,w₁,hq,harr⟩:=h b (.inScope c::k) cs hro hb hr;cases e with
 |normal=>exact ⟨.normal,a₁,w₁,hq, .head h0 AEk9 (StepsIn.trans harr (.one (fenced_calm hb hr rfl) ARf9))⟩
 | exit id=>
  have hx:exitTo id (.inScope c::k)=exitTo id k:=by simp [exitTo]
  exact ⟨.exit id,a₁,w₁,hq,fun k' hk=> .head h0 AEk9 (harr.1 k' (by rw [hx];exact hk)),
   fun hr' hk=>let ⟨k₁,h1,h2⟩:=harr.2 hr' (by rw [hx];exact hk);⟨k₁,h1, .head h0 AEk9 h2⟩⟩
 |goto l=>exact hq.elim
 |ret=>exact ⟨_,a₁,w₁,hq, .of_steps (.one h0 AEk9) harr⟩
 |panic ch=>exact ⟨_,a₁,w₁,hq, .of_steps (.one h0 AEk9) harr⟩
 |outgrown=>exact ⟨_,a₁,w₁,hq, .of_steps (.one h0 AEk9) harr⟩
theorem W.scope {c:Code} {s:St Ev.β} {Q:Exit→St Ev.β→Prop} (h:W Ev c s (noGoto Q)):W Ev (.scope c) s Q:=by
 intro lo r S X V w m B hv a ht;refine BBd9 (wpIn_mono (h lo r S X V w m B hv a ht) fun e a' w' ⟨s',S',X',V',m',hv',h1,h2,h3⟩=> ?_);cases e with
 |goto l=>exact h1.elim
 |normal=>exact ⟨s',S',X',V',m',hv',h1,h2,h3⟩
 |exit id=>exact ⟨s',S',X',V',m',hv',h1,h2,h3⟩
 |ret=>exact ⟨s',S',X',V',m',hv',h1,h2,h3⟩
 |panic ch=>exact ⟨s',S',X',V',m',hv',h1,h2,h3⟩
 |outgrown=>exact ⟨s',S',X',V',m',hv',h1,h2,h3⟩
def WR (Ev:Env P) (c:Code):Nat→St Ev.β→(Exit→St Ev.β→Prop)→Prop
 |0,_,_=>False
 |m+1,s,Q=>W Ev c s (thenW (fun s'=>WR Ev c m s' Q) Q)
theorem W.rounds {c:Code} {Q:Exit→St Ev.β→Prop} {m:Nat} {s:St Ev.β} (h:WR Ev c m s Q):W Ev (.loop c) s Q:=by
 intro lo r S X V w m0 B hv a ht;have key:∀(n:Nat) (s:St Ev.β) (S0 X0 V0:Pr) (w0:World) (m1:List MB) (hv:List (List Value)) (a:Act),WR Ev c n s Q→(Went Ev.L S X V w S0 X0 V0 w0∧MStep m0 m1)→Tie Ev lo r S0 X0 V0 w0 m1 B hv s.rs s.b a→
  Code.roundsIn (Fn r) 0 P c (Beh Ev lo r S X V w m0 B Q) n a w0:=by
  intro n;induction n with
  |zero=>intro s S0 X0 V0 w0 m1 hv a h;exact h.elim
  | succ n ih=>
   intro s S0 X0 V0 w0 m1 hv a h hm ht;rw [roundsIn_succ];refine wpIn_mono (h lo r S0 X0 V0 w0 m1 B hv a ht) fun e a' w' ⟨s',S',X',V',m',hv',h1,h2,h3⟩=> ?_;cases e with
   |normal=>exact ih s' S' X' V' w' m' hv' a' h1 ⟨hm.1.trans h2.1,hm.2.trans h2.2⟩ h3
   |exit id=>exact Beh.from hm ⟨s',S',X',V',m',hv',h1,h2,h3⟩
   |goto l=>exact Beh.from hm ⟨s',S',X',V',m',hv',h1,h2,h3⟩
   |ret=>exact Beh.from hm ⟨s',S',X',V',m',hv',h1,h2,h3⟩
   |panic ch=>exact Beh.from hm ⟨s',S',X',V',m',hv',h1,h2,h3⟩
   |outgrown=>exact Beh.from hm ⟨s',S',X',V',m',hv',h1,h2,h3⟩
 exact wpIn_loop_rounds m (key m s S X V w m0 hv a h ⟨Went.refl ht.rel.slt,MStep.refl m0⟩ ht)
theorem ALu9 {c:Code} {n:Nat} (ih:∀ {tm:List AV} {hp:List Blk} {b:Ev.β} {K:Exit→List AV→List Blk→Ev.β→Prop} {Q:Exit→St Ev.β→Prop},wpc P X n c tm hp b K→(∀e tm hp b,K e tm hp b→Q e ⟨tm,hp,b⟩)→W Ev c ⟨tm,hp,b⟩ Q):
 ∀ {m:Nat} {tm:List AV} {hp:List Blk} {b:Ev.β} {K:Exit→List AV→List Blk→Ev.β→Prop} {Q:Exit→St Ev.β→Prop},rounds (wpc P X n c) m tm hp b K→(∀e tm hp b,K e tm hp b→Q e ⟨tm,hp,b⟩)→WR Ev c m ⟨tm,hp,b⟩ Q
 |0,tm,hp,b,K,Q,h,hq=>h.elim
 | m+1,tm,hp,b,K,Q,h,hq=>by
  simp only [rounds] at h;refine ih h fun e tm' hp' b' hK=> ?_;cases e with
  |normal=>exact ALu9 ih (m:=m) hK hq
  |exit id=>exact hq _ _ _ _ hK
  |goto l=>exact hq _ _ _ _ hK
  |ret=>exact hq _ _ _ _ hK
  |panic ch=>exact hq _ _ _ _ hK
  |outgrown=>exact hq _ _ _ _ hK
theorem AAo9 (hm:P.follows .mixedOrders=true) (hX:X.Ok):∀ {n:Nat} {c:Code} {tm:List AV} {hp:List Blk} {b:Ev.β} {K:Exit→List AV→List Blk→Ev.β→Prop} {Q:Exit→St Ev.β→Prop},
 wpc P X n c tm hp b K→(∀e tm hp b,K e tm hp b→Q e ⟨tm,hp,b⟩)→W Ev c ⟨tm,hp,b⟩ Q
 |0,c,tm,hp,b,K,Q,h,hq=>h.elim
 | n+1,c,tm,hp,b,K,Q,h,hq=>by
  cases c with
  |skip=>exact W.skip (hq _ _ _ _ h)
  |label l=>exact W.label (hq _ _ _ _ h)
  |exit id=>exact W.exit (hq _ _ _ _ h)
  |goto l=>exact W.goto (hq _ _ _ _ h)
  |ret=>exact W.ret (hq _ _ _ _ h)
  | region id ops d=>
   simp only [wpc] at h;split at h
   ·exact W.mono (hX.wl _ _ _ _ _ h) fun e s h=>hq _ _ _ _ h
   ·exact AKc9 hm hX h fun _ _ _ h=>hq _ _ _ _ h
  | seq x y=>
   simp only [wpc] at h;refine W.seq (AAo9 hm hX h fun e tm' hp' b' hK=> ?_);cases e with
   |normal=>exact AAo9 hm hX hK hq
   |exit id=>exact hq _ _ _ _ hK
   |goto l=>exact hq _ _ _ _ hK
   |ret=>exact hq _ _ _ _ hK
   |panic ch=>exact hq _ _ _ _ hK
   |outgrown=>exact hq _ _ _ _ hK
  | cond x c c'=>
   simp only [wpc] at h;split at h
   ·rename_i t hx;have hs:=APo9 hx;rcases h.elim with ⟨rfl,h⟩|⟨rfl,h⟩<;>rw [hs] at h
    ·exact W.cond (t:=true) hx (AAo9 hm hX h hq)
    ·exact W.cond (t:=false) hx (AAo9 hm hX h hq)
   ·exact h.elim
  | block id c=>
   simp only [wpc] at h;refine W.block (AAo9 hm hX h fun e tm' hp' b' hK=> ?_);cases e with
   | exit id'=>
    simp only [BXp9] at hK;simp only [AJd9];split at hK
    ·rename_i he;rw [if_pos he];exact hq _ _ _ _ hK
    ·rename_i he;rw [if_neg he];exact hq _ _ _ _ hK
   |normal=>exact hq _ _ _ _ hK
   |goto l=>exact hq _ _ _ _ hK
   |ret=>exact hq _ _ _ _ hK
   |panic ch=>exact hq _ _ _ _ hK
   |outgrown=>exact hq _ _ _ _ hK
  | loop c=>
   simp only [wpc] at h;split at h
   ·exact W.rounds (ALu9 (fun h hq=>AAo9 hm hX h hq) h hq)
   ·exact W.mono (hX.wl _ _ _ _ _ h) fun e s h=>hq _ _ _ _ h
  |rangeFunc f ps assign body=>exact W.mono (hX.wl _ _ _ _ _ h) fun e s h=>hq _ _ _ _ h
  | scope body=>
   simp only [wpc] at h;refine W.scope (AAo9 hm hX h fun e tm' hp' b' hK=> ?_);cases e with
   |goto l=>exact hK.elim
   |normal=>exact hq _ _ _ _ hK
   |exit id=>exact hq _ _ _ _ hK
   |ret=>exact hq _ _ _ _ hK
   |panic ch=>exact hq _ _ _ _ hK
   |outgrown=>exact hq _ _ _ _ hK
  |refuse why=>exact h.elim
theorem ACu9 {fn:Func} {R:AV→Ev.β→Prop} {e:Exit} {tm:List AV} {hp:List Blk} {b:Ev.β} (h:fnK P fn R e tm hp b):AIg9 P fn (fun y hp b=>∃z,SealD hp y z∧R z b) e ⟨tm,hp,b⟩:=by
 unfold fnK at h;obtain ⟨he,h⟩:=h.elim';split at h
 ·rename_i ys hys;obtain ⟨z,hz,h⟩:=ALr9 h;refine ⟨?_,ys,hys,z,hz,h⟩;cases e<;>simp at he ⊢
 ·exact h.elim
def wlW (Ev:Env P):Code→List AV→List Blk→Ev.β→(Exit→List AV→List Blk→Ev.β→Prop)→Prop:=fun c tm hp b K=>W Ev c ⟨tm,hp,b⟩ fun e s=>K e s.tm s.hp s.b
def AAk9 (P:Program) (T:List (Nat×(List AV→(AV→Prop)→Prop))):Prop:=∀(k:Nat) f,T.lookup k=some f→∀args K,f args K→∃x,PCall P k args x∧K x
def AAn9 (P:Program) (T:List (Nat×(List AV→List Blk→(AV→List Blk→Prop)→Prop))):Prop:=∀(k:Nat) f,T.lookup k=some f→∀args hp K,f args hp K→∃x hp',SCall P k args hp x hp'∧K x hp'
theorem AAk9.nil:AAk9 P []:=fun _ _ h=>by cases h
theorem AAn9.nil:AAn9 P []:=fun _ _ h=>by cases h
theorem AAk9.cons {T:List (Nat×(List AV→(AV→Prop)→Prop))} {k:Nat} {f:List AV→(AV→Prop)→Prop} (h:∀args K,f args K→∃x,PCall P k args x∧K x) (hT:AAk9 P T):AAk9 P ((k,f)::T):=by
 intro k' f' hl;rw [List.lookup_cons] at hl;split at hl
 ·rename_i he;cases hl;rw [eq_of_beq he];exact h
 ·exact hT k' f' hl
theorem CX.Ok.of {Ev:Env P} {T:List (Nat×(List AV→(AV→Prop)→Prop))} {S:List (Nat×(List AV→List Blk→(AV→List Blk→Prop)→Prop))} {u:Bool} (hT:AAk9 P T) (hS:AAn9 P S):CX.Ok Ev ⟨T,S,wlW Ev,Ev.Y,u⟩:=
 ⟨hT,hS,fun _ _ _ _ _ h=>h,rfl⟩
theorem PCall.ofWp {f n:Nat} {fn:Func} {c:Code} {args:List AV} {x:AV} {T:List (Nat×(List AV→(AV→Prop)→Prop))} {S:List (Nat×(List AV→List Blk→(AV→List Blk→Prop)→Prop))} {u:Bool} (hm:P.follows .mixedOrders=true)
 (hT:AAk9 P T) (hS:AAn9 P S) (hf:P.funcs[f]? =some fn) (hb:fn.body=some c) (hn:(fn.name== "runtime.NumGoroutine")=false) (hargs:args.map Zck=args)
 (h:∀(Ev:Env P) (b:Ev.β),wpc P ⟨T,S,wlW Ev,Ev.Y,u⟩ n c (AAw9 fn args) [] b (fnK P fn fun y _=>y=x)):PCall P f args x:=by
 refine PCall.ofWS hf hb hn hargs fun Ev b=>AAo9 hm (CX.Ok.of hT hS) (h Ev b) fun e tm hp b hK=> ?_;obtain ⟨h1,ys,h2,z,h3,rfl⟩:=ACu9 hK;exact ⟨h1,ys,h2,h3⟩
end
noncomputable def code (fn:Func):Code:=fn.body.getD .skip
def BMk9:Code→Code
 | .seq x _=>x
 |c=>c
def BYy9:Code→Code
 | .seq _ y=>y
 |c=>c
def inBlock:Code→Code
 | .block _ c=>c
 |c=>c
def CAs9:Code→Code
 | .loop c=>c
 |c=>c
def AAm9:Code→Code
 | .rangeFunc _ _ a _=>a
 |c=>c
def ABp9:Code→Code
 | .rangeFunc _ _ _ b=>b
 |c=>c
def cidO:Code→Nat
 | .region id _ _=>id+1
 | .seq x y=>match cidO x with
  |0=>cidO y
  |n=>n
 | .block _ c=>cidO c
 | .loop c=>cidO c
 | .scope c=>cidO c
 | .cond _ x _=>cidO x
 | .rangeFunc _ _ a b=>match cidO a with
  |0=>cidO b
  |n=>n
 |_=>0
abbrev WLT (β:Type):=Code→List AV→List Blk→β→(Exit→List AV→List Blk→β→Prop)→Prop
def sub:List Nat→Code→Code
 | [],c=>c
 | n::p,c=>match n,c with
  |0, .seq x _=>sub p x
  |1, .seq _ y=>sub p y
  |2, .block _ c=>sub p c
  |3, .loop c=>sub p c
  |4, .cond _ x _=>sub p x
  |5, .cond _ _ y=>sub p y
  |6, .rangeFunc _ _ a _=>sub p a
  |7, .rangeFunc _ _ _ b=>sub p b
  |8, .scope c=>sub p c
  |_,_=> .skip
def nth (p:List Int) (i:Nat):Int:=p.getD i 0
def AAy9 (p:List Int):List AV:=(Zay 16).map fun i=> .d (u8 (nth p i))
def LeA (x y:AV):Prop:=x=y∨y= .bad∨(AAl9 x=true∧∃k,(y= .d (.sl k [])∨∃e,y= .own e k []))∨y=x.view
theorem LeA.rfl {x:AV}:LeA x x:= .inl (Eq.refl x)
theorem LeA.bad {x:AV}:LeA x .bad:= .inr (.inl (Eq.refl _))
theorem LeA.nilOwn {x:AV} {e k:Nat} (h:AAl9 x=true):LeA x (.own e k []):= .inr (.inr (.inl ⟨h,k, .inr ⟨e,Eq.refl _⟩⟩))
theorem LeA.nilSl {x:AV} {k:Nat} (h:AAl9 x=true):LeA x (.d (.sl k [])):= .inr (.inr (.inl ⟨h,k, .inl (Eq.refl _)⟩))
theorem LeA.view {x:AV}:LeA x x.view:= .inr (.inr (.inr (Eq.refl _)))
inductive LeL:List AV→List AV→Prop
 |nil:LeL [] []
 |cons {x y:AV} {xs ys:List AV} (h:LeA x y) (hs:LeL xs ys):LeL (x::xs) (y::ys)
theorem LeL.refl:∀(l:List AV),LeL l l
 | []=> .nil
 |_::l=> .cons .rfl (LeL.refl l)
theorem LeL.len {xs ys:List AV} (h:LeL xs ys):ys.length=xs.length:=by
 induction h with
 |nil=>rfl
 |cons _ _ ih=>simp [ih]
inductive LeH:List Blk→List Blk→Prop
 |nil:LeH [] []
 |cons {p q:List AV} {f g:Bool} {v:Nat} {ps qs:List Blk} (h:LeL p q) (hs:LeH ps qs):LeH (⟨p,f,g,v⟩::ps) (⟨q,f,g,v⟩::qs)
theorem LeH.refl:∀(l:List Blk),LeH l l
 | []=> .nil
 |⟨_,_,_,_⟩::l=> .cons (.refl _) (LeH.refl l)
theorem LeH.len {xs ys:List Blk} (h:LeH xs ys):ys.length=xs.length:=by
 induction h with
 |nil=>rfl
 |cons _ _ ih=>simp [ih]
section
variable {P:Program} {S S' X X' V V':Pr} {r:Option Nat} {lo:Nat} {yv:Option Nat} {w w':World} {m m':List MB} {A A' B C:List (AV×Value)} {hp hp':List Blk} {tm tm':List AV} {hv hv':List (List Value)} {a a':Act} {Ev:Env P} {s s':St Ev.β} {b:Ev.β} {Q:Exit→St Ev.β→Prop} {c:Code}
theorem LeA.rv {x y:AV} {v:Value} (h:LeA x y) (hr:RV S w m yv x v):RV S w m yv y v:=by
 rcases h with rfl|rfl|⟨h,k,h1⟩|rfl
 ·exact hr
 ·exact .bad
 ·have hv:=AAq9 h hr;subst hv;rcases h1 with rfl|⟨e,rfl⟩
  ·exact .d (.nil k)
  ·exact .ownNil
 ·exact hr.view
theorem LeA.own {x y:AV} {v:Value} (h:LeA x y) (hr:RV S w m yv x v):x=y∨ownB (y,v)=none:=by
 rcases h with rfl|rfl|⟨h,k,h1⟩|rfl
 ·exact .inl (Eq.refl _)
 ·exact .inr (Eq.refl _)
 ·have hv:=AAq9 h hr;subst hv;rcases h1 with rfl|⟨e,rfl⟩
  ·exact .inr (Eq.refl _)
  ·exact .inr (Eq.refl _)
 ·exact .inr (AAs9 _ _)
inductive LP:List (AV×Value)→List (AV×Value)→Prop
 |nil:LP [] []
 |cons {x y:AV} {v:Value} {A A':List (AV×Value)} (h:LeA x y) (hs:LP A A'):LP ((x,v)::A) ((y,v)::A')
theorem LP.refl:∀(l:List (AV×Value)),LP l l
 | []=> .nil
 |(_,_)::l=> .cons .rfl (LP.refl l)
theorem LP.append {A A' B B':List (AV×Value)} (h:LP A A') (h':LP B B'):LP (A++B) (A'++B'):=by
 induction h with
 |nil=>exact h'
 |cons h _ ih=>exact .cons h ih
theorem LeL.zip {xs ys:List AV} (h:LeL xs ys):∀(vs:List Value),LP (xs.zip vs) (ys.zip vs):=by
 induction h with
 |nil=>intro vs;exact .nil
 | cons h _ ih=>
  intro vs;cases vs with
  |nil=>exact .nil
  |cons v vs=>exact .cons h (ih vs)
theorem LeH.pairs {ps qs:List Blk} (h:LeH ps qs):∀(hv:List (List Value)),LP (AAa9 ps hv) (AAa9 qs hv):=by
 induction h with
 |nil=>intro hv;exact .nil
 | cons h _ ih=>
  intro hv;cases hv with
  |nil=>exact .nil
  | cons v hv=>
   simp only [AAa9,List.zip_cons_cons,List.flatMap_cons];exact (h.zip v).append (ih hv)
theorem Rel.lp (h:LP A A'):∀ {C:List (AV×Value)},Rel S X yv w m (A++C) hp hv→Rel S X yv w m (A'++C) hp hv:=by
 induction h with
 |nil=>intro C h;exact h
 | @cons x y v A1 A2 h1 _ ih=>
  intro C h;have h2:Rel S X yv w m (A1++((x,v)::C)) hp hv:=h.perm (by simpa using (List.perm_middle (a:=(x,v)) (l₁:=A1) (l₂:=C)).symm);have h3:=ih h2;have h4:Rel S X yv w m ((x,v)::(A2++C)) hp hv:=h3.perm List.perm_middle;have hr:RV S w m yv x v:=h4.rv _ (Zbb ..);rcases h1.own hr with rfl|hn
  ·exact h4
  ·exact (h4.sub (List.sublist_cons_self _ _)).cons (h1.rv hr) hn
theorem LeH.get {ps qs:List Blk} (h:LeH ps qs):∀(g:Nat) (q:Blk),qs[g]? =some q→∃p,ps[g]? =some p∧q.fro=p.fro∧q.grow=p.grow∧q.ver=p.ver∧q.cells.length=p.cells.length:=by
 induction h with
 |nil=>intro g q hq;simp at hq
 | cons h _ ih=>
  intro g q hq;cases g with
  |zero=>simp at hq;subst hq;exact ⟨_,rfl,rfl,rfl,rfl,h.len⟩
  |succ g=>simp at hq;simpa using ih g q hq
theorem Rel.leH (h:LeH hp hp') (hr:Rel S X yv w m A hp hv):Rel S X yv w m A hp' hv:=by
 refine ⟨hr.lt,hr.rv,hr.pw,hr.nm,hr.sp,hr.mnd,hr.ml.trans h.len.symm,hr.hl.trans h.len.symm,fun g blk p vs h1 h2 h3=> ?_,hr.gl⟩;obtain ⟨blk0,e1,e2,e3,e4,e5⟩:=h.get g blk h1;obtain ⟨a1,a2,a3,a4,a5,a6,a9,a10⟩:=hr.bl g blk0 p vs e1 h2 h3;exact ⟨a1.trans e5.symm,a2.trans e3.symm,a3.trans e4.symm,a4,a5,a6,by rw [e2];exact a9,by rw [e2];exact a10⟩
theorem Tie.le {pv:List (Nat×Loc)} (h1:LeL tm tm') (h2:LeH hp hp') (ht:Tie Ev lo r S X V w m B hv ⟨tm,hp,pv⟩ b a):Tie Ev lo r S X V w m B hv ⟨tm',hp', []⟩ b a:=by
 refine ⟨⟨h1.len.trans ht.rel.1, ?_,by intro p hp;cases hp⟩,ht.sub,ht.env,ht.round,ht.marks,ht.base⟩;refine Rel.leH h2 ?_;have:=Rel.lp ((h1.zip a.tmps.toList).append ((LP.refl B).append (h2.pairs hv))) (C:= []) (by simpa using ht.rel.2.1);simpa using this
theorem W.cast (h1:LeL tm tm') (h2:LeH hp hp') (h:W Ev c ⟨tm',hp',b⟩ Q):W Ev c ⟨tm,hp,b⟩ Q:=
 fun lo r S X V w m B hv a ht=>h lo r S X V w m B hv a (ht.le h1 h2)
theorem W.castPost (h:W Ev c s fun e s'=>∃tm' hp',LeL s'.tm tm'∧LeH s'.hp hp'∧Q e ⟨tm',hp',s'.b⟩):W Ev c s Q:=by
 intro lo r S X V w m B hv a ht;refine wpIn_mono (h lo r S X V w m B hv a ht) ?_;rintro e a' w' ⟨s',S',X',V',m',hv',⟨tm',hp',h1,h2,hq⟩,h3,ht'⟩;exact ⟨_,S',X',V',m',hv',hq,h3,ht'.le h1 h2⟩
def ABo9 (keep:List Nat):Nat→List AV→List AV
 |_, []=> []
 |i,x::l=>(if keep.contains i then x else .bad)::ABo9 keep (i+1) l
theorem AAg9 (keep:List Nat):∀(l:List AV) (i:Nat),LeL l (ABo9 keep i l)
 | [],_=> .nil
 |x::l,i=> .cons (by split;exact .rfl;exact .bad) (AAg9 keep l (i+1))
def maskK {β:Type} (n:Nat) (keep:List Nat) (K:Exit→List AV→List Blk→β→Prop):Exit→List AV→List Blk→β→Prop:=fun e tm hp b=>BIf (lowHp n hp) (K e (ABo9 keep 0 (lowTm n tm)) (hp.take n) b) False
theorem W.ofMask {X:CX Ev.β} {k:Nat} {keep:List Nat} {K:Exit→List AV→List Blk→Ev.β→Prop} (hm:P.follows .mixedOrders=true) (hX:X.Ok) (h:wpc P X k c tm hp b (maskK hp.length keep K)) (hq:∀e tm hp b,K e tm hp b→Q e ⟨tm,hp,b⟩):W Ev c ⟨tm,hp,b⟩ Q:=by
 refine W.castPost (W.scratch (AAo9 hm hX h fun e tm' hp' b' hK=> ?_));obtain ⟨h1,h2⟩:=hK.elim';exact ⟨h1,_,_,AAg9 keep _ 0,LeH.refl _,hq _ _ _ _ h2⟩
theorem WR.ofMask {X:CX Ev.β} {n k:Nat} (keep:List Nat) (hm:P.follows .mixedOrders=true) (hX:X.Ok) (h:wpc P X k c tm hp b (maskK hp.length keep (thenK (fun tm hp b=>WR Ev c n ⟨tm,hp,b⟩ Q) fun e tm hp b=>Q e ⟨tm,hp,b⟩))):WR Ev c (n+1) ⟨tm,hp,b⟩ Q:=
 W.ofMask hm hX h fun e tm hp b hK=>by cases e<;>exact hK
def maskT {β:Type} (keep:List Nat) (K:Exit→List AV→List Blk→β→Prop):Exit→List AV→List Blk→β→Prop:=fun e tm hp b=>K e (ABo9 keep 0 tm) hp b
theorem WR.ofMaskT {X:CX Ev.β} {n k:Nat} (keep:List Nat) (hm:P.follows .mixedOrders=true) (hX:X.Ok) (h:wpc P X k c tm hp b (maskT keep (thenK (fun tm hp b=>WR Ev c n ⟨tm,hp,b⟩ Q) fun e tm hp b=>Q e ⟨tm,hp,b⟩))):WR Ev c (n+1) ⟨tm,hp,b⟩ Q:=
 W.castPost (AAo9 hm hX h fun e tm hp b hK=>⟨ABo9 keep 0 tm,hp,AAg9 _ tm 0,LeH.refl _,by cases e<;>exact hK⟩)
def BCu9 (Ev:Env P) (tm:List AV) (Q:Exit→St Ev.β→Prop) (K:List Blk→Ev.β→Prop):Exit→List Blk→Ev.β→Prop
 | .normal,hp,b=>K hp b
 | .ret,hp,b=>Q .ret ⟨tm,hp,b⟩
 | .exit id,hp,b=>Q (.exit id) ⟨tm,hp,b⟩
 | .goto t,hp,b=>Q (.goto t) ⟨tm,hp,b⟩
 |_,_,_=>False
def takeK {β:Type} (n:Nat) (K:Exit→List Blk→β→Prop):Exit→List AV→List Blk→β→Prop:=fun e _ hp b=>BIf (lowHp n hp) (K e (hp.take n) b) False
def wpcY {β:Type} (P:Program) (X:CX β) (k:Nat) (ps:Array Tmp) (assign body:Code) (tm:List AV) (args:List AV) (hp:List Blk) (b:β) (K:Exit→List AV→List Blk→β→Prop):Prop:=
 wpc P X k assign (APn9 (tm.map Zck) ps (args.map Zck)) hp b fun e tm' hp' b'=>BIf (match e with| .normal=>true|_=>false) (wpc P X k body tm' hp' b' K) False
theorem YBody.ofWp {X:CX Ev.β} {k n:Nat} {ps:Array Tmp} {assign body:Code} {args:List AV} {Qy:Bool→List Blk×Ev.β×Option Exit→Prop} {K:Exit→List AV→List Blk→Ev.β→Prop} (hm:P.follows .mixedOrders=true) (hX:X.Ok) (hl:args.length=ps.size)
 (h:wpcY P X k ps assign body tm args hp b K) (hK:∀e tm' hp' b',K e tm' hp' b'→lowHp n hp'=true∧match e with
  | .normal=>Qy true (hp'.take n,b',none)
  | .ret=>Qy false (hp'.take n,b',some .ret)
  | .exit id=>Qy false (hp'.take n,b',some (.exit id))
  | .goto t=>Qy false (hp'.take n,b',some (.goto t))
  |_=>False) (hn:hp.length≤n:=by first|exact Zas _|decide|simp):YBody Ev tm ps assign body n (hp,b,none) args Qy:=by
 refine ⟨rfl,hl,AAo9 hm hX h fun e tm' hp' b' h1=> ?_⟩;obtain ⟨he,h1⟩:=h1.elim';refine ⟨by cases e<;>simp at he ⊢,AAo9 hm hX h1 fun e tm' hp' b' h2=>⟨n,hn,hK e tm' hp' b' h2⟩⟩
theorem YList.step {X:CX Ev.β} {k n:Nat} {ps:Array Tmp} {assign body:Code} {x:List AV} {xs:List (List AV)} (hm:P.follows .mixedOrders=true) (hX:X.Ok) (hl:x.length=ps.size)
 (h:wpcY P X k ps assign body tm x hp b (takeK n (BCu9 Ev tm Q fun hp' b'=>YList (YBody Ev tm ps assign body n) xs (hp',b',none) (ADq9 tm Q)))) (hn:hp.length≤n:=by first|exact Zas _|decide|simp):YList (YBody Ev tm ps assign body n) (x::xs) (hp,b,none) (ADq9 tm Q):=by
 simp only [YList];refine YBody.ofWp (k:=k) (hn:=hn) hm hX hl h fun e tm' hp' b' h1=> ?_;obtain ⟨h1,h2⟩:=h1.elim';refine ⟨h1, ?_⟩;cases e with
 |normal=>simpa [BCu9] using h2
 |ret=>simpa [ADq9,BCu9] using h2
 |exit id=>simpa [ADq9,BCu9] using h2
 |goto t=>simpa [ADq9,BCu9] using h2
 |panic ch=>exact h2.elim
 |outgrown=>exact h2.elim
theorem PCall.ofFn {f n:Nat} {fn:Func} {args:List AV} {x:AV} {T:List (Nat×(List AV→(AV→Prop)→Prop))} {U:List (Nat×(List AV→List Blk→(AV→List Blk→Prop)→Prop))} {u:Bool} (hm:P.follows .mixedOrders=true)
 (hT:AAk9 P T) (hS:AAn9 P U) (hf:P.funcs[f]? =some fn) (hn:(fn.name== "runtime.NumGoroutine")=false) (hargs:args.map Zck=args)
 (h:∀(Ev:Env P) (b:Ev.β),wpFn P ⟨T,U,wlW Ev,Ev.Y,u⟩ n fn args b (fun y _=>y=x)):PCall P f args x:=by
 cases hb:fn.body with
 |some c=>exact PCall.ofWp hm hT hS hf hb hn hargs fun Ev b=>by have:=h Ev b;unfold wpFn at this;rw [hb] at this;exact this
 | none=>
  have:=h (Env.none P none) ();unfold wpFn at this;rw [hb] at this;exact this.elim
inductive LeT:AV→AV→Prop
 |base {x y:AV} (h:LeA x y):LeT x y
 |tup {xs ys:List AV} (h:LeL xs ys):LeT (.tup xs) (.tup ys)
 |agg {xs ys:List AV} (h:LeL xs ys):LeT (.agg xs) (.agg ys)
theorem LeL.rvs {xs ys:List AV} (h:LeL xs ys):∀(vs:List Value),xs.length=vs.length→(∀(i:Nat) (c:AV) (v:Value),xs[i]? =some c→vs[i]? =some v→RV S w m yv c v)→∀(i:Nat) (c:AV) (v:Value),ys[i]? =some c→vs[i]? =some v→RV S w m yv c v:=by
 induction h with
 |nil=>intro vs _ _ i c v hc;simp at hc
 | cons h _ ih=>
  intro vs hl hr i c v hc hv;cases vs with
  |nil=>simp at hl
  | cons v0 vs=>
   cases i with
   |zero=>simp at hc hv;subst hc;subst hv;exact h.rv (hr 0 _ _ rfl rfl)
   |succ i=>simp at hc hv;exact ih vs (by simpa using hl) (fun i c v h1 h2=>hr (i+1) c v (by simpa using h1) (by simpa using h2)) i c v hc hv
theorem LeT.rv {x y:AV} {v:Value} (h:LeT x y) (hr:RV S w m yv x v):RV S w m yv y v:=by
 cases h with
 |base h=>exact h.rv hr
 | tup h=>
  cases hr with
  |tup hl hr=>exact .tup (h.len.trans hl) fun i c v h1 h2=>h.rvs _ (by rw [Array.length_toList];exact hl) (fun i c v h1 h2=>hr i c v h1 (by simpa using h2)) i c v h1 (by simpa using h2)
 | agg h=>
  cases hr with
  |agg hl hr=>exact .agg (h.len.trans hl) fun i c v h1 h2=>h.rvs _ (by rw [Array.length_toList];exact hl) (fun i c v h1 h2=>hr i c v h1 (by simpa using h2)) i c v h1 (by simpa using h2)
theorem LeT.rfl {x:AV}:LeT x x:= .base .rfl
theorem PCall.ofWL {f:Nat} {fn:Func} {c:Code} {args:List AV} {x:AV} (hf:P.funcs[f]? =some fn) (hb:fn.body=some c) (hn:(fn.name== "runtime.NumGoroutine")=false) (hargs:args.map Zck=args)
 (hW:∀(Ev:Env P) (b:Ev.β),W Ev c ⟨AAw9 fn args, [],b⟩ (AIg9 P fn fun y hp _=>∃z,SealD hp y z∧LeT z x)):PCall P f args x:=by
 refine ⟨AFi9 hf hb hn,fun S w vs hl hvs hlt hgl=> ?_⟩;have hrel:Rel S (fun b _=>b<w.heap.size) none w [] (args.zip vs++([]++AAa9 [] [])) [] []:=by
  have h0:Rel S (fun b _=>b<w.heap.size) none w [] [] [] []:=⟨fun b i h=>h.elim (hlt b i) id,by simp,List.Pairwise.nil,by simp,by simp,by simp,rfl,rfl,by simp,hgl⟩;have:=h0.pushAll (args.zip vs) (fun p hp=>by
   obtain ⟨j,hj⟩:=Zak.1 hp;rw [Zar] at hj;refine ⟨hvs j p.1 p.2 hj.1 hj.2, ?_⟩;have hp1:p.1.view=p.1:=by
    have h1:(args.map Zck)[j]? =some p.1.view:=by simp [hj.1]
    rw [hargs,hj.1] at h1;exact (Option.some.inj h1).symm
   obtain ⟨p1,p2⟩:=p;simp only at hp1;rw [←hp1];exact AAs9 _ _)
  simpa [AAa9] using this
 refine ADm9 (Ev:=Env.none P none) (V:=fun _ _=>False) (b:=(():Unit)) hf hb hl (hW (Env.none P _) (():Unit)) hrel (fun _ _ h=>h.elim) trivial (Nat.zero_le _) ?_;intro y S' X' V' w' m' hv' hp' v b' hyz htr0 hxs hm hr _ hyv;obtain ⟨z,hy,hz⟩:=hyz;have htr:Tr (fun b i=>¬b<w.heap.size) (fun _=>False) S w S' w':=htr0.mono (fun b i h=>h.resolve_right id) (fun _ h=>h);refine ⟨v,ACq9 S' m',rfl,AEq9 htr (fun b i hb hz=>hz hb) (fun _ h=>h),fun b i hs=> .inl (htr.up b i hs),fun b i hs=> ?_,(hz.rv (AHb9 (B:= []) (T:=ACq9 S' m') (by simpa using hr) (fun _ _ h=> .inl h) hy (fun g _ p hp i hi=> .inr ⟨g,p,hp,rfl,hi⟩) hyv)).view⟩;rcases hs with hs|⟨g,p,hg,rfl,hi⟩
 ·rcases htr.new b i hs with h1|h1|h1
  ·exact .inl h1
  ·exact .inr ⟨Nat.le_of_not_lt h1,htr.lt b i hs⟩
  ·exact .inr ⟨h1,htr.lt b i hs⟩
 ·have hr':Rel S' X' none w' m' (([]:List (AV×Value))++AAa9 hp' hv') hp' hv':=hr;obtain ⟨blk,us,cur,e,g1,g2,g3,g4,g5,g6,g7,g8,g9,g10,g11,g12⟩:=hr'.block hg;have hlt':p.b<w'.heap.size:=(Zah.1 g8).1;cases hfr:blk.fro with
  | true=>
   have hs:=g12 hfr i hi;rcases htr.new _ _ hs with h1|h1|h1
   ·exact .inl h1
   ·exact .inr ⟨Nat.le_of_not_lt h1,hlt'⟩
   ·exact .inr ⟨h1,hlt'⟩
  | false=>
   refine .inr ⟨Nat.le_of_not_lt fun hb=> ?_,hlt'⟩;exact (g11 hfr i).2 (hxs _ _ hb)
theorem CX.Ok.ofWl {Ev:Env P} {T:List (Nat×(List AV→(AV→Prop)→Prop))} {U:List (Nat×(List AV→List Blk→(AV→List Blk→Prop)→Prop))} {u:Bool} {wl:WLT Ev.β} (hT:AAk9 P T) (hS:AAn9 P U)
 (hwl:∀c tm hp b K,wl c tm hp b K→W Ev c ⟨tm,hp,b⟩ (fun e s=>K e s.tm s.hp s.b)):CX.Ok Ev ⟨T,U,wl,Ev.Y,u⟩:=⟨hT,hS,hwl,rfl⟩
theorem PCall.ofFnW {f n:Nat} {fn:Func} {args:List AV} {x:AV} {T:List (Nat×(List AV→(AV→Prop)→Prop))} {U:List (Nat×(List AV→List Blk→(AV→List Blk→Prop)→Prop))} {u:Bool} (wl:∀β:Type,WLT β) (hm:P.follows .mixedOrders=true)
 (hT:AAk9 P T) (hS:AAn9 P U) (hwl:∀(Ev:Env P) c tm hp b K,wl Ev.β c tm hp b K→W Ev c ⟨tm,hp,b⟩ (fun e s=>K e s.tm s.hp s.b)) (hf:P.funcs[f]? =some fn) (hn:(fn.name== "runtime.NumGoroutine")=false) (hargs:args.map Zck=args)
 (h:∀(Ev:Env P) (b:Ev.β),wpFn P ⟨T,U,wl Ev.β,Ev.Y,u⟩ n fn args b (fun y _=>y=x)):PCall P f args x:=by
 cases hb:fn.body with
 | some c=>
  refine PCall.ofWS hf hb hn hargs fun Ev b=> ?_;have h1:=h Ev b;unfold wpFn at h1;rw [hb] at h1;refine AAo9 hm (CX.Ok.ofWl hT hS (hwl Ev)) h1 fun e tm hp b hK=> ?_;obtain ⟨g1,ys,g2,z,g3,rfl⟩:=ACu9 hK;exact ⟨g1,ys,g2,g3⟩
 | none=>
  have:=h (Env.none P none) ();unfold wpFn at this;rw [hb] at this;exact this.elim
theorem PCall.ofFnL {f n:Nat} {fn:Func} {args:List AV} {x:AV} {T:List (Nat×(List AV→(AV→Prop)→Prop))} {U:List (Nat×(List AV→List Blk→(AV→List Blk→Prop)→Prop))} {u:Bool} (wl:∀β:Type,WLT β) (hm:P.follows .mixedOrders=true)
 (hT:AAk9 P T) (hS:AAn9 P U) (hwl:∀(Ev:Env P) c tm hp b K,wl Ev.β c tm hp b K→W Ev c ⟨tm,hp,b⟩ (fun e s=>K e s.tm s.hp s.b)) (hf:P.funcs[f]? =some fn) (hn:(fn.name== "runtime.NumGoroutine")=false) (hargs:args.map Zck=args)
 (h:∀(Ev:Env P) (b:Ev.β),wpFn P ⟨T,U,wl Ev.β,Ev.Y,u⟩ n fn args b (fun y _=>LeT y x)):PCall P f args x:=by
 cases hb:fn.body with
 | some c=>
  refine PCall.ofWL hf hb hn hargs fun Ev b=> ?_;have h1:=h Ev b;unfold wpFn at h1;rw [hb] at h1;refine AAo9 hm (CX.Ok.ofWl hT hS (hwl Ev)) h1 fun e tm hp b hK=> ?_;exact ACu9 hK
 | none=>
  have:=h (Env.none P none) ();unfold wpFn at this;rw [hb] at this;exact this.elim
def fnKS {β:Type} (P:Program) (fn:Func) (R:AV→List Blk→β→Prop):Exit→List AV→List Blk→β→Prop:=fun e tm hp b=>
 BIf (match e with| .ret=>true| .normal=>true|_=>false) (match resAs P hp tm fn.results.toList with
  |some ys=>R (resV ys) hp b
  |none=>False) False
def wpFnS {β:Type} (P:Program) (X:CX β) (n:Nat) (fn:Func) (args:List AV) (b:β) (R:AV→List Blk→β→Prop):Prop:=
 match fn.body with
 |some c=>wpc P X n c (AAw9 fn args) [] b (fnKS P fn R)
 |none=>False
theorem AIz9 {fn:Func} {R:AV→List Blk→Ev.β→Prop} {e:Exit} {tm:List AV} {hp:List Blk} {b:Ev.β} (h:fnKS P fn R e tm hp b):AIg9 P fn R e ⟨tm,hp,b⟩:=by
 unfold fnKS at h;obtain ⟨he,h⟩:=h.elim';split at h
 ·rename_i ys hys;refine ⟨?_,ys,hys,h⟩;cases e<;>simp at he ⊢
 ·exact h.elim
theorem FCall.ofFnW {f n:Nat} {fn:Func} {args:List AV} {x:AV} {hp1:List Blk} {T:List (Nat×(List AV→(AV→Prop)→Prop))} {U:List (Nat×(List AV→List Blk→(AV→List Blk→Prop)→Prop))} {u:Bool} (wl:∀β:Type,WLT β) (hm:P.follows .mixedOrders=true)
 (hT:AAk9 P T) (hS:AAn9 P U) (hwl:∀Ev:Env P,∀c tm hp b K,wl Ev.β c tm hp b K→W Ev c ⟨tm,hp,b⟩ (fun e s=>K e s.tm s.hp s.b)) (hf:P.funcs[f]? =some fn) (hn:(fn.name== "runtime.NumGoroutine")=false) (hargs:args.map Zck=args) (hfro:hp1.all (fun b=> !b.fro)=true)
 (h:∀(Ev:Env P) (b:Ev.β),wpFnS P ⟨T,U,wl Ev.β,Ev.Y,u⟩ n fn args b fun y hp _=>y=x∧hp=hp1):FCall P f args x hp1:=by
 cases hb:fn.body with
 | none=>
  have:=h (Env.none P none) (():Unit);simp only [wpFnS,hb] at this
 | some c=>
  refine FCall.ofW hf hb hn hargs hfro fun Ev b=> ?_;have h1:=h Ev b;simp only [wpFnS,hb] at h1;exact AAo9 hm (CX.Ok.ofWl hT hS (hwl Ev)) h1 fun e tm hp b hK=>AIz9 hK
inductive LeX:AV→AV→Prop where
 |le {x y:AV} (h:LeT x y):LeX x y
 |full (k:Nat) (xs:List (List Dv)):LeX (.full k xs) (.d (.sl k xs))
theorem LeX.rv {S:Pr} {w:World} {m:List MB} {yv:Option Nat} {x y:AV} {v:Value} (h:LeX x y) (hr:RV S w m yv x v):RV S w m yv y v:=by
 cases h with
 |le h=>exact h.rv hr
 | full=>cases hr with
  |full h=>exact .d h
def wlNo (β:Type):WLT β:=fun _ _ _ _ _=>False
theorem AHo9 (Ev:Env P):∀c tm hp b K,wlNo Ev.β c tm hp b K→W Ev c ⟨tm,hp,b⟩ (fun e s=>K e s.tm s.hp s.b):=fun _ _ _ _ _ h=>h.elim
end
inductive Ty where
 |int (k:IntKind)
 |bool
 |str
 |sl (r:List Ty)
mutual
inductive HasTy:Ty→Dv→Prop
 |int (k:IntKind) (n:Int) (h:(Lit.int k n).wf=true):HasTy (.int k) (.s (.int k n))
 |bool (b:Bool):HasTy .bool (.s (.bool b))
 |str (s:ByteArray) (h:s.size≤maxLen):HasTy .str (.s (.string s))
 |sl (r:List Ty) (xs:List (List Dv)) (hl:xs.length≤maxLen) (h:∀row,row∈xs→ATq9 r row):HasTy (.sl r) (.sl r.length xs)
inductive ATq9:List Ty→List Dv→Prop
 |nil:ATq9 [] []
 |cons {t:Ty} {x:Dv} {ts:List Ty} {xs:List Dv} (h:HasTy t x) (hs:ATq9 ts xs):ATq9 (t::ts) (x::xs)
end
def ASm9 (P:Program) (g:TypeId→Option (List Ty)):List Field→Nat→Option (List Ty)
 | [],_=>some []
 | f ::fs,off=>if f.offset=off then match g f.type with
  |some r=>if P.cellsOf f.type=r.length then (ASm9 P g fs (off+r.length)).map (r++ ·) else none
  |none=>none
  else none
def flat (P:Program):Nat→TypeId→Option (List Ty)
 |0,_=>none
 | n+1,t=>match P.underlying t with
  |some .bool=>some [.bool]
  |some (.int k)=>some [.int k]
  |some .string=>some [.str]
  | some (.slice e)=>match flat P n e with
   |some r=>if P.cellsOf e=r.length then some [.sl r] else none
   |none=>none
  | some (.struct fs)=>match ASm9 P (flat P n) fs.toList 0 with
   |some r=>if P.cellsOf t=r.length then some r else none
   |none=>none
  | some (.array k e)=>match flat P n e with
   |some r=>if P.cellsOf e=r.length∧P.cellsOf t=k*r.length then some (List.replicate k r).flatten else none
   |none=>none
  |_=>none
inductive Rw (S:Pr) (w:World):List Ty→List Dv→List Value→Prop
 |nil:Rw S w [] [] []
 |cons {t:Ty} {x:Dv} {v:Value} {ts:List Ty} {xs:List Dv} {vs:List Value} (h:HasTy t x) (hr:DR S w x v) (h1:v.oneCell'=true) (hs:Rw S w ts xs vs):Rw S w (t::ts) (x::xs) (v::vs)
section
variable {S:Pr} {w:World}
theorem Rw.tys {ts:List Ty} {xs:List Dv} {vs:List Value} (h:Rw S w ts xs vs):ATq9 ts xs:=by
 induction h with
 |nil=>exact .nil
 |cons h _ _ _ ih=>exact .cons h ih
theorem Rw.len {ts:List Ty} {xs:List Dv} {vs:List Value} (h:Rw S w ts xs vs):xs.length=ts.length∧vs.length=ts.length:=by
 induction h with
 |nil=>exact ⟨rfl,rfl⟩
 |cons _ _ _ _ ih=>simp [ih.1,ih.2]
theorem Rw.append {ts ts':List Ty} {xs xs':List Dv} {vs vs':List Value} (h:Rw S w ts xs vs) (h':Rw S w ts' xs' vs'):Rw S w (ts++ts') (xs++xs') (vs++vs'):=by
 induction h with
 |nil=>exact h'
 |cons h hr h1 _ ih=>exact .cons h hr h1 ih
theorem Rw.at {ts:List Ty} {xs:List Dv} {vs:List Value} (h:Rw S w ts xs vs):∀(j:Nat) (c:Dv),xs[j]? =some c→∃v,vs[j]? =some v∧DR S w c v∧v.oneCell'=true:=by
 induction h with
 |nil=>intro j c h;simp at h
 | cons h hr h1 _ ih=>
  intro j c hc;cases j with
  |zero=>simp at hc;subst hc;exact ⟨_,rfl,hr,h1⟩
  |succ j=>simpa using ih j c (by simpa using hc)
end
theorem BDg9 {α:Type} {Q:Nat→α→Prop}:∀(n:Nat),(∀i,i<n→∃x,Q i x)→∃xs:List α,xs.length=n∧∀(i:Nat) (x:α),xs[i]? =some x→Q i x
 |0,_=>⟨[],rfl,fun i x h=>by simp at h⟩
 | n+1,h=>by
  obtain ⟨xs,h1,h2⟩:=BDg9 n fun i hi=>h i (by omega);obtain ⟨x,hx⟩:=h n (by omega);refine ⟨xs++ [x],by simp [h1],fun i y hy=> ?_⟩;rcases Nat.lt_or_ge i n with hi|hi
  ·rw [Zan (by omega)] at hy;exact h2 i y hy
  ·rw [Zao (by omega)] at hy;cases hk:i - xs.length with
   | zero=>
    rw [hk] at hy;simp at hy;subst hy;have:i=n:=by omega
    subst this;exact hx
   |succ k=>rw [hk] at hy;simp at hy
theorem ASz9 {w:World} {a:Addr} {v:Value} (h:w.cell? a=some v):a.block<w.heap.size:=by
 unfold World.cell? at h;cases hh:w.heap[a.block]? with
 |none=>rw [hh] at h;cases h
 |some o=>exact (Zah.1 hh).1
section
variable {H:Type} {enc:TypeId×Value→H} {P:Program} {w:World} {spare:Nat→Bool} {held:Bool}
theorem AOf9 {g:TypeId→Option (List Ty)} {fuel:Nat} (ih:∀(t:TypeId) (cs:List Value) (x:DataW H×List MemPlace) (tys:List Ty),g t=some tys→DataW.trod enc P w 0 spare held fuel t cs=some x→∃row,Rw (fun b _=>b<w.heap.size) w tys row cs):
 ∀(fs:List Field) (off:Nat) (cs:List Value) (tys:List Ty),ASm9 P g fs off=some tys→
 (∀f,f∈fs→∃x,DataW.trod enc P w 0 spare held fuel f.type ((cs.drop f.offset).take (P.cellsOf f.type))=some x)→cs.length=off+tys.length→
 ∃row,Rw (fun b _=>b<w.heap.size) w tys row (cs.drop off)
 | [],off,cs,tys,h,_,hl=>by
  rw [ASm9] at h;cases h;rw [List.drop_eq_nil_of_le (by simp at hl;omega)];exact ⟨[], .nil⟩
 | f::fs,off,cs,tys,h,hf,hl=>by
  rw [ASm9] at h;split at h<;>try (cases h;done)
  rename_i ho;split at h<;>try (cases h;done)
  rename_i r hr;split at h<;>try (cases h;done)
  rename_i hc;simp only [Zaj] at h;obtain ⟨tys',h1,rfl⟩:=h;obtain ⟨x,hx⟩:=hf f (Zbb ..);obtain ⟨row,h2⟩:=ih f.type _ _ r hr hx;obtain ⟨row',h3⟩:=AOf9 ih fs (off+r.length) cs tys' h1 (fun f hm=>hf f (Zaw _ hm)) (by simp at hl;omega);refine ⟨row++row', ?_⟩;have e:cs.drop off=(cs.drop off).take r.length++cs.drop (off+r.length):=by
   rw [←List.drop_drop,List.take_append_drop]
  rw [e];rw [ho,hc] at h2;exact h2.append h3
theorem AKs9:∀(n fuel:Nat) (t:TypeId) (cs:List Value) (x:DataW H×List MemPlace) (tys:List Ty),flat P n t=some tys→DataW.trod enc P w 0 spare held fuel t cs=some x→
 ∃row,Rw (fun b _=>b<w.heap.size) w tys row cs
 |0,_,_,_,_,_,h,_=>by simp [flat] at h
 | n+1,fuel,t,cs,x,tys,h,ht=>by
  rw [flat] at h;split at h
  ·rename_i hu;cases h;obtain ⟨b,rfl,rfl⟩:=DataW.trod_bool hu ht;exact ⟨_, .cons (.bool b) (.s _) rfl .nil⟩
  ·rename_i k hu;cases h;obtain ⟨m,rfl,rfl,hw⟩:=DataW.trod_int hu ht;exact ⟨_, .cons (.int k m hw) (.s _) rfl .nil⟩
  ·rename_i hu;cases h;obtain ⟨s,rfl,rfl,hw⟩:=DataW.trod_string hu ht;exact ⟨_, .cons (.str s hw) (.s _) rfl .nil⟩
  ·rename_i e hu;split at h<;>try (cases h;done)
   rename_i r hr;split at h<;>try (cases h;done)
   rename_i hc;cases h;rcases DataW.trod_slice hu ht with ⟨rfl,rfl⟩|⟨a,len,cap,elems,rest,m,rfl,rfl,rfl,_,hlc,hcm,hel,hes,_,_⟩
   ·exact ⟨[.sl r.length []], .cons (.sl r [] (Nat.zero_le _) (fun row hr=>by cases hr)) (.nil _) rfl .nil⟩
   ·have hrow:∀i,i<len→∃row,∃cs':List Value,(∀j,j<r.length→w.cell? ((a.add (i*r.length)).add j)=cs'[j]?)∧cs'.length=r.length∧Rw (fun b _=>b<w.heap.size) w r row cs':=by
     intro i hi;have h1:=hes i hi;have h2:∃y,elems[i]? =some y:=⟨elems[i]'(by omega),by simp⟩;obtain ⟨y,hy⟩:=h2;rw [hy,hc] at h1;simp only [Option.bind_eq_some_iff] at h1;obtain ⟨cs',h3,h4⟩:=h1;obtain ⟨row,h5⟩:=AKs9 n m e cs' y r hr h4;have h6:=World.cells?_some h3;exact ⟨row,cs',h6.2.2,h6.2.1,h5⟩
    obtain ⟨xs,hxl,hxs⟩:=BDg9 len hrow;refine ⟨[.sl r.length xs], .cons (.sl r xs (by omega) fun row hm=> ?_) ?_ rfl .nil⟩
    ·obtain ⟨i,hi⟩:=Zak.1 hm;obtain ⟨_,_,_,h⟩:=hxs i row hi;exact h.tys
    ·subst hxl;have key:∀(i:Nat) (row:List Dv) (j:Nat) (c:Dv),xs[i]? =some row→row[j]? =some c→a.spot=none∧∃v,w.cell? ⟨a.block,a.off+(i*r.length+j),none⟩=some v∧DR (fun b _=>b<w.heap.size) w c v∧v.oneCell'=true:=by
      intro i row j c hi hj;have hil:i<xs.length:=(Zaa.1 hi).1;obtain ⟨cs',g1,g2,g3⟩:=hxs i row hi;obtain ⟨v,g4,g5,g6⟩:=g3.at j c hj;have hjl:j<r.length:=by
       have:=(Zaa.1 hj).1;have:=g3.len.1;omega
      have g7:=g1 j hjl;rw [g4] at g7;have hsp:a.spot=none:=by
       cases hx0:xs[0]? with
       |none=>rw [List.getElem?_eq_none_iff] at hx0;omega
       | some row0=>
        obtain ⟨cs0,e1,e2,e3⟩:=hxs 0 row0 hx0;have e4:=e1 0 (by omega);have e5:∃v0,cs0[0]? =some v0:=⟨cs0[0]'(by omega),by simp⟩;obtain ⟨v0,e5⟩:=e5;rw [e5] at e4;have:=World.cell?_spot e4;simpa [Addr.add] using this
      refine ⟨hsp,v, ?_,g5,g6⟩;obtain ⟨ab,ao,ar⟩:=a;simp only at hsp;subst hsp;rw [WideShapes.add_plain,WideShapes.add_plain] at g7;rw [←g7,Nat.add_assoc]
     refine .sl r.length xs a cap (fun i j=>(w.cell? ⟨a.block,a.off+(i*r.length+j),none⟩).getD default) ?_ ?_ ?_ ?_ ?_ hlc ?_
     ·intro i row hi;obtain ⟨_,_,_,h⟩:=hxs i row hi;exact h.len.1
     ·intro i row j c hi hj;obtain ⟨_,v,hv,_⟩:=key i row j c hi hj;exact ASz9 (a:=⟨a.block,a.off+(i*r.length+j),none⟩) hv
     ·intro i row j c hi hj;obtain ⟨_,v,hv,_⟩:=key i row j c hi hj;rw [hv];rfl
     ·intro i row j c hi hj;obtain ⟨_,v,hv,h,_⟩:=key i row j c hi hj;rw [hv];exact h
     ·intro i row j c hi hj;obtain ⟨_,v,hv,_,h⟩:=key i row j c hi hj;rw [hv];exact h
     ·cases hx:xs with
      |nil=>exact .inr (.inr rfl)
      | cons row0 xs0=>
       cases hrl:r with
       |nil=>exact .inr (.inl rfl)
       | cons r0 rs=>
        left;have h0:xs[0]? =some row0:=by rw [hx];rfl
        obtain ⟨_,_,_,h⟩:=hxs 0 row0 h0;have hl:=h.len.1;have:∃c,row0[0]? =some c:=⟨row0[0]'(by rw [hl,hrl];simp),by simp⟩;obtain ⟨c,hc'⟩:=this;exact (key 0 row0 0 c h0 hc').1
  ·rename_i fs hu;split at h<;>try (cases h;done)
   rename_i r hr;split at h<;>try (cases h;done)
   rename_i hc;cases h;obtain ⟨xs,m,rfl,rfl,hl,hxl,hf⟩:=DataW.trod_struct hu ht;have:=AOf9 (fun t cs x tys h1 h2=>AKs9 n m t cs x tys h1 h2) fs.toList 0 cs tys hr (fun f hm=>by
    obtain ⟨i,hi⟩:=Zak.1 hm;have h1:=hf i f (by simpa using hi);have hil:i<fs.size:=by
     have:=(Zaa.1 hi).1;simpa using this
    exact ⟨xs[i]'(by omega),by rw [h1];simp⟩) (by omega)
   simpa using this
  ·rename_i k e hu;split at h<;>try (cases h;done)
   rename_i r hr;split at h<;>try (cases h;done)
   rename_i hc;cases h;obtain ⟨xs,m,rfl,rfl,hl,hxl,hf⟩:=DataW.trod_array hu ht;have key:∀k',k'≤k→∃row,Rw (fun b _=>b<w.heap.size) w (List.replicate k' r).flatten row (cs.take (k'*r.length)):=by
    intro k';induction k' with
    |zero=>intro _;exact ⟨[],by simpa using Rw.nil⟩
    | succ k' ih=>
     intro hk;obtain ⟨row,h1⟩:=ih (by omega);have h2:=hf k' (by omega);rw [hc.1] at h2;have h3:xs[k']? =some (xs[k']'(by omega)):=by simp
     rw [h3] at h2;obtain ⟨row2,h4⟩:=AKs9 n m e _ _ r hr h2;refine ⟨row++row2, ?_⟩;have e1:(List.replicate (k'+1) r).flatten=(List.replicate k' r).flatten++r:=by
      rw [List.replicate_succ'];simp
     have e2:cs.take ((k'+1)*r.length)=cs.take (k'*r.length)++(cs.drop (k'*r.length)).take r.length:=by
      rw [Nat.succ_mul,List.take_add]
     rw [e1,e2];exact h1.append h4
   obtain ⟨row,h1⟩:=key k (Zas _);refine ⟨row, ?_⟩
   rwa [List.take_of_length_le (by omega)] at h1
  ·cases h
end
end Go.Proofs.YtibhflogmbfpcaaGreatDoor.Am
namespace Go.Proofs.YtibhflogmbfpcaaGreatDoor.Am
open Go Go.RowKit Go.WideShapes Go.ChangeShapes
open AV renaming view → Zck
open _root_.Array renaming getElem?_eq_some_iff → Zah
open Bool renaming and_eq_true → Zal
open Go.IntKind renaming wrap → Zac
open List renaming all_eq_true → Zav, getElem?_append_left → Zan, getElem?_append_right → Zao, getElem?_drop → Zbm, getElem?_eq_getElem → Zbk, getElem?_eq_some_iff → Zaa, getElem?_take → Zaq, getElem?_zip_eq_some → Zar, mem_append → Zco, mem_append_left → Zbc, mem_cons → Zbx, mem_cons_of_mem → Zaw, mem_cons_self → Zbb, mem_iff_getElem? → Zak, mem_of_getElem? → Zbi, range → Zay
open Nat renaming le_refl → Zas, le_trans → Zch
open Option renaming map_eq_some_iff → Zaj
open Go.Region renaming ready → Zek
open Go.Value renaming func → Zcd
open AV (bad)
set_option linter.unusedVariables false
section
variable {H:Type} {enc:TypeId×Value→H} {P:Program}
theorem AJy9 (hl:laidOutB P=true) {W W':World} {sp:Nat→Bool} (hb:Below W.heap.size W W'):∀ {ts:List TypeId} {vs:List Value} {ds:List (DataW H)} {ps:List MemPlace},
 (ts.all fun t=>P.readableRec t&&decide (t<P.types.size))=true→DataW.TrodAll enc P W 0 (fun _=>true) true ts vs ds ps→(∀x∈ps,x.block<W.heap.size)→(∀x∈ps,sp x.block=true)→
 DataW.TrodAll enc P W' 0 sp true ts vs ds ps
 | [], [], [],ps,_,h,_,_=>h
 | t::ts,v::vs,d::ds,ps,hr,h,hlt,hsp=>by
  obtain ⟨p,q,h1,h2,rfl⟩:=h;simp only [List.all_cons,Zal,decide_eq_true_eq] at hr;exact ⟨p,q,WideElems.Trod_stays hl hr.1.1 hr.1.2 h1 (fun x hx=>hb.same (hlt x (by simp [hx]))) (fun x hx=>hsp x (by simp [hx])),
   AJy9 hl hb hr.2 h2 (fun x hx=>hlt x (by simp [hx])) (fun x hx=>hsp x (by simp [hx])),rfl⟩
theorem ANx9 {W:World} {b:Nat} {sp:Nat→Bool} {hd:Bool}:∀ {ts:List TypeId} {vs:List Value} {ds:List (DataW H)} {ps:List MemPlace},DataW.TrodAll enc P W b sp hd ts vs ds ps→ds.length=ts.length
 | [], [], [],_,_=>rfl
 | t::ts,v::vs,d::ds,_,h=>by
  obtain ⟨p,q,_,h2,_⟩:=h;simp [ANx9 h2]
theorem BQl9 {f:Func} {s:ChangeSpec} {apart fresh handsOn again:Bool} {W W':World} {args:Array Value} {ds gs:List (DataW H)} {before:List MemPlace} {tb:TypeId}
 (hl:laidOutB P=true) (hvars:s.vars= []) (hres:f.resultTypes=#[tb]) (htb:P.underlying tb=some .bool)
 (hread:(f.params.toList.all fun t=>P.readableRec t&&decide (t<P.types.size))=true)
 (hfn:∀ds:List (DataW H),ds.length=f.params.size→s.fn H ds= {results:= [.lit (.bool true)],args:=ds})
 (hW:DataW.Whole enc P f.params.toList s.vars apart W args.toList ds gs before) (hb:Below W.heap.size W W'):
 s.post enc P f apart fresh handsOn again W args (.bool true) W':=by
 have hlt:∀p∈before,p.block<W.heap.size:=fun p hp=>hW.lt p hp;have hold:∀p∈before,(fun b=>decide (b<W.heap.size)) p.block=true:=fun p hp=>by simpa using hlt p hp
 have hW0:=hW;obtain ⟨p,q,hA,hV,rfl,hz,hn⟩:=hW0;rw [hvars] at hV;obtain ⟨rfl,rfl⟩:=trodVars_none hV;have hlen:ds.length=f.params.size:=by
  have:=ANx9 hA;simpa using this
 have hspec:=hfn ds hlen;simp only [List.append_nil] at*;have hargs:∀sp:Nat→Bool,(∀x∈p,sp x.block=true)→DataW.TrodAll enc P W' 0 sp true f.params.toList args.toList ds p:=
  fun sp hsp=>AJy9 hl hb hread hA hlt hsp
 have hr:∀(b:Nat) (sp:Nat→Bool) (hd:Bool),DataW.TrodAll enc P W' b sp hd f.resultTypes.toList ((Value.bool true).resultList f.resultTypes.size) [DataW.lit (.bool true)] []:=by
  intro b sp hd;rw [hres];exact trodAll_cons_mk (shut_bool htb _) trodAll_mk0
 refine ⟨ds, [],p, [],p, [],by simpa using hW, ?_, ?_, ?_, ?_,fun _=> ?_⟩
 ·simp only [List.append_nil,hspec];exact hr _ _ _
 ·simp only [List.append_nil,hspec];exact hargs _ hold
 ·simp only [List.append_nil,hspec,hvars];exact rfl
 ·exact World.keptBut_mono (fun x hx=>⟨hx, .inr (.inl hx)⟩) (hb.frame (· ∈p))
 ·refine ⟨ok_one hres rfl (okWide_bool_mk htb _), [DataW.lit (.bool true)]++ds, [],p,⟨p, [], ?_, ?_,by simp, ?_, ?_⟩,fun x hx _=>hx⟩
  ·have:=trodAll_append (hargs (fun _=>true) (fun _ _=>rfl)) (hr 0 (fun _=>true) true);simpa using this
  ·rw [hvars];rfl
  ·intro b off hp;rw [hb.frozen (hlt _ hp)];exact hz b off hp
  ·intro ha;exact hn ha
inductive ArgsR (S:Pr) (w:World):List AV→List Value→Prop
 |nil:ArgsR S w [] []
 |cons {x:AV} {v:Value} {xs:List AV} {vs:List Value} (h:RV S w [] none x v) (hs:ArgsR S w xs vs):ArgsR S w (x::xs) (v::vs)
theorem ArgsR.at {S:Pr} {w:World} {xs:List AV} {vs:List Value} (h:ArgsR S w xs vs):xs.length=vs.length∧∀(i:Nat) (x:AV) (v:Value),xs[i]? =some x→vs[i]? =some v→RV S w [] none x v:=by
 induction h with
 |nil=>exact ⟨rfl,fun i x v h=>by simp at h⟩
 | cons h _ ih=>
  refine ⟨by simp [ih.1],fun i x v h1 h2=> ?_⟩;cases i with
  |zero=>simp at h1 h2;subst h1;subst h2;exact h
  |succ i=>exact ih.2 i x v (by simpa using h1) (by simpa using h2)
abbrev AllOf (w:World):Pr:=fun b _=>b<w.heap.size
theorem BIq9 {fid:Nat} {f:Func} {s:ChangeSpec} {apart fresh handsOn again:Bool} {W:World} {args:Array Value} {ds gs:List (DataW H)} {before:List MemPlace} {tb:TypeId}
 (hl:laidOutB P=true) (hvars:s.vars= []) (hres:f.resultTypes=#[tb]) (htb:P.underlying tb=some .bool)
 (hread:(f.params.toList.all fun t=>P.readableRec t&&decide (t<P.types.size))=true)
 (hfn:∀ds:List (DataW H),ds.length=f.params.size→s.fn H ds= {results:= [.lit (.bool true)],args:=ds})
 (hW:DataW.Whole enc P f.params.toList s.vars apart W args.toList ds gs before)
 (avs:List AV) (ha:ArgsR (AllOf W) W avs args.toList) (hp:PCall P fid avs (.d (.s (.bool true)))) (hgl:Glob (AllOf W) W):
 Calls P fid args W fun e W'=>∃v,e= .returned v∧s.post enc P f apart fresh handsOn again W args v W':=by
 obtain ⟨h1,h2⟩:=ha.at;have:=callsIn_wide.1 (hp.2 (AllOf W) W args.toList h1 h2 (fun b i h=>h) hgl);refine Calls.mono this ?_;rintro e W' ⟨v,S',rfl,hb,_,_,hr⟩;refine ⟨v,rfl, ?_⟩;have hv:v= .bool true:=by
  have:Zck (.d (.s (.bool true)))= .d (.s (.bool true)):=rfl;rw [this] at hr;cases hr with
  |d h=>cases h;rfl
 subst hv;exact BQl9 hl hvars hres htb hread hfn hW hb
theorem AYd9 {W:World} {b0 n:Nat} {r:Reach} {sp:Nat→Bool} {hd:Bool} {t e:TypeId} {v:Value} {d:DataW H} {ps:List MemPlace} {ty:Ty} (hu:P.underlying t=some (.slice e)) (hf:flat P n t=some [ty])
 (hval:Value.okWide P W r b0 t v) (h:DataW.Trod enc P W 0 sp hd t v d ps):∃x,HasTy ty x∧RV (AllOf W) W [] none (.d x) v:=by
 obtain ⟨fuel,h⟩:=h;obtain ⟨a,len,cap,rfl⟩:=okWide_slice hu hval;obtain ⟨row,hr⟩:=AKs9 n fuel t _ _ _ hf h;cases hr with
 |cons h hr h1 hs=>exact ⟨_,h, .d hr⟩
theorem AYe9 {W:World} {b0:Nat} {r:Reach} {sp:Nat→Bool} {hd:Bool} {t:TypeId} {k:IntKind} {v:Value} {d:DataW H} {ps:List MemPlace} (hu:P.underlying t=some (.int k))
 (hval:Value.okWide P W r b0 t v) (h:DataW.Trod enc P W 0 sp hd t v d ps):∃x,(Lit.int k x).wf=true∧RV (AllOf W) W [] none (.d (.s (.int k x))) v:=by
 obtain ⟨x,rfl,_,_,hw⟩:=open_int hu hval h;exact ⟨x,hw, .d (.s _)⟩
end
end Go.Proofs.YtibhflogmbfpcaaGreatDoor.Am
namespace Go.Proofs.YtibhflogmbfpcaaGreatDoor.Am
open Go Go.RowKit Go.Proofs Go.ChangeShapes Go.WideShapes Go.ChangeAt
open AV renaming view → Zck
open _root_.Array renaming getElem?_eq_some_iff → Zah
open Bool renaming and_eq_true → Zal
open Go.IntKind renaming wrap → Zac
open List renaming all_eq_true → Zav, getElem?_append_left → Zan, getElem?_append_right → Zao, getElem?_drop → Zbm, getElem?_eq_getElem → Zbk, getElem?_eq_some_iff → Zaa, getElem?_take → Zaq, getElem?_zip_eq_some → Zar, mem_append → Zco, mem_append_left → Zbc, mem_cons → Zbx, mem_cons_of_mem → Zaw, mem_cons_self → Zbb, mem_iff_getElem? → Zak, mem_of_getElem? → Zbi, range → Zay
open Nat renaming le_refl → Zas, le_trans → Zch
open Option renaming map_eq_some_iff → Zaj
open Go.Region renaming ready → Zek
open Go.Value renaming func → Zcd
open AV (bad)
set_option linter.unusedVariables false
def litsF {H:Type}:Nat→DataW H→Option (List Value)
 |0,_=>none
 |_+1, .lit (.int k m)=>some [.int k m]
 |_+1, .lit (.bool b)=>some [.bool b]
 |n+1, .agg ds=>ds.foldr (fun d acc=>match litsF n d,acc with|some a,some b=>some (a++b)|_,_=>none) (some [])
 |_,_=>none
def litsL {H:Type} (n:Nat) (ds:List (DataW H)):Option (List Value):=ds.foldr (fun d acc=>match litsF n d,acc with|some a,some b=>some (a++b)|_,_=>none) (some [])
theorem ARx9 {H:Type} {n:Nat} {d:DataW H} {ds:List (DataW H)} {vs:List Value} (h:litsL n (d::ds)=some vs):∃a b,litsF n d=some a∧litsL n ds=some b∧vs=a++b:=by
 unfold litsL at h;rw [List.foldr_cons] at h;split at h
 ·rename_i a b h1 h2;cases h;exact ⟨a,b,h1,h2,rfl⟩
 ·cases h
section
variable {H:Type} {enc:TypeId×Value→H} {P:Program} {w:World} {spare:Nat→Bool} {held:Bool}
theorem AWx9 {k c:Nat}:∀(xs:List (DataW H×List MemPlace)) (cs:List Value) (vs:List Value),cs.length=xs.length*c→
 (∀(i:Nat) (y:DataW H×List MemPlace),xs[i]? =some y→∀ws,litsF k y.1=some ws→(cs.drop (i*c)).take c=ws)→litsL k (xs.map (·.1))=some vs→cs=vs
 | [],cs,vs,hl,_,h=>by
  have:cs= []:=List.length_eq_zero_iff.1 (by simpa using hl);subst this;simp [litsL] at h;exact h.symm
 | y::ys,cs,vs,hl,hx,h=>by
  rw [List.map_cons] at h;obtain ⟨a,b,h1,h2,rfl⟩:=ARx9 h;have h3:=hx 0 y rfl a h1;rw [List.length_cons,Nat.add_mul,Nat.one_mul] at hl;have h4:=AWx9 (c:=c) ys (cs.drop c) b (by simp;omega) (fun i y hy ws hw=>by
   have:=hx (i+1) y (by simpa using hy) ws hw;rw [List.drop_drop];rw [←this];congr 2;rw [Nat.add_mul,Nat.one_mul];omega) h2
  rw [←List.take_append_drop c cs,←h4,←h3];simp
theorem AOr9 {k:Nat} {g:TypeId→Option (List Ty)} {fuel:Nat} (ih:∀(t:TypeId) (cs:List Value) (x:DataW H×List MemPlace) (tys:List Ty) (vs:List Value),g t=some tys→DataW.trod enc P w 0 spare held fuel t cs=some x→litsF k x.1=some vs→cs=vs):
 ∀(fs:List Field) (xs:List (DataW H×List MemPlace)) (off:Nat) (cs:List Value) (tys:List Ty) (vs:List Value),ASm9 P g fs off=some tys→fs.length=xs.length→
 (∀(i:Nat) (f:Field),fs[i]? =some f→DataW.trod enc P w 0 spare held fuel f.type ((cs.drop f.offset).take (P.cellsOf f.type))=xs[i]?)→cs.length=off+tys.length→litsL k (xs.map (·.1))=some vs→cs.drop off=vs
 | [], [],off,cs,tys,vs,h,_,_,hl,hv=>by
  rw [ASm9] at h;cases h;simp [litsL] at hv;rw [hv,List.drop_eq_nil_of_le (by simp at hl;omega)]
 | [],_::_,_,_,_,_,_,hn,_,_,_=>by simp at hn
 |_::_, [],_,_,_,_,_,hn,_,_,_=>by simp at hn
 | f::fs,y::xs,off,cs,tys,vs,h,hn,hf,hl,hv=>by
  rw [ASm9] at h;split at h<;>try (cases h;done)
  rename_i ho;split at h<;>try (cases h;done)
  rename_i r hr;split at h<;>try (cases h;done)
  rename_i hc;simp only [Zaj] at h;obtain ⟨tys',h1,rfl⟩:=h;rw [List.map_cons] at hv;obtain ⟨a,b,h2,h3,rfl⟩:=ARx9 hv;have h4:=hf 0 f rfl;have h5:=ih f.type _ y r a hr (by simpa using h4) h2;have h6:=AOr9 ih fs xs (off+r.length) cs tys' b h1 (by simpa using hn) (fun i f hi=>by simpa using hf (i+1) f (by simpa using hi)) (by simp at hl;omega) h3;rw [ho,hc] at h5;rw [←h5,←h6,←List.drop_drop,List.take_append_drop]
theorem APx9:∀(n fuel k:Nat) (t:TypeId) (cs:List Value) (x:DataW H×List MemPlace) (tys:List Ty) (vs:List Value),flat P n t=some tys→DataW.trod enc P w 0 spare held fuel t cs=some x→litsF k x.1=some vs→cs=vs
 |0,_,_,_,_,_,_,_,h,_,_=>by simp [flat] at h
 |n+1,fuel,0,t,cs,x,tys,vs,h,ht,hv=>by simp [litsF] at hv
 | n+1,fuel,k+1,t,cs,x,tys,vs,h,ht,hv=>by
  rw [flat] at h;split at h
  ·rename_i hu;obtain ⟨b,rfl,rfl⟩:=DataW.trod_bool hu ht;simp [litsF] at hv;exact hv
  ·rename_i kk hu;obtain ⟨m,rfl,rfl,hw⟩:=DataW.trod_int hu ht;simp [litsF] at hv;exact hv
  ·rename_i hu;obtain ⟨s,rfl,rfl,hw⟩:=DataW.trod_string hu ht;simp [litsF] at hv
  ·rename_i e hu;rcases DataW.trod_slice hu ht with ⟨rfl,rfl⟩|⟨a,len,cap,elems,rest,m,rfl,rfl,rfl,_⟩
   ·simp [litsF] at hv
   ·simp [litsF] at hv
  ·rename_i fs hu;split at h<;>try (cases h;done)
   rename_i r hr;split at h<;>try (cases h;done)
   rename_i hc;cases h;obtain ⟨xs,m,rfl,rfl,hl,hxl,hf⟩:=DataW.trod_struct hu ht;have hv:litsL k (xs.map (·.1))=some vs:=hv;have:=AOr9 (k:=k) (fun t cs x tys vs h1 h2 h3=>APx9 n m k t cs x tys vs h1 h2 h3) fs.toList xs 0 cs tys vs hr (by simp [hxl]) (fun i f hi=>hf i f (by simpa using hi)) (by rw [hl,hc];omega) hv;simpa using this
  ·rename_i kk e hu;split at h<;>try (cases h;done)
   rename_i r hr;split at h<;>try (cases h;done)
   rename_i hc;cases h;obtain ⟨xs,m,rfl,rfl,hl,hxl,hf⟩:=DataW.trod_array hu ht;have hv:litsL k (xs.map (·.1))=some vs:=hv;refine AWx9 (k:=k) (c:=P.cellsOf e) xs cs vs (by rw [hl,hc.2,hxl,hc.1]) (fun i y hy ws hw=> ?_) hv;have hi:i<kk:=by rw [←hxl];exact (Zaa.1 hy).1
   have h1:=hf i hi;rw [hy] at h1;exact APx9 n m k e _ y r ws hr h1 hw
  ·cases h
end
def VarAt (P:Program) (W:World) (g:Nat) (vs:List Value):Prop:=∀(j:Nat) (v:Value),vs[j]? =some v→W.cell? ⟨g,j,none⟩=some v
theorem BGv9 {P:Program} {W:World} {n:String} {g t:Nat} {cs:Array Value} {d:DataW Unit} {p:List MemPlace} {fuel nn k:Nat} {tys:List Ty} {vs:List Value} (hg:P.globalNamed n=some g) (hv:W.var? P n=some cs)
 (ht:DataW.trod (fun _=>()) P W 0 (fun _=>true) false fuel t cs.toList=some (d,p)) (hf:flat P nn t=some tys) (hl:litsF k d=some vs):VarAt P W g vs:=by
 have:=APx9 nn fuel k t cs.toList (d,p) tys vs hf ht hl;intro j v hj;rw [World.var?_cell hg hv j,←hj,←this];simp
theorem BWj9 {W:World} (h:∀g,ABv9 g≠ []→∀(j:Nat) (v:Value),(ABv9 g)[j]? =some v→W.cell? ⟨g,j,none⟩=some v∧v.oneCell'=true):Glob (AllOf W) W:=by
 intro g j v hv;have h1:ABv9 g≠ []:=fun he=>by rw [he] at hv;simp at hv
 obtain ⟨h2,h3⟩:=h g h1 j v hv;exact ⟨ASz9 (a:=⟨g,j,none⟩) h2,h2,h3⟩
end Go.Proofs.YtibhflogmbfpcaaGreatDoor.Am
namespace Go.Proofs.YtibhflogmbfpcaaGreatDoor.Am
open Go Go.RowKit
open AV renaming view → Zck
open _root_.Array renaming getElem?_eq_some_iff → Zah
open Bool renaming and_eq_true → Zal
open Go.IntKind renaming wrap → Zac
open List renaming all_eq_true → Zav, getElem?_append_left → Zan, getElem?_append_right → Zao, getElem?_drop → Zbm, getElem?_eq_getElem → Zbk, getElem?_eq_some_iff → Zaa, getElem?_take → Zaq, getElem?_zip_eq_some → Zar, mem_append → Zco, mem_append_left → Zbc, mem_cons → Zbx, mem_cons_of_mem → Zaw, mem_cons_self → Zbb, mem_iff_getElem? → Zak, mem_of_getElem? → Zbi, range → Zay
open Nat renaming le_refl → Zas, le_trans → Zch
open Option renaming map_eq_some_iff → Zaj
open Go.Region renaming ready → Zek
open Go.Value renaming func → Zcd
open AV (bad)
set_option linter.unusedVariables false
set_option linter.unusedSimpArgs false
def BGp9 (P:Program) (f:Nat) (args:List AV) (blk:Blk) (Sp:SpT):Prop:=
 (∀(ar:Array Value) (w:World),(callFunc f ar).run P w= .ok (.enter f ar) w)∧
 ∀ (Ev:Env P) (b:Ev.β) (Q:Ev.β→Prop),Sp Ev.Y b Q→∀(S X V:Pr) (w:World) (m:List MB) (hv:List (List Value)) (vs:List Value),args.length=vs.length→
  Rel S X Ev.yl w m (args.zip vs++([]++AAa9 [blk] hv)) [blk] hv→(∀b i,V b i→X b i)→Ev.E b S V w→Ev.N≤w.heap.size→
  CallsIn Fence.wide 0 P f vs.toArray w fun e w'=>∃v b' S' V',e= .returned v∧Q b'∧Ev.E b' S' V' w'
def Beh0 {P:Program} (Ev:Env P) (lo:Nat) (r:Option Nat) (S X V:Pr) (w:World) (Q:Exit→St Ev.β→Prop) (e:Exit) (a':Act) (w':World):Prop:=
 ∃s' S' X' V' m' hv',Q e s'∧Went Ev.L S X V w S' X' V' w'∧Tie Ev lo r S' X' V' w' m' [] hv' s'.rs s'.b a'
def W0 {P:Program} (Ev:Env P) (c:Code) (s:St Ev.β) (Q:Exit→St Ev.β→Prop):Prop:=
 ∀ (lo:Nat) (r:Option Nat) (S X V:Pr) (w:World) (m:List MB) (hv:List (List Value)) (a:Act),Tie Ev lo r S X V w m [] hv s.rs s.b a→
  c.wpIn (Fn r) 0 P (Beh0 Ev lo r S X V w Q) a w
section
variable {P:Program} {S S' X X' V V':Pr} {L:Nat→Prop} {r:Option Nat} {lo:Nat} {w w' w'':World} {m m' m'':List MB} {B:List (AV×Value)} {hp hp':List Blk} {hv hv':List (List Value)} {a a':Act} {Ev:Env P} {s:St Ev.β} {Q:Exit→St Ev.β→Prop} {c c':Code}
theorem Beh0.from {e:Exit} (hm:Went Ev.L S X V w S' X' V' w') (h:Beh0 Ev lo r S' X' V' w' Q e a w''):Beh0 Ev lo r S X V w Q e a w'':=by
 obtain ⟨s',S',X',V',m'',hv',h1,h2,h3⟩:=h;exact ⟨s',S',X',V',m'',hv',h1,hm.trans h2,h3⟩
theorem W0.of (h:W Ev c s Q):W0 Ev c s Q:=fun lo r S X V w m hv a ht=>
 wpIn_mono (h lo r S X V w m [] hv a ht) fun e a' w' ⟨s',S',X',V',m',hv',h1,h2,h3⟩=>⟨s',S',X',V',m',hv',h1,h2.1,h3⟩
theorem W0.seq (h:W0 Ev c s (thenW (fun s'=>W0 Ev c' s' Q) Q)):W0 Ev (.seq c c') s Q:=by
 intro lo r S X V w m hv a ht;refine wpIn_seq (wpIn_mono (h lo r S X V w m hv a ht) fun e a' w' ⟨s',S',X',V',m',hv',h1,h2,h3⟩=> ?_);cases e with
 |normal=>exact wpIn_mono (h1 lo r S' X' V' w' m' hv' a' h3) fun e a'' w'' hb=>hb.from h2
 |exit id=>exact ⟨s',S',X',V',m',hv',h1,h2,h3⟩
 |goto l=>exact ⟨s',S',X',V',m',hv',h1,h2,h3⟩
 |ret=>exact ⟨s',S',X',V',m',hv',h1,h2,h3⟩
 |panic ch=>exact ⟨s',S',X',V',m',hv',h1,h2,h3⟩
 |outgrown=>exact ⟨s',S',X',V',m',hv',h1,h2,h3⟩
theorem W0.block {id:Nat} (h:W0 Ev c s (AJd9 id Q)):W0 Ev (.block id c) s Q:=by
 intro lo r S X V w m hv a ht;refine wpIn_block (wpIn_mono (h lo r S X V w m hv a ht) fun e a' w' ⟨s',S',X',V',m',hv',h1,h2,h3⟩=> ?_);cases e with
 | exit id'=>
  simp only [Exit.inBlock,AJd9] at h1 ⊢;split at h1
  ·rename_i hid;rw [if_pos hid];exact ⟨s',S',X',V',m',hv',h1,h2,h3⟩
  ·rename_i hid;rw [if_neg hid];exact ⟨s',S',X',V',m',hv',h1,h2,h3⟩
 |normal=>exact ⟨s',S',X',V',m',hv',h1,h2,h3⟩
 |goto l=>exact ⟨s',S',X',V',m',hv',h1,h2,h3⟩
 |ret=>exact ⟨s',S',X',V',m',hv',h1,h2,h3⟩
 |panic ch=>exact ⟨s',S',X',V',m',hv',h1,h2,h3⟩
 |outgrown=>exact ⟨s',S',X',V',m',hv',h1,h2,h3⟩
theorem W0.range {g:Operand} {ps:Array Tmp} {assign body:Code} {k:Nat} {hp0:List Blk} {blk:Blk} {Sp:SpT} (hs:s.hp=hp0++ [blk]) (hfro:blk.fro=false) (hgrow:blk.grow=false) (hlow:lowHp hp0.length s.hp=true)
 (hcl:ABy9 blk.cells=true) (hvw:blk.cells.map Zck=blk.cells) (hg:evalA s.tm g= .fn (.func k) [] [.ptr hp0.length 0])
 (hI:BGp9 P k [.yl, .ptr 0 0] blk Sp) (h:Sp (YBody Ev (lowTm hp0.length s.tm) ps assign body hp0.length) (hp0,s.b,none) (ADq9 (lowTm hp0.length s.tm) Q)):W0 Ev (.rangeFunc g ps assign body) s Q:=by
 intro lo r S X V w m hv a ht;refine wpIn_rangeFunc fun fn _=> ?_;obtain ⟨l,bs,w1,D,e1,e2,e3,e4,e5,e6⟩:=AMp9 (P:=P) fn a.tmps ps assign body ht.round;have hfv:=AAj9 ht.rel g;rw [hg] at hfv;generalize hfe:a.eval g=fv at hfv;cases hfv with
 | fn hne hl1 hl2 h1 h2=>
  rename_i fs cs;have hfs:fs=#[]:=by simpa using hl1.symm
  subst hfs;obtain ⟨cv,rfl⟩:∃cv,cs=#[cv]:=by
   have:cs.size=1:=by simpa using hl2.symm
   refine ⟨cs[0],Array.ext (by simp [this]) fun i hi hi'=> ?_⟩;have:i=0:=by omega
   subst this;rfl
  have hcv:=h2 0 _ cv rfl rfl;generalize hcve:cv=cv0 at hcv;cases hcv with
  |ptr hm=>
  rename_i pb plen pver;subst hcve;have hgs:=Gs.below ht.rel.2.1 e3 (S':=S) ⟨fun _ _ h=>h,fun _ _ h=> .inl h⟩;have hlt1:∀b i,S b i→b<w1.heap.size:=fun b i hs=>Nat.lt_of_lt_of_le (ht.rel.slt b i hs) e3.size;have htr:=hgs.tr hlt1;have hrel1:Rel S X Ev.yl w1 m (s.tm.zip a.tmps.toList++AAa9 s.hp hv) s.hp hv:=by
   simpa using ht.rel.2.1.below e3 (fun _ _ h=>h) (fun _ _ h=> .inl h)
  have hrelL:Rel S X Ev.yl w1 m ((lowTm hp0.length s.tm).zip a.tmps.toList++AAa9 s.hp hv) s.hp hv:=Rel.lowered hp0.length hrel1;have hnT:∀p∈(lowTm hp0.length s.tm).zip a.tmps.toList,RV S w1 (m.take hp0.length) Ev.yl p.1 p.2:=by
   intro p hp;refine (hrelL.rv p (Zbc _ hp)).low ?_;have:=(List.of_mem_zip hp).1;simp only [lowTm,List.mem_map] at this;obtain ⟨x,_,h3⟩:=this;rw [←h3];split
   ·assumption
   ·rfl
  have hrelT:=hrelL.trunc hnT hlow;have hp0t:s.hp.take hp0.length=hp0:=by rw [hs];simp
  rw [hp0t] at hrelT;have hsl:s.hp.length=hp0.length+1:=by rw [hs];simp
  have hgb:s.hp[hp0.length]? =some blk:=by rw [hs];simp
  have hvn:hp0.length<hv.length:=by rw [hrel1.hl,hsl];omega
  obtain ⟨a1,a2,a3,a4,a5,a6,a9,a10⟩:=hrel1.bl hp0.length blk ⟨pb,plen,false,pver⟩ hv[hp0.length] hgb hm (by simp [hvn]);have hpbl:pb<w1.heap.size:=by
   obtain ⟨cur,e,h3,_⟩:=a6;exact (Zah.1 h3).1
  have hSn:∀i,¬S pb i∧¬X pb i:=a9 hfro;have hl1w:l<w1.heap.size:=(Zah.1 e2).1;obtain ⟨bs0,m1,m2,m3⟩:=ht.marks;have hbs0:∀b∈bs0,b<w.heap.size:=fun b hb=>(Zah.1 (m3 b hb).2).1;have hr0:∀l0,r=some l0→l0<w.heap.size:=fun l0 hl0=>by
   obtain ⟨rc,h3⟩:=ht.round l0 hl0;exact (Zah.1 h3).1
  have hm0:(m.take hp0.length).length≤hp0.length:=by simp;omega
  have hbsN:∀b∈bs++bs0,b<w1.heap.size:=fun b hb=>(Zco.1 hb).elim (fun h=>(e6 b h).2.1) (fun h=>Nat.lt_of_lt_of_le (hbs0 b h) e3.size);have html:(lowTm hp0.length s.tm).length=a.tmps.size:=by simpa [lowTm] using ht.rel.1
  let Er:=AUj9 Ev r S X V w (m.take hp0.length) (lowTm hp0.length s.tm) a [] hp0.length (bs++bs0) l {state:= .ready,pending:=none,fn,tmps:=a.tmps,params:=ps,assign,body,defers:=D} w1.heap.size html rfl
   (Zch ht.base.1 ht.base.2) e4 hm0 hl1w hbsN (fun l0 hl0=>Nat.lt_of_lt_of_le (hr0 l0 hl0) e3.size)
  have hrelB:Rel S (fun b _=>b<w1.heap.size∧b≠pb) (some l) w1 [⟨pb,plen,false,pver⟩] (([AV.yl,AV.ptr 0 0]).zip [Zcd (.yield l) #[] #[],Value.pointer (some ⟨pb,0,none⟩)]++([]++AAa9 [blk] [hv[hp0.length]])) [blk] [hv[hp0.length]]:=by
   have hcp:∀p∈AAa9 [blk] [hv[hp0.length]],RV S w1 [⟨pb,plen,false,pver⟩] (some l) p.1 p.2∧ownB p=none:=by
    intro p hp;simp only [AAa9,List.zip_cons_cons,List.zip_nil_right,List.flatMap_cons,List.flatMap_nil,List.append_nil] at hp;have hpm:p∈AAa9 s.hp hv:=by
     simp only [AAa9,List.mem_flatMap];refine ⟨(blk,hv[hp0.length]),Zak.2 ⟨hp0.length, ?_⟩,hp⟩;rw [Zar];exact ⟨hgb,by simp [hvn]⟩
    have hc1:=(List.of_mem_zip hp).1;obtain ⟨j,hj⟩:=Zak.1 hc1;refine ⟨((hrel1.rv p (List.mem_append_right _ hpm)).closed (ABj9 hcl j _ hj)).opened, ?_⟩;have h3:(blk.cells.map Zck)[j]? =some p.1.view:=by simp [hj]
    rw [hvw,hj] at h3;obtain ⟨p1,p2⟩:=p;simp only [Option.some.injEq] at h3;rw [h3];exact AAs9 _ _
   have h0:Rel S (fun b _=>b<w1.heap.size∧b≠pb) (some l) w1 [⟨pb,plen,false,pver⟩] [] [blk] [hv[hp0.length]]:=by
    refine ⟨fun b i h=>h.elim (hlt1 b i) (fun h=>h.1),by simp,List.Pairwise.nil,by simp,by simp,by simp,rfl,rfl,fun g blk' p vs q1 q2 q3=> ?_,hrel1.gl⟩;cases g with
    |succ g=>simp at q1
    | zero=>
     simp only [List.getElem?_cons_zero,Option.some.injEq] at q1 q2 q3;subst q1 q2 q3;exact ⟨a1,a2,a3,a4,a5,a6,fun _ i=>⟨(hSn i).1,fun h=>h.2 rfl⟩,fun hf=>by rw [hfro] at hf;cases hf⟩
   have h3:=h0.pushAll _ hcp;have h4:=h3.pushAll [(AV.yl,Zcd (.yield l) #[] #[]),(AV.ptr 0 0,Value.pointer (some ⟨pb,0,none⟩))] (by
    intro p hp;simp only [Zbx,List.not_mem_nil,or_false] at hp;rcases hp with rfl|rfl
    ·exact ⟨.yl rfl,rfl⟩
    ·exact ⟨.ptr (len:=plen) (ver:=pver) rfl,rfl⟩)
   simpa using h4
  have hE:Er.E (hp0,s.b,none) S (fun b _=>b<w1.heap.size∧b≠pb) w1:=by
   refine ⟨X,V,m.take hp0.length,hv.take hp0.length,Zas _,by simpa using hrelT,ht.sub,Ev.stable ht.env (htr.mono (fun b i hx hv=>hx (ht.sub b i hv)) (fun _ h=>h)),MStep.refl _,ht.round.tr htr,fun b hb=> ?_,fun c hc i=> ?_,fun b i hv=> ?_,fun b i h=>h.1,fun b i hx=>⟨hrel1.lt b i (.inr hx),fun he=>(hSn i).2 (he▸hx)⟩,e2,hgs.went hlt1⟩
   ·rcases Zco.1 hb with h3|h3
    ·exact (e6 b h3).2.2
    ·rw [e3.block b (hbs0 b h3)];exact (m3 b h3).2
   ·have hc':Owned hp0 (m.take hp0.length) ((lowTm hp0.length s.tm).zip a.tmps.toList++AAa9 hp0 (hv.take hp0.length)) c:=by simpa using hc
    refine ⟨hrelT.ownedLt hc', ?_⟩;rintro rfl;rcases hc' with ⟨g,blk',p,q1,q2,q3,q4⟩|⟨p,q1,q2⟩
    ·have hgl:g<hp0.length:=(Zaa.1 q1).1;have q5:m[g]? =some p:=by rw [Zaq,if_pos hgl] at q2;exact q2
     have hnd:=hrel1.mnd;have q6:(m.map (·.b))[g]? =some c:=by simp [q5,q4]
     have q7:(m.map (·.b))[hp0.length]? =some c:=by simp [hm]
     have:=(List.getElem?_inj (by simp;exact (Zaa.1 q5).1) hnd).1 (q6.trans q7.symm);omega
    ·have q3:p∈(lowTm hp0.length s.tm).zip a.tmps.toList++AAa9 s.hp hv:=by
      rcases Zco.1 q1 with q3|q3
      ·exact Zbc _ q3
      ·refine List.mem_append_right _ ?_;simp only [AAa9,List.mem_flatMap] at q3 ⊢;obtain ⟨q,q4,q5⟩:=q3;refine ⟨q, ?_,q5⟩;have q6:hp0.zip (hv.take hp0.length)=(s.hp.zip hv).take hp0.length:=by
        have q7:(s.hp.zip hv).take hp0.length=(s.hp.take hp0.length).zip (hv.take hp0.length):=by simp [List.zip,List.take_zipWith]
        rw [q7,hp0t]
       rw [q6] at q4;exact List.mem_of_mem_take q4
     exact hrelL.nm p q3 c q2 _ (Zbi hm) rfl
   ·have:=ht.sub b i hv;exact ⟨hrel1.lt b i (.inr this),fun he=>(hSn i).2 (he▸this)⟩
  have hcalls:=hI.2 Er (hp0,s.b,none) (ADq9 (lowTm hp0.length s.tm) Q) h S _ (fun b _=>b<w1.heap.size∧b≠pb) w1 _ _ [Zcd (.yield l) #[] #[],Value.pointer (some ⟨pb,0,none⟩)] rfl hrelB (fun _ _ h=>h) hE (Zas _);refine ⟨l,bs.map fun b=> {target:= .collected b,args:=#[]},w1, {target:= .fn (.func k) #[Value.pointer (some ⟨pb,0,none⟩)],args:=#[]++#[Zcd (.yield l) #[] #[]]},w1,k,#[]++#[Zcd (.yield l) #[] #[]]++#[Value.pointer (some ⟨pb,0,none⟩)],w1,e1, ?_,fun _ _=>trivial, ?_,fun hd=>(by cases hd), ?_⟩
  ·have hm:Array.map a.eval #[Operand.const (Zcd (Fn.yield l) #[] #[])]=#[a.eval (Operand.const (Zcd (Fn.yield l) #[] #[]))]:=by simp
   simp only [resolve,hfe,Deferred.ofValue,hm];rfl
  ·simp only [invoke];exact hI.1 _ _
  ·refine (CallsIn.mono hcalls ?_:CallsIn Fence.wide 0 P k _ w1 _);rintro e w3 ⟨v,⟨hpE,bE,stE⟩,S',V',rfl,hQ,hE'⟩;obtain ⟨Xc,Vc,mC,hvC,g0,g1,g2,g3,g4,g5,g6,g7,g8,g9,gXV,g10,g11⟩:=hE';simp only at g0 g1 g3 g10;refine ⟨_,_,run_endLoop g10 (by cases stE<;>simp), ?_⟩;have hlN:Ev.N≤l:=Zch (Zch ht.base.1 ht.base.2) e4;have hbeh:∀e,Q e ⟨lowTm hp0.length s.tm,hpE,bE⟩→Beh0 Ev lo r S X V w Q e {a with defers:=(bs.map fun b=> {target:= .collected b,args:=#[]})++a.defers}
    (w3.putObj l (.loop {state:= .exhausted,pending:=stE.map AGv9,fn,tmps:=a.tmps,params:=ps,assign,body,defers:=D})):=by
    intro e hQe;refine ⟨⟨lowTm hp0.length s.tm,hpE,bE⟩,S',Xc,Vc,mC,hvC,hQe,g11.putObj e4 g10,⟨⟨html, ?_,by intro p hp;cases hp⟩,g2,Ev.stableO _ g3 hlN g10 rfl rfl,fun l0 hl0=> ?_, ?_,ht.base.1, ?_⟩⟩
    ·simpa using g1.putObj (o':= .loop {state:= .exhausted,pending:=stE.map AGv9,fn,tmps:=a.tmps,params:=ps,assign,body,defers:=D}) g10 rfl
    ·obtain ⟨rc,h3⟩:=g5 l0 hl0;exact ⟨rc,ABk9 h3 (by have:=hr0 l0 hl0;omega)⟩
    ·refine ⟨bs++bs0,by simp [m1], ?_,fun b hb=>⟨?_,ABk9 (g6 b hb) ?_⟩⟩
     ·rw [List.nodup_append];refine ⟨e5,m2,fun x hx y hy hxy=> ?_⟩;have:=(e6 x hx).1;have:=hbs0 y hy;omega
     ·rcases Zco.1 hb with h3|h3
      ·exact Zch ht.base.2 (e6 b h3).1
      ·exact (m3 b h3).1
     ·rintro rfl;have:=g6 _ hb;rw [g10] at this;cases this
    ·simpa using Zch ht.base.2 g11.tr.size
   cases stE with
   |none=>exact hbeh .normal hQ
   | some e=>
    cases e with
    |exit id=>exact wpIn_exit (hbeh (.exit id) hQ)
    |goto t=>exact wpIn_goto (hbeh (.goto t) hQ)
    |ret=>exact wpIn_ret (hbeh .ret hQ)
    |normal=>exact wpIn_ret (hbeh .ret hQ)
    |panic ch=>exact wpIn_ret (hbeh .ret hQ)
    |outgrown=>exact wpIn_ret (hbeh .ret hQ)
theorem BGp9.ofW {f:Nat} {fn:Func} {args:List AV} {blk:Blk} {Sp:SpT} (hf:P.funcs[f]? =some fn) (hb:fn.body=some c) (hn:(fn.name== "runtime.NumGoroutine")=false)
 (hW:∀(Ev:Env P) (b:Ev.β) (Q:Ev.β→Prop),Sp Ev.Y b Q→W Ev c ⟨AAw9 fn args, [blk],b⟩ (AIg9 P fn fun _ _ b'=>Q b')):BGp9 P f args blk Sp:=by
 refine ⟨AFi9 hf hb hn,fun Ev b Q hSp S X V w m hv vs hl hrel hV hE hN=> ?_⟩;refine ADm9 (Ev:=Ev) (V:=V) (B:= []) hf hb hl (hW Ev b Q hSp) hrel hV hE hN ?_;intro y S' X' V' w' m' hv' hp' v b' hq _ _ _ _ hE' _;exact ⟨v,b',S',V',rfl,hq,hE'⟩
theorem BAa9 {f:Nat} {fn:Func} {c:Code} {args:List AV} {vs:List Value} {b:Ev.β} {R:AV→List Blk→Ev.β→Prop} {RR:Ending→World→Prop} (hf:P.funcs[f]? =some fn) (hb:fn.body=some c) (hl:args.length=vs.length)
 (hW:W0 Ev c ⟨AAw9 fn args,hp,b⟩ (AIg9 P fn R)) (hr:Rel S X Ev.yl w m (args.zip vs++([]++AAa9 hp hv)) hp hv) (hV:∀b i,V b i→X b i) (hE:Ev.E b S V w) (hN:Ev.N≤w.heap.size)
 (hR:∀ {x S' X' V' w' m' hv' hp' v b'},R x hp' b'→Tr (fun b i=>¬X b i∨V b i) Ev.L S w S' w'→(∀b i,X b i→X' b i)→Rel S' X' Ev.yl w' m' ([]++AAa9 hp' hv') hp' hv'→Ev.E b' S' V' w'→RV S' w' m' Ev.yl x v→RR (.returned v) w'):
 CallsIn Fence.wide 0 P f vs.toArray w RR:=by
 refine callsIn_of_wp_marks (F:=Fn none) hf hb trivial ?_;obtain ⟨h1,h2⟩:=AWd9 (fn:=fn) rfl hl hr;refine wpIn_mono (hW w.heap.size none S X V w m hv _ ⟨⟨h1,h2,by intro p hp;cases hp⟩,hV,hE,(fun l hl=>by cases hl),⟨[],rfl,List.nodup_nil,by simp⟩,hN,Zas _⟩) fun e a' w' ⟨s',S',X',V',m',hv',hq,hm,ht⟩=> ?_;obtain ⟨he,ys,hys,hRy⟩:=hq;have hleave:LeavesInM (Fn none) 0 P fn a'.tmps RR a'.defers .returning w':=by
  refine AWy9 (lo:=w.heap.size) (K:=fun w'=>RelS S' X' Ev.yl w' m' [] hv' s'.rs a'∧Ev.E s'.b S' V' w'∧Tr (fun b i=>¬X b i∨V b i) Ev.L S w S' w') (fun w' d ⟨k1,k2,k3⟩ hd hdef=> ?_) (fun w' ⟨k1,k2,k3⟩=> ?_) ht.marks ⟨ht.rel,ht.env,hm.tr⟩
  ·exact ⟨⟨k1.1,k1.2.1.putObj hdef rfl,k1.2.2⟩,Ev.stableO _ k2 (Zch hN hd) hdef rfl rfl,k3.putObj hd hdef⟩
  ·obtain ⟨v,h3,h4⟩:=AKb9 (P:=P) (fn:=fn) k1 hys;exact ⟨v,h3,hR hRy k3 hm.xs (k1.2.1.sub (List.sublist_append_right _ _)) k2 h4⟩
 rcases he with rfl|rfl
 ·exact hleave
 ·exact hleave
theorem PCall.ofW0 {x0:Dv} {f:Nat} {fn:Func} {c:Code} {args:List AV} {x:AV} (hf:P.funcs[f]? =some fn) (hb:fn.body=some c) (hn:(fn.name== "runtime.NumGoroutine")=false) (hargs:args.map Zck=args)
 (hW:∀(Ev:Env P) (b:Ev.β),W0 Ev c ⟨AAw9 fn args, [],b⟩ (AIg9 P fn fun y hp _=>y= .d x0∧x= .d x0)):PCall P f args x:=by
 refine ⟨AFi9 hf hb hn,fun S w vs hl hvs hlt hgl=> ?_⟩;have hrel:Rel S (fun b _=>b<w.heap.size) none w [] (args.zip vs++([]++AAa9 [] [])) [] []:=by
  have h0:Rel S (fun b _=>b<w.heap.size) none w [] [] [] []:=⟨fun b i h=>h.elim (hlt b i) id,by simp,List.Pairwise.nil,by simp,by simp,by simp,rfl,rfl,by simp,hgl⟩;have:=h0.pushAll (args.zip vs) (fun p hp=>by
   obtain ⟨j,hj⟩:=Zak.1 hp;rw [Zar] at hj;refine ⟨hvs j p.1 p.2 hj.1 hj.2, ?_⟩;have hp1:p.1.view=p.1:=by
    have h1:(args.map Zck)[j]? =some p.1.view:=by simp [hj.1]
    rw [hargs,hj.1] at h1;exact (Option.some.inj h1).symm
   obtain ⟨p1,p2⟩:=p;simp only at hp1;rw [←hp1];exact AAs9 _ _)
  simpa [AAa9] using this
 refine BAa9 (Ev:=Env.none P none) (V:=fun _ _=>False) (b:=(():Unit)) hf hb hl (hW (Env.none P _) (():Unit)) hrel (fun _ _ h=>h.elim) trivial (Nat.zero_le _) ?_;intro y S' X' V' w' m' hv' hp' v b' hy htr0 hxs hr _ hyv;obtain ⟨rfl,rfl⟩:=hy;have htr:Tr (fun b i=>¬b<w.heap.size) (fun _=>False) S w S' w':=htr0.mono (fun b i h=>h.resolve_right id) (fun _ h=>h);refine ⟨v,S',rfl,AEq9 htr (fun b i hb hz=>hz hb) (fun _ h=>h),fun b i hs=>htr.up b i hs,fun b i hs=> ?_, ?_⟩
 ·rcases htr.new b i hs with h1|h1|h1
  ·exact .inl h1
  ·exact .inr ⟨Nat.le_of_not_lt h1,htr.lt b i hs⟩
  ·exact .inr ⟨h1,htr.lt b i hs⟩
 ·cases hyv with
  |d h=>exact .d h
end
inductive LeV:AV→AV→Prop
 |rfl {x:AV}:LeV x x
 |bad {x:AV}:LeV x .bad
 |nil {x:AV} {k:Nat} (h:AAl9 x=true):LeV x (.d (.sl k []))
 |full {k:Nat} {xs:List (List Dv)}:LeV (.full k xs) (.d (.sl k xs))
 |agg {xs ys:List AV} (hl:xs.length=ys.length) (h:∀(i:Nat) (x y:AV),xs[i]? =some x→ys[i]? =some y→LeV x y):LeV (.agg xs) (.agg ys)
 |tup {xs ys:List AV} (hl:xs.length=ys.length) (h:∀(i:Nat) (x y:AV),xs[i]? =some x→ys[i]? =some y→LeV x y):LeV (.tup xs) (.tup ys)
inductive LeVs:List AV→List AV→Prop
 |nil:LeVs [] []
 |cons {x y:AV} {xs ys:List AV} (h:LeV x y) (hs:LeVs xs ys):LeVs (x::xs) (y::ys)
theorem LeVs.len {xs ys:List AV} (h:LeVs xs ys):xs.length=ys.length:=by
 induction h with
 |nil=>rfl
 |cons _ _ ih=>simp [ih]
theorem LeVs.at {xs ys:List AV} (h:LeVs xs ys):∀(i:Nat) (x y:AV),xs[i]? =some x→ys[i]? =some y→LeV x y:=by
 induction h with
 |nil=>intro i x y h;simp at h
 | cons h _ ih=>
  intro i x y h1 h2;cases i with
  |zero=>simp at h1 h2;subst h1;subst h2;exact h
  |succ i=>exact ih i x y (by simpa using h1) (by simpa using h2)
theorem LeVs.refl:∀xs:List AV,LeVs xs xs
 | []=> .nil
 |_::xs=> .cons .rfl (LeVs.refl xs)
theorem LeV.aggs {xs ys:List AV} (h:LeVs xs ys):LeV (.agg xs) (.agg ys):= .agg h.len h.at
theorem LeV.tups {xs ys:List AV} (h:LeVs xs ys):LeV (.tup xs) (.tup ys):= .tup h.len h.at
theorem LeV.rv {S:Pr} {w:World} {m:List MB} {yv:Option Nat} {x y:AV} (h:LeV x y):∀ {v:Value},RV S w m yv x v→RV S w m yv y v:=by
 induction h with
 |rfl=>exact fun h=>h
 |bad=>exact fun _=> .bad
 |nil h=>exact fun hr=>(LeA.nilSl h).rv hr
 |full=>exact fun hr=>(LeX.full _ _).rv hr
 | agg hl h ih=>
  intro v hr;cases hr with
  | agg hl' hr=>
   refine .agg (hl.symm.trans hl') fun i c v h1 h2=> ?_;have hi:=(Zaa.1 h1).1;exact ih i _ c (Zbk (by omega)) h1 (hr i _ v (Zbk (by omega)) h2)
 | tup hl h ih=>
  intro v hr;cases hr with
  | tup hl' hr=>
   refine .tup (hl.symm.trans hl') fun i c v h1 h2=> ?_;have hi:=(Zaa.1 h1).1;exact ih i _ c (Zbk (by omega)) h1 (hr i _ v (Zbk (by omega)) h2)
section
variable {P:Program}
theorem PCall.leArgsV {f:Nat} {args args':List AV} {x:AV} (h:LeVs args args') (hp:PCall P f args' x):PCall P f args x:=by
 refine ⟨hp.1,fun S w vs hl hvs hlt hgl=>hp.2 S w vs (h.len▸hl) (fun i y v h1 h2=> ?_) hlt hgl⟩;have hi:=(Zaa.1 h1).1;have hi':i<args.length:=h.len▸hi;exact (h.at i _ y (Zbk hi') h1).rv (hvs i _ v (Zbk hi') h2)
theorem PCall.ofWV {f:Nat} {fn:Func} {c:Code} {args:List AV} {x:AV} (hf:P.funcs[f]? =some fn) (hb:fn.body=some c) (hn:(fn.name== "runtime.NumGoroutine")=false) (hargs:args.map Zck=args)
 (hW:∀(Ev:Env P) (b:Ev.β),W Ev c ⟨AAw9 fn args, [],b⟩ (AIg9 P fn fun y hp _=>∃z,SealD hp y z∧LeV z x)):PCall P f args x:=by
 refine ⟨AFi9 hf hb hn,fun S w vs hl hvs hlt hgl=> ?_⟩;have hrel:Rel S (fun b _=>b<w.heap.size) none w [] (args.zip vs++([]++AAa9 [] [])) [] []:=by
  have h0:Rel S (fun b _=>b<w.heap.size) none w [] [] [] []:=⟨fun b i h=>h.elim (hlt b i) id,by simp,List.Pairwise.nil,by simp,by simp,by simp,rfl,rfl,by simp,hgl⟩;have:=h0.pushAll (args.zip vs) (fun p hp=>by
   obtain ⟨j,hj⟩:=Zak.1 hp;rw [Zar] at hj;refine ⟨hvs j p.1 p.2 hj.1 hj.2, ?_⟩;have hp1:p.1.view=p.1:=by
    have h1:(args.map Zck)[j]? =some p.1.view:=by simp [hj.1]
    rw [hargs,hj.1] at h1;exact (Option.some.inj h1).symm
   obtain ⟨p1,p2⟩:=p;simp only at hp1;rw [←hp1];exact AAs9 _ _)
  simpa [AAa9] using this
 refine ADm9 (Ev:=Env.none P none) (V:=fun _ _=>False) (b:=(():Unit)) hf hb hl (hW (Env.none P _) (():Unit)) hrel (fun _ _ h=>h.elim) trivial (Nat.zero_le _) ?_;intro y S' X' V' w' m' hv' hp' v b' hyz htr0 hxs hm hr _ hyv;obtain ⟨z,hy,hz⟩:=hyz;have htr:Tr (fun b i=>¬b<w.heap.size) (fun _=>False) S w S' w':=htr0.mono (fun b i h=>h.resolve_right id) (fun _ h=>h);refine ⟨v,ACq9 S' m',rfl,AEq9 htr (fun b i hb hz=>hz hb) (fun _ h=>h),fun b i hs=> .inl (htr.up b i hs),fun b i hs=> ?_,(hz.rv (AHb9 (B:= []) (T:=ACq9 S' m') (by simpa using hr) (fun _ _ h=> .inl h) hy (fun g _ p hp i hi=> .inr ⟨g,p,hp,rfl,hi⟩) hyv)).view⟩;rcases hs with hs|⟨g,p,hg,rfl,hi⟩
 ·rcases htr.new b i hs with h1|h1|h1
  ·exact .inl h1
  ·exact .inr ⟨Nat.le_of_not_lt h1,htr.lt b i hs⟩
  ·exact .inr ⟨h1,htr.lt b i hs⟩
 ·have hr':Rel S' X' none w' m' (([]:List (AV×Value))++AAa9 hp' hv') hp' hv':=hr;obtain ⟨blk,us,cur,e,g1,g2,g3,g4,g5,g6,g7,g8,g9,g10,g11,g12⟩:=hr'.block hg;have hlt':p.b<w'.heap.size:=(Zah.1 g8).1;cases hfr:blk.fro with
  | true=>
   have hs:=g12 hfr i hi;rcases htr.new _ _ hs with h1|h1|h1
   ·exact .inl h1
   ·exact .inr ⟨Nat.le_of_not_lt h1,hlt'⟩
   ·exact .inr ⟨h1,hlt'⟩
  | false=>
   refine .inr ⟨Nat.le_of_not_lt fun hb=> ?_,hlt'⟩;exact (g11 hfr i).2 (hxs _ _ hb)
theorem PCall.ofFnV {f n:Nat} {fn:Func} {args:List AV} {x:AV} {T:List (Nat×(List AV→(AV→Prop)→Prop))} {U:List (Nat×(List AV→List Blk→(AV→List Blk→Prop)→Prop))} {u:Bool} (wl:∀β:Type,WLT β) (hm:P.follows .mixedOrders=true)
 (hT:AAk9 P T) (hS:AAn9 P U) (hwl:∀(Ev:Env P) c tm hp b K,wl Ev.β c tm hp b K→W Ev c ⟨tm,hp,b⟩ (fun e s=>K e s.tm s.hp s.b)) (hf:P.funcs[f]? =some fn) (hn:(fn.name== "runtime.NumGoroutine")=false) (hargs:args.map Zck=args)
 (h:∀(Ev:Env P) (b:Ev.β),wpFn P ⟨T,U,wl Ev.β,Ev.Y,u⟩ n fn args b (fun y _=>LeV y x)):PCall P f args x:=by
 cases hb:fn.body with
 | some c=>
  refine PCall.ofWV hf hb hn hargs fun Ev b=> ?_;have h1:=h Ev b;unfold wpFn at h1;rw [hb] at h1;refine AAo9 hm (CX.Ok.ofWl hT hS (hwl Ev)) h1 fun e tm hp b hK=> ?_;obtain ⟨g1,ys,g2,z,g3,g4⟩:=ACu9 hK;exact ⟨g1,ys,g2,z,g3,g4⟩
 | none=>
  have:=h (Env.none P none) ();unfold wpFn at this;rw [hb] at this;exact this.elim
end
def AGg9 (a n:Nat):List AV:=(List.range' a n).map fun i=>AV.ptr i 0
theorem ALx9 {a n i:Nat}:(AGg9 a n)[i]? =if i<n then some (.ptr (a+i) 0) else none:=by
 unfold AGg9;rw [List.getElem?_map];by_cases h:i<n
 ·rw [if_pos h,List.getElem?_range' h];simp
 ·rw [if_neg h,List.getElem?_eq_none (by simp;omega)];rfl
def ATp9 (P:Program) (f:Nat) (args:List AV) (bs:List Blk) (Sp:SpT):Prop:=
 (∀(ar:Array Value) (w:World),(callFunc f ar).run P w= .ok (.enter f ar) w)∧
 ∀ (Ev:Env P) (b:Ev.β) (Q:Ev.β→Prop),Sp Ev.Y b Q→∀(S X V:Pr) (w:World) (m:List MB) (hv:List (List Value)) (vs:List Value),args.length=vs.length→
  Rel S X Ev.yl w m (args.zip vs++([]++AAa9 bs hv)) bs hv→(∀b i,V b i→X b i)→Ev.E b S V w→Ev.N≤w.heap.size→
  CallsIn Fence.wide 0 P f vs.toArray w fun e w'=>∃v b' S' V',e= .returned v∧Q b'∧Ev.E b' S' V' w'
section
variable {P:Program} {S S' X X' V V':Pr} {r:Option Nat} {lo:Nat} {w w':World} {m m':List MB} {B:List (AV×Value)} {hp hp':List Blk} {hv hv':List (List Value)} {a:Act} {Ev:Env P} {s:St Ev.β} {Q:Exit→St Ev.β→Prop} {c:Code}
set_option maxHeartbeats 1000000 in
theorem W0.ranges {g:Operand} {ps:Array Tmp} {assign body:Code} {k:Nat} {hp0:List Blk} {lent:List Blk} {Sp:SpT} (hs:s.hp=hp0++lent) (hfro:∀q∈lent,q.fro=false) (hlow:lowHp hp0.length s.hp=true)
 (hcl:∀q∈lent,ABy9 q.cells=true∧q.cells.map Zck=q.cells) (hg:evalA s.tm g= .fn (.func k) [] (AGg9 hp0.length lent.length))
 (hI:ATp9 P k (.yl::AGg9 0 lent.length) lent Sp) (h:Sp (YBody Ev (lowTm hp0.length s.tm) ps assign body hp0.length) (hp0,s.b,none) (ADq9 (lowTm hp0.length s.tm) Q)):W0 Ev (.rangeFunc g ps assign body) s Q:=by
 intro lo r S X V w m hv a ht;refine wpIn_rangeFunc fun fn _=> ?_;obtain ⟨l,bs,w1,D,e1,e2,e3,e4,e5,e6⟩:=AMp9 (P:=P) fn a.tmps ps assign body ht.round;have hfv:=AAj9 ht.rel g;rw [hg] at hfv;generalize hfe:a.eval g=fv at hfv;cases hfv with
 | fn hne hl1 hl2 h1 h2=>
  rename_i fs cs;have hfs:fs=#[]:=by simpa using hl1.symm
  subst hfs;have hcsz:cs.size=lent.length:=by rw [←hl2];simp [AGg9]
  have hgs:=Gs.below ht.rel.2.1 e3 (S':=S) ⟨fun _ _ h=>h,fun _ _ h=> .inl h⟩;have hlt1:∀b i,S b i→b<w1.heap.size:=fun b i hs=>Nat.lt_of_lt_of_le (ht.rel.slt b i hs) e3.size;have htr:=hgs.tr hlt1;have hrel1:Rel S X Ev.yl w1 m (s.tm.zip a.tmps.toList++AAa9 s.hp hv) s.hp hv:=by
   simpa using ht.rel.2.1.below e3 (fun _ _ h=>h) (fun _ _ h=> .inl h)
  have hsl:s.hp.length=hp0.length+lent.length:=by rw [hs];simp
  have hml:m.length=hp0.length+lent.length:=by rw [hrel1.ml,hsl]
  have hvl:hv.length=hp0.length+lent.length:=by rw [hrel1.hl,hsl]
  have hcap:∀i,i<lent.length→∃q:MB,(m.drop hp0.length)[i]? =some q∧q.grow=false∧cs[i]? =some (.pointer (some ⟨q.b,0,none⟩)):=by
   intro i hi;have hci:i<cs.size:=by omega
   have hr:=h2 i (.ptr (hp0.length+i) 0) cs[i] (by rw [ALx9,if_pos hi]) (by simp [hci]);generalize hcv:cs[i]=cv at hr;cases hr with
   | ptr hm=>
    rename_i pb plen pver;refine ⟨_,by rw [Zbm];exact hm,rfl, ?_⟩;rw [Array.getElem?_eq_getElem hci,hcv]
  have hmBl:(m.drop hp0.length).length=lent.length:=by simp;omega
  have hcs:cs.toList=(m.drop hp0.length).map fun q=> .pointer (some ⟨q.b,0,none⟩):=by
   refine List.ext_getElem? fun i=> ?_;by_cases hi:i<lent.length
   ·obtain ⟨q,q1,_,q2⟩:=hcap i hi;rw [List.getElem?_map,q1,Array.getElem?_toList,q2];rfl
   ·rw [List.getElem?_eq_none (by simp;omega),List.getElem?_eq_none (by simp;omega)]
  have hrelL:Rel S X Ev.yl w1 m ((lowTm hp0.length s.tm).zip a.tmps.toList++AAa9 s.hp hv) s.hp hv:=Rel.lowered hp0.length hrel1;have hnT:∀p∈(lowTm hp0.length s.tm).zip a.tmps.toList,RV S w1 (m.take hp0.length) Ev.yl p.1 p.2:=by
   intro p hp;refine (hrelL.rv p (Zbc _ hp)).low ?_;have:=(List.of_mem_zip hp).1;simp only [lowTm,List.mem_map] at this;obtain ⟨x,_,h3⟩:=this;rw [←h3];split
   ·assumption
   ·rfl
  have hrelT:=hrelL.trunc hnT hlow;have hp0t:s.hp.take hp0.length=hp0:=by rw [hs];simp
  rw [hp0t] at hrelT;have hgb:∀i,(s.hp)[hp0.length+i]? =lent[i]? :=fun i=>by rw [hs,Zao (by omega)];congr 1;omega
  have hblk:∀(i:Nat) (blk:Blk) (q:MB) (vs:List Value),lent[i]? =some blk→(m.drop hp0.length)[i]? =some q→(hv.drop hp0.length)[i]? =some vs→
   s.hp[hp0.length+i]? =some blk∧m[hp0.length+i]? =some q∧hv[hp0.length+i]? =some vs:=fun i blk q vs q1 q2 q3=>
   ⟨by rw [hgb];exact q1,by rw [Zbm] at q2;exact q2,by rw [Zbm] at q3;exact q3⟩
  have hSn:∀q∈m.drop hp0.length,q.b<w1.heap.size∧∀i,¬S q.b i∧¬X q.b i:=by
   intro q hq;obtain ⟨i,hi⟩:=Zak.1 hq;have hil:i<lent.length:=by rw [←hmBl];exact (Zaa.1 hi).1
   have hvil:i<(hv.drop hp0.length).length:=by simp;omega
   obtain ⟨k1,k2,k3⟩:=hblk i lent[i] q (hv.drop hp0.length)[i] (by simp [hil]) hi (Zbk hvil);obtain ⟨a1,a2,a3,a4,a5,a6,a9,a10⟩:=hrel1.bl _ _ _ _ k1 k2 k3;refine ⟨?_,a9 (hfro _ (List.getElem_mem hil))⟩;obtain ⟨cur,e,h3,_⟩:=a6;exact (Zah.1 h3).1
  have hl1w:l<w1.heap.size:=(Zah.1 e2).1;obtain ⟨bs0,m1,m2,m3⟩:=ht.marks;have hbs0:∀b∈bs0,b<w.heap.size:=fun b hb=>(Zah.1 (m3 b hb).2).1;have hr0:∀l0,r=some l0→l0<w.heap.size:=fun l0 hl0=>by
   obtain ⟨rc,h3⟩:=ht.round l0 hl0;exact (Zah.1 h3).1
  have hm0:(m.take hp0.length).length≤hp0.length:=by simp;omega
  have hbsN:∀b∈bs++bs0,b<w1.heap.size:=fun b hb=>(Zco.1 hb).elim (fun h=>(e6 b h).2.1) (fun h=>Nat.lt_of_lt_of_le (hbs0 b h) e3.size);have html:(lowTm hp0.length s.tm).length=a.tmps.size:=by simpa [lowTm] using ht.rel.1
  let Er:=AUj9 Ev r S X V w (m.take hp0.length) (lowTm hp0.length s.tm) a [] hp0.length (bs++bs0) l {state:= .ready,pending:=none,fn,tmps:=a.tmps,params:=ps,assign,body,defers:=D} w1.heap.size html rfl
   (Zch ht.base.1 ht.base.2) e4 hm0 hl1w hbsN (fun l0 hl0=>Nat.lt_of_lt_of_le (hr0 l0 hl0) e3.size)
  have hrelB:Rel S (fun b _=>b<w1.heap.size∧¬∃q∈m.drop hp0.length,q.b=b) (some l) w1 (m.drop hp0.length) ((AV.yl::AGg9 0 lent.length).zip (Zcd (.yield l) #[] #[]::cs.toList)++([]++AAa9 lent (hv.drop hp0.length))) lent (hv.drop hp0.length):=by
   have hcp:∀p∈AAa9 lent (hv.drop hp0.length),RV S w1 (m.drop hp0.length) (some l) p.1 p.2∧ownB p=none:=by
    intro p hp;simp only [AAa9,List.mem_flatMap] at hp;obtain ⟨⟨blk,vs⟩,hq,hp⟩:=hp;obtain ⟨i,hi⟩:=Zak.1 hq;rw [Zar] at hi;have hpm:p∈AAa9 s.hp hv:=by
     simp only [AAa9,List.mem_flatMap];refine ⟨(blk,vs),Zak.2 ⟨hp0.length+i, ?_⟩,hp⟩;rw [Zar];exact ⟨by rw [hgb];exact hi.1,by have:=hi.2;rw [Zbm] at this;exact this⟩
    have hc1:=(List.of_mem_zip hp).1;obtain ⟨j,hj⟩:=Zak.1 hc1;obtain ⟨hcl1,hvw⟩:=hcl blk (Zbi hi.1);refine ⟨((hrel1.rv p (List.mem_append_right _ hpm)).closed (ABj9 hcl1 j _ hj)).opened, ?_⟩;have h3:(blk.cells.map Zck)[j]? =some p.1.view:=by simp only at hj;simp [hj]
    rw [hvw] at h3;simp only at hj;rw [hj] at h3;obtain ⟨p1,p2⟩:=p;simp only [Option.some.injEq] at h3;rw [h3];exact AAs9 _ _
   have h0:Rel S (fun b _=>b<w1.heap.size∧¬∃q∈m.drop hp0.length,q.b=b) (some l) w1 (m.drop hp0.length) [] lent (hv.drop hp0.length):=by
    refine ⟨fun b i h=>h.elim (hlt1 b i) (fun h=>h.1),by simp,List.Pairwise.nil,by simp,by simp, ?_,hmBl,by simp;omega,fun g blk' p vs q1 q2 q3=> ?_,hrel1.gl⟩
    ·have:=hrel1.mnd;rw [←List.take_append_drop hp0.length m,List.map_append] at this;exact (List.nodup_append.1 this).2.1
    ·obtain ⟨k1,k2,k3⟩:=hblk g blk' p vs q1 q2 q3;obtain ⟨a1,a2,a3,a4,a5,a6,a9,a10⟩:=hrel1.bl _ _ _ _ k1 k2 k3;have hpm:p∈m.drop hp0.length:=Zbi q2;exact ⟨a1,a2,a3,a4,a5,a6,fun _ i=>⟨((hSn p hpm).2 i).1,fun h=>h.2 ⟨p,hpm,rfl⟩⟩,fun hf=>by rw [hfro _ (Zbi q1)] at hf;cases hf⟩
   have h3:=h0.pushAll _ hcp;have h4:=h3.pushAll ((AV.yl::AGg9 0 lent.length).zip (Zcd (.yield l) #[] #[]::cs.toList)) (by
    intro p hp;rw [List.zip_cons_cons] at hp;rcases Zbx.1 hp with rfl|hp
    ·exact ⟨.yl rfl,rfl⟩
    ·obtain ⟨i,hi⟩:=Zak.1 hp;rw [Zar,ALx9] at hi;obtain ⟨hi1,hi2⟩:=hi;split at hi1
     ·rename_i hil;obtain ⟨q,q1,qg,q2⟩:=hcap i hil;rw [Array.getElem?_toList,q2] at hi2;obtain ⟨p1,p2⟩:=p;simp only [Option.some.injEq] at hi1 hi2;subst hi1;subst hi2;obtain ⟨qb,ql,qgr,qv⟩:=q;simp only at qg;subst qg;refine ⟨.ptr (len:=ql) (ver:=qv) (by rw [Nat.zero_add];exact q1),rfl⟩
     ·cases hi1)
   simpa using h4
  have hE:Er.E (hp0,s.b,none) S (fun b _=>b<w1.heap.size∧¬∃q∈m.drop hp0.length,q.b=b) w1:=by
   refine ⟨X,V,m.take hp0.length,hv.take hp0.length,Zas _,by simpa using hrelT,ht.sub,Ev.stable ht.env (htr.mono (fun b i hx hv=>hx (ht.sub b i hv)) (fun _ h=>h)),MStep.refl _,ht.round.tr htr,fun b hb=> ?_,fun c hc i=> ?_,fun b i hv=> ?_,fun b i h=>h.1,fun b i hx=>⟨hrel1.lt b i (.inr hx), ?_⟩,e2,hgs.went hlt1⟩
   ·rcases Zco.1 hb with h3|h3
    ·exact (e6 b h3).2.2
    ·rw [e3.block b (hbs0 b h3)];exact (m3 b h3).2
   ·have hc':Owned hp0 (m.take hp0.length) ((lowTm hp0.length s.tm).zip a.tmps.toList++AAa9 hp0 (hv.take hp0.length)) c:=by simpa using hc
    refine ⟨hrelT.ownedLt hc', ?_⟩;rintro ⟨q,hq,rfl⟩;obtain ⟨i,hi⟩:=Zak.1 hq;have hmi:m[hp0.length+i]? =some q:=by rw [Zbm] at hi;exact hi
    rcases hc' with ⟨g,blk',p,q1,q2,q3,q4⟩|⟨p,q1,q2⟩
    ·have hgl:g<hp0.length:=(Zaa.1 q1).1;have q5:m[g]? =some p:=by rw [Zaq,if_pos hgl] at q2;exact q2
     have hnd:=hrel1.mnd;have q6:(m.map (·.b))[g]? =some q.b:=by simp [q5,q4]
     have q7:(m.map (·.b))[hp0.length+i]? =some q.b:=by simp [hmi]
     have:=(List.getElem?_inj (by simp;exact (Zaa.1 q5).1) hnd).1 (q6.trans q7.symm);omega
    ·have q3:p∈(lowTm hp0.length s.tm).zip a.tmps.toList++AAa9 s.hp hv:=by
      rcases Zco.1 q1 with q3|q3
      ·exact Zbc _ q3
      ·refine List.mem_append_right _ ?_;simp only [AAa9,List.mem_flatMap] at q3 ⊢;obtain ⟨q,q4,q5⟩:=q3;refine ⟨q, ?_,q5⟩;have q6:hp0.zip (hv.take hp0.length)=(s.hp.zip hv).take hp0.length:=by
        have q7:(s.hp.zip hv).take hp0.length=(s.hp.take hp0.length).zip (hv.take hp0.length):=by simp [List.zip,List.take_zipWith]
        rw [q7,hp0t]
       rw [q6] at q4;exact List.mem_of_mem_take q4
     exact hrelL.nm p q3 q.b q2 q (Zbi hmi) rfl
   ·have:=ht.sub b i hv;exact ⟨hrel1.lt b i (.inr this),fun ⟨q,hq,he⟩=>((hSn q hq).2 i).2 (he▸this)⟩
   ·exact fun ⟨q,hq,he⟩=>((hSn q hq).2 i).2 (he▸hx)
  have hcalls:=hI.2 Er (hp0,s.b,none) (ADq9 (lowTm hp0.length s.tm) Q) h S _ (fun b _=>b<w1.heap.size∧¬∃q∈m.drop hp0.length,q.b=b) w1 _ _ (Zcd (.yield l) #[] #[]::cs.toList) (by simp [AGg9,hcsz]) hrelB (fun _ _ h=>h) hE (Zas _);refine ⟨l,bs.map fun b=> {target:= .collected b,args:=#[]},w1, {target:= .fn (.func k) cs,args:=#[]++#[Zcd (.yield l) #[] #[]]},w1,k,#[]++#[Zcd (.yield l) #[] #[]]++cs,w1,e1, ?_,fun _ _=>trivial, ?_,fun hd=>(by cases hd), ?_⟩
  ·have hm:Array.map a.eval #[Operand.const (Zcd (Fn.yield l) #[] #[])]=#[a.eval (Operand.const (Zcd (Fn.yield l) #[] #[]))]:=by simp
   simp only [resolve,hfe,Deferred.ofValue,hm];rfl
  ·simp only [invoke];exact hI.1 _ _
  ·have hargs:(#[]++#[Zcd (.yield l) #[] #[]]++cs:Array Value)=(Zcd (.yield l) #[] #[]::cs.toList).toArray:=by
    apply Array.ext';simp
   rw [hargs];refine (CallsIn.mono hcalls ?_:CallsIn Fence.wide 0 P k _ w1 _);rintro e w3 ⟨v,⟨hpE,bE,stE⟩,S',V',rfl,hQ,hE'⟩;obtain ⟨Xc,Vc,mC,hvC,g0,g1,g2,g3,g4,g5,g6,g7,g8,g9,gXV,g10,g11⟩:=hE';simp only at g0 g1 g3 g10;refine ⟨_,_,run_endLoop g10 (by cases stE<;>simp), ?_⟩;have hlN:Ev.N≤l:=Zch (Zch ht.base.1 ht.base.2) e4;have hbeh:∀e,Q e ⟨lowTm hp0.length s.tm,hpE,bE⟩→Beh0 Ev lo r S X V w Q e {a with defers:=(bs.map fun b=> {target:= .collected b,args:=#[]})++a.defers}
    (w3.putObj l (.loop {state:= .exhausted,pending:=stE.map AGv9,fn,tmps:=a.tmps,params:=ps,assign,body,defers:=D})):=by
    intro e hQe;refine ⟨⟨lowTm hp0.length s.tm,hpE,bE⟩,S',Xc,Vc,mC,hvC,hQe,g11.putObj e4 g10,⟨⟨html, ?_,by intro p hp;cases hp⟩,g2,Ev.stableO _ g3 hlN g10 rfl rfl,fun l0 hl0=> ?_, ?_,ht.base.1, ?_⟩⟩
    ·simpa using g1.putObj (o':= .loop {state:= .exhausted,pending:=stE.map AGv9,fn,tmps:=a.tmps,params:=ps,assign,body,defers:=D}) g10 rfl
    ·obtain ⟨rc,h3⟩:=g5 l0 hl0;exact ⟨rc,ABk9 h3 (by have:=hr0 l0 hl0;omega)⟩
    ·refine ⟨bs++bs0,by simp [m1], ?_,fun b hb=>⟨?_,ABk9 (g6 b hb) ?_⟩⟩
     ·rw [List.nodup_append];refine ⟨e5,m2,fun x hx y hy hxy=> ?_⟩;have:=(e6 x hx).1;have:=hbs0 y hy;omega
     ·rcases Zco.1 hb with h3|h3
      ·exact Zch ht.base.2 (e6 b h3).1
      ·exact (m3 b h3).1
     ·rintro rfl;have:=g6 _ hb;rw [g10] at this;cases this
    ·simpa using Zch ht.base.2 g11.tr.size
   cases stE with
   |none=>exact hbeh .normal hQ
   | some e=>
    cases e with
    |exit id=>exact wpIn_exit (hbeh (.exit id) hQ)
    |goto t=>exact wpIn_goto (hbeh (.goto t) hQ)
    |ret=>exact wpIn_ret (hbeh .ret hQ)
    |normal=>exact wpIn_ret (hbeh .ret hQ)
    |panic ch=>exact wpIn_ret (hbeh .ret hQ)
    |outgrown=>exact wpIn_ret (hbeh .ret hQ)
theorem ATp9.ofW {f:Nat} {fn:Func} {args:List AV} {lent:List Blk} {Sp:SpT} (hf:P.funcs[f]? =some fn) (hb:fn.body=some c) (hn:(fn.name== "runtime.NumGoroutine")=false)
 (hW:∀(Ev:Env P) (b:Ev.β) (Q:Ev.β→Prop),Sp Ev.Y b Q→W Ev c ⟨AAw9 fn args,lent,b⟩ (AIg9 P fn fun _ _ b'=>Q b')):ATp9 P f args lent Sp:=by
 refine ⟨AFi9 hf hb hn,fun Ev b Q hSp S X V w m hv vs hl hrel hV hE hN=> ?_⟩;refine ADm9 (Ev:=Ev) (V:=V) (B:= []) hf hb hl (hW Ev b Q hSp) hrel hV hE hN ?_;intro y S' X' V' w' m' hv' hp' v b' hq _ _ _ _ hE' _;exact ⟨v,b',S',V',rfl,hq,hE'⟩
end
end Go.Proofs.YtibhflogmbfpcaaGreatDoor.Am
namespace Go.Proofs.YtibhflogmbfpcaaGreatDoor.Am
open Go Go.RowKit Go.Proofs
open AV renaming view → Zck
open _root_.Array renaming getElem?_eq_some_iff → Zah
open Bool renaming and_eq_true → Zal
open Go.IntKind renaming wrap → Zac
open List renaming all_eq_true → Zav, getElem?_append_left → Zan, getElem?_append_right → Zao, getElem?_drop → Zbm, getElem?_eq_getElem → Zbk, getElem?_eq_some_iff → Zaa, getElem?_take → Zaq, getElem?_zip_eq_some → Zar, mem_append → Zco, mem_append_left → Zbc, mem_cons → Zbx, mem_cons_of_mem → Zaw, mem_cons_self → Zbb, mem_iff_getElem? → Zak, mem_of_getElem? → Zbi, range → Zay
open Nat renaming le_refl → Zas, le_trans → Zch
open Option renaming map_eq_some_iff → Zaj
open Go.Region renaming ready → Zek
open Go.Value renaming func → Zcd
open AV (bad)
set_option linter.unusedVariables false
def AAb9 (b:List Int):List (List Dv):=b.map fun x=> [u8 x]
def intsR (p:List Int):List (List Dv):=p.map fun x=> [i64 x]
def digR (p:List Int):List (List Dv):=p.map fun x=> [u64 x]
theorem AFu9 (p:List Int) (n:Nat):(AAb9 p).take n=AAb9 (p.take n):=by simp [AAb9]
theorem AOx9 (p:List Int) (n:Nat):(AAb9 p).drop n=AAb9 (p.drop n):=by simp [AAb9]
theorem AAf9 (p:List Int):(AAb9 p).length=p.length:=by simp [AAb9]
theorem BIu9 (p:List Int):(intsR p).length=p.length:=by simp [intsR]
theorem ABd9 (p:List Int):(digR p).length=p.length:=by simp [digR]
theorem BGd9 (p q:List Int):AAb9 (p++q)=AAb9 p++AAb9 q:=by simp [AAb9]
theorem AQi9 (p:List Int) (x:Int):digR p++ [[u64 x]]=digR (p++ [x]):=by simp [digR]
theorem BGc9 {p:List Int} {k:Nat} (h:k<p.length):(AAb9 p)[k]? =some [u8 (nth p k)]:=by simp [AAb9,nth,h]
theorem AXq9 {p:List Int} {k:Nat} (h:k<p.length):(digR p)[k]? =some [u64 (nth p k)]:=by simp [digR,nth,h]
theorem BBc9 {x:Int} (h0:0≤x) (h1:x<256):Zac .u8 x=x:=by
 simp only [Zac];simp [IntKind.signed,IntKind.bits];omega
theorem AAt9 {x:Int} (h0: -9223372036854775808≤x) (h1:x<9223372036854775808):Zac .i64 x=x:=by
 simp only [Zac];simp [IntKind.signed,IntKind.bits];omega
theorem AGc9 {x:Int} (h0:0≤x) (h1:x<18446744073709551616):Zac .u64 x=x:=by
 simp only [Zac];simp [IntKind.signed,IntKind.bits];omega
theorem AIj9 (x:Int):0≤Zac .u64 x∧Zac .u64 x<18446744073709551616:=by
 simp only [Zac];simp [IntKind.signed,IntKind.bits];omega
theorem ACt9 {n k:Nat} (h:k<n) (hn:n≤9223372036854775807):Zac .i64 ((k:Int)+1)=((k+1:Nat):Int):=by
 rw [AAt9 (by omega) (by omega)];simp
theorem ABr9 {α:Type} {l rest:List α} {r:α} {k:Nat} (hd:l.drop k=r::rest):k<l.length∧l[k]? =some r∧l.drop (k+1)=rest:=by
 refine ⟨?_, ?_, ?_⟩
 ·rcases Nat.lt_or_ge k l.length with h|h
  ·exact h
  ·rw [List.drop_eq_nil_of_le h] at hd;cases hd
 ·have:=congrArg (fun x=>x[0]?) hd;simpa using this
 ·have:=congrArg List.tail hd;simpa using this
theorem ADw9 {α:Type} {l:List α} {k:Nat} (hd:l.drop k= []):l.length≤k:=List.drop_eq_nil_iff.1 hd
theorem LeL.at {x y:AV} (pre post:List AV) (h:LeA x y):LeL (pre++x::post) (pre++y::post):=by
 induction pre with
 |nil=>exact .cons h (LeL.refl _)
 |cons a pre ih=>exact .cons .rfl ih
theorem YList.mono {P:Program} {Ev:Env P} {Q Q':Ev.β→Prop} (hq:∀b,Q b→Q' b):∀(l:List (List AV)) (b:Ev.β),YList Ev.Y l b Q→YList Ev.Y l b Q'
 | [],b,h=>hq b h
 | x::l,b,h=>Ev.Ymono h fun c b' h=>by
  cases c with
  |true=>exact YList.mono hq l b' h
  |false=>exact hq b' h
theorem BSb9 {x:Dv} (h:HasTy (.sl [.int .u8]) x):∃p:List Int,x= .sl 1 (AAb9 p)∧p.length≤maxLen∧∀a∈p,0≤a∧a<256:=by
 cases h with
 | sl _ xs hl h=>
  have key:∀(xs:List (List Dv)),(∀row∈xs,ATq9 [.int .u8] row)→∃p:List Int,xs=AAb9 p∧∀a∈p,0≤a∧a<256:=by
   intro xs;induction xs with
   |nil=>exact fun _=>⟨[],rfl,fun a h=>by cases h⟩
   | cons row xs ih=>
    intro h;obtain ⟨p,rfl,hp⟩:=ih fun r hr=>h r (Zaw _ hr);have h0:=h row (Zbb ..);cases h0 with
    | cons h1 h2=>cases h2 with
     | nil=>cases h1 with
      | int _ n hw=>
       refine ⟨n::p,rfl,fun a ha=> ?_⟩;rcases Zbx.1 ha with rfl|ha
       ·simp [Lit.wf,IntKind.min,IntKind.max,IntKind.signed,IntKind.bits] at hw;omega
       ·exact hp a ha
  obtain ⟨p,rfl,hp⟩:=key xs h;exact ⟨p,rfl,by simpa [AAb9] using hl,hp⟩
end Go.Proofs.YtibhflogmbfpcaaGreatDoor.Am
namespace Go.Proofs.YtibhflogmbfpcaaGreatDoor.Am
open Go Go.RowKit
open AV renaming view → Zck
open _root_.Array renaming getElem?_eq_some_iff → Zah
open Bool renaming and_eq_true → Zal
open Go.IntKind renaming wrap → Zac
open List renaming all_eq_true → Zav, getElem?_append_left → Zan, getElem?_append_right → Zao, getElem?_drop → Zbm, getElem?_eq_getElem → Zbk, getElem?_eq_some_iff → Zaa, getElem?_take → Zaq, getElem?_zip_eq_some → Zar, mem_append → Zco, mem_append_left → Zbc, mem_cons → Zbx, mem_cons_of_mem → Zaw, mem_cons_self → Zbb, mem_iff_getElem? → Zak, mem_of_getElem? → Zbi, range → Zay
open Nat renaming le_refl → Zas, le_trans → Zch
open Option renaming map_eq_some_iff → Zaj
open Go.Region renaming ready → Zek
open Go.Value renaming func → Zcd
open AV (bad)
set_option linter.unusedVariables false
inductive LeF:AV→AV→Prop
 |v {x y:AV} (h:LeV x y):LeF x y
 |nilFull {x:AV} {k:Nat} (h:AAl9 x=true):LeF x (.full k [])
theorem LeF.rfl {x:AV}:LeF x x:= .v .rfl
section
variable {P:Program} {S S' T V:Pr} {yv:Option Nat} {w w':World} {m m':List MB} {hp hp' hp1:List Blk} {hv':List (List Value)}
theorem LeF.rv {x y:AV} {v:Value} (h:LeF x y) (hr:RV S w m yv x v):RV S w m yv y v:=by
 cases h with
 |v h=>exact h.rv hr
 | nilFull h=>
  have:=AAq9 h hr;subst this;exact RV.full (xs:= []) (.nil _)
theorem FCall.ofWF {f:Nat} {fn:Func} {c:Code} {args:List AV} {x:AV} (hf:P.funcs[f]? =some fn) (hb:fn.body=some c) (hn:(fn.name== "runtime.NumGoroutine")=false) (hargs:args.map Zck=args) (hfro:hp1.all (fun b=> !b.fro)=true)
 (hW:∀(Ev:Env P) (b:Ev.β),W Ev c ⟨AAw9 fn args, [],b⟩ (AIg9 P fn fun y hp _=>LeF y x∧hp=hp1)):FCall P f args x hp1:=by
 refine ⟨AFi9 hf hb hn,fun S w vs hl hvs hlt hgl=> ?_⟩;have hrel:Rel S (fun b _=>b<w.heap.size) none w [] (args.zip vs++([]++AAa9 [] [])) [] []:=by
  have h0:Rel S (fun b _=>b<w.heap.size) none w [] [] [] []:=⟨fun b i h=>h.elim (hlt b i) id,by simp,List.Pairwise.nil,by simp,by simp,by simp,rfl,rfl,by simp,hgl⟩;have:=h0.pushAll (args.zip vs) (fun p hp=>by
   obtain ⟨j,hj⟩:=Zak.1 hp;rw [Zar] at hj;refine ⟨hvs j p.1 p.2 hj.1 hj.2, ?_⟩;have hp1:p.1.view=p.1:=by
    have h1:(args.map Zck)[j]? =some p.1.view:=by simp [hj.1]
    rw [hargs,hj.1] at h1;exact (Option.some.inj h1).symm
   obtain ⟨p1,p2⟩:=p;simp only at hp1;rw [←hp1];exact AAs9 _ _)
  simpa [AAa9] using this
 refine ADm9 (Ev:=Env.none P none) (V:=fun _ _=>False) (b:=(():Unit)) hf hb hl (hW (Env.none P _) (():Unit)) hrel (fun _ _ h=>h.elim) trivial (Nat.zero_le _) ?_;intro y S' X' V' w' m' hv' hp' v b' hy htr0 hxs hm hr _ hyv;obtain ⟨hle,rfl⟩:=hy;have htr:Tr (fun b i=>¬b<w.heap.size) (fun _=>False) S w S' w':=htr0.mono (fun b i h=>h.resolve_right id) (fun _ h=>h);have hr':Rel S' X' none w' m' (AAa9 hp' hv') hp' hv':=by
  have h0:=hr;simp only [List.nil_append] at h0;exact h0
 refine ⟨v,S',m',hv',rfl,AEq9 htr (fun b i hb hz=>hz hb) (fun _ h=>h),htr.up,fun b i hs=> ?_,fun p hp=> ?_,(hr'.lessX hxs).cons (hle.rv hyv).view (AAs9 _ _)⟩
 ·rcases htr.new b i hs with h1|h1|h1
  ·exact .inl h1
  ·exact .inr ⟨Nat.le_of_not_lt h1,htr.lt b i hs⟩
  ·exact .inr ⟨h1,htr.lt b i hs⟩
 ·obtain ⟨g,hg⟩:=Zak.1 hp;have hr2:Rel S' X' none w' m' (([]:List (AV×Value))++AAa9 hp' hv') hp' hv':=hr';obtain ⟨blk,us,cur,e,g1,g2,g3,g4,g5,g6,g7,g8,g9,g10,g11,g12⟩:=hr2.block hg;have hfr:blk.fro=false:=by
   have:=Zav.1 hfro blk (Zbi g1);simpa using this
  exact Nat.le_of_not_lt fun hb=>(g11 hfr 0).2 (hxs _ _ hb)
theorem FCall.ofFnF {f n:Nat} {fn:Func} {args:List AV} {x:AV} {hp1:List Blk} {T:List (Nat×(List AV→(AV→Prop)→Prop))} {U:List (Nat×(List AV→List Blk→(AV→List Blk→Prop)→Prop))} {u:Bool} (wl:∀β:Type,WLT β) (hm:P.follows .mixedOrders=true)
 (hT:AAk9 P T) (hS:AAn9 P U) (hwl:∀Ev:Env P,∀c tm hp b K,wl Ev.β c tm hp b K→W Ev c ⟨tm,hp,b⟩ (fun e s=>K e s.tm s.hp s.b)) (hf:P.funcs[f]? =some fn) (hn:(fn.name== "runtime.NumGoroutine")=false) (hargs:args.map Zck=args) (hfro:hp1.all (fun b=> !b.fro)=true)
 (h:∀(Ev:Env P) (b:Ev.β),wpFnS P ⟨T,U,wl Ev.β,Ev.Y,u⟩ n fn args b fun y hp _=>LeF y x∧hp=hp1):FCall P f args x hp1:=by
 cases hb:fn.body with
 | none=>
  have:=h (Env.none P none) (():Unit);simp only [wpFnS,hb] at this
 | some c=>
  refine FCall.ofWF hf hb hn hargs hfro fun Ev b=> ?_;have h1:=h Ev b;simp only [wpFnS,hb] at h1;exact AAo9 hm (CX.Ok.ofWl hT hS (hwl Ev)) h1 fun e tm hp b hK=>AIz9 hK
theorem AAn9.cons {P:Program} {k:Nat} {f:List AV→List Blk→(AV→List Blk→Prop)→Prop} {T:List (Nat×(List AV→List Blk→(AV→List Blk→Prop)→Prop))} (h:∀args hp K,f args hp K→∃x hp',SCall P k args hp x hp'∧K x hp') (hT:AAn9 P T):AAn9 P ((k,f)::T):=by
 intro j g hj;simp only [List.lookup] at hj;split at hj
 ·rename_i he;have:j=k:=by simpa using he
  subst this;cases hj;exact h
 ·exact hT j g hj
end
def blkG (cs:List AV) (v:Nat):Blk:=⟨cs,false,true,v⟩
def cellV (x:AV):Blk:=⟨[x],false,false,0⟩
def nilV:AV:= .d (.s (.slice none 0 0))
theorem ADv9:∀q:List Int,flatA (AAb9 q)=q.map fun x=>AV.d (u8 x)
 | []=>rfl
 | a::q=>by
  rw [show AAb9 (a::q)= [u8 a]::AAb9 q from rfl];have ih:=ADv9 q;simp only [flatA,List.flatten_cons,List.map_append] at ih ⊢;rw [ih];rfl
theorem AKx9 (xs ys:List (List Dv)):flatA (xs++ys)=flatA xs++flatA ys:=by simp [flatA]
def BKy9 (P:Program) (f k:Nat):Prop:=∀xs:List (List Dv),xs.length≤1000000→FCall P f [.d (.sl k xs)] (if xs.isEmpty then .full k [] else .gref 0 0 xs.length k) (if xs.isEmpty then [] else [blkG (flatA xs) 0])
def BOt9 (k:Nat) (args:List AV) (hp:List Blk) (K:AV→List Blk→Prop):Prop:=∃(xs:List (List Dv)),args= [.d (.sl k xs)]∧xs.length≤1000000∧BIf xs.isEmpty (K (.full k []) hp) (K (.gref hp.length 0 xs.length k) (hp++ [blkG (flatA xs) 0]))
theorem BKy9.toS {P:Program} {f k:Nat} (h:BKy9 P f k):∀args hp K,BOt9 k args hp K→∃x hp',SCall P f args hp x hp'∧K x hp':=by
 rintro _ hp K ⟨xs,rfl,hl,hK⟩;have h1:=(h xs hl).toS rfl hp;cases he:xs.isEmpty with
 | true=>
  rw [he] at h1 hK;exact ⟨_,_,h1,by simpa [shift,AJn9,BIf] using hK⟩
 | false=>
  rw [he] at h1 hK;exact ⟨_,_,h1,by simpa [shift,AJn9,AUh9,blkG,AUg9,BIf] using hK⟩
theorem LeH.at {p q:List AV} {f g:Bool} {v:Nat} (pre post:List Blk) (h:LeL p q):LeH (pre++⟨p,f,g,v⟩::post) (pre++⟨q,f,g,v⟩::post):=by
 induction pre with
 |nil=>exact .cons h (LeH.refl _)
 |cons a pre ih=>obtain ⟨c,x,y,z⟩:=a;exact .cons (LeL.refl _) ih
theorem four {α:Type} {l:List α} {x:α} (h:l[3]? =some x):∃a b c J,l= [a,b,c,x]++J:=by
 match l,h with
 |a::b::c::d::J,h=>simp at h;subst h;exact ⟨a,b,c,J,rfl⟩
theorem WR.scan {P:Program} {Ev:Env P} {X:CX Ev.β} {lp:Code} {b:Ev.β} {Q:Exit→St Ev.β→Prop} {k:Nat} (keep:List Nat) (hm:P.follows .mixedOrders=true) (hX:X.Ok) (n:Nat) (test:Nat→Bool) (tmOf tmR:Nat→List AV) (hp:List Blk) (id:Nat)
 (hr:∀i,i<n→∀K:Exit→List AV→List Blk→Ev.β→Prop,(test i=true→K .ret (tmR i) hp b)→(test i=false→K .normal (tmOf (i+1)) hp b)→wpc P X k lp (tmOf i) hp b (maskT keep K))
 (he:∀K:Exit→List AV→List Blk→Ev.β→Prop,K (.exit id) (tmOf n) hp b→wpc P X k lp (tmOf n) hp b (maskT keep K))
 (h1:(Zay n).any test=false→Q (.exit id) ⟨tmOf n,hp,b⟩) (h2:(Zay n).any test=true→∀i,Q .ret ⟨tmR i,hp,b⟩):WR Ev lp (n+1) ⟨tmOf 0,hp,b⟩ Q:=by
 have key:∀(m i:Nat),i+m=n→(∀j,j<i→test j=false)→WR Ev lp (m+1) ⟨tmOf i,hp,b⟩ Q:=by
  intro m;induction m with
  | zero=>
   intro i hi hj;have:i=n:=by omega
   subst this;refine WR.ofMaskT keep hm hX (he _ (h1 ?_));rw [List.any_eq_false];intro j hj';rw [List.mem_range] at hj';rw [hj j hj'];simp
  | succ m ih=>
   intro i hi hj;refine WR.ofMaskT keep hm hX (hr i (by omega) _ (fun ht=>h2 ?_ i) fun hf=>ih (i+1) (by omega) fun j hj'=> ?_)
   ·rw [List.any_eq_true];exact ⟨i,List.mem_range.2 (by omega),ht⟩
   ·by_cases h:j=i
    ·rw [h];exact hf
    ·exact hj j (by omega)
 exact key n 0 (by omega) fun j hj=>by omega
theorem BKr9 {a b:List Int} (hl:a.length=b.length):(Zay a.length).any (fun i=>nth a i !=nth b i)= !decide (a=b):=by
 cases h:decide (a=b) with
 | true=>
  have:=of_decide_eq_true h;subst this;rw [List.any_eq_false.2]
  ·rfl
  ·intro i _;simp
 | false=>
  have hne:=of_decide_eq_false h;rw [List.any_eq_true.2]
  ·rfl
  ·apply Classical.byContradiction;intro hc;apply hne;apply List.ext_getElem hl;intro i h1 h2;apply Classical.byContradiction;intro hne2;refine hc ⟨i,List.mem_range.2 h1, ?_⟩;simp [nth,h1,h2,hne2]
def nthL {α:Type} (p:List (List α)) (i:Nat):List α:=p.getD i []
def lessC (c:List AV→(AV→Prop)→Prop) (args:List AV) (K:AV→Prop):Prop:=∃args':List AV,LeVs args args'∧c args' K
theorem AJr9 {P:Program} {f:Nat} {c:List AV→(AV→Prop)→Prop} (h:∀args K,c args K→∃x,PCall P f args x∧K x):∀args K,lessC c args K→∃x,PCall P f args x∧K x:=by
 rintro args K ⟨args',hl,hc⟩;obtain ⟨x,hp,hK⟩:=h args' K hc;exact ⟨x,hp.leArgsV hl,hK⟩
def plain1:AV→Bool
 | .d (.s _)=>true
 |_=>false
def AZh9:AV→Bool
 | .d (.s _)=>true
 | .tup cs=>cs.all plain1
 |_=>false
section
variable {P:Program} {S S' X:Pr} {yv yv':Option Nat} {w w':World} {m m':List MB} {B:List (AV×Value)} {hp:List Blk} {hv:List (List Value)}
theorem RV.plain1 {x:AV} {v:Value} (hx:plain1 x=true) (h:RV S w m yv x v):RV S' w' m' yv' x v:=by
 cases h with
 | d h=>cases h with
  |s v=>exact .d (.s v)
  |sl=>cases hx
  |nil=>cases hx
  |pt=>cases hx
  |fn=>cases hx
 |_=>cases hx
theorem RV.plain {x:AV} {v:Value} (hx:AZh9 x=true) (h:RV S w m yv x v):RV S' w' m' yv' x v:=by
 cases h with
 | d h=>cases h with
  |s v=>exact .d (.s v)
  |sl=>cases hx
  |nil=>cases hx
  |pt=>cases hx
  |fn=>cases hx
 | tup hl h=>
  rename_i cs vs;simp only [AZh9,Zav] at hx;exact .tup hl fun i c v h1 h2=>(h i c v h1 h2).plain1 (hx c (Zbi h1))
 |_=>cases hx
theorem BDq9 {x:AV} {v:Value} (hx:AZh9 x=true):ownB (x,v)=none:=by
 cases x<;>first|rfl|cases hx
theorem BBi9 {x:AV} (hx:AZh9 x=true):x.view=x:=by
 cases x<;>first|rfl|cases hx
theorem PCall.borrow {f:Nat} {args args':List AV} {r:AV} (h:PCall P f args' r) (hr:AZh9 r=true) (hl':args.length=args'.length)
 (hs:∀(i:Nat) (c y:AV),args[i]? =some c→args'[i]? =some y→SealD hp c y):SCall P f args hp r hp:=by
 refine ⟨h.1,fun S X yv w m B hv vs hl hrel=> ?_⟩;have hr0:Rel S X yv w m (B++AAa9 hp hv) hp hv:=hrel.sub (List.sublist_append_right _ _);have hargs:∀(i:Nat) (x:AV) (v:Value),args'[i]? =some x→vs[i]? =some v→RV (ACq9 S m) w [] none x v:=by
  intro i x v h1 h2;have hi:i<args.length:=by rw [hl'];exact (Zaa.1 h1).1
  have h3:args[i]? =some args[i]:=by simp [hi]
  have hm:(args[i],v)∈args.zip vs:=Zak.2 ⟨i,by rw [Zar];exact ⟨h3,h2⟩⟩;exact AHb9 (B:=B) hr0 (fun _ _ h=> .inl h) (hs i _ _ h3 h1) (fun g _ p hp i hi=> .inr ⟨g,p,hp,rfl,hi⟩) (hrel.rv _ (Zbc _ hm))
 have hlt:∀b i,ACq9 S m b i→b<w.heap.size:=by
  rintro b i (hb|⟨g,p,hg,rfl,hi⟩)
  ·exact hrel.lt b i (.inl hb)
  ·exact hrel.mLt p (Zbi hg)
 have hgl:Glob (ACq9 S m) w:=fun g j v hv=>by
  obtain ⟨h1,h2,h3⟩:=hrel.gl g j v hv;exact ⟨.inl h1,h2,h3⟩
 refine CallsIn.mono (h.2 (ACq9 S m) w vs (by rw [←hl',hl]) hargs hlt hgl) ?_;rintro e w' ⟨v,S',rfl,hb,h1,h2,h3⟩;refine ⟨v,S,m,hv,rfl,Gs.below hrel hb ⟨fun _ _ h=>h,fun _ _ h=> .inl h⟩, ?_⟩;rw [BBi9 hr] at h3 ⊢;exact (hr0.below hb (fun _ _ h=>h) (fun _ _ h=> .inl h)).cons (h3.plain hr) (BDq9 hr)
end
theorem SCall.ofWp {P:Program} {f n:Nat} {fn:Func} {c:Code} {args:List AV} {x:AV} {hp hp':List Blk} {T:List (Nat×(List AV→(AV→Prop)→Prop))} {U:List (Nat×(List AV→List Blk→(AV→List Blk→Prop)→Prop))} {u:Bool} (hm:P.follows .mixedOrders=true)
 (hT:AAk9 P T) (hS:AAn9 P U) (hf:P.funcs[f]? =some fn) (hb:fn.body=some c) (hn:(fn.name== "runtime.NumGoroutine")=false)
 (h:∀(Ev:Env P) (b:Ev.β),wpc P ⟨T,U,wlW Ev,Ev.Y,u⟩ n c (AAw9 fn args) hp b (fnKS P fn fun y hp1 _=>y=x∧hp1=hp')):SCall P f args hp x hp':=
 SCall.ofW hf hb hn fun Ev b=>AAo9 hm (CX.Ok.of hT hS) (h Ev b) fun e tm hp b hK=>AIz9 hK
def lendC (c:List AV→(AV→Prop)→Prop) (args:List AV) (hp:List Blk) (K:AV→List Blk→Prop):Prop:=
 AHq9 hp 200 args fun args'=>c args' fun x=>BIf (AZh9 x) (K x hp) False
theorem APy9 {P:Program} {f:Nat} {c:List AV→(AV→Prop)→Prop} (hc:∀args K,c args K→∃x,PCall P f args x∧K x):
 ∀args hp K,lendC c args hp K→∃x hp',SCall P f args hp x hp'∧K x hp':=by
 intro args hp K h;obtain ⟨ys,hl,hs,h1⟩:=ACl9 h;obtain ⟨x,hx,h2⟩:=hc _ _ h1;obtain ⟨hpl,hK⟩:=h2.elim';exact ⟨x,hp,hx.borrow hpl hl hs,hK⟩
theorem WR.steps {P:Program} {Ev:Env P} {c:Code} {Q:Exit→St Ev.β→Prop} {X:CX Ev.β} {k:Nat} (keep:List Nat) (hm:P.follows .mixedOrders=true) (hX:X.Ok) {e:Exit} (he:e≠ .normal) (b:Ev.β) (tm:Nat→List AV) (hp:Nat→List Blk):
 ∀ (n i:Nat),(∀j,i≤j→j<i+n→∀K:Exit→List AV→List Blk→Ev.β→Prop,K .normal (tm (j+1)) (hp (j+1)) b→wpc P X k c (tm j) (hp j) b (maskT keep K))→
  (∀K:Exit→List AV→List Blk→Ev.β→Prop,K e (tm (i+n)) (hp (i+n)) b→wpc P X k c (tm (i+n)) (hp (i+n)) b (maskT keep K))→Q e ⟨tm (i+n),hp (i+n),b⟩→WR Ev c (n+1) ⟨tm i,hp i,b⟩ Q
 |0,i,_,h2,hQ=>WR.ofMaskT keep hm hX (h2 _ (by cases e<;>first|exact absurd rfl he|exact hQ))
 | n+1,i,h1,h2,hQ=>by
  refine WR.ofMaskT keep hm hX (h1 i (Zas _) (by omega) _ ?_);have e1:i+(n+1)=i+1+n:=by omega
  rw [e1] at h1 h2 hQ;exact WR.steps keep hm hX he b tm hp n (i+1) (fun j hj hj'=>h1 j (by omega) hj') h2 hQ
theorem WR.stepsM {P:Program} {Ev:Env P} {c:Code} {Q:Exit→St Ev.β→Prop} {X:CX Ev.β} {k m:Nat} (keep:List Nat) (hm:P.follows .mixedOrders=true) (hX:X.Ok) {e:Exit} (he:e≠ .normal) (b:Ev.β) (tm:Nat→List AV) (hp:Nat→List Blk) (hl:∀j,(hp j).length=m):
 ∀ (n i:Nat),(∀j,i≤j→j<i+n→∀K:Exit→List AV→List Blk→Ev.β→Prop,K .normal (tm (j+1)) (hp (j+1)) b→wpc P X k c (tm j) (hp j) b (maskK m keep K))→
  (∀K:Exit→List AV→List Blk→Ev.β→Prop,K e (tm (i+n)) (hp (i+n)) b→wpc P X k c (tm (i+n)) (hp (i+n)) b (maskK m keep K))→Q e ⟨tm (i+n),hp (i+n),b⟩→WR Ev c (n+1) ⟨tm i,hp i,b⟩ Q
 |0,i,_,h2,hQ=>WR.ofMask keep hm hX (by rw [hl];exact h2 _ (by cases e<;>first|exact absurd rfl he|exact hQ))
 | n+1,i,h1,h2,hQ=>by
  have key:∀K:Exit→List AV→List Blk→Ev.β→Prop,K .normal (tm (i+1)) (hp (i+1)) b→wpc P X k c (tm i) (hp i) b (maskK (hp i).length keep K):=by rw [hl];exact h1 i (Zas _) (by omega)
  refine WR.ofMask keep hm hX (key _ ?_);have e1:i+(n+1)=i+1+n:=by omega
  rw [e1] at h1 h2 hQ;exact WR.stepsM keep hm hX he b tm hp hl n (i+1) (fun j hj hj'=>h1 j (by omega) hj') h2 hQ
def SemV (x y:AV):Prop:=∀(S:Pr) (w:World) (m:List MB) (yv:Option Nat) (v:Value),RV S w m yv x v→RV S w m yv y v
theorem SemV.rfl {x:AV}:SemV x x:=fun _ _ _ _ _ h=>h
inductive SemVs:List AV→List AV→Prop
 |nil:SemVs [] []
 |cons {x y:AV} {xs ys:List AV} (h:SemV x y) (hs:SemVs xs ys):SemVs (x::xs) (y::ys)
theorem SemVs.len {xs ys:List AV} (h:SemVs xs ys):xs.length=ys.length:=by
 induction h with
 |nil=>rfl
 |cons _ _ ih=>simp [ih]
theorem SemVs.at {xs ys:List AV} (h:SemVs xs ys):∀(i:Nat) (x y:AV),xs[i]? =some x→ys[i]? =some y→SemV x y:=by
 induction h with
 |nil=>intro i x y h;simp at h
 | cons h _ ih=>
  intro i x y h1 h2;cases i with
  |zero=>simp at h1 h2;subst h1;subst h2;exact h
  |succ i=>exact ih i x y (by simpa using h1) (by simpa using h2)
theorem PCall.semArgs {P:Program} {f:Nat} {args args':List AV} {x:AV} (h:SemVs args args') (hp:PCall P f args' x):PCall P f args x:=by
 refine ⟨hp.1,fun S w vs hl hvs hlt hgl=>hp.2 S w vs (h.len▸hl) (fun i y v h1 h2=> ?_) hlt hgl⟩;have hi:=(Zaa.1 h1).1;have hi':i<args.length:=h.len▸hi;exact h.at i _ y (Zbk hi') h1 _ _ _ _ _ (hvs i _ v (Zbk hi') h2)
def semC (c:List AV→(AV→Prop)→Prop) (args:List AV) (K:AV→Prop):Prop:=∃args':List AV,SemVs args args'∧c args' K
theorem BUi9 {P:Program} {f:Nat} {c:List AV→(AV→Prop)→Prop} (hc:∀args K,c args K→∃x,PCall P f args x∧K x):∀args K,semC c args K→∃x,PCall P f args x∧K x:=by
 rintro args K ⟨args',hl,h⟩;obtain ⟨x,hx,h2⟩:=hc _ _ h;exact ⟨x,hx.semArgs hl,h2⟩
inductive AVm9:Dv→Dv→Prop
 |rfl {c:Dv}:AVm9 c c
 |nil {k:Nat}:AVm9 (.s (.slice none 0 0)) (.sl k [])
inductive AFz9:List Dv→List Dv→Prop
 |nil:AFz9 [] []
 |cons {x y:Dv} {xs ys:List Dv} (h:AVm9 x y) (hs:AFz9 xs ys):AFz9 (x::xs) (y::ys)
inductive ANf9:List (List Dv)→List (List Dv)→Prop
 |nil:ANf9 [] []
 |cons {x y:List Dv} {xs ys:List (List Dv)} (h:AFz9 x y) (hs:ANf9 xs ys):ANf9 (x::xs) (y::ys)
theorem AVm9.dr {S:Pr} {w:World} {c d:Dv} {v:Value} (h:AVm9 c d) (hr:DR S w c v):DR S w d v:=by
 cases h with
 |rfl=>exact hr
 | nil=>cases hr with
  |s=>exact .nil _
theorem AFz9.len {xs ys:List Dv} (h:AFz9 xs ys):xs.length=ys.length:=by
 induction h with
 |nil=>rfl
 |cons _ _ ih=>simp [ih]
theorem AFz9.at {xs ys:List Dv} (h:AFz9 xs ys):∀(i:Nat) (y:Dv),ys[i]? =some y→∃x,xs[i]? =some x∧AVm9 x y:=by
 induction h with
 |nil=>intro i y h;simp at h
 | cons h _ ih=>
  intro i y h1;cases i with
  |zero=>simp at h1;subst h1;exact ⟨_,by simp,h⟩
  |succ i=>simpa using ih i y (by simpa using h1)
theorem ANf9.len {xs ys:List (List Dv)} (h:ANf9 xs ys):xs.length=ys.length:=by
 induction h with
 |nil=>rfl
 |cons _ _ ih=>simp [ih]
theorem ANf9.at {xs ys:List (List Dv)} (h:ANf9 xs ys):∀(i:Nat) (y:List Dv),ys[i]? =some y→∃x,xs[i]? =some x∧AFz9 x y:=by
 induction h with
 |nil=>intro i y h;simp at h
 | cons h _ ih=>
  intro i y h1;cases i with
  |zero=>simp at h1;subst h1;exact ⟨_,by simp,h⟩
  |succ i=>simpa using ih i y (by simpa using h1)
theorem ANf9.dr {S:Pr} {w:World} {k:Nat} {xs ys:List (List Dv)} {v:Value} (h:ANf9 xs ys) (hr:DR S w (.sl k xs) v):DR S w (.sl k ys) v:=by
 have hlen:=h.len;have two:∀(i:Nat) (row:List Dv) (j:Nat) (c:Dv),ys[i]? =some row→row[j]? =some c→∃row' c',xs[i]? =some row'∧row'[j]? =some c'∧AVm9 c' c:=by
  intro i row j c h1 h2;obtain ⟨row',g1,g2⟩:=h.at i row h1;obtain ⟨c',g3,g4⟩:=g2.at j c h2;exact ⟨row',c',g1,g3,g4⟩
 cases hr with
 | sl _ _ a cap vals hk hs hc hr h1 hcap hsp=>
  rw [hlen];refine .sl k ys a cap vals (fun i row g=> ?_) (fun i row j c g g'=> ?_) (fun i row j c g g'=> ?_) (fun i row j c g g'=> ?_) (fun i row j c g g'=> ?_) (hlen▸hcap) ?_
  ·obtain ⟨row',g1,g2⟩:=h.at i row g;rw [←g2.len];exact hk i row' g1
  ·obtain ⟨r',c',g1,g2,g3⟩:=two i row j c g g';exact hs i r' j c' g1 g2
  ·obtain ⟨r',c',g1,g2,g3⟩:=two i row j c g g';exact hc i r' j c' g1 g2
  ·obtain ⟨r',c',g1,g2,g3⟩:=two i row j c g g';exact g3.dr (hr i r' j c' g1 g2)
  ·obtain ⟨r',c',g1,g2,g3⟩:=two i row j c g g';exact h1 i r' j c' g1 g2
  ·rcases hsp with h'|h'|h'
   ·exact .inl h'
   ·exact .inr (.inl h')
   ·subst h';exact .inr (.inr (List.length_eq_zero_iff.1 (by rw [←hlen];rfl)))
 | nil=>
  have:ys= []:=List.length_eq_zero_iff.1 (by rw [←hlen];rfl);subst this;exact .nil k
theorem SemV.rows {k:Nat} {xs ys:List (List Dv)} (h:ANf9 xs ys):SemV (.full k xs) (.d (.sl k ys)):=by
 intro S w m yv v hr;cases hr with
 |full hd=>exact .d (h.dr hd)
open Go.Maps (Keyed)
open Go.WideElems (Fit rd rg pl)
open Go.ChangeMaps (setBlock)
abbrev MC:=List (Lit×AV)
structure MapC where
 b:Nat
 k:TypeId
 es:MC
section
end
section
end
abbrev MHook (γ:Type):=Oper→RS→γ→(RS→γ→Prop)→Option Prop
section
end
section
end
section
end
section
end
section
variable {ops:Array Oper}
structure StInv (ops:Array Oper) (i k:Nat) (tm0 tmF tm:List AV) (listed:Array Bool):Prop where
 sz:listed.size=ops.size
 low:∀j,j<i→listed.getD j false=true
 far:∀j,k≤j→listed.getD j false=false
 down:∀(j:Nat) (o':Oper),ops[j]? =some o'→listed.getD j false=true→∀e∈AAp9 o',listed.getD e false=true
 len:tm.length=tm0.length
 got:∀(j:Nat) (o:Oper) (d:Nat),i≤j→j<k→ops[j]? =some o→o.dst=some d→listed.getD j false=true→tm[d]? =tmF[d]?
 old:∀t,(∀(j:Nat) (o:Oper),i≤j→j<k→ops[j]? =some o→listed.getD j false=true→o.dst≠some t)→tm[t]? =tm0[t]?
end
section
end
section
end
section
end
set_option linter.unusedSimpArgs false
section
end
section
def xpq (P:Program) (ops:Array Oper) (hp:List Blk) (tm:List AV) (o:Oper):Option AV:=
 match o.op with
 | .call c=>match c.callee with
  | .value _=>none
  | .invoke .. =>none
  |_=>xq P hp (evalA tm) o
 |_=>xq P hp (evalA tm) o
end
section
variable {P:Program} {hp hp1:List Blk} {tm:List AV} {ops:Array Oper}
theorem BLa9 {T:CallT} {o:Oper} (h:xpq P ops hp1 tm o=xpq P ops hp tm o):xp P T ops hp1 tm o=xp P T ops hp tm o:=by
 unfold xpq at h;unfold xp;split<;>try rfl
 cases ho:o.op<;>simp only [ho] at h ⊢<;>try exact h
 rename_i c;cases hc:c.callee<;>simp only [hc] at h ⊢<;>exact h
end
end Go.Proofs.YtibhflogmbfpcaaGreatDoor.Am