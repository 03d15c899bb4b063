import Derived.Test.YthcbbmnjikhihaaGreatPnJ1
import Derived.Scope
import Derived.ChangeArms
import Derived.OpenShut
import Derived.ChangeShapes
import Derived.Carry
import Derived.ProofKit
import Derived.LaidMore
import Derived.FnData
import Derived.Maps.OwnSet
import Derived.Lib.SlKeysI
set_option linter.unusedSimpArgs false
set_option linter.unusedVariables false
namespace Go.Proofs.YthcbbmnjikhihaaGreat.Am
open Go Go.RowKit
open AV renaming view → Zdx
open _root_.Array renaming getElem?_eq_some_iff → Zal
open Bool renaming and_eq_true → Zai, not_eq_true' → Zcb, or_eq_true → Zeb
open Go.Builtin renaming zeroCells → Zbi
open List renaming all_eq_true → Zbd, getElem?_append_left → Zar, getElem?_append_right → Zas, getElem?_eq_getElem → Zbb, getElem?_eq_some_iff → Zac, getElem?_take → Zay, mem_append → Zbu, mem_cons → Zbw, mem_cons_of_mem → Zbx, mem_cons_self → Zbv, mem_iff_getElem? → Zav, mem_map → Zbg, mem_of_getElem? → Zbn, replicate → Zap
open Nat renaming beq → Zgm, eq_of_beq_eq_true → Zbz, le_of_not_lt → Zdf
open Option renaming map_eq_some_iff → Zao
open Go.Region renaming ready → Zec
open AV (bad)
set_option linter.unusedVariables false
def addE (j i:Nat) (ops:Array Oper):Array Oper:=ops.modify j fun o=> {o with after:=o.after.push ⟨i, .chain⟩}
def swN (k n:Nat):List Nat:=List.range k++(k+1)::k::(List.range (n - (k+2))).map (k+2+ ·)
def swL {α:Type} (n:Nat) (l:List α):List α:=
 match l.drop n with
 | [a,b]=>l.take n++ [b,a]
 |_=>l
def swA (n:Nat) (x:AV):AV:=
 match x with
 | .ptr g off=>if Zgm g n then .ptr (n+1) off else if Zgm g (n+1) then .ptr n off else .ptr g off
 |x=>x
def swOk (n:Nat) (x:AV):Bool:=
 match x with
 | .ptr g off=>true
 |x=>x.low n
section
variable {S X:Pr} {yv:Option Nat} {w:World} {m m':List MB} {B:List (AV×Value)} {hp:List Blk} {hv:List (List Value)} {a:Act}
theorem RV.swap {n:Nat} (hl:m.length=n+2) (hm:∀g,g<n→m'[g]? =m[g]?) (h1:m'[n]? =m[n+1]?) (h2:m'[n+1]? =m[n]?) {x:AV} {v:Value} (h:RV S w m yv x v) (hx:swOk n x=true):RV S w m' yv (swA n x) v:=by
 have low:∀ {x:AV},RV S w m yv x v→x.low n=true→RV S w m' yv x v:=fun h hx=>by
  refine (h.low hx).blocks fun g p hp=> .inl ?_;have hg:g<n:=Nat.lt_of_lt_of_le (Zac.1 hp).1 (List.length_take_le _ _);rw [hm g hg]
  rwa [Zay,if_pos hg] at hp
 cases x with
 | ptr g off=>
  cases h with
  | ptr h=>
   simp only [swA];cases e1:Zgm g n with
   | true=>
    have:=Zbz e1;subst this;exact .ptr (by rw [h2];exact h)
   | false=>
    cases e2:Zgm g (n+1) with
    | true=>
     have:=Zbz e2;subst this;exact .ptr (by rw [h1];exact h)
    | false=>
     have n1:=Nat.ne_of_beq_eq_false e1;have n2:=Nat.ne_of_beq_eq_false e2;have hg:=(Zac.1 h).1;exact .ptr (by rw [hm g (by omega)];exact h)
 |_=>exact low h hx
theorem ANr9 {n:Nat}:∀ {cs:List AV},(∀(i:Nat) (c:AV),cs[i]? =some c→c.low n=true)→lows n cs=true
 | [],_=>rfl
 | x::r,h=>by
  simp only [lows,Zai];exact ⟨h 0 x rfl,ANr9 fun i c hc=>h (i+1) c hc⟩
theorem RV.lowOf {x:AV} {v:Value} (h:RV S w m yv x v):x.low m.length=true:=by
 have lt:∀ {g:Nat} {p:MB},m[g]? =some p→g<m.length:=fun h=>(Zac.1 h).1;induction h with
 | @agg cs vs hl h ih=>
  refine ANr9 fun i c hc=> ?_;have hi:=(Zac.1 hc).1;exact ih i c vs[i] hc (by simp)
 | @tup cs vs hl h ih=>
  refine ANr9 fun i c hc=> ?_;have hi:=(Zac.1 hc).1;exact ih i c vs[i] hc (by simp)
 |ref h _ _=>exact decide_eq_true (lt h)
 |ptr h=>exact decide_eq_true (lt h)
 |gref h _ _ _=>exact decide_eq_true (lt h)
 |gptr h _ _ _=>exact decide_eq_true (lt h)
 | @fn f first caps fs cs hf hl hl' h h' ih ih'=>
  simp only [AV.low,Zai];refine ⟨ANr9 fun i c hc=> ?_,ANr9 fun i c hc=> ?_⟩
  ·have hi:=(Zac.1 hc).1;exact ih i c fs[i] hc (by simp)
  ·have hi:=(Zac.1 hc).1;exact ih' i c cs[i] hc (by simp)
 |_=>rfl
theorem AVw9 {α:Type} {n:Nat} {l:List α} (h:l.length=n+2):∃l0 a b,l0.length=n∧l=l0++ [a,b]∧swL n l=l0++ [b,a]:=by
 have h1:(l.drop n).length=2:=by simp;omega
 have h2:=List.take_append_drop n l;have h3:(l.take n).length=n:=by simp;omega
 match hd:l.drop n,h1 with
 | [a,b],_=>
  rw [hd] at h2;exact ⟨l.take n,a,b,h3,h2.symm,by simp only [swL,hd]⟩
theorem AVx9 {n:Nat} {x:AV} {v:Value}:ownB (swA n x,v)=ownB (x,v):=by
 cases x with
 | ptr g off=>
  simp only [swA];split
  ·rfl
  ·split<;>rfl
 |_=>rfl
theorem BCz9 {n:Nat} {x:AV}:AMx9 (swA n x)=AMx9 x:=by
 cases x with
 | ptr g off=>
  simp only [swA];split
  ·rfl
  ·split<;>rfl
 |_=>rfl
theorem RelS.swap {n:Nat} {tm:List AV} (hr:RelS S X yv w m B hv ⟨tm,hp, []⟩ a) (hB:∀p∈B,p.1.low n=true) (hN:hp.length=n+2) (hc:(hp.all fun blk=>lows n blk.cells)=true) (htm:(tm.all fun x=>swOk n x)=true):
 RelS S X yv w (swL n m) B (swL n hv) ⟨tm.map (swA n),swL n hp, []⟩ a:=by
 obtain ⟨h1,h2,_⟩:=hr;obtain ⟨hp0,b1,b2,lp,rfl,ep⟩:=AVw9 hN;have lm:m.length=n+2:=h2.ml.trans hN;have lv:hv.length=n+2:=h2.hl.trans hN;obtain ⟨m0,p1,p2,lm0,rfl,em⟩:=AVw9 lm;obtain ⟨v0,v1,v2,lv0,rfl,ev⟩:=AVw9 lv;rw [ep,em,ev];simp only at h1 h2;have hm:∀g,g<n→(m0++ [p2,p1])[g]? =(m0++ [p1,p2])[g]? :=fun g hg=>by
  rw [Zar (by omega),Zar (by omega)]
 have hm1:(m0++ [p2,p1])[n]? =(m0++ [p1,p2])[n+1]? :=by subst lm0;simp
 have hm2:(m0++ [p2,p1])[n+1]? =(m0++ [p1,p2])[n]? :=by subst lm0;simp
 have hcp:∀(b1 b2:Blk) (v1 v2:List Value),AAa9 (hp0++ [b1,b2]) (v0++ [v1,v2])=AAa9 hp0 v0++(b1.cells.zip v1++b2.cells.zip v2):=fun b1 b2 v1 v2=>by
  simp only [AAa9];rw [List.zip_append (by omega),List.flatMap_append];simp
 have hperm:List.Perm (tm.zip a.tmps.toList++(B++AAa9 (hp0++ [b2,b1]) (v0++ [v2,v1]))) (tm.zip a.tmps.toList++(B++AAa9 (hp0++ [b1,b2]) (v0++ [v1,v2]))):=by
  rw [hcp,hcp];exact List.Perm.append_left _ (List.Perm.append_left _ (List.Perm.append_left _ List.perm_append_comm))
 have hz:∀p∈(tm.map (swA n)).zip a.tmps.toList,∃x,(x,p.2)∈tm.zip a.tmps.toList∧p.1=swA n x:=by
  intro p hp;rw [List.zip_map_left] at hp;obtain ⟨q,hq,rfl⟩:=Zbg.1 hp;exact ⟨q.1,hq,rfl⟩
 have hcl:∀p∈AAa9 (hp0++ [b1,b2]) (v0++ [v1,v2]),p.1.low n=true:=by
  intro p hp;simp only [AAa9,List.mem_flatMap] at hp;obtain ⟨q,hq,hp⟩:=hp;obtain ⟨i,hi⟩:=Zav.1 hp;have h3:=(List.getElem?_zip_eq_some.1 hi).1;exact AHj9 (Zbd.1 hc _ (List.of_mem_zip hq).1) i _ h3
 have back:∀p∈(tm.map (swA n)).zip a.tmps.toList++(B++AAa9 (hp0++ [b2,b1]) (v0++ [v2,v1])),∃x,(x,p.2)∈tm.zip a.tmps.toList++(B++AAa9 (hp0++ [b1,b2]) (v0++ [v1,v2]))∧p.1=swA n x∧swOk n x=true:=by
  intro p hp;rcases Zbu.1 hp with hp|hp
  ·obtain ⟨x,hx,e⟩:=hz p hp;refine ⟨x,List.mem_append_left _ hx,e, ?_⟩;exact Zbd.1 htm x (List.of_mem_zip hx).1
  ·have hlo:p.1.low n=true:=by
    rcases Zbu.1 hp with hp|hp
    ·exact hB p hp
    ·refine hcl p ?_;rw [hcp] at hp ⊢;exact (List.Perm.append_left _ List.perm_append_comm).mem_iff.1 hp
   refine ⟨p.1,hperm.mem_iff.1 (List.mem_append_right _ hp), ?_, ?_⟩
   ·cases hx:p.1 with
    | ptr g off=>
     rw [hx] at hlo;have hg:g<n:=by simpa [AV.low] using hlo
     simp only [swA];cases e1:Zgm g n with
     |true=>have:=Zbz e1;omega
     | false=>
      cases e2:Zgm g (n+1) with
      |true=>have:=Zbz e2;omega
      |false=>rfl
    |_=>rfl
   ·cases hx:p.1 with
    |ptr g off=>rfl
    |_=>rw [hx] at hlo;exact hlo
 have hown:∀ {p:AV×Value} {x:AV},p.1=swA n x→ownB p=ownB (x,p.2):=fun {p} {x} e=>by
  obtain ⟨p1,p2⟩:=p;cases e;exact AVx9
 refine ⟨by simpa using h1,⟨h2.lt,fun p hp=> ?_, ?_,fun p hp b hb x hx=> ?_,fun p hp b hb=> ?_, ?_, ?_, ?_, ?_,h2.gl⟩,fun p hp=>by cases hp⟩
 ·obtain ⟨x,hx,e,hok⟩:=back p hp;rw [e];exact (h2.rv _ hx).swap (n:=n) (by simp;omega) hm hm1 hm2 hok
 ·have h3:List.Pairwise Dis (tm.zip a.tmps.toList++(B++AAa9 (hp0++ [b2,b1]) (v0++ [v2,v1]))):=(hperm.pairwise_iff (fun {_ _} h=>h.symm)).2 h2.pw;have e4:(tm.map (swA n)).zip a.tmps.toList=(tm.zip a.tmps.toList).map fun q=>(swA n q.1,q.2):=by rw [List.zip_map_left];rfl
  rw [e4];rw [List.pairwise_append] at h3 ⊢;refine ⟨?_,h3.2.1,fun p hp q hq=> ?_⟩
  ·rw [List.pairwise_map];exact h3.1.imp fun {p q} h b h1 h2=>h b (AVx9▸h1) (AVx9▸h2)
  ·obtain ⟨p0,hp0,rfl⟩:=Zbg.1 hp;exact fun b h1 h2=>h3.2.2 p0 hp0 q hq b (AVx9▸h1) h2
 ·obtain ⟨y,hy,e,_⟩:=back p hp;refine h2.nm _ hy b ((hown e)▸hb) x ?_;rcases Zbu.1 hx with hx|hx
  ·exact List.mem_append_left _ hx
  ·exact List.mem_append_right _ (by simp at hx ⊢;exact hx.symm)
 ·obtain ⟨y,hy,e,_⟩:=back p hp;have:=h2.sp _ hy b ((hown e)▸hb);rw [e,BCz9];exact this
 ·have hpm:List.Perm ((m0++ [p2,p1]).map (·.b)) ((m0++ [p1,p2]).map (·.b)):=List.Perm.map _ (List.Perm.append_left _ (List.Perm.swap ..));exact hpm.nodup_iff.2 h2.mnd
 ·have:=h2.ml;simp at this ⊢;omega
 ·have:=h2.hl;simp at this ⊢;omega
 ·intro g blk p vs e1 e2 e3;have key:∃g':Nat,(hp0++ [b1,b2])[g']? =some blk∧(m0++ [p1,p2])[g']? =some p∧(v0++ [v1,v2])[g']? =some vs:=by
   have lt:=(Zac.1 e1).1;simp at lt;rcases Nat.lt_or_ge g n with hg|hg
   ·rw [Zar (by omega)] at e1 e2 e3;exact ⟨g,by rw [Zar (by omega)];exact e1,by rw [Zar (by omega)];exact e2,by rw [Zar (by omega)];exact e3⟩
   ·rw [Zas (by omega)] at e1 e2 e3;rw [lp] at e1;rw [lm0] at e2;rw [lv0] at e3;rcases Nat.lt_or_ge g (n+1) with hg'|hg'
    ·have:g - n=0:=by omega
     rw [this] at e1 e2 e3;refine ⟨n+1, ?_, ?_, ?_⟩
     ·rw [Zas (by omega),lp,show n+1 - n=1 by omega];exact e1
     ·rw [Zas (by omega),lm0,show n+1 - n=1 by omega];exact e2
     ·rw [Zas (by omega),lv0,show n+1 - n=1 by omega];exact e3
    ·have:g - n=1:=by omega
     rw [this] at e1 e2 e3;refine ⟨n, ?_, ?_, ?_⟩
     ·rw [Zas (by omega),lp,Nat.sub_self];exact e1
     ·rw [Zas (by omega),lm0,Nat.sub_self];exact e2
     ·rw [Zas (by omega),lv0,Nat.sub_self];exact e3
  obtain ⟨g',f1,f2,f3⟩:=key;exact h2.bl g' blk p vs f1 f2 f3
end
section
variable {F:Fence} {nn:Nat} {P:Program} {ops:Array Oper} {Q:Exit→Act→World→Prop}
theorem ABn9 {j i:Nat}:(addE j i ops).size=ops.size:=by simp [addE]
theorem APy9 {j i x:Nat} {o:Oper} (h:ops[x]? =some o):(addE j i ops)[x]? =some (if j=x then {o with after:=o.after.push ⟨i, .chain⟩} else o):=by
 simp only [addE,Array.getElem?_modify];split
 ·rw [h];rfl
 ·exact h
theorem AMp9 {j i x:Nat} (h:j≠x):(addE j i ops)[x]? =ops[x]? :=by
 simp only [addE,Array.getElem?_modify,if_neg h]
theorem AVl9 {j i x:Nat} {o':Oper} (h:(addE j i ops)[x]? =some o'):∃o,ops[x]? =some o∧o'=(if j=x then {o with after:=o.after.push ⟨i, .chain⟩} else o):=by
 cases ho:ops[x]? with
 | none=>
  have:(addE j i ops)[x]? =none:=by
   rw [Array.getElem?_eq_none_iff,ABn9];exact Array.getElem?_eq_none_iff.1 ho
  rw [this] at h;cases h
 |some o=>rw [APy9 ho] at h;exact ⟨o,rfl,(Option.some.inj h).symm⟩
theorem AMi9 {o:Oper} {i:Nat}:AAo9 {o with after:=o.after.push ⟨i, .chain⟩}=AAo9 o++ [i]:=by
 simp [AAo9,Region.binds]
theorem ATe9 {j i:Nat} (tmps:Array Value) (x:Nat):yielded (addE j i ops) tmps x=yielded ops tmps x:=by
 unfold yielded;cases ho:ops[x]? with
 | none=>
  have:(addE j i ops)[x]? =none:=by
   rw [Array.getElem?_eq_none_iff,ABn9];exact Array.getElem?_eq_none_iff.1 ho
  rw [this]
 | some o=>
  rw [APy9 ho];by_cases hjx:j=x
  ·rw [if_pos hjx];rfl
  ·rw [if_neg hjx]
theorem AIy9 {j i x:Nat} {K:Act→World→Prop} {a:Act} {w:World} (h:wpOpIn F nn P (addE j i ops) Q x K a w):wpOpIn F nn P ops Q x K a w:=by
 unfold wpOpIn at h ⊢;cases ho:ops[x]? with
 | none=>
  have:(addE j i ops)[x]? =none:=by
   rw [Array.getElem?_eq_none_iff,ABn9];exact Array.getElem?_eq_none_iff.1 ho
  rw [this] at h;exact h
 | some o=>
  rw [APy9 ho] at h;have e:(fun y=>yielded (addE j i ops) a.tmps y)=fun y=>yielded ops a.tmps y:=funext fun y=>ATe9 _ _;have e:yielded (addE j i ops) a.tmps=yielded ops a.tmps:=e;simp only [e] at h ⊢;split at h
  ·have hw:Region.wanted {o with after:=o.after.push ⟨i, .chain⟩} (yielded ops a.tmps)=Region.wanted o (yielded ops a.tmps):=rfl;rw [hw] at h;exact h
  ·exact h
theorem ALo9 {j i x:Nat} {listed:Array Bool} (hl:listed.getD i false=true):x∈Zec .any (addE j i ops) listed↔x∈Zec .any ops listed:=by
 constructor
 ·intro h;obtain ⟨o',ho',h0,he⟩:=ABo9 h;obtain ⟨o,ho,rfl⟩:=AVl9 ho';refine ABg9 ho h0 fun e hm=>he e ?_;split
  ·rw [AMi9];exact List.mem_append_left _ hm
  ·exact hm
 ·intro h;obtain ⟨o,ho,h0,he⟩:=ABo9 h;refine ABg9 (APy9 ho) h0 fun e hm=> ?_;split at hm
  ·rw [AMi9] at hm;rcases Zbu.1 hm with hm|hm
   ·exact he e hm
   ·simp at hm;subst hm;exact hl
  ·exact he e hm
theorem BKw9 {j i x:Nat} {listed:Array Bool} (h:x∈Zec .any (addE j i ops) listed):x∈Zec .any ops listed:=by
 obtain ⟨o',ho',h0,he⟩:=ABo9 h;obtain ⟨o,ho,rfl⟩:=AVl9 ho';refine ABg9 ho h0 fun e hm=>he e ?_;split
 ·rw [AMi9];exact List.mem_append_left _ hm
 ·exact hm
theorem AKq9 {j i:Nat}:∀(fuel:Nat) (listed:Array Bool) (a:Act) (w:World),listed.getD i false=true→wpAnyIn F nn P .any (addE j i ops) Q fuel listed a w→wpAnyIn F nn P .any ops Q fuel listed a w:=by
 have hnil:∀ {listed:Array Bool},listed.getD i false=true→(Zec .any (addE j i ops) listed= []↔Zec .any ops listed= []):=fun {listed} hl=>by
  rw [List.eq_nil_iff_forall_not_mem,List.eq_nil_iff_forall_not_mem];exact ⟨fun h x hx=>h x ((ALo9 hl).2 hx),fun h x hx=>h x ((ALo9 hl).1 hx)⟩
 intro fuel;induction fuel with
 |zero=>exact fun listed a w hl h=>⟨(hnil hl).1 h.1,h.2⟩
 | succ fuel ih=>
  intro listed a w hl h;refine ⟨fun h0=>h.1 ((hnil hl).2 h0),fun x hx=> ?_⟩;refine AIy9 (wpOpIn_mono (fun a' w' hw'=>ih _ _ _ ?_ hw') (h.2 x ((ALo9 hl).2 hx)));have hsz:i<listed.size:=by
   apply Classical.byContradiction;intro hn;rw [Array.getD_eq_getD_getElem?,Array.getElem?_eq_none (by omega)] at hl;cases hl
  simp only [Array.getD_eq_getD_getElem?,Array.getElem?_setIfInBounds];by_cases hxi:x=i
  ·subst hxi;simp [hsz]
  ·rw [if_neg hxi];simpa [Array.getD_eq_getD_getElem?] using hl
end
section
variable {P:Program} {S S' X:Pr} {r:Option Nat} {lo:Nat} {yv:Option Nat} {w w':World} {m m':List MB} {B:List (AV×Value)} {hp:List Blk} {hv:List (List Value)} {call:CallT} {a:Act} {ops:Array Oper} {Ev:Env P}
theorem AMs9.pure {k n:Nat} (hd:ABa9 ops k n=true) (hk:k+n≤ops.size) {tm0 tmK:List AV} {hp0:List Blk} {sts:List (List AV×List Blk)}
 (hls:ACx9 P ((ops.toList.drop k).take n) tmK hp0=some sts) (hx0:xPre P call ops hp0 (ops.toList.take k) tm0=some tmK) {tmF:List AV} {hpn:List Blk} (hlast:sts[n]? =some (tmF,hpn))
 {listed:Array Bool} {tm:List AV} (hI:AMs9 ops k n sts tm0 tmF tm hp0 listed 0) {j:Nat} {oj:Oper} (hoj:ops[j]? =some oj) (hj0:listed.getD j false=false) (hje:∀e∈AAo9 oj,listed.getD e false=true) (hjp:j<k):
 ADd9 oj=true∧∃x,xp P call ops hp0 tm oj=some x∧AMs9 ops k n sts tm0 tmF (putA tm oj.dst x) hp0 (listed.setIfInBounds j true) 0:=by
 obtain ⟨L1,L2⟩:=APb9 hd hk hls hlast;have spec0:=AFl9 (call:=call) (P:=P) (hp:=hp0) hd (by omega) k (i:=0) (tm:=tm0) (tmK:=tmK) rfl (Nat.zero_le _) (by simpa using hx0);have sp2:=spec0.2.1;have sp3:=spec0.2.2;obtain ⟨lenF,L1n⟩:=L1 n tmF hpn hlast (Nat.le_refl _);have hold:∀t,(∀(j:Nat) (o:Oper),j<k+n→ops[j]? =some o→o.dst≠some t)→tmF[t]? =tm0[t]? :=by
  intro t ht;rw [L1n t fun j o hj ho=>ht (k+j) o (by omega) ho,sp2 t fun j o _ hj ho=>ht j o (by omega) ho]
 have hjl:j<ops.size:=(Zal.1 hoj).1;have hjk:j<k+n:=by omega
 obtain ⟨hedge,hlook,hpure,huniq,hmidanc,_⟩:=ACy9 hd hoj;have hlk:=hlook hjk;have huq:=huniq hjk;have hsame:∀t∈oj.looksAt ops,tm[t]? =tmF[t]? :=by
  intro t ht;by_cases hc:∃(i:Nat) (o:Oper),i<k+n∧ops[i]? =some o∧o.dst=some t
  ·obtain ⟨i,o,g1,g2,g3⟩:=hc;exact hI.got i o t g1 g2 g3 (hje i (hlk t ht i o g1 g2 g3))
  ·rw [hI.old t (fun j o g1 g2 _ g3=>hc ⟨j,o,g1,g2,g3⟩),hold t (fun j o g1 g2 g3=>hc ⟨j,o,g1,g2,g3⟩)]
 have hget:∀i,(listed.setIfInBounds j true).getD i false=(if i=j then true else listed.getD i false):=by
  intro i;simp only [Array.getD_eq_getD_getElem?,Array.getElem?_setIfInBounds];by_cases hij:j=i
  ·subst hij;simp [hI.sz,hjl]
  ·simp [hij,Ne.symm hij]
 have hdown':∀(i:Nat) (o':Oper),ops[i]? =some o'→(listed.setIfInBounds j true).getD i false=true→∀e∈AAo9 o',(listed.setIfInBounds j true).getD e false=true:=by
  intro i o' ho' hi e he;rw [hget] at hi ⊢;split at hi
  ·rename_i hij;subst hij;rw [hoj] at ho';cases ho';split
   ·rfl
   ·exact hje e he
  ·split
   ·rfl
   ·exact hI.down i o' ho' hi e he
 have hdst:∀(i:Nat) (o:Oper),i<k+n→i≠j→ops[i]? =some o→oj.dst≠none→o.dst≠oj.dst:=by
  intro i o hik hij ho hne he;rcases Nat.lt_or_ge i j with h'|h'
  ·exact huq i o h' ho hne he
  ·exact (ACy9 hd ho).2.2.2.1 hik j oj (by omega) hoj (by rw [he];exact hne) he.symm
 have htl:tm.length=tmF.length:=by rw [hI.len,lenF,sp3]
 have hgot':∀(x:AV),(∀d,oj.dst=some d→d<tm.length→tmF[d]? =some x)→∀(i':Nat) (o:Oper) (d:Nat),i'<k+n→ops[i']? =some o→o.dst=some d→(listed.setIfInBounds j true).getD i' false=true→(putA tm oj.dst x)[d]? =tmF[d]? :=by
  intro x hxF i' o d hik ho hod hi';rw [hget] at hi';by_cases hij:i'=j
  ·subst hij;rw [hoj] at ho;cases ho;rw [hod];by_cases hdl:d<tm.length
   ·rw [hxF d hod hdl];simp [putA,hdl]
   ·simp only [putA];rw [List.getElem?_eq_none (by simp;omega),List.getElem?_eq_none (by omega)]
  ·rw [if_neg hij] at hi';rw [ACi9]
   ·exact hI.got i' o d hik ho hod hi'
   ·intro he;exact hdst i' o hik hij ho (by rw [he];simp) (by rw [hod,he])
 have hold':∀(x:AV) (t:Nat),(∀(j':Nat) (o:Oper),j'<k+n→ops[j']? =some o→(listed.setIfInBounds j true).getD j' false=true→o.dst≠some t)→(putA tm oj.dst x)[t]? =tm0[t]? :=by
  intro x t ht;rw [ACi9 (ht j oj hjk hoj (by rw [hget,if_pos rfl]))];exact hI.old t fun i' o hik ho hi'=>ht i' o hik ho (by rw [hget];split<;>simp_all)
 have hpk:=hpure hjp;obtain ⟨x,hxp0,hxd⟩:=spec0.1 j oj (Nat.zero_le _) hjp hoj;have hKF:∀t∈oj.looksAt ops,tmF[t]? =tmK[t]? :=fun t ht=>L1n t fun j' o' hj' ho' hd'=>by
  have:=hedge _ (hlk t ht (k+j') o' (by omega) ho' hd');omega
 have hxp':xp P call ops hp0 tm oj=some x:=by
  rw [AHb9 (tm':=tmK) (fun t ht=>AFu9 ((hsame t ht).trans (hKF t ht)))];exact hxp0
 have hxF:∀d,oj.dst=some d→d<tm.length→tmF[d]? =some x:=fun d hod hdl=>by
  rw [L1n d fun j' o' hj' ho' hd'=>(ACy9 hd ho').2.2.2.1 (by omega) j oj (by omega) hoj (by rw [hd'];simp) (by rw [hod,hd'])];exact hxd d hod (by rw [←hI.len];exact hdl)
 exact ⟨hpk,x,hxp',by simp [hI.sz],hI.hi,fun i' hi'=>by rw [hget,if_neg (by omega)];exact hI.far i' hi',fun i' h1 h2=>by rw [hget,if_neg (by omega)];exact hI.mid i' h1 h2,hdown',
  by rw [AAs9];exact hI.len,hgot' x hxF,hold' x,hI.heap⟩
theorem CGb9 {ops ops':Array Oper} {o:Oper} {tm:List AV} (h:o.guard=none):xp P call ops' hp tm o=xp P call ops hp tm o:=by
 unfold xp ABd9;simp only [h]
theorem BBj9 {ops ops':Array Oper} {σ:List Nat} {o:Oper} {tm:List AV} (h:o.guard=none):xp P call ops' hp tm (renum σ o)=xp P call ops hp tm o:=by
 have h':(renum σ o).guard=none:=by simp [renum,h]
 unfold xp ABd9;simp only [h,h'];rfl
theorem AZl9 {QQ:Exit→Act→World→Prop} {k n:Nat} (hE:AppOk P) (hcall:AGn9 P call) {σ:List Nat} (hσ:AFx9 (addE k (k+1) ops) σ) (hσk:posOf (k+1) σ=k) (hσk':posOf k σ=k+1) (hσo:∀j,j<k→posOf j σ=j) (hσp:∀j,k+1<j→j<ops.size→posOf j σ=j)
 (hgd:∀(j:Nat) (o:Oper),ops[j]? =some o→o.guard=none) (hk:k+n=ops.size) (hn:2≤n)
 (hd1:ABa9 (addE (k+1) k ops) k n=true) (hd2:ABa9 (AAu9 σ (addE k (k+1) ops)) k n=true) {tm0 tmK:List AV} {hp0:List Blk} {sts1 sts2:List (List AV×List Blk)}
 (hls1:ACx9 P (((addE (k+1) k ops).toList.drop k).take n) tmK hp0=some sts1) (hls2:ACx9 P (((AAu9 σ (addE k (k+1) ops)).toList.drop k).take n) tmK hp0=some sts2)
 (hLK1:∀(i:Nat) (o:Oper) (t:List AV) (h:List Blk),(((addE (k+1) k ops).toList.drop k).take n)[i]? =some o→sts1[i]? =some (t,h)→lateK P h t o True)
 (hLK2:∀(i:Nat) (o:Oper) (t:List AV) (h:List Blk),(((AAu9 σ (addE k (k+1) ops)).toList.drop k).take n)[i]? =some o→sts2[i]? =some (t,h)→lateK P h t o True)
 (hx1:xPre P call (addE (k+1) k ops) hp0 ((addE (k+1) k ops).toList.take k) tm0=some tmK) (hx2:xPre P call (AAu9 σ (addE k (k+1) ops)) hp0 ((AAu9 σ (addE k (k+1) ops)).toList.take k) tm0=some tmK)
 (hfr1:∀(i:Nat) (t:List AV) (h:List Blk),sts1[i]? =some (t,h)→∀(j:Nat) (o:Oper),j<k→(addE (k+1) k ops)[j]? =some o→(∀(i':Nat) (o':Oper),i'<i→(addE (k+1) k ops)[k+i']? =some o'→j∉AAo9 o')→xp P call (addE (k+1) k ops) h tmK o=xp P call (addE (k+1) k ops) hp0 tmK o)
 (hfr2:∀(i:Nat) (t:List AV) (h:List Blk),sts2[i]? =some (t,h)→∀(j:Nat) (o:Oper),j<k→(AAu9 σ (addE k (k+1) ops))[j]? =some o→(∀(i':Nat) (o':Oper),i'<i→(AAu9 σ (addE k (k+1) ops))[k+i']? =some o'→j∉AAo9 o')→xp P call (AAu9 σ (addE k (k+1) ops)) h tmK o=xp P call (AAu9 σ (addE k (k+1) ops)) hp0 tmK o)
 {tmF1 tmF2:List AV} {hpn1 hpn2:List Blk} (hlast1:sts1[n]? =some (tmF1,hpn1)) (hlast2:sts2[n]? =some (tmF2,hpn2)):
 ∀(u:Nat) {S:Pr} {w:World} {m:List MB} {hv:List (List Value)} {a:Act} {listed:Array Bool} {tm:List AV},u=(unl ops.size listed).length→
 AMs9 (addE (k+1) k ops) k n sts1 tm0 tmF1 tm hp0 listed 0→AMs9 (AAu9 σ (addE k (k+1) ops)) k n sts2 tm0 tmF2 tm hp0 listed 0→RelS S X yv w m B hv ⟨tm,hp0, []⟩ a→
 Nx S X yv w m B ⟨tmF1,hpn1, []⟩ a (QQ .normal)→Nx S X yv w m B ⟨tmF2,hpn2, []⟩ a (QQ .normal)→wpAnyIn (Fn r) 0 P .any ops QQ u listed a w:=by
 have sz2:(AAu9 σ (addE k (k+1) ops)).size=ops.size:=by rw [ADe9,hσ.len,ABn9]
 have full:∀ {ops':Array Oper} {listed:Array Bool},ops'.size=ops.size→listed.size=ops'.size→(∀j,j<ops'.size→listed.getD j false=decide (j<k+n))→Zec .any ops' listed= []:=by
  intro ops' listed hs hl h;rw [List.eq_nil_iff_forall_not_mem];intro x hx;obtain ⟨o,ho,h0,_⟩:=ABo9 hx;have hxl:=(Zal.1 ho).1;have:=h x hxl;have e:listed.getD x true=listed.getD x false:=by simp [hl,hxl]
  rw [e,this] at h0;simp at h0;omega
 intro u;induction u with
 | zero=>
  intro S w m hv a listed tm hu hI1 hI2 hr hK1 hK2;exfalso;have:k∈unl ops.size listed:=by
   simp only [unl,List.mem_filter,List.mem_range];refine ⟨by omega, ?_⟩;have:=hI1.mid k (Nat.le_refl _) (by omega);rw [this];simp
  rw [List.length_eq_zero_iff.1 hu.symm] at this;cases this
 | succ u ih=>
  intro S w m hv a listed tm hu hI1 hI2 hr hK1 hK2;have hls:listed.size=ops.size:=hI1.sz.trans ABn9;have hW1:wpAnyIn (Fn r) 0 P .any (addE (k+1) k ops) QQ (u+1) listed a w:=
   AMb9 hE hcall hd1 (by rw [ABn9];omega) hls1 hLK1 hx1 hfr1 hlast1 (u+1) (by rw [ABn9];exact hu) hI1 hr
    fun S' w' m' hv' a' hg hr' hdd hsz listed hl1 hl2=>by
     have e0:(addE (k+1) k ops).size - (k+n)=0:=by rw [ABn9];omega
     rw [e0];exact ⟨full ABn9 hl1 hl2,hK1 S' w' m' hv' a' hg hr' hdd hsz⟩
  have hW2:wpAnyIn (Fn r) 0 P .any (AAu9 σ (addE k (k+1) ops)) QQ (u+1) listed a w:=
   AMb9 hE hcall hd2 (by rw [sz2];omega) hls2 hLK2 hx2 hfr2 hlast2 (u+1) (by rw [sz2];exact hu) hI2 hr
    fun S' w' m' hv' a' hg hr' hdd hsz listed hl1 hl2=>by
     have e0:(AAu9 σ (addE k (k+1) ops)).size - (k+n)=0:=by rw [sz2];omega
     rw [e0];exact ⟨full sz2 hl1 hl2,hK2 S' w' m' hv' a' hg hr' hdd hsz⟩
  have u0:listed.getD k false=false:=by
   have:=hI1.mid k (Nat.le_refl _) (by omega);rw [this];simp
  have u1:listed.getD (k+1) false=false:=by
   have:=hI1.mid (k+1) (by omega) (by omega);rw [this];simp
  have hsame:∀i,i<(addE k (k+1) ops).size→listed.getD (posOf i σ) false=listed.getD i false:=by
   intro i hi;rw [ABn9] at hi;rcases Nat.lt_or_ge i k with h'|h'
   ·rw [hσo i h']
   ·rcases Nat.lt_or_ge (k+1) i with h''|h''
    ·rw [hσp i h'' hi]
    ·have:i=k∨i=k+1:=by omega
     rcases this with rfl|rfl
     ·rw [hσk',u0,u1]
     ·rw [hσk,u0,u1]
  have hW2':wpAnyIn (Fn r) 0 P .any (addE k (k+1) ops) QQ (u+1) listed a w:=AKp9 hσ _ listed listed a w (by rw [ABn9];exact hls) (by rw [ABn9];exact hls) hsame hW2;have hgt:∀j,j<ops.size→listed.getD j true=listed.getD j false:=by
   intro j hj;simp [hls,hj]
  have put:∀(j:Nat),j<ops.size→(listed.setIfInBounds j true).getD j false=true:=by
   intro j hj;simp [Array.getD_eq_getD_getElem?,Array.getElem?_setIfInBounds,hls,hj]
  refine ⟨fun h0=>hW1.1 ?_,fun j hj=> ?_⟩
  ·rw [List.eq_nil_iff_forall_not_mem] at h0 ⊢;exact fun x hx=>h0 x (BKw9 hx)
  obtain ⟨oj,hoj,hj0,hje⟩:=ABo9 hj;have hjl:j<ops.size:=(Zal.1 hoj).1;rw [hgt j hjl] at hj0;rcases Nat.lt_or_ge j k with hjk|hjk
  ·
   have h1:(addE (k+1) k ops)[j]? =some oj:=by rw [AMp9 (by omega)];exact hoj
   have h2:(AAu9 σ (addE k (k+1) ops))[j]? =some (renum σ oj):=by
    have:=hσ.get (i:=j) (o:=oj) (by rw [AMp9 (by omega)];exact hoj)
    rwa [hσo j hjk] at this
   have g0:=hgd j oj hoj;have hje2:∀e∈AAo9 (renum σ oj),listed.getD e false=true:=by
    intro e he;simp only [AAo9,renum,Zbg,List.mem_filter,Array.mem_toList_iff,Array.mem_map] at he;obtain ⟨e',⟨⟨e0,he0,rfl⟩,hb⟩,rfl⟩:=he;have h3:=hje e0.on (by
     simp only [AAo9,Zbg,List.mem_filter,Array.mem_toList_iff];exact ⟨e0,⟨he0,hb⟩,rfl⟩)
    have hlt:e0.on<ops.size:=by
     apply Classical.byContradiction;intro hn;rw [Array.getD_eq_getD_getElem?,Array.getElem?_eq_none (by omega)] at h3;cases h3
    rw [hsame _ (by rw [ABn9];exact hlt)];exact h3
   obtain ⟨hpk,x,hx,hI1'⟩:=hI1.pure hd1 (by rw [ABn9];omega) hls1 hx1 hlast1 h1 hj0 hje hjk;obtain ⟨_,x2,hx2',hI2'⟩:=hI2.pure hd2 (by rw [sz2];omega) hls2 hx2 hlast2 h2 hj0 hje2 hjk;have e2:x2=x:=by
    rw [BBj9 (ops:=addE (k+1) k ops) g0,hx] at hx2';exact (Option.some.inj hx2').symm
   subst e2;have hx0:xp P call ops hp0 tm oj=some x2:=(CGb9 g0).trans hx;obtain ⟨pv',hst,_,_⟩:=AVp9 (pv:= []) hpk hx0;unfold wpOpIn;simp only [hoj];refine AEv9 hcall hr hst fun S' w' m' hv' a' hg hr' hdd hsz=> ?_;exact ih (by have:=AKt9 hls hjl hj0;omega) hI1' hI2' ⟨hr'.1,hr'.2.1,by intro p hp;cases hp⟩
    (fun S'' w'' m'' hv'' a'' hg' hr'' hd' hsz'=>hK1 S'' w'' m'' hv'' a'' (hg.trans hg') hr'' (hd'.trans hdd) (hsz'.trans hsz))
    (fun S'' w'' m'' hv'' a'' hg' hr'' hd' hsz'=>hK2 S'' w'' m'' hv'' a'' (hg.trans hg') hr'' (hd'.trans hdd) (hsz'.trans hsz))
  ·rcases Nat.lt_or_ge (k+1) j with hj2|hj2
   ·
    exfalso;have h1:(addE (k+1) k ops)[j]? =some oj:=by rw [AMp9 (by omega)];exact hoj
    have hanc:=(ACy9 hd1 h1).2.2.2.2.1 (by omega) k (by omega) (by omega);have:=AEe9 hI1.down _ j oj h1 hje k hanc;rw [u0] at this;cases this
   ·have:j=k∨j=k+1:=by omega
    rcases this with rfl|rfl
    ·have hrd:j∈Zec .any (addE (j+1) j ops) listed:=ABg9 (by rw [AMp9 (by omega)];exact hoj) (by rw [hgt _ hjl];exact hj0) hje;exact AIy9 (wpOpIn_mono (fun a' w' hw'=>AKq9 _ _ _ _ (put j hjl) hw') (hW1.2 j hrd))
    ·have hrd:k+1∈Zec .any (addE k (k+1) ops) listed:=ABg9 (by rw [AMp9 (by omega)];exact hoj) (by rw [hgt _ hjl];exact hj0) hje;exact AIy9 (wpOpIn_mono (fun a' w' hw'=>AKq9 _ _ _ _ (put (k+1) hjl) hw') (hW2'.2 (k+1) hrd))
theorem WA.late2 {s:St Ev.β} {Q:Exit→St Ev.β→Prop} {k n:Nat} (call:CallT) (hE:AppOk P) (hcall:AGn9 P call) {σ:List Nat} (hσ:AFx9 (addE k (k+1) ops) σ) (hσk:posOf (k+1) σ=k) (hσk':posOf k σ=k+1) (hσo:∀j,j<k→posOf j σ=j) (hσp:∀j,k+1<j→j<ops.size→posOf j σ=j)
 (hgd:∀(j:Nat) (o:Oper),ops[j]? =some o→o.guard=none) (hk:k+n=ops.size) (hn:2≤n)
 (hd1:ABa9 (addE (k+1) k ops) k n=true) (hd2:ABa9 (AAu9 σ (addE k (k+1) ops)) k n=true) {tmK:List AV} {sts1 sts2:List (List AV×List Blk)}
 (hls1:ACx9 P (((addE (k+1) k ops).toList.drop k).take n) tmK s.hp=some sts1) (hls2:ACx9 P (((AAu9 σ (addE k (k+1) ops)).toList.drop k).take n) tmK s.hp=some sts2)
 (hLK1:∀(i:Nat) (o:Oper) (t:List AV) (h:List Blk),(((addE (k+1) k ops).toList.drop k).take n)[i]? =some o→sts1[i]? =some (t,h)→lateK P h t o True)
 (hLK2:∀(i:Nat) (o:Oper) (t:List AV) (h:List Blk),(((AAu9 σ (addE k (k+1) ops)).toList.drop k).take n)[i]? =some o→sts2[i]? =some (t,h)→lateK P h t o True)
 (hx1:xPre P call (addE (k+1) k ops) s.hp ((addE (k+1) k ops).toList.take k) s.tm=some tmK) (hx2:xPre P call (AAu9 σ (addE k (k+1) ops)) s.hp ((AAu9 σ (addE k (k+1) ops)).toList.take k) s.tm=some tmK)
 (hfr1:∀(i:Nat) (t:List AV) (h:List Blk),sts1[i]? =some (t,h)→∀(j:Nat) (o:Oper),j<k→(addE (k+1) k ops)[j]? =some o→(∀(i':Nat) (o':Oper),i'<i→(addE (k+1) k ops)[k+i']? =some o'→j∉AAo9 o')→xp P call (addE (k+1) k ops) h tmK o=xp P call (addE (k+1) k ops) s.hp tmK o)
 (hfr2:∀(i:Nat) (t:List AV) (h:List Blk),sts2[i]? =some (t,h)→∀(j:Nat) (o:Oper),j<k→(AAu9 σ (addE k (k+1) ops))[j]? =some o→(∀(i':Nat) (o':Oper),i'<i→(AAu9 σ (addE k (k+1) ops))[k+i']? =some o'→j∉AAo9 o')→xp P call (AAu9 σ (addE k (k+1) ops)) h tmK o=xp P call (AAu9 σ (addE k (k+1) ops)) s.hp tmK o)
 {tmF1 tmF2:List AV} {hpn1 hpn2:List Blk} (hlast1:sts1[n]? =some (tmF1,hpn1)) (hlast2:sts2[n]? =some (tmF2,hpn2))
 (hN:hpn2.length=s.hp.length+2) (hc:(hpn2.all fun blk=>lows s.hp.length blk.cells)=true) (htm:(tmF2.all fun x=>swOk s.hp.length x)=true) (etm:tmF2.map (swA s.hp.length)=tmF1) (ehp:swL s.hp.length hpn2=hpn1)
 (hq:Q .normal ⟨tmF1,hpn1,s.b⟩):WA Ev ops s Q:=by
 intro lo r S X V w m B hv a ht;have ht':=ht.drew;have hget:∀j,(Array.replicate ops.size false).getD j false=false:=by intro j;simp [Array.getElem?_replicate];split<;>rfl
 have h01:sts1[0]? =some (tmK,s.hp):=(ADh9 hls1).2.1;have h02:sts2[0]? =some (tmK,s.hp):=(ADh9 hls2).2.1;have sz2:(AAu9 σ (addE k (k+1) ops)).size=ops.size:=by rw [ADe9,hσ.len,ABn9]
 have lm:m.length=s.hp.length:=ht.rel.2.1.ml;refine AZl9 hE hcall hσ hσk hσk' hσo hσp hgd hk hn hd1 hd2 hls1 hls2 hLK1 hLK2 hx1 hx2 hfr1 hfr2 hlast1 hlast2 ops.size (tm:=s.tm) ?_
  ⟨by simp [ABn9],Nat.zero_le _,fun j _=>hget j,fun j h1 _=>(by rw [hget];simp;omega),fun j o' _ hj=>(by rw [hget] at hj;cases hj),rfl,fun j o d _ _ _ hj=>(by rw [hget] at hj;cases hj),fun _ _=>rfl,⟨_,h01⟩⟩
  ⟨by simp [sz2],Nat.zero_le _,fun j _=>hget j,fun j h1 _=>(by rw [hget];simp;omega),fun j o' _ hj=>(by rw [hget] at hj;cases hj),rfl,fun j o d _ _ _ hj=>(by rw [hget] at hj;cases hj),fun _ _=>rfl,⟨_,h02⟩⟩ ht'.rel ?_ ?_
 ·have:unl ops.size (Array.replicate ops.size false)=List.range ops.size:=by
   unfold unl;rw [List.filter_eq_self];intro j _;rw [hget];rfl
  rw [this];simp
 ·intro S' w' m' hv' a' hg hr hd' hsz;have ht'':=ht'.step hg hr hd';exact ⟨⟨tmF1,hpn1,s.b⟩,S',X,V,m',hv',hq,⟨(AHn9 ht.rel.slt).trans (hg.went hr.slt),hg.ms⟩,⟨⟨ht''.rel.1,ht''.rel.2.1,by intro p hp;cases hp⟩,ht''.sub,ht''.env,ht''.round,ht''.marks,ht''.base⟩⟩
 ·intro S' w' m' hv' a' hg hr hd' hsz;have hB:∀p∈B,p.1.low s.hp.length=true:=fun p hp=>by
   rw [←lm];exact (ht.rel.2.1.rv p (List.mem_append_right _ (List.mem_append_left _ hp))).lowOf
  have hr2:=hr.swap hB hN hc htm;rw [etm,ehp] at hr2;have hg2:Gs S X none {w with drawn:=w.drawn+1} m S' w' (swL s.hp.length m'):=by
   refine ⟨hg.ag,hg.up,hg.new,fun g p hp=> ?_⟩;have hgl:g<s.hp.length:=by rw [←lm];exact (Zac.1 hp).1
   obtain ⟨m0,p1,p2,l0,e1,e2⟩:=AVw9 (n:=s.hp.length) (l:=m') (hr.2.1.ml.trans hN);have:=hg.ms g p hp;rw [e1,Zar (by omega)] at this;rw [e2,Zar (by omega)];exact this
  have ht'':=ht'.step hg2 hr2 hd';exact ⟨⟨tmF1,hpn1,s.b⟩,S',X,V,_,_,hq,⟨(AHn9 ht.rel.slt).trans (hg2.went hr2.slt),hg2.ms⟩,⟨⟨ht''.rel.1,ht''.rel.2.1,by intro p hp;cases hp⟩,ht''.sub,ht''.env,ht''.round,ht''.marks,ht''.base⟩⟩
theorem APz9 {ops ops':Array Oper} {σ:List Nat}:∀ {l:List Oper} {tm:List AV},(∀o∈l,o.guard=none)→xPre P call ops' hp (l.map (renum σ)) tm=xPre P call ops hp l tm
 | [],_,_=>rfl
 | o::l,tm,h=>by
  simp only [List.map_cons,xPre];rw [BBj9 (h o (Zbv ..))];cases xp P call ops hp tm o with
  |none=>rfl
  |some x=>exact APz9 fun o ho=>h o (Zbx _ ho)
end
set_option linter.unusedSimpArgs false
structure CX (β:Type) where
 call:List (Nat×(List AV→(AV→Prop)→Prop))
 scall:List (Nat×(List AV→List Blk→(AV→List Blk→Prop)→Prop))
 wl:Code→List AV→List Blk→β→(Exit→List AV→List Blk→β→Prop)→Prop
 y:ACw9 β
 unroll:Bool
def setB (tm:List AV) (x:Operand) (v:Bool):List AV:=
 match x with
 | .tmp t=>tm.set t (.d (.s (.bool v)))
 |_=>tm
def BFe9 (ops:Array Oper) (o:Oper) (tm:List AV) (A B:List AV→Prop):Prop:=
 match o.guard with
 |none=>A tm
 | some (j,want)=>match (ops[j]?).bind (·.dst) with
  | some t=>match tm.getD t .bad with
   | .d (.s (.bool b))=>BIf b ((if want then A else B) (setB tm (.tmp t) true)) ((if want then B else A) (setB tm (.tmp t) false))
   | .d (.s (.tuple _))=>B tm
   |_=>False
  |none=>False
def BAa9 (o:Oper):Operand:=
 match o.op with
 | .pick c _ _=>c
 |_=> .const undef
def pickO (tm:List AV) (o:Oper):Option (Bool×AV×AV):=
 match o.op with
 | .pick c a b=>match evalA tm c with
  | .d (.s (.bool t))=>some (t,(evalA tm a).view,(evalA tm b).view)
  |_=>none
 |_=>none
def bodyX (P:Program) (s:RS) (o:Oper):Option RS:=
 match xa P s o with
 |some s'=>some s'
 |none=>match xh P ALt9 s o with
 |some s'=>some s'
 | none=>match xq P s.hp (evalA s.tm) o with
  |some x=>some {s with tm:=putA s.tm o.dst x,pv:=(ADl9 P s o).toList++pvPut s.pv o.dst}
  |none=>none
def restC (P:Program) (s:RS) (o:Oper) (K:RS→Prop):Prop:=
 match bodyX P s o with
 |some s'=>K s'
 |none=>False
def accOf (s:RS) (x:Operand):Option (Loc×TypeId×Nat×List (List Dv)):=
 match x with
 | .tmp t=>match s.pv.lookup t with
  | some loc=>match ownAt s loc with
   |some (e,k,xs)=>some (loc,e,k,xs)
   |none=>none
  |none=>none
 |_=>none
def BIz9 (P:Program) (s:RS) (o:Oper) (c:Call) (K:RS→Prop):Prop:=
 match c.callee,c.args[0]?,c.args[1]? with
 | .builtin .append,some x,some y=>match AFa9 P c.argTypes with
  | some (e',i)=>match ADi9 i.size (evalA s.tm y) with
   | some ys=>match accOf s x with
    |some (loc,e,k,xs)=>BIf (decide (e=e')&&decide (k=i.size)&&decide (c.args.size=2)&&decide ((xs.length+ys.length)*i.bytes≤140737488355328))
     (K {tm:=putA (AJy9 s loc).tm o.dst (.own e k (xs++ys)),hp:=(AJy9 s loc).hp,pv:= []}) False
    |none=>BIf (AAi9 (evalA s.tm x)&&decide (c.args.size=2)) (BIf (decide (ys.length*i.bytes≤140737488355328))
     (K {s with tm:=putA s.tm o.dst (.own e' i.size ys),pv:=(ADl9 P s o).toList++pvPut s.pv o.dst}) False) (match evalA s.tm x with
     | .full k xs=>BIf (decide (k=i.size)&&decide (c.args.size=2)) (BIf (decide ((xs.length+ys.length)*i.bytes≤140737488355328)) (BIf ys.isEmpty
      (K {s with tm:=putA s.tm o.dst (.full k xs),pv:=(ADl9 P s o).toList++pvPut s.pv o.dst})
      (K {s with tm:=putA s.tm o.dst (.own e' k (xs++ys)),pv:=(ADl9 P s o).toList++pvPut s.pv o.dst})) False) (restC P s o K)
     |_=>restC P s o K)
   |none=>restC P s o K
  |none=>restC P s o K
 |_,_,_=>restC P s o K
def copyC (P:Program) (s:RS) (o:Oper) (c:Call) (K:RS→Prop):Prop:=
 match c.args[0]?,c.args[1]? with
 | some x,some y=>match evalA s.tm x,(evalA s.tm y).rows? with
  | .ref g off n cap k,some (k',xs)=>match c.argTypes[0]? with
   | some t=>match P.underlying t with
    | some (.slice e)=>match P.info? e,s.hp[g]? with
     |some i,some blk=>BIf (decide (c.args.size=2)&&decide (c.argTypes.size=2)&&decide (i.size=1)&&decide (k=1)&&decide (k'=1)&& !blk.fro&& !blk.grow&&decide (off+n≤blk.cells.length))
      (ALi9 P 400 (Zap n e) fun row=>((xs.take n).map fun r=>AV.d (r.headD (.s undef)))++((blk.cells.drop off).take n).drop (min n xs.length)=row.map AV.d∧BIf ((row.map AV.d).all AV.one)
       (K {tm:=putA s.tm o.dst (.d (.s (goInt (min n xs.length:Nat)))),hp:=s.hp.set g {blk with cells:=blk.cells.take off++row.map AV.d++blk.cells.drop (off+n)},pv:= []}) False) False
     |_,_=>False
    |_=>False
   |none=>False
  |_,_=>restC P s o K
 |_,_=>restC P s o K
def BKy9:Op→Bool
 | .indexAddr .. =>true
 | .sliceToArrayPointer .. =>true
 | .slice .. =>true
 | .binOp .. =>true
 | .index .. =>true
 |_=>false
def bodyC (P:Program) (s:RS) (o:Oper) (K:RS→Prop):Prop:=
 match valG P s.hp s.tm o (fun x=>K {s with tm:=putA s.tm o.dst x,pv:=(ADl9 P s o).toList++pvPut s.pv o.dst}) with
 |some p=>p
 |none=>match pickO s.tm o with
 |some (t,x,y)=>BIf t (K {s with tm:=putA (setB s.tm (BAa9 o) true) o.dst x,pv:=pvPut s.pv o.dst}) (K {s with tm:=putA (setB s.tm (BAa9 o) false) o.dst y,pv:=pvPut s.pv o.dst})
 | none=>if BKy9 o.op then valC P s.hp s.tm o fun x=>K {s with tm:=putA s.tm o.dst x,pv:=(ADl9 P s o).toList++pvPut s.pv o.dst}
  else match o.op with
   | .call c=>match c.callee with
    | .builtin .copy=>copyC P s o c K
    |_=>BIz9 P s o c K
   |_=>restC P s o K
mutual
def sealC (hp:List Blk):AV→(AV→Prop)→Prop
 | .gref g ver n k,K=>match hp[g]? with
  |some blk=>BIf blk.grow (blk.ver=ver∧∃xs:List (List Dv),blk.cells=flatA xs∧xs.length=n∧(∀r∈xs,r.length=k)∧K (.d (.sl k xs))) False
  |none=>False
 | .agg cs,K=>AQw9 hp cs fun ys=>K (.agg ys)
 | .tup cs,K=>AQw9 hp cs fun ys=>K (.tup ys)
 | .fn f a b,K=>AQw9 hp a fun a=>AQw9 hp b fun b=>K (.fn f a b)
 | .own _ k xs,K=>K (.d (.sl k xs))
 | .ref g off n cap k,K=>match sealV hp (.ref g off n cap k) with
  |some y=>K y
  |none=>False
 | .ptr g off,K=>match sealV hp (.ptr g off) with
  |some y=>K y
  |none=>False
 | .gptr ..,_=>False
 | .yl,_=>False
 | .d x,K=>K (.d x)
 | .full k xs,K=>K (.full k xs)
 | .rptr cs,K=>K (.rptr cs)
 | .bad,K=>K .bad
def AQw9 (hp:List Blk):List AV→(List AV→Prop)→Prop
 | [],K=>K []
 |x::l,K=>sealC hp x fun y=>AQw9 hp l fun ys=>K (y::ys)
end
mutual
def BDg9 (hp:List Blk):Nat→AV→(AV→Prop)→Prop
 |0,_,_=>False
 | n+1,x,K=>match x with
  | .ptr g off=>match sealV hp (.ptr g off) with
   |some y=>K y
   | none=>match hp[g]? with
    | some blk=>if blk.grow then False else AGc9 hp n (blk.cells.drop off) fun ys=>match toDs ys with
     |some (d::ds)=>K (.rptr (d::ds))
     |_=>False
    |none=>False
  | .agg cs=>AGc9 hp n cs fun ys=>K (.agg ys)
  | .tup cs=>AGc9 hp n cs fun ys=>K (.tup ys)
  | .fn f a b=>AGc9 hp n a fun a=>AGc9 hp n b fun b=>K (.fn f a b)
  |x=>sealC hp x K
def AGc9 (hp:List Blk):Nat→List AV→(List AV→Prop)→Prop
 |0,_,_=>False
 | n+1,l,K=>match l with
  | []=>K []
  |x::l=>BDg9 hp n x fun y=>AGc9 hp n l fun ys=>K (y::ys)
end
def AUa9 (hp:List Blk):List Nat→List AV→(List AV→Prop)→Prop
 | [],tm,K=>K tm
 |t::ts,tm,K=>sealC hp (tm.getD t .bad) fun y=>BIf y.isOwn False (AUa9 hp ts (tm.set t y) K)
def leans (tm:List AV) (x:Operand):List Nat:=
 match x with
 | .tmp t=>if (occ (tm.getD t .bad)).isEmpty then [] else [t]
 |_=> []
def CJk9:Op→Bool
 | .call c=>match c.callee with
  | .builtin .append=>true
  |_=>false
 |_=>false
def AWp9 (pc:Nat→Bool) (s:RS) (o:Oper):List Nat:=
 match o.op with
 | .call c=>match c.callee with
  | .value _=>match AHh9 s.tm o with
   |some (k,args)=>if pc k&& !ABu9 args then (c.args.toList.flatMap (leans s.tm)).eraseDups else []
   |none=> []
  | .builtin .append=>match c.args[1]? with
   |some y=>leans s.tm y
   |none=> []
  |_=> []
 | .buildSlice _ _ parts=>(parts.toList.flatMap fun p=>leans s.tm p.2).eraseDups
 |_=> []
def frzC (pc:Nat→Bool) (s:RS) (o:Oper) (K:RS→Prop):Prop:=
 match AWp9 pc s o with
 | []=>K s
 |t::ts=>AUa9 s.hp (t::ts) s.tm fun tm1=>K ⟨tm1,frz s.hp (occs ((t::ts).map fun t=>s.tm.getD t .bad)),s.pv⟩
def CHu9 (x y:Operand):Bool:=
 match x,y with
 | .const _, .const _=>true
 |_,_=>false
def BPr9 (ax:AV) (n:Nat):Bool:=
 match ax with
 | .full k []=>decide (k=n)
 |_=>false
def extC (P:Program) (gt:Nat→Bool) (s:RS) (o:Oper) (K:RS→Prop):Option Prop:=
 match o.op with
 | .call c=>match c.callee,c.args[0]?,c.args[1]? with
  | .builtin .append,some x,some y=>match AFa9 P c.argTypes with
   | some (e,i)=>match evalA s.tm x with
    | .gref g ver n k=>match s.hp[g]?,ADi9 i.size (evalA s.tm y) with
     |some blk,some ys=>some (BIf (decide (c.args.size=2)&&decide (k=i.size)&&blk.grow&& !blk.fro) (blk.ver=ver∧BIf (decide ((n+ys.length)*i.bytes≤140737488355328))
      (K {tm:=putA s.tm o.dst (.gref g (ver+1) (n+ys.length) i.size),hp:=s.hp.set g ⟨blk.cells++flatA ys,false,true,ver+1⟩,pv:= []}) False) False)
     |_,_=>none
    | ax=>if gt e&&(AAi9 ax||BPr9 ax i.size) then match ADi9 i.size (evalA s.tm y) with
     |some ys=>some (BIf (decide (c.args.size=2)&&decide (ys.length*i.bytes≤140737488355328)) (BIf (decide (0<ys.length))
      (K {tm:=putA s.tm o.dst (.gref s.hp.length 0 ys.length i.size),hp:=s.hp++ [⟨flatA ys,false,true,0⟩],pv:= []})
      (K {tm:=putA s.tm o.dst ax,hp:=s.hp,pv:= []})) False)
     |none=>none
     else none
   | none=>match c.argTypes[0]?,c.argTypes[1]? with
    | some t,some tn=>match P.underlying t,P.underlying tn,evalA s.tm y with
     | some (.slice e),some (.int _), .d (.s (.int _ n))=>match P.info? e with
      | some i=>if gt e&&AAi9 (evalA s.tm x) then match zrow i with
       |some zr=>some (BIf (decide (c.args.size=2)&&decide (c.argTypes.size=2)&&decide (0<n)&&decide (n*(i.bytes:Int)≤281474976710656)&&decide (n≤9223372036854775807)&&decide (zr.length=i.size)&&decide (0<i.size)&&decide (0<i.bytes)&&(zr.map AV.d).all AV.one)
        (K {tm:=putA s.tm o.dst (.gref s.hp.length 0 n.toNat i.size),hp:=s.hp++ [⟨flatA (Zap n.toNat zr),false,true,0⟩],pv:= []}) False)
       |none=>none
       else none
      |none=>none
     |_,_,_=>none
    |_,_=>none
  | .builtin .copy,some x,some y=>match evalA s.tm x,c.argTypes[0]? with
   | .gref g ver n k,some t=>match s.hp[g]?,ADi9 1 (evalA s.tm y),P.underlying t with
    | some blk,some ys,some (.slice e)=>match P.info? e with
     |some i=>some (BIf (decide (c.args.size=2)&&decide (c.argTypes.size=2)&&decide (i.size=1)&&decide (k=1)&&blk.grow&& !blk.fro) (blk.ver=ver∧
      K {tm:=putA s.tm o.dst (.d (.s (goInt ((ys.take n).length:Nat)))),hp:=s.hp.set g {blk with cells:=flatA (ys.take n)++blk.cells.drop (ys.take n).length},pv:= []}) False)
     |none=>none
    |_,_,_=>none
   |_,_=>none
  |_,_,_=>none
 | .makeSlice t lo co=>match P.underlying t with
  | some (.slice e)=>if gt e|| !CHu9 lo co then match evalA s.tm lo,evalA s.tm co,P.info? e with
   | .d (.s (.int _ l)), .d (.s (.int _ c)),some i=>match zrow i with
    |some zr=>some (BIf (decide (0≤l)&&decide (l≤c)&&decide ((i.bytes:Int)*c≤281474976710656)&&decide (c≤9223372036854775807)&&decide (zr.length=i.size)&&decide (0<i.size)&&(zr.map AV.d).all AV.one)
     (K {tm:=putA s.tm o.dst (.gref s.hp.length 0 l.toNat i.size),hp:=s.hp++ [⟨flatA (Zap l.toNat zr),false,true,0⟩],pv:= []}) False)
    |none=>none
   |_,_,_=>none
   else none
  |_=>none
 | .slice t x none (some hi) none=>match evalA s.tm x,evalA s.tm hi,P.underlying t with
  | .gref g ver n k, .d (.s (.int _ j)),some (.slice e)=>match P.info? e,s.hp[g]? with
   |some i,some blk=>some (BIf (decide (k=i.size)&&blk.grow&& !blk.fro&&decide (0≤j)&&decide (j≤n)) (blk.ver=ver∧
    K {tm:=putA s.tm o.dst (.gref g (ver+1) j.toNat i.size),hp:=s.hp.set g ⟨blk.cells.take (j.toNat*i.size),false,true,ver+1⟩,pv:= []}) False)
   |_,_=>none
  |_,_,_=>none
 | .store t ax x=>match evalA s.tm ax with
  | .gptr g ver off=>match P.info? t,s.hp[g]?,AOe9 (evalA s.tm x) with
   |some i,some blk,some xs=>some (BIf (decide (xs.length=i.size)&&blk.grow&& !blk.fro) (blk.ver=ver∧BIf (decide (off+xs.length≤blk.cells.length))
    (K {tm:=putA s.tm o.dst .bad,hp:=s.hp.set g {blk with cells:=blk.cells.take off++xs++blk.cells.drop (off+xs.length)},pv:= []}) False) False)
   |_,_,_=>none
  |_=>none
 |_=>none
def demC (P:Program) (s:RS) (o:Oper) (K:RS→Prop):Option Prop:=
 match o.op with
 | .binOp op t x y _=>if AAi9 (evalA s.tm y) then match (evalA s.tm x).rows?,op,P.underlying t with
  |some (_,xs), .eql,some (.slice _)=>some (∀t:Bool,(t=true→xs= [])→K {tm:=putA s.tm o.dst (.d (.s (.bool t))),hp:=s.hp,pv:=pvPut s.pv o.dst})
  |some (_,xs), .neq,some (.slice _)=>some (∀t:Bool,(t=true→xs= [])→K {tm:=putA s.tm o.dst (.d (.s (.bool !t))),hp:=s.hp,pv:=pvPut s.pv o.dst})
  |_,_,_=>none
  else none
 |_=>none
section
variable {β:Type}
def opC (P:Program) (X:CX β) (ops:Array Oper) (o:Oper) (s:RS) (b:β) (K:RS→β→Prop):Prop:=
 BFe9 ops o s.tm
  (fun tm=>frzC (fun k=>(X.call.lookup k).isSome) {s with tm:=tm} o fun s=>match AHh9 s.tm o with
   | some (k,args)=>match X.call.lookup k with
    |some f=>BIf (ABu9 args) (f args fun x=>K {tm:=putA s.tm o.dst x.view,hp:=s.hp,pv:=pvPut s.pv o.dst} b) False
    | none=>match X.scall.lookup k with
     |some f=>f args s.hp fun x hp'=>K {tm:=putA s.tm o.dst x.view,hp:=hp',pv:= []} b
     |none=>False
   | none=>match AKa9 s.tm o with
    |some args=>BIf (ABu9 args) (X.y b args fun cont b'=>K {tm:=putA s.tm o.dst (.d (.s (.bool cont))),hp:=s.hp,pv:= []} b') False
    | none=>match demC P s o fun s'=>K s' b with
     |some p=>p
     |none=>match extC P (fun e=>(X.scall.lookup (1000000+e)).isSome) s o fun s'=>K s' b with
     |some p=>p
     |none=>bodyC P s o fun s'=>K s' b)
  (fun tm=>K {s with tm:=putA tm o.dst (.d (.s undef)),pv:=pvPut s.pv o.dst} b)
def opsC (P:Program) (X:CX β) (ops:Array Oper):List Oper→RS→β→(RS→β→Prop)→Prop
 | [],s,b,K=>K s b
 |o::l,s,b,K=>opC P X ops o s b fun s b=>opsC P X ops l s b K
def BPt9 (P:Program) (tm:List AV) (o:Oper):Option (Nat×List AV):=
 match o.op with
 | .call c=>match c.callee with
  | .invoke r name=>ANs9 P tm r name c.args
  |_=>none
 |_=>none
abbrev Tbl:=List (Option Nat×Nat×List AV×AV)
def preC (P:Program) (X:CX β) (ops:Array Oper) (hp:List Blk):List Oper→List AV→Tbl→(List AV→Tbl→Prop)→Prop
 | [],tm,tb,K=>K tm tb
 | o ::l,tm,tb,K=>BFe9 ops o tm
  (fun tm=>match AHh9 tm o with
   | some (k,args)=>match X.call.lookup k with
    |some f=>BIf (ABu9 args) (f args fun x=>preC P X ops hp l (putA tm o.dst x.view) ((o.dst,k,args,x)::tb) K) False
    |none=>False
   |none=>match BPt9 P tm o with
   | some (k,args)=>match X.call.lookup k with
    |some f=>BIf (ABu9 args) (f args fun x=>preC P X ops hp l (putA tm o.dst x.view) ((o.dst,k,args,x)::tb) K) False
    |none=>False
   | none=>match pickO tm o with
    |some (t,x,y)=>BIf t (preC P X ops hp l (putA (setB tm (BAa9 o) true) o.dst x) tb K) (preC P X ops hp l (putA (setB tm (BAa9 o) false) o.dst y) tb K)
    |none=>valC P hp tm o fun x=>preC P X ops hp l (putA tm o.dst x) tb K)
  (fun tm=>preC P X ops hp l (putA tm o.dst (.d (.s undef))) tb K)
def ADj9:List Oper→Nat
 | o::l=>match o.op,o.guard,o.dst with
  | .store ..,none,none=>ADj9 l+1
  | .alloc ..,none,some _=>ADj9 l+1
  |_,_,_=>0
 | []=>0
def findN (ops:Array Oper) (k:Nat):Nat→Option Nat
 |0=>none
 |n+1=>if ABa9 ops k (n+1) then some (n+1) else findN ops k n
def ABq9 (tm:List AV):List Oper→List (Nat×Nat×Nat)
 | []=> []
 | o::l=>match o.op with
  | .store t a x=>match evalA tm a,AOe9 (evalA tm x) with
   | .ptr g off,some xs=>(g,off,xs.length)::ABq9 tm l
   |_,_=>ABq9 tm l
  |_=>ABq9 tm l
def BAz9 (fp:List (Nat×Nat×Nat)) (g off n:Nat):Bool:=fp.all fun q=>q.1 !=g||decide (q.2.1+q.2.2≤off)||decide (off+n≤q.2.1)
def lowB (n:Nat) (tm:List AV) (o:Oper):Bool:=o.op.operands.toList.all fun x=>(evalA tm x).low n
def BMn9 (P:Program) (tm:List AV) (fp:List (Nat×Nat×Nat)) (o:Oper):Bool:=
 match o.op with
 | .load t a=>match evalA tm a with
  | .ptr g off=>match P.info? t with
   |some i=>BAz9 fp g off (max i.size 1)
   |none=>true
  | .gptr .. =>false
  |_=>true
 | .call c=>match c.callee with
  | .value _=>true
  | .builtin .len=>true
  | .builtin .append=>true
  |_=>false
 |_=>true
def ACv9:List Oper→Bool
 | []=>false
 | o::l=>match o.op with
  | .alloc .. =>true
  | .call c=>match c.callee with
   | .builtin .append=>true
   |_=>ACv9 l
  |_=>ACv9 l
def AV.hd? :AV→Option Nat
 | .ptr g _| .ref g _ _ _ _| .gref g _ _ _| .gptr g _ _=>some g
 |_=>none
def appGs (tm:List AV):List Oper→List Nat
 | []=> []
 | o::l=>match o.op with
  | .call c=>match c.args[0]? with
   | some x=>match (evalA tm x).hd? with
    |some g=>g::appGs tm l
    |none=>appGs tm l
   |none=>appGs tm l
  |_=>appGs tm l
def BOi9 (gs:List Nat) (tm:List AV) (o:Oper):Bool:=gs.isEmpty||match o.op with
 | .move _=>true
 | .call c=>match c.callee with
  | .value _=>true
  | _=>o.op.operands.toList.all fun x=>match (evalA tm x).hd? with
   |some g=> !gs.contains g
   |none=>true
 | _=>o.op.operands.toList.all fun x=>match (evalA tm x).hd? with
  |some g=> !gs.contains g
  |none=>true
def APj9 (P:Program) (n:Nat) (tm tmF:List AV) (pre sts:List Oper):Bool:=(List.range pre.length).all fun j=>match pre[j]? with
 |some o=>BMn9 P tm (ABq9 tmF (sts.filter fun o'=> !(AAo9 o').contains j)) o&&(!ACv9 sts||lowB n tm o)&&BOi9 (appGs tmF sts) tm o
 |none=>true
def ANm9 (P:Program) (X:CX β) (ops:Array Oper) (k:Nat) (tm:List AV) (hp:List Blk) (b:β) (K:List AV→List Blk→β→Prop):Prop:=
 if k≤ops.size then preC P X ops hp (ops.toList.take k) tm [] fun tmK tb=>
  if (tb.map (·.1)).Nodup then opsC P X ops (ops.toList.drop k) ⟨tmK,hp,pvAll P hp tmK (ops.toList.take k)⟩ b fun s b=>K s.tm s.hp b else False
 else False
def AFm9 (P:Program) (X:CX β) (ops:Array Oper) (q n:Nat) (tm:List AV) (hp:List Blk) (b:β) (K:List AV→List Blk→β→Prop):Prop:=
 if q+n≤ops.size then preC P X ops hp (ops.toList.take q) tm [] fun tmK tb=>
  if (tb.map (·.1)).Nodup then match ACx9 P ((ops.toList.drop q).take n) tmK hp with
   | some sts=>match sts[n]? with
    |some st=>AZi9 P (BIf (APj9 P hp.length tmK st.1 (ops.toList.take q) ((ops.toList.drop q).take n))
     (opsC P X ops (ops.toList.drop (q+n)) ⟨st.1,st.2, []⟩ b fun s b=>K s.tm s.hp b) False) ((ops.toList.drop q).take n) tmK hp
    |none=>False
   |none=>False
  else False
 else False
def BPq9 (ops:Array Oper) (k:Nat):Bool:=
 Nat.ble (k+2) ops.size&&(AZc9 (addE k (k+1) ops) (swN k ops.size)&&(Zgm (posOf (k+1) (swN k ops.size)) k&&(Zgm (posOf k (swN k ops.size)) (k+1)&&((List.range k).all (fun j=>Zgm (posOf j (swN k ops.size)) j)&&
  ((List.range ops.size).all (fun j=>Nat.ble j (k+1)||Zgm (posOf j (swN k ops.size)) j)&&((List.range ops.size).all (fun j=>match ops[j]? with
   |some o=>o.guard.isNone
   |none=>true)&&(ABa9 (addE (k+1) k ops) k (ops.size - k)&&ABa9 (AAu9 (swN k ops.size) (addE k (k+1) ops)) k (ops.size - k))))))))
def lateT (n:Nat) (ops:Array Oper) (k:Nat):List Oper:=(ops.toList.drop k).take n
def BVm9 (P:Program) (ops o1 o2:Array Oper) (k:Nat) (tmK:List AV) (hp:List Blk) (b:β) (K:List AV→List Blk→β→Prop) (st1 st2:List AV×List Blk):Prop:=
 AZi9 P (AZi9 P (BIf (APj9 P hp.length tmK st1.1 (o1.toList.take k) (lateT (ops.size - k) o1 k)&&(APj9 P hp.length tmK st2.1 (o2.toList.take k) (lateT (ops.size - k) o2 k)&&(Zgm st2.2.length (hp.length+2)&&((st2.2.all fun blk=>lows hp.length blk.cells)&&st2.1.all fun x=>swOk hp.length x))))
  (st2.1.map (swA hp.length)=st1.1∧swL hp.length st2.2=st1.2∧K st1.1 st1.2 b) False) (lateT (ops.size - k) o2 k) tmK hp) (lateT (ops.size - k) o1 k) tmK hp
def APc9 (P:Program) (X:CX β) (ops:Array Oper) (k:Nat) (tm:List AV) (hp:List Blk) (b:β) (K:List AV→List Blk→β→Prop):Prop:=
 if BPq9 ops k then preC P X (addE (k+1) k ops) hp ((addE (k+1) k ops).toList.take k) tm [] fun tmK tb=>
  if (tb.map (·.1)).Nodup then match ACx9 P (lateT (ops.size - k) (addE (k+1) k ops) k) tmK hp,ACx9 P (lateT (ops.size - k) (AAu9 (swN k ops.size) (addE k (k+1) ops)) k) tmK hp with
   | some sts1,some sts2=>match sts1[ops.size - k]?,sts2[ops.size - k]? with
    |some st1,some st2=>BVm9 P ops (addE (k+1) k ops) (AAu9 (swN k ops.size) (addE k (k+1) ops)) k tmK hp b K st1 st2
    |_,_=>False
   |_,_=>False
  else False
 else False
def growT (tm:List AV) (t:Nat):Bool:=
 match tm.getD t .bad with
 | .gref .. =>true
 |_=>false
def tmpOf:Operand→Option Nat
 | .tmp t=>some t
 |_=>none
def CAx9 (pc:Nat→Bool) (tm:List AV) (l:List Oper):List Nat:=
 let azz:=l.flatMap fun o=>match o.op with
  | .call c=>match c.callee with
   | .value f=>match AHl9 tm (evalA tm f) #[] with
    |some (k,_)=>if pc k then c.args.toList.filterMap tmpOf else []
    |none=> []
   |_=> []
  |_=> []
 (l.filterMap fun o=>match o.op,o.dst with
  | .move (.tmp t),some d=>if azz.contains d&&growT tm t then some t else none
  |_,_=>none).eraseDups
def isYl:AV→Bool
 | .yl=>true
 |_=>false
def BBf9 (tm:List AV):List Oper→List Nat
 | []=> []
 | o::l=>match o.op,o.dst with
  | .move (.tmp s),some d=>if isYl (tm.getD s .bad) then d::BBf9 tm l else BBf9 tm l
  |_,_=>BBf9 tm l
def isYield (tm:List AV) (ys:List Nat) (o:Oper):Bool:=
 match o.op with
 | .call c=>match c.callee with
  | .value (.tmp t)=>isYl (tm.getD t .bad)||ys.contains t
  |_=>false
 |_=>false
def BBg9 (tm:List AV) (ys:List Nat):Nat→List Oper→Option Nat
 |_, []=>none
 |n,o::l=>if isYield tm ys o then some n else BBg9 tm ys (n+1) l
def BWp9 (P:Program) (X:CX β) (ops:Array Oper) (tm:List AV) (hp:List Blk) (b:β) (K:List AV→List Blk→β→Prop):Prop:=
 match findK ops (ABs9 ops.toList) with
 |some k=>ANm9 P X ops k tm hp b K
 | none=>match findN ops (ABs9 ops.toList) (ADj9 (ops.toList.drop (ABs9 ops.toList))) with
  |some n=>AFm9 P X ops (ABs9 ops.toList) n tm hp b K
  | none=>match findK ops (AIm9 ops.toList) with
   |some k=>ANm9 P X ops k tm hp b K
   | none=>match findN ops (AIm9 ops.toList) (ADj9 (ops.toList.drop (AIm9 ops.toList))) with
    |some n=>AFm9 P X ops (AIm9 ops.toList) n tm hp b K
    | none=>match findK ops (ASe9 ops.toList) with
     |some k=>ANm9 P X ops k tm hp b K
     | none=>match findN ops (ASe9 ops.toList) (ADj9 (ops.toList.drop (ASe9 ops.toList))) with
      |some n=>AFm9 P X ops (ASe9 ops.toList) n tm hp b K
      |none=>False
def BPw9 (tm:List AV) (ops:List Oper) (q:Nat):Bool:=
 match ops[q]? with
 | some o=>match o.op with
  | .call c=>match c.callee,c.args[0]? with
   | .builtin .append,some (Operand.tmp t)=>ops.any fun o'=>match o'.op,o'.dst with
    | .move (.tmp u),some d=>d==t&&growT tm u
    |_,_=>false
   |_,_=>false
  |_=>false
 |none=>false
def drawC (P:Program) (X:CX β) (ops:Array Oper) (tm:List AV) (hp:List Blk) (b:β) (K:List AV→List Blk→β→Prop):Prop:=
 match BBg9 tm (BBf9 tm ops.toList) 0 ops.toList with
 | some q=>match findK ops q with
  |some k=>ANm9 P X ops k tm hp b K
  |none=>False
 |none=>if BPw9 tm ops.toList (ABs9 ops.toList)&&ABa9 ops (ABs9 ops.toList) 1 then AFm9 P X ops (ABs9 ops.toList) 1 tm hp b K else BWp9 P X ops tm hp b K
def CDn9 (tm:List AV) (ops:List Oper) (o:Oper):Bool:=
 match o.op with
 | .call c=>match c.callee,c.args[0]? with
  | .builtin .append,some (Operand.tmp t)=>ops.any fun o'=>match o'.op,o'.dst with
   | .move (.tmp u),some d=>d==t&&growT tm u
   |_,_=>false
  |_,_=>false
 |_=>false
def CHo9:Op→Bool
 | .load .. =>true
 |_=>false
def BVu9 (P:Program) (gt:Nat→Bool) (ops:List Oper) (o:Oper):Bool:=
 match o.op with
 | .call c=>match c.callee,c.args[0]?,AFa9 P c.argTypes with
  | .builtin .append,some (Operand.tmp t),some (e,_)=>gt e&&ops.any fun o'=>match o'.dst with
   |some d=>CHo9 o'.op&&d==t
   |none=>false
  |_,_,_=>false
 |_=>false
def AYu9 (lt:Oper→Bool):Nat→List Oper→List Nat→List Nat→List Nat
 |_, [],pre,post=>pre.reverse++post.reverse
 |i,o::l,pre,post=>if !ADd9 o||isMk o||lt o||(AAo9 o).any (fun j=>post.contains j) then AYu9 lt (i+1) l pre (i::post) else AYu9 lt (i+1) l (i::pre) post
def BGc9 (ops:Array Oper) (tm:List AV):Bool:=
 match BBg9 tm (BBf9 tm ops.toList) 0 ops.toList with
 |some q=>true
 | none=>(BPw9 tm ops.toList (ABs9 ops.toList)&&ABa9 ops (ABs9 ops.toList) 1)||(findK ops (ABs9 ops.toList)).isSome||(findN ops (ABs9 ops.toList) (ADj9 (ops.toList.drop (ABs9 ops.toList)))).isSome||
  (findK ops (AIm9 ops.toList)).isSome||(findN ops (AIm9 ops.toList) (ADj9 (ops.toList.drop (AIm9 ops.toList)))).isSome||(findK ops (ASe9 ops.toList)).isSome||(findN ops (ASe9 ops.toList) (ADj9 (ops.toList.drop (ASe9 ops.toList)))).isSome
def APa9:List Oper→Nat
 | o::l=>if lateQ o then APa9 l+1 else match o.op,o.guard,o.dst with
  | .store ..,none,none=>APa9 l+1
  | .alloc ..,none,some _=>APa9 l+1
  |_,_,_=>0
 | []=>0
def findL (ops:Array Oper):Nat→Option (Nat×Nat)
 |0=>none
 | k+1=>match findN ops (k+1) (APa9 (ops.toList.drop (k+1))) with
  |some n=>some (k+1,n)
  |none=>findL ops k
def drawQ (P:Program) (X:CX β) (ops:Array Oper) (tm:List AV) (hp:List Blk) (b:β) (K:List AV→List Blk→β→Prop):Prop:=
 if BGc9 ops tm then drawC P X ops tm hp b K
 else match findL ops (ABs9 ops.toList) with
  |some (k,n)=>AFm9 P X ops k n tm hp b K
  |none=>APc9 P X ops (ABs9 ops.toList) tm hp b K
def drawL (P:Program) (X:CX β) (ops:Array Oper) (tm:List AV) (hp:List Blk) (b:β) (K:List AV→List Blk→β→Prop):Prop:=
 if ABa9 ops (ABs9 ops.toList) 1 then AFm9 P X ops (ABs9 ops.toList) 1 tm hp b K
 else match findL ops (ABs9 ops.toList) with
 |some (k,n)=>AFm9 P X ops k n tm hp b K
 |none=>drawC P X ops tm hp b K
def drawP (P:Program) (X:CX β) (ops:Array Oper) (tm:List AV) (hp:List Blk) (b:β) (K:List AV→List Blk→β→Prop):Prop:=
 if ops.toList.any (BVu9 P (fun e=>(X.scall.lookup (1000000+e)).isSome) ops.toList) then
  if AZc9 ops (AYu9 (BVu9 P (fun e=>(X.scall.lookup (1000000+e)).isSome) ops.toList) 0 ops.toList [] []) then drawL P X (AAu9 (AYu9 (BVu9 P (fun e=>(X.scall.lookup (1000000+e)).isSome) ops.toList) 0 ops.toList [] []) ops) tm hp b K else False
 else if BGc9 ops tm then drawC P X ops tm hp b K
 else if AZc9 ops (AYu9 (CDn9 tm ops.toList) 0 ops.toList [] []) then drawQ P X (AAu9 (AYu9 (CDn9 tm ops.toList) 0 ops.toList [] []) ops) tm hp b K else False
def CHw9 (l:List Oper):List Nat:=
 let azz:=l.flatMap fun o=>match o.op with
  | .call c=>c.args.toList.filterMap tmpOf
  |_=> []
 (l.flatMap fun o=>match o.op,o.dst with
  | .makeFunc _ _ caps,some d=>if azz.contains d then caps.toList.filterMap tmpOf else []
  |_,_=> []).eraseDups
def sealL:List Nat→List AV→List Blk→(List AV→List Blk→Prop)→Prop
 | [],tm,hp,K=>K tm hp
 |t::ts,tm,hp,K=>AUa9 hp [t] tm fun tm1=>sealL ts tm1 (frz hp (occ (tm.getD t .bad))) K
def BDn9 (P:Program) (X:CX β) (ops:Array Oper) (draw:Bool) (tm:List AV) (hp:List Blk) (b:β) (K:List AV→List Blk→β→Prop):Prop:=
 if draw then match CAx9 (fun k=>(X.call.lookup k).isSome) tm (ops.toList.take (AIm9 ops.toList)) with
  | [t]=>AUa9 hp [t] tm fun tm1=>drawP P X ops tm1 (frz hp (occ (tm.getD t .bad))) b K
  |_=>sealL (CHw9 ops.toList) tm hp fun tm hp=>drawP P X ops tm hp b K
 else opsC P X ops ops.toList ⟨tm,hp, []⟩ b fun s b=>K s.tm s.hp b
def CFa9 (id:Nat) (K:Exit→List AV→List Blk→β→Prop):Exit→List AV→List Blk→β→Prop
 | .exit id',tm,hp,b=>if id'=id then K .normal tm hp b else K (.exit id') tm hp b
 |e,tm,hp,b=>K e tm hp b
def thenK (K':List AV→List Blk→β→Prop) (K:Exit→List AV→List Blk→β→Prop):Exit→List AV→List Blk→β→Prop
 | .normal,tm,hp,b=>K' tm hp b
 |e,tm,hp,b=>K e tm hp b
def CGm9 (K:Exit→List AV→List Blk→β→Prop):Exit→List AV→List Blk→β→Prop
 | .goto _,_,_,_=>False
 |e,tm,hp,b=>K e tm hp b
def rounds (body:List AV→List Blk→β→(Exit→List AV→List Blk→β→Prop)→Prop):Nat→List AV→List Blk→β→(Exit→List AV→List Blk→β→Prop)→Prop
 |0,_,_,_,_=>False
 |m+1,tm,hp,b,K=>body tm hp b (thenK (fun tm hp b=>rounds body m tm hp b K) K)
def wpc (P:Program) (X:CX β):Nat→Code→List AV→List Blk→β→(Exit→List AV→List Blk→β→Prop)→Prop
 |0,_,_,_,_,_=>False
 | n+1,c,tm,hp,b,K=>match c with
  | .skip=>K .normal tm hp b
  | .label _=>K .normal tm hp b
  | .exit id=>K (.exit id) tm hp b
  | .goto l=>K (.goto l) tm hp b
  | .ret=>K .ret tm hp b
  | .region id ops d=>if (X.call.lookup (4000000+id)).isSome then X.wl (.region id ops d) tm hp b K else BDn9 P X ops d tm hp b (K .normal)
  | .seq x y=>wpc P X n x tm hp b (thenK (fun tm hp b=>wpc P X n y tm hp b K) K)
  | .cond x c c'=>match evalA tm x with
   | .d (.s (.bool t))=>BIf t (wpc P X n c (setB tm x true) hp b K) (wpc P X n c' (setB tm x false) hp b K)
   |_=>False
  | .block id c=>wpc P X n c tm hp b (CFa9 id K)
  | .loop c=>if X.unroll then rounds (wpc P X n c) 1000 tm hp b K else X.wl (.loop c) tm hp b K
  | .rangeFunc f ps assign body=>X.wl (.rangeFunc f ps assign body) tm hp b K
  | .scope c=>wpc P X n c tm hp b (CGm9 K)
  | .refuse _=>False
def fnK (P:Program) (fn:Func) (R:AV→β→Prop):Exit→List AV→List Blk→β→Prop:=fun e tm hp b=>
 BIf (match e with| .ret=>true| .normal=>true|_=>false) (match resAs P hp tm fn.results.toList with
  |some ys=>BDg9 hp 200 (resV ys) fun y=>R y b
  |none=>False) False
def wpFn (P:Program) (X:CX β) (n:Nat) (fn:Func) (args:List AV) (b:β) (R:AV→β→Prop):Prop:=
 match fn.body with
 |some c=>wpc P X n c (ACg9 fn args) [] b (fnK P fn R)
 |none=>False
end
structure CX.Ok {P:Program} (Ev:Env P) (X:CX Ev.β):Prop where
 call:∀(k:Nat) f,X.call.lookup k=some f→∀args K,f args K→∃x,PCall P k args x∧K x
 scall:∀(k:Nat) f,X.scall.lookup k=some f→∀args hp K,f args hp K→∃x hp',SCall P k args hp x hp'∧K x hp'
 wl:∀c tm hp b K,X.wl c tm hp b K→W Ev c ⟨tm,hp,b⟩ (fun e s=>K e s.tm s.hp s.b)
 y:X.y=Ev.Y
section
variable {P:Program} {hp hp':List Blk} {tm tm':List AV} {o:Oper} {ops:Array Oper} {Ev:Env P} {X:CX Ev.β} {s:RS} {b:Ev.β}
theorem AOo9 {x:Operand} {v:Bool} (h:evalA tm x= .d (.s (.bool v))):setB tm x v=tm:=by
 cases x with
 | tmp t=>
  simp only [evalA,List.getD] at h;simp only [setB];cases ht:tm[t]? with
  |none=>rw [ht] at h;cases h
  |some y=>rw [ht] at h;simp only [Option.getD_some] at h;subst h;exact ABp9 ht
 |_=>rfl
theorem AHk9 {A B:List AV→Prop} (h:BFe9 ops o tm A B):(ABd9 ops o tm=some true∧A tm)∨(ABd9 ops o tm=some false∧B tm):=by
 unfold BFe9 at h;unfold ABd9;split at h
 ·rename_i hg;rw [hg];exact .inl ⟨rfl,h⟩
 ·rename_i j want hg;rw [hg];split at h
  ·rename_i t ht;split at h
   ·rename_i bb hb;simp only [ht,hb];have hs:setB tm (.tmp t) bb=tm:=AOo9 hb;rcases h.elim with ⟨rfl,h⟩|⟨rfl,h⟩<;>rw [hs] at h<;>cases want<;>simp only [Bool.false_eq_true,if_true,if_false] at h
    ·exact .inr ⟨rfl,h⟩
    ·exact .inl ⟨rfl,h⟩
    ·exact .inl ⟨rfl,h⟩
    ·exact .inr ⟨rfl,h⟩
   ·rename_i vs hb;simp only [ht,hb];exact .inr ⟨trivial,h⟩
   ·exact h.elim
  ·exact h.elim
theorem ARg9 {t:Bool} {x y:AV} (h:pickO tm o=some (t,x,y)):setB tm (BAa9 o) t=tm:=by
 unfold pickO at h;split at h<;>try (cases h;done)
 rename_i c a b ho;split at h<;>try (cases h;done)
 rename_i t' hc;cases h;simp only [BAa9,ho];exact AOo9 hc
theorem ARh9 {pv:List (Nat×Loc)} {t:Bool} {x y:AV} (h:pickO tm o=some (t,x,y)):bodyX P ⟨tm,hp,pv⟩ o=some ⟨putA tm o.dst (if t then x else y),hp,pvPut pv o.dst⟩:=by
 unfold pickO at h;split at h<;>try (cases h;done)
 rename_i c a b ho;split at h<;>try (cases h;done)
 rename_i t' hc;cases h;have h1:xa P ⟨tm,hp,pv⟩ o=none:=by simp [xa,ho]
 have h2:xh P ALt9 ⟨tm,hp,pv⟩ o=none:=by simp [xh,ho]
 have h3:ADl9 P ⟨tm,hp,pv⟩ o=none:=by
  unfold ADl9;rw [ho];cases o.dst<;>rfl
 simp only [bodyX,h1,h2,h3];simp [xq,ho,hc]
theorem BBm9 (hw:ABd9 ops o s.tm=some true):xStep P ALt9 ops s o=bodyX P s o:=by
 simp only [xStep,hw,bodyX];cases xa P s o with
 |some s1=>rfl
 | none=>cases xh P ALt9 s o with
  |some s1=>rfl
  |none=>cases xq P s.hp (evalA s.tm) o<;>rfl
theorem ACn9 {K:RS→Prop} (h:restC P s o K):∃s',bodyX P s o=some s'∧K s':=by
 unfold restC at h;split at h
 ·rename_i s' hs;exact ⟨s',hs,h⟩
 ·exact h.elim
theorem ASy9 {c:Call} {K:RS→Prop} (ho:o.op= .call c) (h:BIz9 P s o c K):∃s',bodyX P s o=some s'∧K s':=by
 unfold BIz9 at h;split at h
 ·rename_i x y hcal hx hy;split at h
  ·rename_i e' i hi;split at h
   ·rename_i ys hys;split at h
    ·rename_i loc e k xs hacc;obtain ⟨hc,hK⟩:=h.elim';simp only [Zai,decide_eq_true_eq] at hc;obtain ⟨⟨⟨h1,h2⟩,h3⟩,h4⟩:=hc;refine ⟨_, ?_,hK⟩;unfold accOf at hacc;split at hacc<;>try (cases hacc;done)
     rename_i t;split at hacc<;>try (cases hacc;done)
     rename_i loc' hl;split at hacc<;>try (cases hacc;done)
     rename_i e1 k1 xs1 hown;cases hacc;simp only [bodyX,xa,ho,hcal,hx,hy,h3,hl,hown,hi,hys,if_true];rw [if_pos ⟨h1,h2,h4⟩]
    ·rename_i hacc;rcases h.elim with ⟨hc,h⟩|⟨hc,h⟩
     ·obtain ⟨h4,hK⟩:=h.elim';simp only [Zai,decide_eq_true_eq] at hc h4;refine ⟨_, ?_,hK⟩;have hxa:xa P s o=none:=by
       simp only [xa,ho,hcal,hx,hy];split<;>try rfl
       rename_i t y' _ e1 e2;cases e1;cases e2;split<;>try rfl
       split<;>try rfl
       rename_i loc hl;split<;>try rfl
       rename_i e k xs e1 i1 hown hi1;exfalso;simp only [accOf,hl,hown] at hacc;cases hacc
      have hxh:xh P ALt9 s o=none:=by simp [xh,ho,hcal]
      have hxq:xq P s.hp (evalA s.tm) o=some (.own e' i.size ys):=by
       simp only [xq,ho,hcal,hx,hy,hc.2,if_true,AFd9,hi,hys,hc.1];rw [if_pos h4]
      simp only [bodyX,hxa,hxh,hxq]
     ·split at h
      ·rename_i k xs hfull;rcases h.elim with ⟨hc,h⟩|⟨_,h⟩
       ·obtain ⟨h4,h⟩:=h.elim';simp only [Zai,decide_eq_true_eq] at hc h4;have hxa:xa P s o=none:=by
         simp only [xa,ho,hcal,hx,hy];split<;>try rfl
         rename_i t y' _ e1 e2;cases e1;cases e2;split<;>try rfl
         split<;>try rfl
         rename_i loc hl;split<;>try rfl
         rename_i e k xs e1 i1 hown hi1;exfalso;simp only [accOf,hl,hown] at hacc;cases hacc
        have hxh:xh P ALt9 s o=none:=by simp [xh,ho,hcal]
        rcases h.elim with ⟨he,hK⟩|⟨he,hK⟩
        ·have hxq:xq P s.hp (evalA s.tm) o=some (.full k xs):=by
          simp only [xq,ho,hcal,hx,hy,hc.2,if_true,AFd9,hi,hys,hfull,AAi9];rw [if_neg (by simp),if_pos ⟨hc.1,h4⟩,if_pos he]
         exact ⟨_,by simp only [bodyX,hxa,hxh,hxq],hK⟩
        ·have hxq:xq P s.hp (evalA s.tm) o=some (.own e' k (xs++ys)):=by
          simp only [xq,ho,hcal,hx,hy,hc.2,if_true,AFd9,hi,hys,hfull,AAi9];rw [if_neg (by simp),if_pos ⟨hc.1,h4⟩,if_neg (by simp [he])]
         exact ⟨_,by simp only [bodyX,hxa,hxh,hxq],hK⟩
       ·exact ACn9 h
      ·exact ACn9 h
   ·exact ACn9 h
  ·exact ACn9 h
 ·exact ACn9 h
theorem AZy9 {c:Call} {K:RS→Prop} (ho:o.op= .call c) (hc:c.callee= .builtin .copy) (h:copyC P s o c K):∃s',bodyX P s o=some s'∧K s':=by
 unfold copyC at h;split at h
 ·rename_i x y hx hy;split at h
  ·rename_i g off n cap k k' xs hd hs;split at h
   ·rename_i t ht;split at h
    ·rename_i e hu;split at h
     ·rename_i i blk hi hblk;obtain ⟨hcond,h⟩:=h.elim';simp only [Zai,decide_eq_true_eq,Zcb] at hcond;obtain ⟨⟨⟨⟨⟨⟨⟨h1,h2⟩,h3⟩,h4⟩,h5⟩,h6⟩,h7⟩,h8⟩:=hcond;obtain ⟨row,hrow,h⟩:=(ADs9 P 400).2 _ _ h;obtain ⟨hone,hK⟩:=h.elim';refine ⟨_, ?_,hK⟩;have hxa:xa P s o=none:=by simp [xa,ho,hc]
      have hsrc:ALc9 s.hp (evalA s.tm y)=some (xs.map fun r=>AV.d (r.headD (.s undef))):=by
       have hr:=hs;unfold ALc9;have hnil:AAi9 (evalA s.tm y)=false:=by
        unfold AAi9;split
        ·rename_i he;rw [he] at hr;cases hr
        ·rfl
       rw [hnil];simp only [Bool.false_eq_true,if_false];split
       ·rename_i he;rw [he] at hr;cases hr
       ·rw [hs];simp only [h5,if_true]
      have htake:(xs.map fun r=>AV.d (r.headD (.s undef))).take n=(xs.take n).map fun r=>AV.d (r.headD (.s undef)):=by rw [List.map_take]
      have hlen:((xs.take n).map fun r=>AV.d (r.headD (.s undef))).length=min n xs.length:=by simp
      have hall:(((xs.map fun r=>AV.d (r.headD (.s undef))).take n).all AV.one)=true:=by
       rw [htake];rw [←hrow,List.all_append,Zai] at hone;exact hone.1
      have hcopy:xCopy P s.hp c.argTypes (evalA s.tm x) (evalA s.tm y)=some (.d (.s (goInt (min n xs.length:Nat))),s.hp.set g {blk with cells:=blk.cells.take off++row.map AV.d++blk.cells.drop (off+n)}):=by
       unfold xCopy;simp only [ht,hu,hi,hd,hsrc,hblk];rw [if_pos ⟨h2,h3,h4,h6,h7,hall,h8⟩,htake,hlen];congr 4;rw [←hrow,List.append_assoc,List.append_assoc,List.append_assoc];congr 2;have e1:blk.cells.drop (off+min n xs.length)=(blk.cells.drop off).drop (min n xs.length):=by rw [List.drop_drop]
       have e2:blk.cells.drop (off+n)=(blk.cells.drop off).drop n:=by rw [List.drop_drop]
       rw [e1,e2]
       conv=>lhs;rw [←List.take_append_drop n (blk.cells.drop off)]
       rw [List.drop_append_of_le_length];simp only [List.length_take,List.length_drop];omega
      have hxh:xh P ALt9 s o=some {tm:=putA s.tm o.dst (.d (.s (goInt (min n xs.length:Nat)))),hp:=s.hp.set g {blk with cells:=blk.cells.take off++row.map AV.d++blk.cells.drop (off+n)},pv:= []}:=by
       simp only [xh,ho,hc,hx,hy,h1,if_true,hcopy]
      simp only [bodyX,hxa,hxh]
     ·exact h.elim
    ·exact h.elim
   ·exact h.elim
  ·exact ACn9 h
 ·exact ACn9 h
theorem CAo9 {K:AV→Prop} {p:Prop} (h:valG P s.hp s.tm o K=some p):xa P s o=none∧xh P ALt9 s o=none:=by
 unfold valG at h;split at h
 ·rename_i ho;exact ⟨by simp [xa,ho],by simp [xh,ho]⟩
 ·rename_i ho;exact ⟨by simp [xa,ho],by simp [xh,ho]⟩
 ·rename_i ho;exact ⟨by simp [xa,ho],by simp [xh,ho]⟩
 ·rename_i c ho;split at h<;>try (cases h;done)
  ·rename_i x hc hx0;exact ⟨by simp [xa,ho,hc],by simp [xh,ho,hc]⟩
  ·rename_i x hc hx0;exact ⟨by simp [xa,ho,hc],by simp [xh,ho,hc]⟩
 ·rename_i ho;exact ⟨by simp [xa,ho],by simp [xh,ho]⟩
 ·cases h
theorem BAx9 {K:RS→Prop} (h:bodyC P s o K):∃s',bodyX P s o=some s'∧K s':=by
 unfold bodyC at h;split at h
 ·rename_i p hv;obtain ⟨x,hx,hK⟩:=AQe9 hv h;obtain ⟨h1,h2⟩:=CAo9 hv;exact ⟨_,by simp only [bodyX,h1,h2,hx],hK⟩
 split at h
 ·rename_i t x y hp';have hs:=ARg9 hp';rcases h.elim with ⟨rfl,hK⟩|⟨rfl,hK⟩
  ·rw [hs] at hK;exact ⟨_,ARh9 hp',hK⟩
  ·rw [hs] at hK;exact ⟨_,ARh9 hp',hK⟩
 ·split at h
  ·rename_i hq;obtain ⟨x,hx,hK⟩:=AQf9 h;refine ⟨_, ?_,hK⟩;have hxa:xa P s o=none:=by
    unfold xa;split<;>try rfl
    rename_i c ho;rw [ho] at hq;cases hq
   have hxh:xh P ALt9 s o=none:=by
    unfold xh;split<;>first|rfl|(rename_i ho;rw [ho] at hq;cases hq)
   simp only [bodyX,hxa,hxh,hx]
  ·split at h
   ·rename_i c ho;split at h
    ·rename_i hc;exact AZy9 ho hc h
    ·exact ASy9 ho h
   ·exact ACn9 h
mutual
theorem AJb9:∀ {x:AV} {K:AV→Prop},sealC hp x K→∃y,SealR hp x y∧K y
 | .gref g ver n k,K,h=>by
  simp only [sealC] at h;split at h
  ·rename_i blk hb;obtain ⟨hg,hv,xs,h1,h2,h3,hK⟩:=h.elim';exact ⟨_, .gref hb hg hv h1 h2 h3,hK⟩
  ·exact h.elim
 | .agg cs,K,h=>by
  simp only [sealC] at h;obtain ⟨ys,hl,hs,hK⟩:=ADy9 h;exact ⟨_, .agg hl hs,hK⟩
 | .tup cs,K,h=>by
  simp only [sealC] at h;obtain ⟨ys,hl,hs,hK⟩:=ADy9 h;exact ⟨_, .tup hl hs,hK⟩
 | .fn f a b,K,h=>by
  simp only [sealC] at h;obtain ⟨ys,hl,hs,h2⟩:=ADy9 h;obtain ⟨zs,hl',hs',hK⟩:=ADy9 h2;exact ⟨_, .fn hl hl' hs hs',hK⟩
 | .own e k xs,K,h=>⟨.d (.sl k xs), .v (by simp [sealV]),by simpa only [sealC] using h⟩
 | .ref g off n cap k,K,h=>by
  simp only [sealC] at h;split at h
  ·rename_i y hy;exact ⟨y, .v hy,h⟩
  ·exact h.elim
 | .ptr g off,K,h=>by
  simp only [sealC] at h;split at h
  ·rename_i y hy;exact ⟨y, .v hy,h⟩
  ·exact h.elim
 | .gptr ..,K,h=>by simp only [sealC] at h
 | .yl,K,h=>by simp only [sealC] at h
 | .d x,K,h=>⟨.d x, .v (by simp [sealV]),by simpa only [sealC] using h⟩
 | .full k xs,K,h=>⟨.full k xs, .v (by simp [sealV]),by simpa only [sealC] using h⟩
 | .rptr cs,K,h=>⟨.rptr cs, .v (by simp [sealV]),by simpa only [sealC] using h⟩
 | .bad,K,h=>⟨.bad, .v (by simp [sealV]),by simpa only [sealC] using h⟩
theorem ADy9:∀ {cs:List AV} {K:List AV→Prop},AQw9 hp cs K→∃ys,cs.length=ys.length∧(∀(i:Nat) (c y:AV),cs[i]? =some c→ys[i]? =some y→SealR hp c y)∧K ys
 | [],K,h=>⟨[],rfl,fun i c y h=>by simp at h,by simpa only [AQw9] using h⟩
 | x::l,K,h=>by
  simp only [AQw9] at h;obtain ⟨y,hy,h2⟩:=AJb9 h;obtain ⟨ys,hl,hs,hK⟩:=ADy9 h2;refine ⟨y::ys,by simp [hl],fun i c z h3 h4=> ?_,hK⟩;cases i with
  |zero=>simp at h3 h4;subst h3;subst h4;exact hy
  |succ i=>exact hs i c z (by simpa using h3) (by simpa using h4)
end
mutual
theorem ALj9:∀ {n:Nat} {x:AV} {K:AV→Prop},BDg9 hp n x K→∃y,SealD hp x y∧K y
 |0,x,K,h=>by simp only [BDg9] at h
 | n+1,x,K,h=>by
  unfold BDg9 at h;split at h
  ·split at h
   ·rename_i y hy;exact ⟨y, .r (.v hy),h⟩
   ·split at h
    ·rename_i blk hb;split at h
     ·exact h.elim
     ·rename_i hgr;obtain ⟨ys,hl,hs,h2⟩:=ABv9 h;split at h2
      ·rename_i d ds hds;exact ⟨_, .ptr hb (by simpa using hgr) hl hs hds,h2⟩
      ·exact h2.elim
    ·exact h.elim
  ·obtain ⟨ys,hl,hs,hK⟩:=ABv9 h;exact ⟨_, .agg hl hs,hK⟩
  ·obtain ⟨ys,hl,hs,hK⟩:=ABv9 h;exact ⟨_, .tup hl hs,hK⟩
  ·obtain ⟨ys,hl,hs,h2⟩:=ABv9 h;obtain ⟨zs,hl',hs',hK⟩:=ABv9 h2;exact ⟨_, .fn hl hl' hs hs',hK⟩
  ·obtain ⟨y,hy,hK⟩:=AJb9 h;exact ⟨y, .r hy,hK⟩
theorem ABv9:∀ {n:Nat} {cs:List AV} {K:List AV→Prop},AGc9 hp n cs K→∃ys,cs.length=ys.length∧(∀(i:Nat) (c y:AV),cs[i]? =some c→ys[i]? =some y→SealD hp c y)∧K ys
 |0,cs,K,h=>by simp only [AGc9] at h
 | n+1,cs,K,h=>by
  unfold AGc9 at h;split at h
  ·exact ⟨[],rfl,fun i c y h=>by simp at h,h⟩
  ·obtain ⟨y,hy,h2⟩:=ALj9 h;obtain ⟨ys,hl,hs,hK⟩:=ABv9 h2;refine ⟨y::ys,by simp [hl],fun i c z h3 h4=> ?_,hK⟩;cases i with
   |zero=>simp at h3 h4;subst h3;subst h4;exact hy
   |succ i=>exact hs i c z (by simpa using h3) (by simpa using h4)
end
theorem AMc9 (gs:List Nat):∀l:List AV,FrzTm hp gs l l
 | []=>trivial
 |x::l=>⟨.inl rfl,AMc9 gs l⟩
theorem AHf9 {gs:List Nat} {tm0:List AV}:∀ {ts:List Nat} {tm:List AV} {K:List AV→Prop},AUa9 hp ts tm K→ts.Nodup→FrzTm hp gs tm0 tm→(∀t∈ts,tm.getD t .bad=tm0.getD t .bad)→(∀t∈ts,∀g∈occ (tm0.getD t .bad),g∈gs)→
 ∃tm1,FrzTm hp gs tm0 tm1∧K tm1
 | [],tm,K,h,_,hf,_,_=>⟨tm,hf,h⟩
 | t::ts,tm,K,h,hnd,hf,hsame,hocc=>by
  simp only [AUa9] at h;obtain ⟨y,hy,h⟩:=AJb9 h;rcases h.elim with ⟨_,h⟩|⟨ho,h⟩
  ·exact h.elim
  obtain ⟨hn1,hn2⟩:=List.nodup_cons.1 hnd;have hset:FrzTm hp gs tm0 (tm.set t y):=by
   have key:∀(l l':List AV) (t:Nat),FrzTm hp gs l l'→(t<l.length→SealR hp (l.getD t .bad) y∧∀g∈occ (l.getD t .bad),g∈gs)→FrzTm hp gs l (l'.set t y):=by
    intro l;induction l with
    | nil=>
     intro l' t h _;cases l' with
     |nil=>exact trivial
     |cons _ _=>exact h.elim
    | cons x l ih=>
     intro l' t h hs;cases l' with
     |nil=>exact h.elim
     | cons z l'=>
      cases t with
      | zero=>
       have:=hs (by simp);exact ⟨.inr ⟨by simpa using this.1,by simpa using this.2,ho⟩,h.2⟩
      |succ t=>exact ⟨h.1,ih l' t h.2 fun ht=>by simpa using hs (by simpa using ht)⟩
   refine key tm0 tm t hf fun ht=>⟨?_,hocc t (Zbv ..)⟩;rw [←hsame t (Zbv ..)];exact hy
  refine AHf9 h hn2 hset (fun t' ht'=> ?_) fun t' ht'=>hocc t' (Zbx _ ht');have hne:t≠t':=fun he=>hn1 (he▸ht');rw [←hsame t' (Zbx _ ht')];simp [List.getD,List.getElem?_set_ne hne]
theorem FrzTm.at {gs:List Nat}:∀ {l l':List AV} {t:Nat} {x:Dv},FrzTm hp gs l l'→l.getD t .bad= .d x→l'.getD t .bad= .d x
 | [], [],_,_,_,h=>h
 | [],_::_,_,_,h,_=>h.elim
 |_::_, [],_,_,h,_=>h.elim
 | y::l,z::l',0,x,h,hx=>by
  simp only [List.getD_cons_zero] at hx ⊢;subst hx;rcases h.1 with rfl|⟨h1,_⟩
  ·rfl
  ·cases h1 with
   |v h1=>simp only [sealV,Option.some.injEq] at h1;exact h1.symm
 | y::l,z::l',t+1,x,h,hx=>by
  simp only [List.getD_cons_succ] at hx ⊢;exact FrzTm.at h.2 hx
theorem AYr9 {gs:List Nat} {tm tm':List AV} {v:Bool} (h:FrzTm hp gs tm tm') (hw:ABd9 ops o tm=some v):ABd9 ops o tm'=some v:=by
 unfold ABd9 at hw ⊢;split at hw
 ·exact hw
 ·rename_i j want hg;split at hw<;>try (cases hw;done)
  rename_i t ht;split at hw<;>try (cases hw;done)
  ·rename_i b hb;simp only [h.at hb];exact hw
  ·rename_i b hb;simp only [h.at hb];exact hw
theorem BFj9 {pc:Nat→Bool} {K:RS→Prop} (h:frzC pc s o K) (hnd:(AWp9 pc s o).Nodup):∃s0,FrzOk s s0∧(∀v,ABd9 ops o s.tm=some v→ABd9 ops o s0.tm=some v)∧K s0:=by
 unfold frzC at h;split at h
 ·exact ⟨s, .rfl,fun _ h=>h,h⟩
 ·rename_i t ts hn;rw [hn] at hnd;obtain ⟨tm1,hf,hK⟩:=AHf9 (gs:=occs ((t::ts).map fun t=>s.tm.getD t .bad)) (tm0:=s.tm) h hnd (AMc9 _ _) (fun _ _=>rfl) fun t' ht' g hg=>by
   obtain ⟨j,hj⟩:=Zav.1 ht';exact AEn9 (i:=j) (by rw [List.getElem?_map,hj];rfl) g hg
  exact ⟨_,CDp9 hf,fun v hw=>AYr9 hf hw,hK⟩
theorem AGy9 (l:List Nat):l.eraseDups.Nodup:=by
 have key:∀(n:Nat) (l:List Nat),l.length≤n→l.eraseDups.Nodup:=by
  intro n;induction n with
  |zero=>intro l h;have:l= []:=List.length_eq_zero_iff.1 (by omega);subst this;simp
  | succ n ih=>
   intro l h;cases l with
   |nil=>simp
   | cons a l=>
    rw [List.eraseDups_cons];refine List.nodup_cons.2 ⟨?_,ih _ ?_⟩
    ·rw [List.mem_eraseDups];simp
    ·have:=List.length_filter_le (fun b=> !b==a) l;simp only [List.length_cons] at h;omega
 exact key l.length l (Nat.le_refl _)
theorem ARl9 (pc:Nat→Bool) (s:RS) (o:Oper):(AWp9 pc s o).Nodup:=by
 unfold AWp9;split
 ·split
  ·split
   ·split
    ·exact AGy9 _
    ·simp
   ·simp
  ·split
   ·unfold leans;split
    ·split<;>simp
    ·simp
   ·simp
  ·simp
 ·exact AGy9 _
 ·simp
theorem BFw9 {gt:Nat→Bool} {K:RS→Prop} {p:Prop} (h:extC P gt s o K=some p) (hp0:p):∃s',ExtOk P o s s'∧K s':=by
 unfold extC at h;split at h
 ·rename_i c ho;split at h<;>try (cases h;done)
  ·rename_i x y hc h0 h1;split at h
   rotate_left
   ·split at h<;>try (cases h;done)
    rename_i t tn ht htn;split at h<;>try (cases h;done)
    rename_i e kn k n hu hun hy;split at h<;>try (cases h;done)
    rename_i i hi;split at h<;>try (cases h;done)
    rename_i hgt;split at h<;>try (cases h;done)
    rename_i zr hz;cases h;obtain ⟨hcc,hK⟩:=hp0.elim';simp only [Zai,decide_eq_true_eq] at hcc hgt;obtain ⟨⟨⟨⟨⟨⟨⟨⟨a1,a2⟩,a3⟩,a4⟩,a5⟩,a6⟩,a7⟩,a8⟩,a9⟩:=hcc;exact ⟨_,BMq9 ho hc a1 h0 h1 a2 ht htn hu hun hi hgt.2 hy hz a3 a4 a5 a6 a7 a8 a9,hK⟩
   rename_i e i hinf;split at h
   ·rename_i g ver n k hx;split at h<;>try (cases h;done)
    rename_i blk ys hg hys;cases h;obtain ⟨hcc,hv,h2⟩:=hp0.elim';obtain ⟨hfit,hK⟩:=h2.elim';simp only [Zai,decide_eq_true_eq,Zcb] at hcc hfit;obtain ⟨⟨⟨hsz,rfl⟩,hgr⟩,hf⟩:=hcc;exact ⟨_,ASn9 ho hc hsz h0 h1 hinf hx hys hg hgr hv hf hfit,hK⟩
   ·split at h<;>try (cases h;done)
    rename_i hgt;split at h<;>try (cases h;done)
    rename_i ys hys;cases h;obtain ⟨hcc,h2⟩:=hp0.elim';simp only [Zai,decide_eq_true_eq,Zeb] at hcc hgt;have hbase:AAi9 (evalA s.tm x)=true∨evalA s.tm x= .full i.size []:=by
     rcases hgt.2 with h3|h3
     ·exact .inl h3
     ·right;unfold BPr9 at h3;split at h3
      ·rename_i k hk;rw [hk];simp only [decide_eq_true_eq] at h3;rw [h3]
      ·cases h3
    rcases h2.elim with ⟨hpos,hK⟩|⟨hpos,hK⟩
    ·have hpos:0<ys.length:=by simpa using hpos
     exact ⟨_,AWu9 ho hc hcc.1 h0 h1 hinf hbase hys (List.length_pos_iff.1 hpos) hcc.2,hK⟩
    ·have hpos:ys= []:=by
      have:¬0<ys.length:=by simpa using hpos
      exact List.length_eq_zero_iff.1 (by omega)
     subst hpos;exact ⟨_,BWg9 ho hc hcc.1 h0 h1 hinf hbase hys,hK⟩
  ·rename_i x y hc h0 h1;split at h<;>try (cases h;done)
   rename_i g ver n k t hx ht;split at h<;>try (cases h;done)
   rename_i blk ys e hg hys hu;split at h<;>try (cases h;done)
   rename_i i hi;cases h;obtain ⟨hcc,hv,hK⟩:=hp0.elim';simp only [Zai,decide_eq_true_eq,Zcb] at hcc;obtain ⟨⟨⟨⟨⟨a1,a2⟩,a3⟩,rfl⟩,a5⟩,a6⟩:=hcc;exact ⟨_,BWi9 ho hc a1 h0 h1 a2 ht hu hi a3 hx hys hg a5 hv a6,hK⟩
 ·rename_i t lo co ho;split at h<;>try (cases h;done)
  rename_i e hu;split at h<;>try (cases h;done)
  split at h<;>try (cases h;done)
  rename_i kl l kc c i hl hc hi;split at h<;>try (cases h;done)
  rename_i zr hz;cases h;obtain ⟨hcc,hK⟩:=hp0.elim';simp only [Zai,decide_eq_true_eq] at hcc;obtain ⟨⟨⟨⟨⟨⟨a1,a2⟩,a3⟩,a4⟩,a5⟩,a6⟩,a7⟩:=hcc;exact ⟨_,BWh9 ho hu hi hl hc hz a1 a2 a3 a4 a5 a6 a7,hK⟩
 ·rename_i t x hi ho;split at h<;>try (cases h;done)
  rename_i g ver n k kk j e hx hj hu;split at h<;>try (cases h;done)
  rename_i i blk hi' hg;cases h;obtain ⟨hcc,hv,hK⟩:=hp0.elim';simp only [Zai,decide_eq_true_eq,Zcb] at hcc;obtain ⟨⟨⟨⟨rfl,a2⟩,a3⟩,a4⟩,a5⟩:=hcc;exact ⟨_,CDw9 ho hu hi' hx hj hg a2 hv a3 a4 a5,hK⟩
 ·rename_i t ax x ho;split at h<;>try (cases h;done)
  rename_i g ver off hax;split at h<;>try (cases h;done)
  rename_i i blk xs hi hg hxs;cases h;obtain ⟨hcc,hv,h2⟩:=hp0.elim';obtain ⟨hoff,hK⟩:=h2.elim';simp only [Zai,decide_eq_true_eq,Zcb] at hcc hoff;exact ⟨_,BMr9 ho hi hax hxs hg hcc.1.1 hcc.1.2 hv hcc.2 hoff,hK⟩
 ·cases h
theorem BGf9 {K:RS→Prop} {p:Prop} (h:demC P s o K=some p) (hp0:p):∃T:RS→Prop,DemOk P o s T∧∀s',T s'→K s':=by
 unfold demC at h;split at h<;>try (cases h;done)
 rename_i op t x y ty ho;split at h<;>try (cases h;done)
 rename_i hn;split at h<;>try (cases h;done)
 all_goals
  rename_i k xs e hrows hu;cases h
 ·refine ⟨fun s'=>∃t:Bool,(t=true→xs= [])∧s'= {tm:=putA s.tm o.dst (.d (.s (.bool t))),hp:=s.hp,pv:=pvPut s.pv o.dst}, ?_, ?_⟩
  ·intro r S X yv w m B hv a K' Q hr hK;have h1:=ADz9 hrows (AAg9 hr x);have h2:=AAp9 hn (AAg9 hr y);obtain ⟨hl,hr',hpv⟩:=hr;obtain ⟨base,n,cap,hv1,hbb⟩:∃base n cap,a.eval x= .slice base n cap∧(base.isNone=true→xs= []):=by
    generalize a.eval x=v at h1;cases h1 with
    |nil=>exact ⟨_,_,_,rfl,fun _=>rfl⟩
    |sl=>exact ⟨_,_,_,rfl,fun h=>by cases h⟩
   obtain ⟨q1,q2,q3,q4⟩:=AGt9 hu base n cap x y w;have hexec:(execOp a.eval o).run P w= .ok (.value (.bool base.isNone)) w:=by
    unfold execOp;rw [ho];simp only [hv1,h2,Sem.run_bind];simp only [Sem.run_bind] at q1;rw [q1];rfl
   refine AAm9 (by simp [ho]) hexec (.inl rfl) ?_;exact Nx.of (hK _ ⟨base.isNone,hbb,rfl⟩) (Gs.refl S X none w m) hl (hr'.cons (x:= .d (.s (.bool base.isNone))) (v:= .bool base.isNone) (.d (.s _)) rfl) (ACh9 hpv _ _)
  ·rintro _ ⟨t,ht,rfl⟩;exact hp0 t ht
 ·refine ⟨fun s'=>∃t:Bool,(t=true→xs= [])∧s'= {tm:=putA s.tm o.dst (.d (.s (.bool !t))),hp:=s.hp,pv:=pvPut s.pv o.dst}, ?_, ?_⟩
  ·intro r S X yv w m B hv a K' Q hr hK;have h1:=ADz9 hrows (AAg9 hr x);have h2:=AAp9 hn (AAg9 hr y);obtain ⟨hl,hr',hpv⟩:=hr;obtain ⟨base,n,cap,hv1,hbb⟩:∃base n cap,a.eval x= .slice base n cap∧(base.isNone=true→xs= []):=by
    generalize a.eval x=v at h1;cases h1 with
    |nil=>exact ⟨_,_,_,rfl,fun _=>rfl⟩
    |sl=>exact ⟨_,_,_,rfl,fun h=>by cases h⟩
   obtain ⟨q1,q2,q3,q4⟩:=AGt9 hu base n cap x y w;have hexec:(execOp a.eval o).run P w= .ok (.value (.bool !base.isNone)) w:=by
    unfold execOp;rw [ho];simp only [hv1,h2,Sem.run_bind];simp only [Sem.run_bind] at q2;rw [q2];rfl
   refine AAm9 (by simp [ho]) hexec (.inl rfl) ?_;exact Nx.of (hK _ ⟨base.isNone,hbb,rfl⟩) (Gs.refl S X none w m) hl (hr'.cons (x:= .d (.s (.bool !base.isNone))) (v:= .bool !base.isNone) (.d (.s _)) rfl) (ACh9 hpv _ _)
  ·rintro _ ⟨t,ht,rfl⟩;exact hp0 t ht
theorem AWl9 {K:RS→Ev.β→Prop} {R:RS→Ev.β→Prop} {l:List Oper} (hX:X.Ok) (h:opC P X ops o s b K) (hK:∀s' b',K s' b'→wOps Ev ops l s' b' R):wOps Ev ops (o::l) s b R:=by
 unfold opC at h;rcases AHk9 h with ⟨hw0,h⟩|⟨hw,h⟩
 ·obtain ⟨s0,hfz,hgd,h⟩:=BFj9 h (ARl9 _ _ _);have hw:ABd9 ops o s0.tm=some true:=hgd _ hw0;refine ⟨s0,hfz, ?_⟩;split at h
  ·rename_i k args hc;split at h
   ·rename_i f hf;obtain ⟨hcl,h⟩:=h.elim';obtain ⟨x,hp,h⟩:=hX.call k f hf args _ h;exact .inr (.inl ⟨hw,k,args,hc, .inl ⟨hcl,x,hp,hK _ _ h⟩⟩)
   ·split at h
    ·rename_i f hf;obtain ⟨x,hp',hp,h⟩:=hX.scall k f hf args _ _ h;exact .inr (.inl ⟨hw,k,args,hc, .inr ⟨x,hp',hp,hK _ _ h⟩⟩)
    ·exact h.elim
  ·split at h
   ·rename_i args hy;obtain ⟨hcl,h⟩:=h.elim';rw [hX.y] at h;exact .inr (.inr (.inl ⟨hw,args,hy,hcl,Ev.Ymono h fun _ _ h=>hK _ _ h⟩))
   ·split at h
    ·rename_i p hpx;obtain ⟨T,he,h⟩:=BGf9 hpx h;exact .inr (.inr (.inr ⟨hw, .inl ⟨T,he,fun s' hs=>hK _ _ (h s' hs)⟩⟩))
    split at h
    ·rename_i p hpx;obtain ⟨s',he,h⟩:=BFw9 hpx h;exact .inr (.inr (.inr ⟨hw, .inl ⟨_,he.dem,fun s'' hs=>by subst hs;exact hK _ _ h⟩⟩))
    ·obtain ⟨s',hs,h⟩:=BAx9 h;exact .inl ⟨s',by rw [BBm9 hw];exact hs,hK _ _ h⟩
 ·exact ⟨s, .rfl, .inl ⟨_,by simp only [xStep,hw],hK _ _ h⟩⟩
theorem AGd9 (hX:X.Ok) {R:RS→Ev.β→Prop}:∀ {l:List Oper} {s:RS} {b:Ev.β} {K:RS→Ev.β→Prop},opsC P X ops l s b K→(∀s' b',K s' b'→R s' b')→wOps Ev ops l s b R
 | [],s,b,K,h,hK=>hK _ _ h
 |o::l,s,b,K,h,hK=>AWl9 hX h fun s' b' h=>AGd9 hX h hK
open Classical in
noncomputable def tblD (tb:Tbl):CallT:=
 ⟨fun d k args=>match tb.find? (fun t=>t.1==d) with
  |some t=>if t.2.1=k∧t.2.2.1=args then some t.2.2.2 else none
  |none=>none,fun _ _ _=>none⟩
theorem AQm9 {tb:Tbl} (h:∀t∈tb,PCall P t.2.1 t.2.2.1 t.2.2.2):AGn9 P (tblD tb):=by
 refine ⟨fun d f args r hr=> ?_,fun _ _ _ _ _ h=>by cases h⟩;simp only [tblD] at hr;split at hr<;>try (cases hr;done)
 rename_i t ht;split at hr<;>try (cases hr;done)
 rename_i hc;cases hr;have:=h t (List.mem_of_find?_eq_some ht);rw [hc.1,hc.2] at this;exact this
theorem ATf9 {call:CallT} {x:AV} (hw:ABd9 ops o tm=some true) (hx:xq P hp (evalA tm) o=some x):xp P call ops hp tm o=some x:=by
 unfold xp;rw [hw];simp only;split
 ·rename_i c ho;split
  ·rename_i f hc;simp [xq,ho,hc] at hx
  ·rename_i f hc;simp [xq,ho,hc] at hx
  ·exact hx
 ·exact hx
theorem ACo9:∀ {T:Tbl},(T.map (·.1)).Nodup→∀t∈T,T.find? (fun e=>e.1==t.1)=some t
 | [],_,t,h=>by cases h
 | e::T,hn,t,h=>by
  simp only [List.map_cons,List.nodup_cons] at hn;rcases Zbw.1 h with rfl|h
  ·simp
  ·have hne:¬e.1=t.1:=fun he=>hn.1 (he▸Zbg.2 ⟨t,h,rfl⟩);rw [List.find?_cons_of_neg (by simpa using hne)];exact ACo9 hn.2 t h
theorem ACe9 (hX:X.Ok):∀ {l:List Oper} {tm:List AV} {tb:Tbl} {K:List AV→Tbl→Prop},preC P X ops hp l tm tb K→
 ∃tmK tb',K tmK tb'∧(∀t∈tb,t∈tb')∧((∀t∈tb,PCall P t.2.1 t.2.2.1 t.2.2.2)→∀t∈tb',PCall P t.2.1 t.2.2.1 t.2.2.2)∧∀T:Tbl,(∀t∈tb',T.find? (fun e=>e.1==t.1)=some t)→xPre P (tblD T) ops hp l tm=some tmK
 | [],tm,tb,K,h=>⟨tm,tb,h,fun _ h=>h,fun h=>h,fun _ _=>rfl⟩
 | o::l,tm,tb,K,h=>by
  simp only [preC] at h;rcases AHk9 h with ⟨hw,h⟩|⟨hw,h⟩
  ·split at h
   ·rename_i k args hc;split at h
    ·rename_i f hf;obtain ⟨hcl,h⟩:=h.elim';obtain ⟨x,hpc,h⟩:=hX.call k f hf args _ h;obtain ⟨tmK,tb',h1,h2,h3,h4⟩:=ACe9 hX h;refine ⟨tmK,tb',h1,fun t ht=>h2 t (Zbx _ ht),fun hall=>h3 fun t ht=> ?_,fun T hT=> ?_⟩
     ·rcases Zbw.1 ht with rfl|ht
      ·exact hpc
      ·exact hall t ht
     ·have hf':=hT _ (h2 _ (Zbv ..));have hxp:xp P (tblD T) ops hp tm o=some x.view:=by
       unfold AHh9 at hc;split at hc<;>try (cases hc;done)
       rename_i c ho;split at hc<;>try (cases hc;done)
       rename_i f hcc;unfold xp;simp only [hw,ho,hcc,hc,hcl,if_true];simp only at hf';simp [tblD,hf']
      simp only [xPre,hxp];exact h4 T hT
    ·exact h.elim
   ·split at h
    ·rename_i k args hc;split at h
     ·rename_i f hf;obtain ⟨hcl,h⟩:=h.elim';obtain ⟨x,hpc,h⟩:=hX.call k f hf args _ h;obtain ⟨tmK,tb',h1,h2,h3,h4⟩:=ACe9 hX h;refine ⟨tmK,tb',h1,fun t ht=>h2 t (Zbx _ ht),fun hall=>h3 fun t ht=> ?_,fun T hT=> ?_⟩
      ·rcases Zbw.1 ht with rfl|ht
       ·exact hpc
       ·exact hall t ht
      ·have hf':=hT _ (h2 _ (Zbv ..));have hxp:xp P (tblD T) ops hp tm o=some x.view:=by
        unfold BPt9 at hc;split at hc<;>try (cases hc;done)
        rename_i c ho;split at hc<;>try (cases hc;done)
        rename_i ro name hcc;unfold xp;simp only [hw,ho,hcc,hc,hcl,if_true];simp only at hf';simp [tblD,hf']
       simp only [xPre,hxp];exact h4 T hT
     ·exact h.elim
    ·split at h
     ·rename_i t x y hpick;have hxq:xq P hp (evalA tm) o=some (if t then x else y):=by
       unfold pickO at hpick;split at hpick<;>try (cases hpick;done)
       rename_i c a b ho;split at hpick<;>try (cases hpick;done)
       rename_i t'' hc;cases hpick;simp [xq,ho,hc]
      have hs:=ARg9 hpick;rcases h.elim with ⟨rfl,h⟩|⟨rfl,h⟩<;>rw [hs] at h
      ·obtain ⟨tmK,tb',h1,h2,h3,h4⟩:=ACe9 hX h;exact ⟨tmK,tb',h1,h2,h3,fun T hT=>by simp only [xPre,ATf9 hw hxq];exact h4 T hT⟩
      ·obtain ⟨tmK,tb',h1,h2,h3,h4⟩:=ACe9 hX h;exact ⟨tmK,tb',h1,h2,h3,fun T hT=>by simp only [xPre,ATf9 hw hxq];exact h4 T hT⟩
     ·obtain ⟨x,hxq,h⟩:=AQf9 h;obtain ⟨tmK,tb',h1,h2,h3,h4⟩:=ACe9 hX h;exact ⟨tmK,tb',h1,h2,h3,fun T hT=>by simp only [xPre,ATf9 hw hxq];exact h4 T hT⟩
  ·obtain ⟨tmK,tb',h1,h2,h3,h4⟩:=ACe9 hX h;refine ⟨tmK,tb',h1,h2,h3,fun T hT=> ?_⟩;have:xp P (tblD T) ops hp tm o=some (.d (.s undef)):=by unfold xp;rw [hw]
   simp only [xPre,this];exact h4 T hT
def hdr (blk:Blk):Bool×Nat×Nat:=(blk.grow,blk.ver,blk.cells.length)
structure Sim (fp:List (Nat×Nat×Nat)) (ex:List Nat) (h h':List Blk):Prop where
 hd:∀g,g<h.length→g∉ex→(h'[g]?).map hdr=(h[g]?).map hdr
 ln:h.length≤h'.length
 same:∀(g:Nat) (blk blk':Blk) (i:Nat),g∉ex→h[g]? =some blk→h'[g]? =some blk'→BAz9 fp g i 1=true→blk'.cells[i]? =blk.cells[i]?
theorem Sim.refl (fp:List (Nat×Nat×Nat)) (ex:List Nat) (h:List Blk):Sim fp ex h h:=⟨fun _ _ _=>rfl,Nat.le_refl _,fun g blk blk' i _ h1 h2 _=>by rw [h1] at h2;cases h2;rfl⟩
theorem Sim.widen {fp fp1:List (Nat×Nat×Nat)} {ex:List Nat} {h h':List Blk} (hs:Sim fp ex h h'):Sim (fp++fp1) ex h h':=
 ⟨hs.hd,hs.ln,fun g blk blk' i h0 h1 h2 h3=>hs.same g blk blk' i h0 h1 h2 (by simp only [BAz9,List.all_append,Zai] at h3;exact h3.1)⟩
theorem AFz9 {tm:List AV} {o:Oper} {l:List Oper} (h:∀t a x,o.op≠ .store t a x):ABq9 tm (o::l)=ABq9 tm l:=by
 simp only [ABq9]
theorem AHm9 {ex:List Nat} {l:List Oper} {tmF:List AV}:∀ {tm:List AV} {h0 h:List Blk} {sts:List (List AV×List Blk)},ACx9 P l tm h=some sts→(∀g∈appGs tmF l,g∈ex)→
 (∀(i:Nat) (o:Oper) (t:List AV) (hh:List Blk),l[i]? =some o→sts[i]? =some (t,hh)→∀y∈o.op.operands,evalA t y=evalA tmF y)→
 ∀fp0,Sim fp0 ex h0 h→∀st∈sts,Sim (fp0++ABq9 tmF l) ex h0 st.2∧(ACv9 l=false→st.2.length=h.length):=by
 induction l with
 | nil=>
  intro tm h0 h sts hx _ _ fp0 hs st hh;simp only [ACx9,Option.some.injEq] at hx;subst hx;rw [List.mem_singleton.1 hh];exact ⟨by simpa [ABq9] using hs,fun _=>rfl⟩
 | cons o l ih=>
  intro tm h0 h sts hx hex hev fp0 hs st hh;simp only [ACx9] at hx;split at hx<;>try (cases hx;done)
  rename_i xr h1 hl;simp only [Zao] at hx;obtain ⟨sts',hx,rfl⟩:=hx;have hev':∀(i:Nat) (o:Oper) (t:List AV) (hh:List Blk),l[i]? =some o→sts'[i]? =some (t,hh)→∀y∈o.op.operands,evalA t y=evalA tmF y:=
   fun i o' t hh e1 e2=>hev (i+1) o' t hh (by simpa using e1) (by simpa using e2)
  have hex':∀g∈appGs tmF l,g∈ex:=fun g hg=>hex g (by
   unfold appGs;split<;>try exact hg
   split<;>try exact hg
   split<;>try exact hg
   exact Zbx _ hg)
  unfold xLate at hl;split at hl<;>try (cases hl;done)
  ·rename_i t a x ho hg hd;have ea:=hev 0 o tm h rfl rfl a (by simp [ho,Op.operands]);have ex':=hev 0 o tm h rfl rfl x (by simp [ho,Op.operands]);split at hl<;>try (cases hl;done)
   rename_i hown;split at hl<;>try (cases hl;done)
   rename_i xs hxs;simp only [Zao,Prod.mk.injEq] at hl;obtain ⟨h2,hl,rfl,rfl⟩:=hl;unfold BBl9 at hl;split at hl<;>try (cases hl;done)
   rename_i i g off hi ha;split at hl<;>try (cases hl;done)
   rename_i blk hblk;split at hl<;>try (cases hl;done)
   rename_i hc;cases hl;have e:ABq9 tmF (o::l)=(g,off,xs.length)::ABq9 tmF l:=by simp only [ABq9,ho,←ea,←ex',ha,hxs]
   have hal:ACv9 (o::l)=ACv9 l:=by simp only [ACv9,ho]
   rw [e,hal];have hgl:g<h.length:=(Zac.1 hblk).1;have hs1:Sim (fp0++ [(g,off,xs.length)]) ex h0 (h.set g {blk with cells:=blk.cells.take off++xs++blk.cells.drop (off+xs.length)}):=by
    refine ⟨fun g' hg' hge=> ?_,by rw [List.length_set];exact hs.ln,fun g' b0 b1 j hge e1 e2 e3=> ?_⟩
    ·rw [←hs.hd g' hg' hge];by_cases hgg:g'=g
     ·subst hgg;rw [List.getElem?_set_self hgl,hblk];have hlen:(blk.cells.take off++xs++blk.cells.drop (off+xs.length)).length=blk.cells.length:=by
       simp only [List.length_append,List.length_take,List.length_drop];have:=hc.2.2.2;omega
      simp only [Option.map_some,hdr,hlen]
     ·rw [List.getElem?_set_ne (Ne.symm hgg)]
    ·simp only [BAz9,List.all_append,Zai] at e3;obtain ⟨e3,e4⟩:=e3;by_cases hgg:g'=g
     ·subst hgg;rw [List.getElem?_set_self hgl] at e2;cases e2;simp only [List.all_cons,List.all_nil,Bool.and_true,bne_self_eq_false,Bool.false_or,Zeb,decide_eq_true_eq] at e4;rw [←hs.same g' b0 blk j hge e1 hblk e3];simp only;rcases e4 with e4|e4
      ·rw [Zas (by simp;omega),List.getElem?_drop];congr 1;simp only [List.length_append,List.length_take];have:=hc.2.2.2;omega
      ·rw [List.append_assoc,Zar (by simp;have:=hc.2.2.2;omega),Zay,if_pos (by omega)]
     ·rw [List.getElem?_set_ne (Ne.symm hgg)] at e2;exact hs.same g' b0 b1 j hge e1 e2 e3
   rcases Zbw.1 hh with rfl|hh
   ·exact ⟨hs.widen,fun _=>rfl⟩
   ·obtain ⟨h3,h4⟩:=ih hx hex' hev' _ hs1 st hh;exact ⟨by simpa using h3,fun ha=>by rw [h4 ha,List.length_set]⟩
  ·rename_i t d ho hg hd;split at hl<;>try (cases hl;done)
   rename_i xs hxs;simp only [Option.some.injEq,Prod.mk.injEq] at hl;obtain ⟨rfl,rfl⟩:=hl;have hal:ACv9 (o::l)=true:=by simp only [ACv9,ho]
   rw [AFz9 (fun t a x h=>by rw [ho] at h;cases h),hal];rcases Zbw.1 hh with rfl|hh
   ·exact ⟨hs.widen,fun h=>by cases h⟩
   ·have hs1:Sim fp0 ex h0 (h++ [⟨xs,false,false,0⟩]):=by
     have hln:=hs.ln;refine ⟨fun g hg hge=> ?_,by simp;omega,fun g b0 b1 j hge e1 e2 e3=> ?_⟩
     ·rw [Zar (by omega)];exact hs.hd g hg hge
     ·have hg:=(Zac.1 e1).1;rw [Zar (by omega)] at e2;exact hs.same g b0 b1 j hge e1 e2 e3
    exact ⟨(ih hx hex' hev' _ hs1 st hh).1,fun h=>by cases h⟩
  ·rename_i c d ho hg hd;rw [AFz9 (fun t a x h=>by rw [ho] at h;cases h)];unfold BBq9 at hl;split at hl<;>try (cases hl;done)
   rename_i x y hc h0' h1';have hal:ACv9 (o::l)=true:=by simp only [ACv9,ho,hc]
   rw [hal];split at hl<;>try (cases hl;done)
   split at hl
   rotate_left
   ·split at hl<;>try (cases hl;done)
    split at hl<;>try (cases hl;done)
    rename_i y0 ys0 hys0;split at hl<;>try (cases hl;done)
    cases hl;rcases Zbw.1 hh with rfl|hh
    ·exact ⟨hs.widen,fun h=>by cases h⟩
    ·have hs1:Sim fp0 ex h0 (h++ [⟨flatA (y0::ys0),false,true,0⟩]):=by
      have hln:=hs.ln;refine ⟨fun g hg hge=> ?_,by simp;omega,fun g b0 b1 j hge e1 e2 e3=> ?_⟩
      ·rw [Zar (by omega)];exact hs.hd g hg hge
      ·have hg:=(Zac.1 e1).1;rw [Zar (by omega)] at e2;exact hs.same g b0 b1 j hge e1 e2 e3
     exact ⟨(ih hx hex' hev' _ hs1 st hh).1,fun h=>by cases h⟩
   rename_i g ver n k hxg;split at hl<;>try (cases hl;done)
   rename_i blk ys hblk hys;split at hl<;>try (cases hl;done)
   cases hl;have hxm:x∈o.op.operands:=by
    rw [ho];show x∈c.operands;unfold Call.operands;exact Array.mem_append_right _ (Array.mem_of_getElem? h0')
   have hge:g∈ex:=by
    refine hex g ?_;unfold appGs;simp only [ho,h0',←hev 0 o tm h rfl rfl x hxm,hxg,AV.hd?];exact Zbv
   have hgl:g<h.length:=(Zac.1 hblk).1;have hs1:Sim fp0 ex h0 (h.set g ⟨blk.cells++flatA ys,false,true,ver+1⟩):=by
    refine ⟨fun g' hg' hne=> ?_,by rw [List.length_set];exact hs.ln,fun g' b0 b1 j hne e1 e2 e3=> ?_⟩
    ·have hgg:¬g'=g:=fun e=>hne (e▸hge);rw [List.getElem?_set_ne (Ne.symm hgg)];exact hs.hd g' hg' hne
    ·have hgg:¬g'=g:=fun e=>hne (e▸hge);rw [List.getElem?_set_ne (Ne.symm hgg)] at e2;exact hs.same g' b0 b1 j hne e1 e2 e3
   rcases Zbw.1 hh with rfl|hh
   ·exact ⟨hs.widen,fun h=>by cases h⟩
   ·exact ⟨(ih hx hex' hev' _ hs1 st hh).1,fun h=>by cases h⟩
  ·split at hl<;>try (cases hl;done)
   rename_i hq;simp only [Zao,Prod.mk.injEq] at hl;obtain ⟨x',_,rfl,rfl⟩:=hl;have hal:ACv9 (o::l)=ACv9 l:=by
    unfold lateQ at hq;split at hq<;>first|exact absurd hq Bool.false_ne_true|(rename_i ho hg;simp only [ACv9,ho])
   have hns:∀t a x,o.op≠ .store t a x:=by
    intro t a x he;unfold lateQ at hq;rw [he] at hq;cases hq
   rw [AFz9 hns,hal];rcases Zbw.1 hh with rfl|hh
   ·exact ⟨hs.widen,fun _=>rfl⟩
   ·exact ih hx hex' hev' _ hs st hh
end
section
variable {P:Program} {h h':List Blk} {tm:List AV} {o:Oper} {ops:Array Oper} {fp:List (Nat×Nat×Nat)} {ex:List Nat}
theorem Sim.cases (hs:Sim fp ex h h') (g:Nat) (hg:g<h.length∨h'.length=h.length) (hge:g∉ex):(h[g]? =none∧h'[g]? =none)∨∃b b',h[g]? =some b∧h'[g]? =some b'∧b'.grow=b.grow∧b'.ver=b.ver∧b'.cells.length=b.cells.length:=by
 cases h1:h[g]? with
 | none=>
  have h2:h.length≤g:=List.getElem?_eq_none_iff.1 h1;exact .inl ⟨rfl,List.getElem?_eq_none (by omega)⟩
 | some b=>
  have:=hs.hd g (Zac.1 h1).1 hge;rw [h1] at this;simp only [Option.map_some,Zao] at this;obtain ⟨b',h2,h3⟩:=this;simp only [hdr,Prod.mk.injEq] at h3;exact .inr ⟨b,b',rfl,h2,h3⟩
def LowIn (ex:List Nat) (h h':List Blk) (a:AV):Prop:=(a.low h.length=true∨h'.length=h.length)∧∀g,a.hd? =some g→g∉ex
theorem BNk9 (h h':List Blk) (x:Dv):ACp9 h' (.d x)=ACp9 h (.d x):=by
 cases x with
 | s v=>
  cases v<;>try rfl
  rename_i oa;cases oa<;>rfl
 |sl k xs=>rfl
 |pt cs=>rfl
 |fn f0 ds0=>rfl
theorem BDd9 (h h':List Blk) (x:Dv) (n:Nat):ABr9 h' (.d x) n=ABr9 h (.d x) n:=by
 cases x with
 | s v=>
  cases v<;>try rfl
  rename_i oa;cases oa<;>rfl
 |sl k xs=>rfl
 |pt cs=>rfl
 |fn f0 ds0=>rfl
theorem ALh9 (hs:Sim fp ex h h') (a:AV) (ha:LowIn ex h h' a) (n:Nat):ABr9 h' a n=ABr9 h a n:=by
 cases a<;>first|exact BDd9 _ _ _ _|simp only [ABr9]
 ·rename_i g off;rcases hs.cases g (ha.1.imp (fun h=>by simpa [AV.low] using h) id) (ha.2 g rfl) with ⟨h1,h2⟩|⟨b,b',h1,h2,h3,h4,h5⟩
  ·simp only [h1,h2]
  ·simp only [h1,h2,h3]
 ·rename_i g v off;rcases hs.cases g (ha.1.imp (fun h=>by simpa [AV.low] using h) id) (ha.2 g rfl) with ⟨h1,h2⟩|⟨b,b',h1,h2,h3,h4,h5⟩
  ·simp only [h1,h2]
  ·simp only [h1,h2,h3,h4]
theorem ASm9 (hs:Sim fp ex h h') (t:TypeId) (a:AV) (ha:LowIn ex h h' a) (f:Nat):ADv9 P h' t a f=ADv9 P h t a f:=by
 unfold ADv9;simp only [ALh9 hs a ha]
theorem ASh9 (hs:Sim fp ex h h') (t:TypeId) (a ix:AV) (ha:LowIn ex h h' a):ACt9 P h' t a ix=ACt9 P h t a ix:=by
 unfold ACt9;simp only [ALh9 hs a ha];split<;>try rfl
 split<;>try rfl
 cases a<;>try rfl
 rename_i g v l k;simp only;rcases hs.cases g (ha.1.imp (fun h=>by simpa [AV.low] using h) id) (ha.2 g rfl) with ⟨h1,h2⟩|⟨b,b',h1,h2,h3,h4,h5⟩
 ·simp only [h1,h2]
 ·simp only [h1,h2,h3,h4]
theorem CDg9 (hs:Sim fp ex h h') (a:AV) (ha:LowIn ex h h' a):a.len? h'=a.len? h:=by
 cases a;case gref g v l k=>
  simp only [AV.len?];rcases hs.cases g (ha.1.imp (fun h=>by simpa [AV.low] using h) id) (ha.2 g rfl) with ⟨h1,h2⟩|⟨b,b',h1,h2,h3,h4,h5⟩
  ·simp only [h1,h2]
  ·simp only [h1,h2,h3,h4]
 all_goals first|rfl|(rename_i x;cases x<;>rfl)
theorem BKq9 (hs:Sim fp ex h h') (t:TypeId) (x:AV) (ha:LowIn ex h h' x) (lo hi mx:Option AV):AOd9 P h' t x lo hi mx=AOd9 P h t x lo hi mx:=by
 unfold AOd9;split<;>try rfl
 split<;>try rfl
 cases x<;>try rfl
 rename_i g off;simp only;rcases hs.cases g (ha.1.imp (fun h=>by simpa [AV.low] using h) id) (ha.2 g rfl) with ⟨h1,h2⟩|⟨b,b',h1,h2,h3,h4,h5⟩
 ·simp only [h1,h2]
 ·simp only [h1,h2,h3,h5]
theorem BVj9 (hs:Sim fp ex h h') (t:TypeId) (a:AV) (ha0:LowIn ex h h' a) (hf:∀g off,a= .ptr g off→∀i,P.info? t=some i→BAz9 fp g off (max i.size 1)=true) (hg:∀g v off,a≠ .gptr g v off):xLoad P h' t a=xLoad P h t a:=by
 unfold xLoad;cases a<;>try rfl
 ·rw [BNk9 h h']
 ·rename_i g off;simp only [ACp9];rcases hs.cases g (ha0.1.imp (fun h=>by simpa [AV.low] using h) id) (ha0.2 g rfl) with ⟨h1,h2⟩|⟨b,b',h1,h2,h3,h4,h5⟩
  ·simp only [h1,h2]
  ·simp only [h1,h2,h3];cases hgr:b.grow
   ·simp only [Bool.false_eq_true,if_false];unfold AMv9;cases hi:P.info? t with
    |none=>rfl
    | some i=>
     simp only;have ha:=hf g off rfl i hi;have hcell:∀j,j<max i.size 1→(b'.cells.drop off)[j]? =(b.cells.drop off)[j]? :=by
      intro j hj;simp only [List.getElem?_drop];refine hs.same g b b' (off+j) (ha0.2 g rfl) h1 h2 ?_;simp only [BAz9,Zbd,Zeb,bne_iff_ne,decide_eq_true_eq] at ha ⊢;intro q hq;rcases ha q hq with (h6|h6)|h6
      ·exact .inl (.inl h6)
      ·exact .inl (.inr (by omega))
      ·exact .inr (by omega)
     have hlen:(b'.cells.drop off).length=(b.cells.drop off).length:=by simp [h5]
     have htake:(b'.cells.drop off).take i.size=(b.cells.drop off).take i.size:=by
      apply List.ext_getElem?;intro j;simp only [Zay];split
      ·exact hcell j (by omega)
      ·rfl
     rw [hlen,htake,hcell 0 (by omega)]
   ·simp only [if_true]
 ·exact absurd rfl (hg _ _ _)
theorem CGa9 (hs:Sim fp ex h h') (hl:lowB h.length tm o=true∨h'.length=h.length) (hf:BMn9 P tm fp o=true) (hav:BOi9 ex tm o=true):xq P h' (evalA tm) o=xq P h (evalA tm) o:=by
 have hlo:∀x∈o.op.operands,(ex.isEmpty=true∨∀x∈o.op.operands.toList,(match (evalA tm x).hd? with|some g=> !ex.contains g|none=>true)=true)→LowIn ex h h' (evalA tm x):=fun x hx hv=>⟨hl.imp (fun h=>by
  unfold lowB at h;exact Zbd.1 h x (by simpa using hx)) id,fun g hg hge=>by
  rcases hv with hv|hv
  ·rw [List.isEmpty_iff.1 hv] at hge;cases hge
  ·have:=hv x (by simpa using hx);rw [hg] at this;simp only [Zcb] at this;rw [List.contains_iff_mem.2 hge] at this;cases this⟩
 unfold BMn9 at hf;unfold BOi9 at hav;unfold xq;split<;>try rfl
 ·rename_i t a ho;simp only [ho,Zeb,Zbd] at hf hav;refine BVj9 hs t _ (hlo a (by simp [ho,Op.operands]) (by rw [ho];exact hav)) (fun g off he i hi=> ?_) (fun g v off he=> ?_)
  ·rw [he] at hf;simp only [hi] at hf;exact hf
  ·rw [he] at hf;cases hf
 ·rename_i t x lo hi mx ho;simp only [ho,Zeb,Zbd] at hav;simp only [BKq9 hs t _ (hlo x (by simp [ho,Op.operands]) (by rw [ho];exact hav))]
 ·rename_i t x f ho;simp only [ho,Zeb,Zbd] at hav;simp only [ASm9 hs t _ (hlo x (by simp [ho,Op.operands]) (by rw [ho];exact hav))]
 ·rename_i t x ix ho;simp only [ho,Zeb,Zbd] at hav;simp only [ASh9 hs t _ _ (hlo x (by simp [ho,Op.operands]) (by rw [ho];exact hav))]
 ·rename_i c ho;split<;>try rfl
  rename_i hcb;split<;>try rfl
  rename_i x hx;split<;>try rfl
  simp only [ho,hcb,Zeb,Zbd] at hav;have hmem:x∈o.op.operands:=by
   rw [ho];have:=Array.mem_of_getElem? hx;show x∈c.operands;unfold Call.operands;exact Array.mem_append_right _ this
  simp only [xLen,CDg9 hs _ (hlo x hmem (by rw [ho];exact hav))]
theorem BYz9 {call:CallT} (hs:Sim fp ex h h') (hl:lowB h.length tm o=true∨h'.length=h.length) (hf:BMn9 P tm fp o=true) (hav:BOi9 ex tm o=true):xp P call ops h' tm o=xp P call ops h tm o:=by
 unfold xp;simp only [CGa9 hs hl hf hav]
theorem AIv9:∀ {l:List Oper} {tm:List AV} {h:List Blk} {sts:List (List AV×List Blk)} (i:Nat),ACx9 P l tm h=some sts→ACx9 P (l.take i) tm h=some (sts.take (i+1))
 | [],tm,h,sts,i,hx=>by simp only [ACx9,Option.some.injEq] at hx;subst hx;simp [ACx9]
 | o::l,tm,h,sts,i,hx=>by
  simp only [ACx9] at hx;split at hx<;>try (cases hx;done)
  rename_i x h1 hl;simp only [Zao] at hx;obtain ⟨sts',hx,rfl⟩:=hx;cases i with
  |zero=>simp [ACx9]
  |succ i=>simp only [List.take_succ_cons,ACx9,hl,AIv9 i hx,Option.map_some]
theorem AJk9 (tm:List AV) (o:Oper) (l:List Oper):ABq9 tm (o::l)=ABq9 tm [o]++ABq9 tm l:=by
 simp only [ABq9];split
 ·split<;>rfl
 ·rfl
theorem ALb9 {tm:List AV} {o:Oper} {q:Nat×Nat×Nat} (hq:q∈ABq9 tm [o]):∀ {l:List Oper},o∈l→q∈ABq9 tm l
 | [],h=>by cases h
 | x::l,h=>by
  rw [AJk9];rcases Zbw.1 h with rfl|h
  ·exact List.mem_append_left _ hq
  ·exact List.mem_append_right _ (ALb9 hq h)
theorem AHc9 {tm:List AV} {l':List Oper}:∀ {l:List Oper},(∀o∈l,o∈l')→∀q∈ABq9 tm l,q∈ABq9 tm l'
 | [],h,q,hq=>by simp [ABq9] at hq
 | x::l,h,q,hq=>by
  rw [AJk9] at hq;rcases Zbu.1 hq with hq|hq
  ·exact ALb9 hq (h x Zbv)
  ·exact AHc9 (fun o ho=>h o (Zbx _ ho)) q hq
theorem AFb9 (tm:List AV):∀(l:List Oper) (i g:Nat),g∈appGs tm (l.take i)→g∈appGs tm l
 | [],i,g,h=>by simpa using h
 |o::l,0,g,h=>by simp [appGs] at h
 | o::l,i+1,g,h=>by
  rw [List.take_succ_cons] at h;unfold appGs at h ⊢;split at h
  ·split at h
   ·split at h
    ·rcases Zbw.1 h with rfl|h
     ·exact Zbv
     ·exact Zbx _ (AFb9 tm l i g h)
    ·exact AFb9 tm l i g h
   ·exact AFb9 tm l i g h
  ·exact AFb9 tm l i g h
theorem Sim.sub {fp fp':List (Nat×Nat×Nat)} {h h':List Blk} (hs:Sim fp ex h h') (hf:∀q∈fp,q∈fp'):Sim fp' ex h h':=
 ⟨hs.hd,hs.ln,fun g blk blk' i h0 h1 h2 h3=>hs.same g blk blk' i h0 h1 h2 (Zbd.2 fun q hq=>Zbd.1 h3 q (hf q hq))⟩
theorem AGh9 {k:Nat}:∀ {m n:Nat},findN ops k m=some n→ABa9 ops k n=true
 |0,n,h=>by simp [findN] at h
 | m+1,n,h=>by
  simp only [findN] at h;split at h
  ·rename_i h1;cases h;exact h1
  ·exact AGh9 h
end
section
variable {P:Program} {hp hp':List Blk} {tm tm':List AV} {ops:Array Oper} {Ev:Env P} {X:CX Ev.β} {b:Ev.β}
theorem AEh9 {k:Nat} (hX:X.Ok) (hk:APo9 ops k=true) {K:List AV→List Blk→Ev.β→Prop} {Q:Exit→St Ev.β→Prop} (h:ANm9 P X ops k tm hp b K) (hq:∀tm' hp' b',K tm' hp' b'→Q .normal ⟨tm',hp',b'⟩):
 WA Ev ops ⟨tm,hp,b⟩ Q:=by
 unfold ANm9 at h;split at h
 ·rename_i hks;obtain ⟨tmK,tb,h1,h2,h3,h4⟩:=ACe9 hX h;split at h1
  ·rename_i hnd;exact WA.draw (s:=⟨tm,hp,b⟩) k (tblD tb) (AQm9 (h3 (by simp))) hk hks (h4 tb (ACo9 hnd)) (AGd9 hX h1 fun s' b' h=>hq _ _ _ h)
  ·exact h1.elim
 ·exact h.elim
theorem appOk (P:Program):AppOk P:=by
 intro o c tm hp hp' x ho hk h;unfold BBq9 at h;split at h<;>try (cases h;done)
 rename_i x' y hc h0 h1;split at h<;>try (cases h;done)
 rename_i e i hinf;split at h
 ·rename_i g ver n k hx;split at h<;>try (cases h;done)
  rename_i blk ys hg hys;split at h<;>try (cases h;done)
  rename_i hcc;cases h;simp only [Zai,decide_eq_true_eq,Zcb] at hcc;obtain ⟨⟨⟨hsz,rfl⟩,hgr⟩,hf⟩:=hcc;unfold lateK at hk;simp only [ho,h0,h1,hinf,hx,hg,hys] at hk;exact ASn9 (s:=⟨tm,hp, []⟩) ho hc hsz h0 h1 hinf hx hys hg hgr hk.1 hf hk.2.1
 ·rename_i ax hax;split at h<;>try (cases h;done)
  rename_i hnil;split at h<;>try (cases h;done)
  rename_i y0 ys hys;split at h<;>try (cases h;done)
  rename_i hsz;cases h;have hfit:(y0::ys).length*i.bytes≤140737488355328:=by
   unfold lateK at hk;simp only [ho,h0,h1,hinf] at hk;split at hk
   ·simp only [hys] at hk;exact hk.1
   ·rename_i hn;exact absurd hnil hn
  exact AWu9 (s:=⟨tm,hp, []⟩) ho hc hsz h0 h1 hinf (.inl hnil) hys (by simp) hfit
theorem ASi9 {q n:Nat} {call:CallT} {tmK tmF:List AV} {hpn:List Blk} {sts:List (List AV×List Blk)} (hn:ABa9 ops q n=true) (hks:q+n≤ops.size) (hlates:ACx9 P ((ops.toList.drop q).take n) tmK hp=some sts) (hlast:sts[n]? =some (tmF,hpn))
 (hfr:APj9 P hp.length tmK tmF (ops.toList.take q) ((ops.toList.drop q).take n)=true) (i:Nat) (t:List AV) (h':List Blk) (hh:sts[i]? =some (t,h')) (j:Nat) (o:Oper) (hj:j<q) (ho:ops[j]? =some o) (hne:∀(i':Nat) (o':Oper),i'<i→ops[q+i']? =some o'→j∉AAo9 o'):
 xp P call ops h' tmK o=xp P call ops hp tmK o:=by
 obtain ⟨sl1,sl2,sl3⟩:=ADh9 hlates;obtain ⟨L1,L2⟩:=APb9 hn hks hlates hlast;have hedges:∀(i:Nat) (o:Oper),ops[i]? =some o→(∀j∈AAo9 o,j<i):=fun i o ho=>(ACy9 hn ho).1;have hev:∀(i:Nat) (o:Oper) (t:List AV) (hh:List Blk),((ops.toList.drop q).take n)[i]? =some o→sts[i]? =some (t,hh)→∀y∈o.op.operands,evalA t y=evalA tmF y:=by
  intro i o t hh e1 e2;rw [Zay] at e1;split at e1<;>try (cases e1;done)
  rename_i hin;rw [List.getElem?_drop] at e1;have ho:ops[q+i]? =some o:=by simpa using e1
  exact AEy9 (o:=o) (ops:=ops) (tm:=t) (tm':=tmF) fun x hx=>AFu9 (L2 i t hh e2 (by omega) x fun j' o' hj' hjn ho' hd'=>by
   have h3:=(ACy9 hn ho).2.1 (by omega) x hx (q+j') o' (by omega) ho' hd';have:=hedges _ o ho _ h3;omega)
 have hin:i≤n:=by
  have h1:=(Zac.1 hh).1;have h2:((ops.toList.drop q).take n).length≤n:=List.length_take_le _ _;omega
 have ho':(ops.toList.take q)[j]? =some o:=by rw [Zay,if_pos hj];simpa using ho
 have hfj:=Zbd.1 hfr j (List.mem_range.2 (Zac.1 ho').1);rw [ho'] at hfj;simp only [Zai,Zeb,Zcb] at hfj;have hsimA:=AHm9 (ex:=appGs tmF ((ops.toList.drop q).take n)) hlates (fun _ h=>h) hev [] (Sim.refl _ _ _) (t,h') (Zbn hh);have hsim:=AHm9 (ex:=appGs tmF ((ops.toList.drop q).take n)) (AIv9 i hlates) (fun g hg=>AFb9 _ _ _ _ hg) (fun i' o t hh e1 e2=>by
  rw [Zay] at e1 e2;split at e1<;>try (cases e1;done)
  split at e2<;>try (cases e2;done)
  exact hev i' o t hh e1 e2) [] (Sim.refl _ _ _) (t,h') (Zbn (i:=i) (by rw [Zay,if_pos (by omega)];exact hh))
 simp only [List.nil_append] at hsim;refine BYz9 (hsim.1.sub (AHc9 fun o' ho'=> ?_)) ?_ hfj.1.1 hfj.2
 ·obtain ⟨i',hi'⟩:=Zav.1 ho';rw [Zay] at hi';split at hi'<;>try (cases hi';done)
  rename_i hlt;refine List.mem_filter.2 ⟨Zbn hi', ?_⟩;rw [Zay] at hi';split at hi'<;>try (cases hi';done)
  rw [List.getElem?_drop] at hi';have:=hne i' o' hlt (by simpa using hi');simpa using this
 ·rcases hfj.1.2 with h5|h5
  ·exact .inr (hsimA.2 h5)
  ·exact .inl h5
theorem AMz9 {k:Nat} (hX:X.Ok) {K:List AV→List Blk→Ev.β→Prop} {Q:Exit→St Ev.β→Prop} (h:APc9 P X ops k tm hp b K) (hq:∀tm' hp' b',K tm' hp' b'→Q .normal ⟨tm',hp',b'⟩):
 WA Ev ops ⟨tm,hp,b⟩ Q:=by
 unfold APc9 at h;split at h
 ·rename_i hok;simp only [BPq9,Zai,Zbd,List.mem_range,Zeb] at hok;obtain ⟨c1,c2,c3,c4,c5,c6,c7,c8,c9⟩:=hok;have c1:=Nat.le_of_ble_eq_true c1;have c2:=ANn9 c2;have hgd:∀(j:Nat) (o:Oper),ops[j]? =some o→o.guard=none:=fun j o ho=>by
   have:=c7 j (Zal.1 ho).1;rw [ho] at this;simpa using this
  have sz2:(AAu9 (swN k ops.size) (addE k (k+1) ops)).size=ops.size:=by rw [ADe9,c2.len,ABn9]
  obtain ⟨tmK,tb,h1,h2,h3,h4⟩:=ACe9 hX h;split at h1
  ·rename_i hnd;split at h1
   ·rename_i sts1 sts2 hls1 hls2;split at h1
    ·rename_i st1 st2 hlast1 hlast2;obtain ⟨h1,hlk1⟩:=AGq9 hls1 h1;obtain ⟨h1,hlk2⟩:=AGq9 hls2 h1;obtain ⟨hb,etm,ehp,hK⟩:=h1.elim';obtain ⟨tmF1,hpn1⟩:=st1;obtain ⟨tmF2,hpn2⟩:=st2;simp only [Zai] at hb;obtain ⟨b1,b2,b3,b4,b5⟩:=hb;have hx1:=h4 tb (ACo9 hnd);have etake:(AAu9 (swN k ops.size) (addE k (k+1) ops)).toList.take k=((addE (k+1) k ops).toList.take k).map (renum (swN k ops.size)):=by
      apply List.ext_getElem?;intro j;rw [List.getElem?_map,Zay,Zay];split
      ·rename_i hj;have hjl:j<ops.size:=by omega
       have e1:(AAu9 (swN k ops.size) (addE k (k+1) ops))[posOf j (swN k ops.size)]? =some (renum (swN k ops.size) ops[j]):=c2.get (by rw [AMp9 (by omega)];simp [hjl]);rw [Zbz (c5 j hj)] at e1;have e2:(addE (k+1) k ops)[j]? =some ops[j]:=by rw [AMp9 (by omega)];simp [hjl]
       simp only [Array.getElem?_toList];rw [e1,e2];rfl
      ·rfl
     have hx2:xPre P (tblD tb) (AAu9 (swN k ops.size) (addE k (k+1) ops)) hp ((AAu9 (swN k ops.size) (addE k (k+1) ops)).toList.take k) tm=some tmK:=by
      rw [etake,APz9 (ops:=addE (k+1) k ops)]
      ·exact hx1
      ·intro o ho;obtain ⟨j,hj⟩:=Zav.1 (List.mem_of_mem_take ho);simp only [Array.getElem?_toList] at hj;obtain ⟨o0,ho0,rfl⟩:=AVl9 hj;have:=hgd j o0 ho0;split<;>exact this
     exact WA.late2 (s:=⟨tm,hp,b⟩) (k:=k) (n:=ops.size - k) (tblD tb) (appOk P) (AQm9 (h3 (by simp))) c2 (Zbz c3) (Zbz c4) (fun j hj=>Zbz (c5 j hj))
      (fun j h1 h2=>by
       rcases c6 j h2 with h|h
       ·have:=Nat.le_of_ble_eq_true h;omega
       ·exact Zbz h) hgd (by omega) (by omega) c8 c9 hls1 hls2 hlk1 hlk2 hx1 hx2
      (fun i t h' hh j o hj ho hne=>ASi9 c8 (by rw [ABn9];omega) hls1 hlast1 b1 i t h' hh j o hj ho hne)
      (fun i t h' hh j o hj ho hne=>ASi9 c9 (by rw [sz2];omega) hls2 hlast2 b2 i t h' hh j o hj ho hne)
      hlast1 hlast2 (Zbz b3) b4 b5 etm ehp (hq _ _ _ hK)
    ·exact h1.elim
   ·exact h1.elim
  ·exact h1.elim
 ·exact h.elim
theorem ABx9 {q n:Nat} (hX:X.Ok) (hn:ABa9 ops q n=true) {K:List AV→List Blk→Ev.β→Prop} {Q:Exit→St Ev.β→Prop} (h:AFm9 P X ops q n tm hp b K) (hq:∀tm' hp' b',K tm' hp' b'→Q .normal ⟨tm',hp',b'⟩):
 WA Ev ops ⟨tm,hp,b⟩ Q:=by
 unfold AFm9 at h;split at h
 ·rename_i hks;obtain ⟨tmK,tb,h1,h2,h3,h4⟩:=ACe9 hX h;split at h1
  ·rename_i hnd;split at h1
   ·rename_i sts hlates;split at h1
    ·rename_i st hlast;obtain ⟨h1,hlk⟩:=AGq9 hlates h1;obtain ⟨hfr,h1⟩:=h1.elim';obtain ⟨tmF,hpn⟩:=st;obtain ⟨sl1,sl2,sl3⟩:=ADh9 hlates;obtain ⟨L1,L2⟩:=APb9 hn hks hlates hlast;have hedges:∀(i:Nat) (o:Oper),ops[i]? =some o→(∀j∈AAo9 o,j<i):=fun i o ho=>(ACy9 hn ho).1;have hev:∀(i:Nat) (o:Oper) (t:List AV) (hh:List Blk),((ops.toList.drop q).take n)[i]? =some o→sts[i]? =some (t,hh)→∀y∈o.op.operands,evalA t y=evalA tmF y:=by
      intro i o t hh e1 e2;rw [Zay] at e1;split at e1<;>try (cases e1;done)
      rename_i hin;rw [List.getElem?_drop] at e1;have ho:ops[q+i]? =some o:=by simpa using e1
      exact AEy9 (o:=o) (ops:=ops) (tm:=t) (tm':=tmF) fun x hx=>AFu9 (L2 i t hh e2 (by omega) x fun j' o' hj' hjn ho' hd'=>by
       have h3:=(ACy9 hn ho).2.1 (by omega) x hx (q+j') o' (by omega) ho' hd';have:=hedges _ o ho _ h3;omega)
     refine WA.late (s:=⟨tm,hp,b⟩) q n (tblD tb) (appOk P) (AQm9 (h3 (by simp))) hn hks hlates hlk (h4 tb (ACo9 hnd)) (fun i t h' hh j o hj ho hne=> ?_) hlast (AGd9 hX h1 fun s' b' h=>hq _ _ _ h);have ho':(ops.toList.take q)[j]? =some o:=by rw [Zay,if_pos hj];simpa using ho
     have hfj:=Zbd.1 hfr j (List.mem_range.2 (Zac.1 ho').1);rw [ho'] at hfj;simp only [Zai,Zeb,Zcb] at hfj;have hsimA:=AHm9 (ex:=appGs tmF ((ops.toList.drop q).take n)) hlates (fun _ h=>h) hev [] (Sim.refl _ _ _) (t,h') (Zbn hh);have hsim:=AHm9 (ex:=appGs tmF ((ops.toList.drop q).take n)) (AIv9 i hlates) (fun g hg=>AFb9 _ _ _ _ hg) (fun i' o t hh e1 e2=>by
      rw [Zay] at e1 e2;split at e1<;>try (cases e1;done)
      split at e2<;>try (cases e2;done)
      exact hev i' o t hh e1 e2) [] (Sim.refl _ _ _) (t,h') (Zbn (i:=i) (by rw [Zay,if_pos (by omega)];exact hh))
     simp only [List.nil_append] at hsim;refine BYz9 (hsim.1.sub (AHc9 fun o' ho'=> ?_)) ?_ hfj.1.1 hfj.2
     ·obtain ⟨i',hi'⟩:=Zav.1 ho';rw [Zay] at hi';split at hi'<;>try (cases hi';done)
      rename_i hlt;refine List.mem_filter.2 ⟨Zbn hi', ?_⟩;rw [Zay] at hi';split at hi'<;>try (cases hi';done)
      rw [List.getElem?_drop] at hi';have:=hne i' o' hlt (by simpa using hi');simpa using this
     ·rcases hfj.1.2 with h5|h5
      ·exact .inr (hsimA.2 h5)
      ·exact .inl h5
    ·exact h1.elim
   ·exact h1.elim
  ·exact h1.elim
 ·exact h.elim
theorem AUp9 (hX:X.Ok) {K:List AV→List Blk→Ev.β→Prop} {Q:Exit→St Ev.β→Prop} (h:BWp9 P X ops tm hp b K) (hq:∀tm' hp' b',K tm' hp' b'→Q .normal ⟨tm',hp',b'⟩):
 WA Ev ops ⟨tm,hp,b⟩ Q:=by
 unfold BWp9 at h;split at h
 ·rename_i k hk;exact AEh9 hX (AEx9 hk) h hq
 ·split at h
  ·rename_i n hn;exact ABx9 hX (AGh9 hn) h hq
  ·split at h
   ·rename_i k hk;exact AEh9 hX (AEx9 hk) h hq
   ·split at h
    ·rename_i n hn;exact ABx9 hX (AGh9 hn) h hq
    ·split at h
     ·rename_i k hk;exact AEh9 hX (AEx9 hk) h hq
     ·split at h
      ·rename_i n hn;exact ABx9 hX (AGh9 hn) h hq
      ·exact h.elim
theorem AJf9 (hX:X.Ok) {K:List AV→List Blk→Ev.β→Prop} {Q:Exit→St Ev.β→Prop} (h:drawC P X ops tm hp b K) (hq:∀tm' hp' b',K tm' hp' b'→Q .normal ⟨tm',hp',b'⟩):
 WA Ev ops ⟨tm,hp,b⟩ Q:=by
 unfold drawC at h;split at h
 ·split at h
  ·rename_i k hk;exact AEh9 hX (AEx9 hk) h hq
  ·exact h.elim
 ·split at h
  ·rename_i hg;simp only [Zai] at hg;exact ABx9 hX hg.2 h hq
  ·exact AUp9 hX h hq
theorem AMe9 {ops:Array Oper}:∀ {m k n:Nat},findL ops m=some (k,n)→ABa9 ops k n=true
 |0,k,n,h=>by simp [findL] at h
 | m+1,k,n,h=>by
  simp only [findL] at h;split at h
  ·rename_i n' hn;cases h;exact AGh9 hn
  ·exact AMe9 h
theorem AZw9 (hX:X.Ok) {K:List AV→List Blk→Ev.β→Prop} {Q:Exit→St Ev.β→Prop} (h:drawQ P X ops tm hp b K) (hq:∀tm' hp' b',K tm' hp' b'→Q .normal ⟨tm',hp',b'⟩):
 WA Ev ops ⟨tm,hp,b⟩ Q:=by
 unfold drawQ at h;split at h
 ·exact AJf9 hX h hq
 ·split at h
  ·rename_i k n hk;exact ABx9 hX (AMe9 hk) h hq
  ·exact AMz9 hX h hq
theorem AZx9 (hX:X.Ok) {K:List AV→List Blk→Ev.β→Prop} {Q:Exit→St Ev.β→Prop} (h:drawL P X ops tm hp b K) (hq:∀tm' hp' b',K tm' hp' b'→Q .normal ⟨tm',hp',b'⟩):
 WA Ev ops ⟨tm,hp,b⟩ Q:=by
 unfold drawL at h;split at h
 ·rename_i hg;exact ABx9 hX hg h hq
 ·split at h
  ·rename_i k n hk;exact ABx9 hX (AMe9 hk) h hq
  ·exact AJf9 hX h hq
theorem ANw9 (hX:X.Ok) {K:List AV→List Blk→Ev.β→Prop} {Q:Exit→St Ev.β→Prop} (h:drawP P X ops tm hp b K) (hq:∀tm' hp' b',K tm' hp' b'→Q .normal ⟨tm',hp',b'⟩):
 WA Ev ops ⟨tm,hp,b⟩ Q:=by
 unfold drawP at h;split at h
 ·split at h
  ·rename_i hp;exact WA.perm hp (AZx9 hX h hq)
  ·exact h.elim
 ·split at h
  ·exact AJf9 hX h hq
  ·split at h
   ·rename_i hp;exact WA.perm hp (AZw9 hX h hq)
   ·exact h.elim
theorem W.ofFrz {P:Program} {Ev:Env P} {c:Code} {b:Ev.β} {Q:Exit→St Ev.β→Prop} {tm tm1:List AV} {hp hp1:List Blk} (hf:FrzOk ⟨tm,hp, []⟩ ⟨tm1,hp1, []⟩) (h:W Ev c ⟨tm1,hp1,b⟩ Q):W Ev c ⟨tm,hp,b⟩ Q:=by
 intro lo r S X V w m B hv a ht;obtain ⟨S',hg,hr⟩:=hf S X Ev.yl w m B hv a ht.rel;have ht':=ht.step hg hr rfl;refine wpIn_mono (h lo r S' X V w m B hv a ht') ?_;rintro e a' w' ⟨s',S'',X',V',m',hv',hq,⟨hw,hm⟩,h3⟩;exact ⟨s',S'',X',V',m',hv',hq,⟨(hg.went hr.slt).trans hw,hm⟩,h3⟩
theorem W.sealed {P:Program} {Ev:Env P} {c:Code} {b:Ev.β} {Q:Exit→St Ev.β→Prop} {tm:List AV} {hp:List Blk} {t:Nat} {K:List AV→Prop} (h:AUa9 hp [t] tm K) (hK:∀tm1,K tm1→W Ev c ⟨tm1,frz hp (occ (tm.getD t .bad)),b⟩ Q):W Ev c ⟨tm,hp,b⟩ Q:=by
 obtain ⟨tm1,hf,h1⟩:=AHf9 (gs:=occ (tm.getD t .bad)) (tm0:=tm) h (by simp) (AMc9 _ _) (fun _ _=>rfl) fun t' ht' g hg=>by
  simp at ht';subst ht';exact hg
 exact W.ofFrz (CDp9 (s:=⟨tm,hp, []⟩) hf) (hK _ h1)
theorem W.sealedL {P:Program} {Ev:Env P} {c:Code} {b:Ev.β} {Q:Exit→St Ev.β→Prop}:∀ {ts:List Nat} {tm:List AV} {hp:List Blk} {K:List AV→List Blk→Prop},sealL ts tm hp K→(∀tm1 hp1,K tm1 hp1→W Ev c ⟨tm1,hp1,b⟩ Q)→W Ev c ⟨tm,hp,b⟩ Q
 | [],tm,hp,K,h,hK=>hK _ _ h
 |t::ts,tm,hp,K,h,hK=>W.sealed h fun tm1 h1=>W.sealedL h1 hK
theorem ARe9 {id:Nat} {d:Bool} (hm:P.follows .mixedOrders=true) (hX:X.Ok) {K:List AV→List Blk→Ev.β→Prop} {Q:Exit→St Ev.β→Prop} (h:BDn9 P X ops d tm hp b K) (hq:∀tm' hp' b',K tm' hp' b'→Q .normal ⟨tm',hp',b'⟩):
 W Ev (.region id ops d) ⟨tm,hp,b⟩ Q:=by
 unfold BDn9 at h;cases d with
 | false=>
  simp only [Bool.false_eq_true,if_false] at h;exact W.region (s:=⟨tm,hp,b⟩) (AGd9 hX h fun s' b' h=>hq _ _ _ h)
 | true=>
  simp only [if_true] at h;split at h
  ·exact W.sealed h fun tm1 h1=>W.ofWA hm (ANw9 hX h1 hq)
  ·exact W.sealedL h fun tm1 hp1 h1=>W.ofWA hm (ANw9 hX h1 hq)
theorem ADr9 {c:Code} {fr:Frame} {a:Act} {k:List Item} {cs:List Frame} {w:World}:step P (lone (fr.atR a (.code (.scope c)::k)) cs w)= .next (lone (fr.atR a (.code c:: .inScope c::k)) cs w):=
 step_lone_go (by simp [stepG,stepG.exec,Frame.atR])
theorem AQp9 {c:Code} {fr:Frame} {a:Act} {k:List Item} {cs:List Frame} {w:World}:step P (lone (fr.atR a (.inScope c::k)) cs w)= .next (lone (fr.atR a k) cs w):=
 step_lone_go (by simp [stepG,stepG.exec,Frame.atR])
def noGoto {α:Type} (Q:Exit→α→Prop):Exit→α→Prop
 | .goto _,_=>False
 |e,s=>Q e s
theorem BBs9 {F:Fence} {n:Nat} {c:Code} {Q:Exit→Act→World→Prop} {a:Act} {w:World} (h:c.wpIn F n P (Exit.noGoto Q) a w):(Code.scope c).wpIn F n P Q a w:=by
 intro b k cs hro hb hr;have h0:(lone (b.atR a (.code (.scope c)::k)) cs w).fenced P F:=fenced_calm hb hr rfl;obtain ⟨e,a₁,w₁,hq,harr⟩:=h b (.inScope c::k) cs hro hb hr;cases e with
 |normal=>exact ⟨.normal,a₁,w₁,hq, .head h0 ADr9 (StepsIn.trans harr (.one (fenced_calm hb hr rfl) AQp9))⟩
 | exit id=>
  have hx:exitTo id (.inScope c::k)=exitTo id k:=by simp [exitTo]
  exact ⟨.exit id,a₁,w₁,hq,fun k' hk=> .head h0 ADr9 (harr.1 k' (by rw [hx];exact hk)),
   fun hr' hk=>let ⟨k₁,h1,h2⟩:=harr.2 hr' (by rw [hx];exact hk);⟨k₁,h1, .head h0 ADr9 h2⟩⟩
 |goto l=>exact hq.elim
 |ret=>exact ⟨_,a₁,w₁,hq, .of_steps (.one h0 ADr9) harr⟩
 |panic ch=>exact ⟨_,a₁,w₁,hq, .of_steps (.one h0 ADr9) harr⟩
 |outgrown=>exact ⟨_,a₁,w₁,hq, .of_steps (.one h0 ADr9) harr⟩
theorem W.scope {c:Code} {s:St Ev.β} {Q:Exit→St Ev.β→Prop} (h:W Ev c s (noGoto Q)):W Ev (.scope c) s Q:=by
 intro lo r S X V w m B hv a ht;refine BBs9 (wpIn_mono (h lo r S X V w m B hv a ht) fun e a' w' ⟨s',S',X',V',m',hv',h1,h2,h3⟩=> ?_);cases e with
 |goto l=>exact h1.elim
 |normal=>exact ⟨s',S',X',V',m',hv',h1,h2,h3⟩
 |exit id=>exact ⟨s',S',X',V',m',hv',h1,h2,h3⟩
 |ret=>exact ⟨s',S',X',V',m',hv',h1,h2,h3⟩
 |panic ch=>exact ⟨s',S',X',V',m',hv',h1,h2,h3⟩
 |outgrown=>exact ⟨s',S',X',V',m',hv',h1,h2,h3⟩
def WR (Ev:Env P) (c:Code):Nat→St Ev.β→(Exit→St Ev.β→Prop)→Prop
 |0,_,_=>False
 |m+1,s,Q=>W Ev c s (thenW (fun s'=>WR Ev c m s' Q) Q)
theorem W.rounds {c:Code} {Q:Exit→St Ev.β→Prop} {m:Nat} {s:St Ev.β} (h:WR Ev c m s Q):W Ev (.loop c) s Q:=by
 intro lo r S X V w m0 B hv a ht;have key:∀(n:Nat) (s:St Ev.β) (S0 X0 V0:Pr) (w0:World) (m1:List MB) (hv:List (List Value)) (a:Act),WR Ev c n s Q→(Went Ev.L S X V w S0 X0 V0 w0∧MStep m0 m1)→Tie Ev lo r S0 X0 V0 w0 m1 B hv s.rs s.b a→
  Code.roundsIn (Fn r) 0 P c (Beh Ev lo r S X V w m0 B Q) n a w0:=by
  intro n;induction n with
  |zero=>intro s S0 X0 V0 w0 m1 hv a h;exact h.elim
  | succ n ih=>
   intro s S0 X0 V0 w0 m1 hv a h hm ht;rw [roundsIn_succ];refine wpIn_mono (h lo r S0 X0 V0 w0 m1 B hv a ht) fun e a' w' ⟨s',S',X',V',m',hv',h1,h2,h3⟩=> ?_;cases e with
   |normal=>exact ih s' S' X' V' w' m' hv' a' h1 ⟨hm.1.trans h2.1,hm.2.trans h2.2⟩ h3
   |exit id=>exact Beh.from hm ⟨s',S',X',V',m',hv',h1,h2,h3⟩
   |goto l=>exact Beh.from hm ⟨s',S',X',V',m',hv',h1,h2,h3⟩
   |ret=>exact Beh.from hm ⟨s',S',X',V',m',hv',h1,h2,h3⟩
   |panic ch=>exact Beh.from hm ⟨s',S',X',V',m',hv',h1,h2,h3⟩
   |outgrown=>exact Beh.from hm ⟨s',S',X',V',m',hv',h1,h2,h3⟩
 exact wpIn_loop_rounds m (key m s S X V w m0 hv a h ⟨Went.refl ht.rel.slt,MStep.refl m0⟩ ht)
theorem ALm9 {c:Code} {n:Nat} (ih:∀ {tm:List AV} {hp:List Blk} {b:Ev.β} {K:Exit→List AV→List Blk→Ev.β→Prop} {Q:Exit→St Ev.β→Prop},wpc P X n c tm hp b K→(∀e tm hp b,K e tm hp b→Q e ⟨tm,hp,b⟩)→W Ev c ⟨tm,hp,b⟩ Q):
 ∀ {m:Nat} {tm:List AV} {hp:List Blk} {b:Ev.β} {K:Exit→List AV→List Blk→Ev.β→Prop} {Q:Exit→St Ev.β→Prop},rounds (wpc P X n c) m tm hp b K→(∀e tm hp b,K e tm hp b→Q e ⟨tm,hp,b⟩)→WR Ev c m ⟨tm,hp,b⟩ Q
 |0,tm,hp,b,K,Q,h,hq=>h.elim
 | m+1,tm,hp,b,K,Q,h,hq=>by
  simp only [rounds] at h;refine ih h fun e tm' hp' b' hK=> ?_;cases e with
  |normal=>exact ALm9 ih (m:=m) hK hq
  |exit id=>exact hq _ _ _ _ hK
  |goto l=>exact hq _ _ _ _ hK
  |ret=>exact hq _ _ _ _ hK
  |panic ch=>exact hq _ _ _ _ hK
  |outgrown=>exact hq _ _ _ _ hK
theorem AAw9 (hm:P.follows .mixedOrders=true) (hX:X.Ok):∀ {n:Nat} {c:Code} {tm:List AV} {hp:List Blk} {b:Ev.β} {K:Exit→List AV→List Blk→Ev.β→Prop} {Q:Exit→St Ev.β→Prop},
 wpc P X n c tm hp b K→(∀e tm hp b,K e tm hp b→Q e ⟨tm,hp,b⟩)→W Ev c ⟨tm,hp,b⟩ Q
 |0,c,tm,hp,b,K,Q,h,hq=>h.elim
 | n+1,c,tm,hp,b,K,Q,h,hq=>by
  cases c with
  |skip=>exact W.skip (hq _ _ _ _ h)
  |label l=>exact W.label (hq _ _ _ _ h)
  |exit id=>exact W.exit (hq _ _ _ _ h)
  |goto l=>exact W.goto (hq _ _ _ _ h)
  |ret=>exact W.ret (hq _ _ _ _ h)
  | region id ops d=>
   simp only [wpc] at h;split at h
   ·exact W.mono (hX.wl _ _ _ _ _ h) fun e s h=>hq _ _ _ _ h
   ·exact ARe9 hm hX h fun _ _ _ h=>hq _ _ _ _ h
  | seq x y=>
   simp only [wpc] at h;refine W.seq (AAw9 hm hX h fun e tm' hp' b' hK=> ?_);cases e with
   |normal=>exact AAw9 hm hX hK hq
   |exit id=>exact hq _ _ _ _ hK
   |goto l=>exact hq _ _ _ _ hK
   |ret=>exact hq _ _ _ _ hK
   |panic ch=>exact hq _ _ _ _ hK
   |outgrown=>exact hq _ _ _ _ hK
  | cond x c c'=>
   simp only [wpc] at h;split at h
   ·rename_i t hx;have hs:=AOo9 hx;rcases h.elim with ⟨rfl,h⟩|⟨rfl,h⟩<;>rw [hs] at h
    ·exact W.cond (t:=true) hx (AAw9 hm hX h hq)
    ·exact W.cond (t:=false) hx (AAw9 hm hX h hq)
   ·exact h.elim
  | block id c=>
   simp only [wpc] at h;refine W.block (AAw9 hm hX h fun e tm' hp' b' hK=> ?_);cases e with
   | exit id'=>
    simp only [CFa9] at hK;simp only [APr9];split at hK
    ·rename_i he;rw [if_pos he];exact hq _ _ _ _ hK
    ·rename_i he;rw [if_neg he];exact hq _ _ _ _ hK
   |normal=>exact hq _ _ _ _ hK
   |goto l=>exact hq _ _ _ _ hK
   |ret=>exact hq _ _ _ _ hK
   |panic ch=>exact hq _ _ _ _ hK
   |outgrown=>exact hq _ _ _ _ hK
  | loop c=>
   simp only [wpc] at h;split at h
   ·exact W.rounds (ALm9 (fun h hq=>AAw9 hm hX h hq) h hq)
   ·exact W.mono (hX.wl _ _ _ _ _ h) fun e s h=>hq _ _ _ _ h
  |rangeFunc f ps assign body=>exact W.mono (hX.wl _ _ _ _ _ h) fun e s h=>hq _ _ _ _ h
  | scope body=>
   simp only [wpc] at h;refine W.scope (AAw9 hm hX h fun e tm' hp' b' hK=> ?_);cases e with
   |goto l=>exact hK.elim
   |normal=>exact hq _ _ _ _ hK
   |exit id=>exact hq _ _ _ _ hK
   |ret=>exact hq _ _ _ _ hK
   |panic ch=>exact hq _ _ _ _ hK
   |outgrown=>exact hq _ _ _ _ hK
  |refuse why=>exact h.elim
theorem AFq9 {fn:Func} {R:AV→Ev.β→Prop} {e:Exit} {tm:List AV} {hp:List Blk} {b:Ev.β} (h:fnK P fn R e tm hp b):AMt9 P fn (fun y hp b=>∃z,SealD hp y z∧R z b) e ⟨tm,hp,b⟩:=by
 unfold fnK at h;obtain ⟨he,h⟩:=h.elim';split at h
 ·rename_i ys hys;obtain ⟨z,hz,h⟩:=ALj9 h;refine ⟨?_,ys,hys,z,hz,h⟩;cases e<;>simp at he ⊢
 ·exact h.elim
def wlW (Ev:Env P):Code→List AV→List Blk→Ev.β→(Exit→List AV→List Blk→Ev.β→Prop)→Prop:=fun c tm hp b K=>W Ev c ⟨tm,hp,b⟩ fun e s=>K e s.tm s.hp s.b
def AAc9 (P:Program) (T:List (Nat×(List AV→(AV→Prop)→Prop))):Prop:=∀(k:Nat) f,T.lookup k=some f→∀args K,f args K→∃x,PCall P k args x∧K x
def AAl9 (P:Program) (T:List (Nat×(List AV→List Blk→(AV→List Blk→Prop)→Prop))):Prop:=∀(k:Nat) f,T.lookup k=some f→∀args hp K,f args hp K→∃x hp',SCall P k args hp x hp'∧K x hp'
theorem AAc9.nil:AAc9 P []:=fun _ _ h=>by cases h
theorem AAl9.nil:AAl9 P []:=fun _ _ h=>by cases h
theorem AAc9.cons {T:List (Nat×(List AV→(AV→Prop)→Prop))} {k:Nat} {f:List AV→(AV→Prop)→Prop} (h:∀args K,f args K→∃x,PCall P k args x∧K x) (hT:AAc9 P T):AAc9 P ((k,f)::T):=by
 intro k' f' hl;rw [List.lookup_cons] at hl;split at hl
 ·rename_i he;cases hl;rw [eq_of_beq he];exact h
 ·exact hT k' f' hl
theorem CX.Ok.of {Ev:Env P} {T:List (Nat×(List AV→(AV→Prop)→Prop))} {S:List (Nat×(List AV→List Blk→(AV→List Blk→Prop)→Prop))} {u:Bool} (hT:AAc9 P T) (hS:AAl9 P S):CX.Ok Ev ⟨T,S,wlW Ev,Ev.Y,u⟩:=
 ⟨hT,hS,fun _ _ _ _ _ h=>h,rfl⟩
theorem PCall.ofWp {f n:Nat} {fn:Func} {c:Code} {args:List AV} {x:AV} {T:List (Nat×(List AV→(AV→Prop)→Prop))} {S:List (Nat×(List AV→List Blk→(AV→List Blk→Prop)→Prop))} {u:Bool} (hm:P.follows .mixedOrders=true)
 (hT:AAc9 P T) (hS:AAl9 P S) (hf:P.funcs[f]? =some fn) (hb:fn.body=some c) (hn:(fn.name== "runtime.NumGoroutine")=false) (hargs:args.map Zdx=args)
 (h:∀(Ev:Env P) (b:Ev.β),wpc P ⟨T,S,wlW Ev,Ev.Y,u⟩ n c (ACg9 fn args) [] b (fnK P fn fun y _=>y=x)):PCall P f args x:=by
 refine PCall.ofWS hf hb hn hargs fun Ev b=>AAw9 hm (CX.Ok.of hT hS) (h Ev b) fun e tm hp b hK=> ?_;obtain ⟨h1,ys,h2,z,h3,rfl⟩:=AFq9 hK;exact ⟨h1,ys,h2,h3⟩
end
noncomputable def code (fn:Func):Code:=fn.body.getD .skip
def CJl9:Code→Code
 | .seq x _=>x
 |c=>c
def inBlock:Code→Code
 | .block _ c=>c
 |c=>c
def CJm9:Code→Code
 | .loop c=>c
 |c=>c
def AGl9:Code→Code
 | .rangeFunc _ _ a _=>a
 |c=>c
def ASw9:Code→Code
 | .rangeFunc _ _ _ b=>b
 |c=>c
def cidO:Code→Nat
 | .region id _ _=>id+1
 | .seq x y=>match cidO x with
  |0=>cidO y
  |n=>n
 | .block _ c=>cidO c
 | .loop c=>cidO c
 | .scope c=>cidO c
 | .cond _ x _=>cidO x
 | .rangeFunc _ _ a b=>match cidO a with
  |0=>cidO b
  |n=>n
 |_=>0
abbrev WLT (β:Type):=Code→List AV→List Blk→β→(Exit→List AV→List Blk→β→Prop)→Prop
def sub:List Nat→Code→Code
 | [],c=>c
 | n::p,c=>match n,c with
  |0, .seq x _=>sub p x
  |1, .seq _ y=>sub p y
  |2, .block _ c=>sub p c
  |3, .loop c=>sub p c
  |4, .cond _ x _=>sub p x
  |5, .cond _ _ y=>sub p y
  |6, .rangeFunc _ _ a _=>sub p a
  |7, .rangeFunc _ _ _ b=>sub p b
  |8, .scope c=>sub p c
  |_,_=> .skip
def nth (p:List Int) (i:Nat):Int:=p.getD i 0
def LeA (x y:AV):Prop:=x=y∨y= .bad∨(AAi9 x=true∧∃k,(y= .d (.sl k [])∨∃e,y= .own e k []))∨y=x.view
theorem LeA.rfl {x:AV}:LeA x x:= .inl (Eq.refl x)
theorem LeA.bad {x:AV}:LeA x .bad:= .inr (.inl (Eq.refl _))
theorem LeA.nilOwn {x:AV} {e k:Nat} (h:AAi9 x=true):LeA x (.own e k []):= .inr (.inr (.inl ⟨h,k, .inr ⟨e,Eq.refl _⟩⟩))
theorem LeA.nilSl {x:AV} {k:Nat} (h:AAi9 x=true):LeA x (.d (.sl k [])):= .inr (.inr (.inl ⟨h,k, .inl (Eq.refl _)⟩))
inductive LeL:List AV→List AV→Prop
 |nil:LeL [] []
 |cons {x y:AV} {xs ys:List AV} (h:LeA x y) (hs:LeL xs ys):LeL (x::xs) (y::ys)
theorem LeL.refl:∀(l:List AV),LeL l l
 | []=> .nil
 |_::l=> .cons .rfl (LeL.refl l)
theorem LeL.len {xs ys:List AV} (h:LeL xs ys):ys.length=xs.length:=by
 induction h with
 |nil=>rfl
 |cons _ _ ih=>simp [ih]
inductive LeH:List Blk→List Blk→Prop
 |nil:LeH [] []
 |cons {p q:List AV} {f g:Bool} {v:Nat} {ps qs:List Blk} (h:LeL p q) (hs:LeH ps qs):LeH (⟨p,f,g,v⟩::ps) (⟨q,f,g,v⟩::qs)
theorem LeH.refl:∀(l:List Blk),LeH l l
 | []=> .nil
 |⟨_,_,_,_⟩::l=> .cons (.refl _) (LeH.refl l)
theorem LeH.len {xs ys:List Blk} (h:LeH xs ys):ys.length=xs.length:=by
 induction h with
 |nil=>rfl
 |cons _ _ ih=>simp [ih]
section
variable {P:Program} {S S' X X' V V':Pr} {r:Option Nat} {lo:Nat} {yv:Option Nat} {w w':World} {m m':List MB} {A A' B C:List (AV×Value)} {hp hp':List Blk} {tm tm':List AV} {hv hv':List (List Value)} {a a':Act} {Ev:Env P} {s s':St Ev.β} {b:Ev.β} {Q:Exit→St Ev.β→Prop} {c:Code}
theorem LeA.rv {x y:AV} {v:Value} (h:LeA x y) (hr:RV S w m yv x v):RV S w m yv y v:=by
 rcases h with rfl|rfl|⟨h,k,h1⟩|rfl
 ·exact hr
 ·exact .bad
 ·have hv:=AAp9 h hr;subst hv;rcases h1 with rfl|⟨e,rfl⟩
  ·exact .d (.nil k)
  ·exact .ownNil
 ·exact hr.view
theorem LeA.own {x y:AV} {v:Value} (h:LeA x y) (hr:RV S w m yv x v):x=y∨ownB (y,v)=none:=by
 rcases h with rfl|rfl|⟨h,k,h1⟩|rfl
 ·exact .inl (Eq.refl _)
 ·exact .inr (Eq.refl _)
 ·have hv:=AAp9 h hr;subst hv;rcases h1 with rfl|⟨e,rfl⟩
  ·exact .inr (Eq.refl _)
  ·exact .inr (Eq.refl _)
 ·exact .inr (AAq9 _ _)
inductive LP:List (AV×Value)→List (AV×Value)→Prop
 |nil:LP [] []
 |cons {x y:AV} {v:Value} {A A':List (AV×Value)} (h:LeA x y) (hs:LP A A'):LP ((x,v)::A) ((y,v)::A')
theorem LP.refl:∀(l:List (AV×Value)),LP l l
 | []=> .nil
 |(_,_)::l=> .cons .rfl (LP.refl l)
theorem LP.append {A A' B B':List (AV×Value)} (h:LP A A') (h':LP B B'):LP (A++B) (A'++B'):=by
 induction h with
 |nil=>exact h'
 |cons h _ ih=>exact .cons h ih
theorem LeL.zip {xs ys:List AV} (h:LeL xs ys):∀(vs:List Value),LP (xs.zip vs) (ys.zip vs):=by
 induction h with
 |nil=>intro vs;exact .nil
 | cons h _ ih=>
  intro vs;cases vs with
  |nil=>exact .nil
  |cons v vs=>exact .cons h (ih vs)
theorem LeH.pairs {ps qs:List Blk} (h:LeH ps qs):∀(hv:List (List Value)),LP (AAa9 ps hv) (AAa9 qs hv):=by
 induction h with
 |nil=>intro hv;exact .nil
 | cons h _ ih=>
  intro hv;cases hv with
  |nil=>exact .nil
  | cons v hv=>
   simp only [AAa9,List.zip_cons_cons,List.flatMap_cons];exact (h.zip v).append (ih hv)
theorem Rel.lp (h:LP A A'):∀ {C:List (AV×Value)},Rel S X yv w m (A++C) hp hv→Rel S X yv w m (A'++C) hp hv:=by
 induction h with
 |nil=>intro C h;exact h
 | @cons x y v A1 A2 h1 _ ih=>
  intro C h;have h2:Rel S X yv w m (A1++((x,v)::C)) hp hv:=h.perm (by simpa using (List.perm_middle (a:=(x,v)) (l₁:=A1) (l₂:=C)).symm);have h3:=ih h2;have h4:Rel S X yv w m ((x,v)::(A2++C)) hp hv:=h3.perm List.perm_middle;have hr:RV S w m yv x v:=h4.rv _ (Zbv ..);rcases h1.own hr with rfl|hn
  ·exact h4
  ·exact (h4.sub (List.sublist_cons_self _ _)).cons (h1.rv hr) hn
theorem LeH.get {ps qs:List Blk} (h:LeH ps qs):∀(g:Nat) (q:Blk),qs[g]? =some q→∃p,ps[g]? =some p∧q.fro=p.fro∧q.grow=p.grow∧q.ver=p.ver∧q.cells.length=p.cells.length:=by
 induction h with
 |nil=>intro g q hq;simp at hq
 | cons h _ ih=>
  intro g q hq;cases g with
  |zero=>simp at hq;subst hq;exact ⟨_,rfl,rfl,rfl,rfl,h.len⟩
  |succ g=>simp at hq;simpa using ih g q hq
theorem Rel.leH (h:LeH hp hp') (hr:Rel S X yv w m A hp hv):Rel S X yv w m A hp' hv:=by
 refine ⟨hr.lt,hr.rv,hr.pw,hr.nm,hr.sp,hr.mnd,hr.ml.trans h.len.symm,hr.hl.trans h.len.symm,fun g blk p vs h1 h2 h3=> ?_,hr.gl⟩;obtain ⟨blk0,e1,e2,e3,e4,e5⟩:=h.get g blk h1;obtain ⟨a1,a2,a3,a4,a5,a6,a9,a10⟩:=hr.bl g blk0 p vs e1 h2 h3;exact ⟨a1.trans e5.symm,a2.trans e3.symm,a3.trans e4.symm,a4,a5,a6,by rw [e2];exact a9,by rw [e2];exact a10⟩
theorem Tie.le {pv:List (Nat×Loc)} (h1:LeL tm tm') (h2:LeH hp hp') (ht:Tie Ev lo r S X V w m B hv ⟨tm,hp,pv⟩ b a):Tie Ev lo r S X V w m B hv ⟨tm',hp', []⟩ b a:=by
 refine ⟨⟨h1.len.trans ht.rel.1, ?_,by intro p hp;cases hp⟩,ht.sub,ht.env,ht.round,ht.marks,ht.base⟩;refine Rel.leH h2 ?_;have:=Rel.lp ((h1.zip a.tmps.toList).append ((LP.refl B).append (h2.pairs hv))) (C:= []) (by simpa using ht.rel.2.1);simpa using this
theorem W.cast (h1:LeL tm tm') (h2:LeH hp hp') (h:W Ev c ⟨tm',hp',b⟩ Q):W Ev c ⟨tm,hp,b⟩ Q:=
 fun lo r S X V w m B hv a ht=>h lo r S X V w m B hv a (ht.le h1 h2)
theorem W.castPost (h:W Ev c s fun e s'=>∃tm' hp',LeL s'.tm tm'∧LeH s'.hp hp'∧Q e ⟨tm',hp',s'.b⟩):W Ev c s Q:=by
 intro lo r S X V w m B hv a ht;refine wpIn_mono (h lo r S X V w m B hv a ht) ?_;rintro e a' w' ⟨s',S',X',V',m',hv',⟨tm',hp',h1,h2,hq⟩,h3,ht'⟩;exact ⟨_,S',X',V',m',hv',hq,h3,ht'.le h1 h2⟩
theorem WR.cast {n:Nat} (h1:LeL tm tm') (h2:LeH hp hp') (h:WR Ev c n ⟨tm',hp',b⟩ Q):WR Ev c n ⟨tm,hp,b⟩ Q:=by
 cases n with
 |zero=>exact h.elim
 |succ n=>exact W.cast h1 h2 h
def AAv9 (keep:List Nat):Nat→List AV→List AV
 |_, []=> []
 |i,x::l=>(if keep.contains i then x else .bad)::AAv9 keep (i+1) l
theorem AAb9 (keep:List Nat):∀(l:List AV) (i:Nat),LeL l (AAv9 keep i l)
 | [],_=> .nil
 |x::l,i=> .cons (by split;exact .rfl;exact .bad) (AAb9 keep l (i+1))
def maskK {β:Type} (n:Nat) (keep:List Nat) (K:Exit→List AV→List Blk→β→Prop):Exit→List AV→List Blk→β→Prop:=fun e tm hp b=>BIf (lowHp n hp) (K e (AAv9 keep 0 (lowTm n tm)) (hp.take n) b) False
theorem W.ofMask {X:CX Ev.β} {k:Nat} {keep:List Nat} {K:Exit→List AV→List Blk→Ev.β→Prop} (hm:P.follows .mixedOrders=true) (hX:X.Ok) (h:wpc P X k c tm hp b (maskK hp.length keep K)) (hq:∀e tm hp b,K e tm hp b→Q e ⟨tm,hp,b⟩):W Ev c ⟨tm,hp,b⟩ Q:=by
 refine W.castPost (W.scratch (AAw9 hm hX h fun e tm' hp' b' hK=> ?_));obtain ⟨h1,h2⟩:=hK.elim';exact ⟨h1,_,_,AAb9 keep _ 0,LeH.refl _,hq _ _ _ _ h2⟩
theorem WR.ofMask {X:CX Ev.β} {n k:Nat} (keep:List Nat) (hm:P.follows .mixedOrders=true) (hX:X.Ok) (h:wpc P X k c tm hp b (maskK hp.length keep (thenK (fun tm hp b=>WR Ev c n ⟨tm,hp,b⟩ Q) fun e tm hp b=>Q e ⟨tm,hp,b⟩))):WR Ev c (n+1) ⟨tm,hp,b⟩ Q:=
 W.ofMask hm hX h fun e tm hp b hK=>by cases e<;>exact hK
def maskT {β:Type} (keep:List Nat) (K:Exit→List AV→List Blk→β→Prop):Exit→List AV→List Blk→β→Prop:=fun e tm hp b=>K e (AAv9 keep 0 tm) hp b
theorem WR.ofMaskT {X:CX Ev.β} {n k:Nat} (keep:List Nat) (hm:P.follows .mixedOrders=true) (hX:X.Ok) (h:wpc P X k c tm hp b (maskT keep (thenK (fun tm hp b=>WR Ev c n ⟨tm,hp,b⟩ Q) fun e tm hp b=>Q e ⟨tm,hp,b⟩))):WR Ev c (n+1) ⟨tm,hp,b⟩ Q:=
 W.castPost (AAw9 hm hX h fun e tm hp b hK=>⟨AAv9 keep 0 tm,hp,AAb9 _ tm 0,LeH.refl _,by cases e<;>exact hK⟩)
theorem ACu9 (n:Nat) (xs:List (List Dv)):lows n (flatA xs)=true:=by
 unfold flatA;induction xs.flatten with
 |nil=>rfl
 |cons d l ih=>simp only [List.map_cons,lows,AV.low,Bool.true_and];exact ih
def AZa9 (Ev:Env P) (tm:List AV) (Q:Exit→St Ev.β→Prop) (K:List Blk→Ev.β→Prop):Exit→List Blk→Ev.β→Prop
 | .normal,hp,b=>K hp b
 | .ret,hp,b=>Q .ret ⟨tm,hp,b⟩
 | .exit id,hp,b=>Q (.exit id) ⟨tm,hp,b⟩
 | .goto t,hp,b=>Q (.goto t) ⟨tm,hp,b⟩
 |_,_,_=>False
def takeK {β:Type} (n:Nat) (K:Exit→List Blk→β→Prop):Exit→List AV→List Blk→β→Prop:=fun e _ hp b=>BIf (lowHp n hp) (K e (hp.take n) b) False
def wpcY {β:Type} (P:Program) (X:CX β) (k:Nat) (ps:Array Tmp) (assign body:Code) (tm:List AV) (args:List AV) (hp:List Blk) (b:β) (K:Exit→List AV→List Blk→β→Prop):Prop:=
 wpc P X k assign (AOn9 (tm.map Zdx) ps (args.map Zdx)) hp b fun e tm' hp' b'=>BIf (match e with| .normal=>true|_=>false) (wpc P X k body tm' hp' b' K) False
theorem YBody.ofWp {X:CX Ev.β} {k n:Nat} {ps:Array Tmp} {assign body:Code} {args:List AV} {Qy:Bool→List Blk×Ev.β×Option Exit→Prop} {K:Exit→List AV→List Blk→Ev.β→Prop} (hm:P.follows .mixedOrders=true) (hX:X.Ok) (hl:args.length=ps.size)
 (h:wpcY P X k ps assign body tm args hp b K) (hK:∀e tm' hp' b',K e tm' hp' b'→lowHp n hp'=true∧match e with
  | .normal=>Qy true (hp'.take n,b',none)
  | .ret=>Qy false (hp'.take n,b',some .ret)
  | .exit id=>Qy false (hp'.take n,b',some (.exit id))
  | .goto t=>Qy false (hp'.take n,b',some (.goto t))
  |_=>False) (hn:hp.length≤n:=by first|exact Nat.le_refl _|decide|simp):YBody Ev tm ps assign body n (hp,b,none) args Qy:=by
 refine ⟨rfl,hl,AAw9 hm hX h fun e tm' hp' b' h1=> ?_⟩;obtain ⟨he,h1⟩:=h1.elim';refine ⟨by cases e<;>simp at he ⊢,AAw9 hm hX h1 fun e tm' hp' b' h2=>⟨n,hn,hK e tm' hp' b' h2⟩⟩
theorem YList.step {X:CX Ev.β} {k n:Nat} {ps:Array Tmp} {assign body:Code} {x:List AV} {xs:List (List AV)} (hm:P.follows .mixedOrders=true) (hX:X.Ok) (hl:x.length=ps.size)
 (h:wpcY P X k ps assign body tm x hp b (takeK n (AZa9 Ev tm Q fun hp' b'=>YList (YBody Ev tm ps assign body n) xs (hp',b',none) (AJw9 tm Q)))) (hn:hp.length≤n:=by first|exact Nat.le_refl _|decide|simp):YList (YBody Ev tm ps assign body n) (x::xs) (hp,b,none) (AJw9 tm Q):=by
 simp only [YList];refine YBody.ofWp (k:=k) (hn:=hn) hm hX hl h fun e tm' hp' b' h1=> ?_;obtain ⟨h1,h2⟩:=h1.elim';refine ⟨h1, ?_⟩;cases e with
 |normal=>simpa [AZa9] using h2
 |ret=>simpa [AJw9,AZa9] using h2
 |exit id=>simpa [AJw9,AZa9] using h2
 |goto t=>simpa [AJw9,AZa9] using h2
 |panic ch=>exact h2.elim
 |outgrown=>exact h2.elim
theorem PCall.ofFn {f n:Nat} {fn:Func} {args:List AV} {x:AV} {T:List (Nat×(List AV→(AV→Prop)→Prop))} {U:List (Nat×(List AV→List Blk→(AV→List Blk→Prop)→Prop))} {u:Bool} (hm:P.follows .mixedOrders=true)
 (hT:AAc9 P T) (hS:AAl9 P U) (hf:P.funcs[f]? =some fn) (hn:(fn.name== "runtime.NumGoroutine")=false) (hargs:args.map Zdx=args)
 (h:∀(Ev:Env P) (b:Ev.β),wpFn P ⟨T,U,wlW Ev,Ev.Y,u⟩ n fn args b (fun y _=>y=x)):PCall P f args x:=by
 cases hb:fn.body with
 |some c=>exact PCall.ofWp hm hT hS hf hb hn hargs fun Ev b=>by have:=h Ev b;unfold wpFn at this;rw [hb] at this;exact this
 | none=>
  have:=h (Env.none P none) ();unfold wpFn at this;rw [hb] at this;exact this.elim
inductive LeT:AV→AV→Prop
 |base {x y:AV} (h:LeA x y):LeT x y
 |tup {xs ys:List AV} (h:LeL xs ys):LeT (.tup xs) (.tup ys)
 |agg {xs ys:List AV} (h:LeL xs ys):LeT (.agg xs) (.agg ys)
theorem LeL.rvs {xs ys:List AV} (h:LeL xs ys):∀(vs:List Value),xs.length=vs.length→(∀(i:Nat) (c:AV) (v:Value),xs[i]? =some c→vs[i]? =some v→RV S w m yv c v)→∀(i:Nat) (c:AV) (v:Value),ys[i]? =some c→vs[i]? =some v→RV S w m yv c v:=by
 induction h with
 |nil=>intro vs _ _ i c v hc;simp at hc
 | cons h _ ih=>
  intro vs hl hr i c v hc hv;cases vs with
  |nil=>simp at hl
  | cons v0 vs=>
   cases i with
   |zero=>simp at hc hv;subst hc;subst hv;exact h.rv (hr 0 _ _ rfl rfl)
   |succ i=>simp at hc hv;exact ih vs (by simpa using hl) (fun i c v h1 h2=>hr (i+1) c v (by simpa using h1) (by simpa using h2)) i c v hc hv
theorem LeT.rv {x y:AV} {v:Value} (h:LeT x y) (hr:RV S w m yv x v):RV S w m yv y v:=by
 cases h with
 |base h=>exact h.rv hr
 | tup h=>
  cases hr with
  |tup hl hr=>exact .tup (h.len.trans hl) fun i c v h1 h2=>h.rvs _ (by rw [Array.length_toList];exact hl) (fun i c v h1 h2=>hr i c v h1 (by simpa using h2)) i c v h1 (by simpa using h2)
 | agg h=>
  cases hr with
  |agg hl hr=>exact .agg (h.len.trans hl) fun i c v h1 h2=>h.rvs _ (by rw [Array.length_toList];exact hl) (fun i c v h1 h2=>hr i c v h1 (by simpa using h2)) i c v h1 (by simpa using h2)
theorem PCall.ofWL {f:Nat} {fn:Func} {c:Code} {args:List AV} {x:AV} (hf:P.funcs[f]? =some fn) (hb:fn.body=some c) (hn:(fn.name== "runtime.NumGoroutine")=false) (hargs:args.map Zdx=args)
 (hW:∀(Ev:Env P) (b:Ev.β),W Ev c ⟨ACg9 fn args, [],b⟩ (AMt9 P fn fun y hp _=>∃z,SealD hp y z∧LeT z x)):PCall P f args x:=by
 refine ⟨AGj9 hf hb hn,fun S w vs hl hvs hlt hgl=> ?_⟩;have hrel:Rel S (fun b _=>b<w.heap.size) none w [] (args.zip vs++([]++AAa9 [] [])) [] []:=by
  have h0:Rel S (fun b _=>b<w.heap.size) none w [] [] [] []:=⟨fun b i h=>h.elim (hlt b i) id,by simp,List.Pairwise.nil,by simp,by simp,by simp,rfl,rfl,by simp,hgl⟩;have:=h0.pushAll (args.zip vs) (fun p hp=>by
   obtain ⟨j,hj⟩:=Zav.1 hp;rw [List.getElem?_zip_eq_some] at hj;refine ⟨hvs j p.1 p.2 hj.1 hj.2, ?_⟩;have hp1:p.1.view=p.1:=by
    have h1:(args.map Zdx)[j]? =some p.1.view:=by simp [hj.1]
    rw [hargs,hj.1] at h1;exact (Option.some.inj h1).symm
   obtain ⟨p1,p2⟩:=p;simp only at hp1;rw [←hp1];exact AAq9 _ _)
  simpa [AAa9] using this
 refine ADk9 (Ev:=Env.none P none) (V:=fun _ _=>False) (b:=(():Unit)) hf hb hl (hW (Env.none P _) (():Unit)) hrel (fun _ _ h=>h.elim) trivial (Nat.zero_le _) ?_;intro y S' X' V' w' m' hv' hp' v b' hyz htr0 hxs hm hr _ hyv;obtain ⟨z,hy,hz⟩:=hyz;have htr:Tr (fun b i=>¬b<w.heap.size) (fun _=>False) S w S' w':=htr0.mono (fun b i h=>h.resolve_right id) (fun _ h=>h);refine ⟨v,AAz9 S' m',rfl,AEz9 htr (fun b i hb hz=>hz hb) (fun _ h=>h),fun b i hs=> .inl (htr.up b i hs),fun b i hs=> ?_,(hz.rv (ADb9 (B:= []) (T:=AAz9 S' m') (by simpa using hr) (fun _ _ h=> .inl h) hy (fun g _ p hp i hi=> .inr ⟨g,p,hp,rfl,hi⟩) hyv)).view⟩;rcases hs with hs|⟨g,p,hg,rfl,hi⟩
 ·rcases htr.new b i hs with h1|h1|h1
  ·exact .inl h1
  ·exact .inr ⟨Zdf h1,htr.lt b i hs⟩
  ·exact .inr ⟨h1,htr.lt b i hs⟩
 ·have hr':Rel S' X' none w' m' (([]:List (AV×Value))++AAa9 hp' hv') hp' hv':=hr;obtain ⟨blk,us,cur,e,g1,g2,g3,g4,g5,g6,g7,g8,g9,g10,g11,g12⟩:=hr'.block hg;have hlt':p.b<w'.heap.size:=(Zal.1 g8).1;cases hfr:blk.fro with
  | true=>
   have hs:=g12 hfr i hi;rcases htr.new _ _ hs with h1|h1|h1
   ·exact .inl h1
   ·exact .inr ⟨Zdf h1,hlt'⟩
   ·exact .inr ⟨h1,hlt'⟩
  | false=>
   refine .inr ⟨Zdf fun hb=> ?_,hlt'⟩;exact (g11 hfr i).2 (hxs _ _ hb)
theorem CX.Ok.ofWl {Ev:Env P} {T:List (Nat×(List AV→(AV→Prop)→Prop))} {U:List (Nat×(List AV→List Blk→(AV→List Blk→Prop)→Prop))} {u:Bool} {wl:WLT Ev.β} (hT:AAc9 P T) (hS:AAl9 P U)
 (hwl:∀c tm hp b K,wl c tm hp b K→W Ev c ⟨tm,hp,b⟩ (fun e s=>K e s.tm s.hp s.b)):CX.Ok Ev ⟨T,U,wl,Ev.Y,u⟩:=⟨hT,hS,hwl,rfl⟩
theorem PCall.ofFnW {f n:Nat} {fn:Func} {args:List AV} {x:AV} {T:List (Nat×(List AV→(AV→Prop)→Prop))} {U:List (Nat×(List AV→List Blk→(AV→List Blk→Prop)→Prop))} {u:Bool} (wl:∀β:Type,WLT β) (hm:P.follows .mixedOrders=true)
 (hT:AAc9 P T) (hS:AAl9 P U) (hwl:∀(Ev:Env P) c tm hp b K,wl Ev.β c tm hp b K→W Ev c ⟨tm,hp,b⟩ (fun e s=>K e s.tm s.hp s.b)) (hf:P.funcs[f]? =some fn) (hn:(fn.name== "runtime.NumGoroutine")=false) (hargs:args.map Zdx=args)
 (h:∀(Ev:Env P) (b:Ev.β),wpFn P ⟨T,U,wl Ev.β,Ev.Y,u⟩ n fn args b (fun y _=>y=x)):PCall P f args x:=by
 cases hb:fn.body with
 | some c=>
  refine PCall.ofWS hf hb hn hargs fun Ev b=> ?_;have h1:=h Ev b;unfold wpFn at h1;rw [hb] at h1;refine AAw9 hm (CX.Ok.ofWl hT hS (hwl Ev)) h1 fun e tm hp b hK=> ?_;obtain ⟨g1,ys,g2,z,g3,rfl⟩:=AFq9 hK;exact ⟨g1,ys,g2,g3⟩
 | none=>
  have:=h (Env.none P none) ();unfold wpFn at this;rw [hb] at this;exact this.elim
theorem PCall.ofFnL {f n:Nat} {fn:Func} {args:List AV} {x:AV} {T:List (Nat×(List AV→(AV→Prop)→Prop))} {U:List (Nat×(List AV→List Blk→(AV→List Blk→Prop)→Prop))} {u:Bool} (wl:∀β:Type,WLT β) (hm:P.follows .mixedOrders=true)
 (hT:AAc9 P T) (hS:AAl9 P U) (hwl:∀(Ev:Env P) c tm hp b K,wl Ev.β c tm hp b K→W Ev c ⟨tm,hp,b⟩ (fun e s=>K e s.tm s.hp s.b)) (hf:P.funcs[f]? =some fn) (hn:(fn.name== "runtime.NumGoroutine")=false) (hargs:args.map Zdx=args)
 (h:∀(Ev:Env P) (b:Ev.β),wpFn P ⟨T,U,wl Ev.β,Ev.Y,u⟩ n fn args b (fun y _=>LeT y x)):PCall P f args x:=by
 cases hb:fn.body with
 | some c=>
  refine PCall.ofWL hf hb hn hargs fun Ev b=> ?_;have h1:=h Ev b;unfold wpFn at h1;rw [hb] at h1;refine AAw9 hm (CX.Ok.ofWl hT hS (hwl Ev)) h1 fun e tm hp b hK=> ?_;exact AFq9 hK
 | none=>
  have:=h (Env.none P none) ();unfold wpFn at this;rw [hb] at this;exact this.elim
def fnKS {β:Type} (P:Program) (fn:Func) (R:AV→List Blk→β→Prop):Exit→List AV→List Blk→β→Prop:=fun e tm hp b=>
 BIf (match e with| .ret=>true| .normal=>true|_=>false) (match resAs P hp tm fn.results.toList with
  |some ys=>R (resV ys) hp b
  |none=>False) False
def wpFnS {β:Type} (P:Program) (X:CX β) (n:Nat) (fn:Func) (args:List AV) (b:β) (R:AV→List Blk→β→Prop):Prop:=
 match fn.body with
 |some c=>wpc P X n c (ACg9 fn args) [] b (fnKS P fn R)
 |none=>False
theorem AEw9 {fn:Func} {R:AV→List Blk→Ev.β→Prop} {e:Exit} {tm:List AV} {hp:List Blk} {b:Ev.β} (h:fnKS P fn R e tm hp b):AMt9 P fn R e ⟨tm,hp,b⟩:=by
 unfold fnKS at h;obtain ⟨he,h⟩:=h.elim';split at h
 ·rename_i ys hys;refine ⟨?_,ys,hys,h⟩;cases e<;>simp at he ⊢
 ·exact h.elim
theorem FCall.ofFnW {f n:Nat} {fn:Func} {args:List AV} {x:AV} {hp1:List Blk} {T:List (Nat×(List AV→(AV→Prop)→Prop))} {U:List (Nat×(List AV→List Blk→(AV→List Blk→Prop)→Prop))} {u:Bool} (wl:∀β:Type,WLT β) (hm:P.follows .mixedOrders=true)
 (hT:AAc9 P T) (hS:AAl9 P U) (hwl:∀Ev:Env P,∀c tm hp b K,wl Ev.β c tm hp b K→W Ev c ⟨tm,hp,b⟩ (fun e s=>K e s.tm s.hp s.b)) (hf:P.funcs[f]? =some fn) (hn:(fn.name== "runtime.NumGoroutine")=false) (hargs:args.map Zdx=args) (hfro:hp1.all (fun b=> !b.fro)=true)
 (h:∀(Ev:Env P) (b:Ev.β),wpFnS P ⟨T,U,wl Ev.β,Ev.Y,u⟩ n fn args b fun y hp _=>y=x∧hp=hp1):FCall P f args x hp1:=by
 cases hb:fn.body with
 | none=>
  have:=h (Env.none P none) (():Unit);simp only [wpFnS,hb] at this
 | some c=>
  refine FCall.ofW hf hb hn hargs hfro fun Ev b=> ?_;have h1:=h Ev b;simp only [wpFnS,hb] at h1;exact AAw9 hm (CX.Ok.ofWl hT hS (hwl Ev)) h1 fun e tm hp b hK=>AEw9 hK
inductive LeX:AV→AV→Prop where
 |le {x y:AV} (h:LeT x y):LeX x y
 |full (k:Nat) (xs:List (List Dv)):LeX (.full k xs) (.d (.sl k xs))
theorem LeX.rv {S:Pr} {w:World} {m:List MB} {yv:Option Nat} {x y:AV} {v:Value} (h:LeX x y) (hr:RV S w m yv x v):RV S w m yv y v:=by
 cases h with
 |le h=>exact h.rv hr
 | full=>cases hr with
  |full h=>exact .d h
end
inductive Ty where
 |int (k:IntKind)
 |bool
 |str
 |sl (r:List Ty)
mutual
inductive HasTy:Ty→Dv→Prop
 |int (k:IntKind) (n:Int) (h:(Lit.int k n).wf=true):HasTy (.int k) (.s (.int k n))
 |bool (b:Bool):HasTy .bool (.s (.bool b))
 |str (s:ByteArray) (h:s.size≤maxLen):HasTy .str (.s (.string s))
 |sl (r:List Ty) (xs:List (List Dv)) (hl:xs.length≤maxLen) (h:∀row,row∈xs→AGu9 r row):HasTy (.sl r) (.sl r.length xs)
inductive AGu9:List Ty→List Dv→Prop
 |nil:AGu9 [] []
 |cons {t:Ty} {x:Dv} {ts:List Ty} {xs:List Dv} (h:HasTy t x) (hs:AGu9 ts xs):AGu9 (t::ts) (x::xs)
end
def BFo9 (P:Program) (g:TypeId→Option (List Ty)):List Field→Nat→Option (List Ty)
 | [],_=>some []
 | f ::fs,off=>if f.offset=off then match g f.type with
  |some r=>if P.cellsOf f.type=r.length then (BFo9 P g fs (off+r.length)).map (r++ ·) else none
  |none=>none
  else none
def flat (P:Program):Nat→TypeId→Option (List Ty)
 |0,_=>none
 | n+1,t=>match P.underlying t with
  |some .bool=>some [.bool]
  |some (.int k)=>some [.int k]
  |some .string=>some [.str]
  | some (.slice e)=>match flat P n e with
   |some r=>if P.cellsOf e=r.length then some [.sl r] else none
   |none=>none
  | some (.struct fs)=>match BFo9 P (flat P n) fs.toList 0 with
   |some r=>if P.cellsOf t=r.length then some r else none
   |none=>none
  | some (.array k e)=>match flat P n e with
   |some r=>if P.cellsOf e=r.length∧P.cellsOf t=k*r.length then some (Zap k r).flatten else none
   |none=>none
  |_=>none
inductive Rw (S:Pr) (w:World):List Ty→List Dv→List Value→Prop
 |nil:Rw S w [] [] []
 |cons {t:Ty} {x:Dv} {v:Value} {ts:List Ty} {xs:List Dv} {vs:List Value} (h:HasTy t x) (hr:DR S w x v) (h1:v.oneCell'=true) (hs:Rw S w ts xs vs):Rw S w (t::ts) (x::xs) (v::vs)
section
variable {S:Pr} {w:World}
theorem Rw.tys {ts:List Ty} {xs:List Dv} {vs:List Value} (h:Rw S w ts xs vs):AGu9 ts xs:=by
 induction h with
 |nil=>exact .nil
 |cons h _ _ _ ih=>exact .cons h ih
theorem Rw.len {ts:List Ty} {xs:List Dv} {vs:List Value} (h:Rw S w ts xs vs):xs.length=ts.length∧vs.length=ts.length:=by
 induction h with
 |nil=>exact ⟨rfl,rfl⟩
 |cons _ _ _ _ ih=>simp [ih.1,ih.2]
theorem Rw.append {ts ts':List Ty} {xs xs':List Dv} {vs vs':List Value} (h:Rw S w ts xs vs) (h':Rw S w ts' xs' vs'):Rw S w (ts++ts') (xs++xs') (vs++vs'):=by
 induction h with
 |nil=>exact h'
 |cons h hr h1 _ ih=>exact .cons h hr h1 ih
theorem Rw.at {ts:List Ty} {xs:List Dv} {vs:List Value} (h:Rw S w ts xs vs):∀(j:Nat) (c:Dv),xs[j]? =some c→∃v,vs[j]? =some v∧DR S w c v∧v.oneCell'=true:=by
 induction h with
 |nil=>intro j c h;simp at h
 | cons h hr h1 _ ih=>
  intro j c hc;cases j with
  |zero=>simp at hc;subst hc;exact ⟨_,rfl,hr,h1⟩
  |succ j=>simpa using ih j c (by simpa using hc)
end
theorem BDu9 {α:Type} {Q:Nat→α→Prop}:∀(n:Nat),(∀i,i<n→∃x,Q i x)→∃xs:List α,xs.length=n∧∀(i:Nat) (x:α),xs[i]? =some x→Q i x
 |0,_=>⟨[],rfl,fun i x h=>by simp at h⟩
 | n+1,h=>by
  obtain ⟨xs,h1,h2⟩:=BDu9 n fun i hi=>h i (by omega);obtain ⟨x,hx⟩:=h n (by omega);refine ⟨xs++ [x],by simp [h1],fun i y hy=> ?_⟩;rcases Nat.lt_or_ge i n with hi|hi
  ·rw [Zar (by omega)] at hy;exact h2 i y hy
  ·rw [Zas (by omega)] at hy;cases hk:i - xs.length with
   | zero=>
    rw [hk] at hy;simp at hy;subst hy;have:i=n:=by omega
    subst this;exact hx
   |succ k=>rw [hk] at hy;simp at hy
theorem BGp9 {w:World} {a:Addr} {v:Value} (h:w.cell? a=some v):a.block<w.heap.size:=by
 unfold World.cell? at h;cases hh:w.heap[a.block]? with
 |none=>rw [hh] at h;cases h
 |some o=>exact (Zal.1 hh).1
section
variable {H:Type} {enc:TypeId×Value→H} {P:Program} {w:World} {spare:Nat→Bool} {held:Bool}
theorem ANk9 {g:TypeId→Option (List Ty)} {fuel:Nat} (ih:∀(t:TypeId) (cs:List Value) (x:DataW H×List MemPlace) (tys:List Ty),g t=some tys→DataW.trod enc P w 0 spare held fuel t cs=some x→∃row,Rw (fun b _=>b<w.heap.size) w tys row cs):
 ∀(fs:List Field) (off:Nat) (cs:List Value) (tys:List Ty),BFo9 P g fs off=some tys→
 (∀f,f∈fs→∃x,DataW.trod enc P w 0 spare held fuel f.type ((cs.drop f.offset).take (P.cellsOf f.type))=some x)→cs.length=off+tys.length→
 ∃row,Rw (fun b _=>b<w.heap.size) w tys row (cs.drop off)
 | [],off,cs,tys,h,_,hl=>by
  rw [BFo9] at h;cases h;rw [List.drop_eq_nil_of_le (by simp at hl;omega)];exact ⟨[], .nil⟩
 | f::fs,off,cs,tys,h,hf,hl=>by
  rw [BFo9] at h;split at h<;>try (cases h;done)
  rename_i ho;split at h<;>try (cases h;done)
  rename_i r hr;split at h<;>try (cases h;done)
  rename_i hc;simp only [Zao] at h;obtain ⟨tys',h1,rfl⟩:=h;obtain ⟨x,hx⟩:=hf f (Zbv ..);obtain ⟨row,h2⟩:=ih f.type _ _ r hr hx;obtain ⟨row',h3⟩:=ANk9 ih fs (off+r.length) cs tys' h1 (fun f hm=>hf f (Zbx _ hm)) (by simp at hl;omega);refine ⟨row++row', ?_⟩;have e:cs.drop off=(cs.drop off).take r.length++cs.drop (off+r.length):=by
   rw [←List.drop_drop,List.take_append_drop]
  rw [e];rw [ho,hc] at h2;exact h2.append h3
theorem AIe9:∀(n fuel:Nat) (t:TypeId) (cs:List Value) (x:DataW H×List MemPlace) (tys:List Ty),flat P n t=some tys→DataW.trod enc P w 0 spare held fuel t cs=some x→
 ∃row,Rw (fun b _=>b<w.heap.size) w tys row cs
 |0,_,_,_,_,_,h,_=>by simp [flat] at h
 | n+1,fuel,t,cs,x,tys,h,ht=>by
  rw [flat] at h;split at h
  ·rename_i hu;cases h;obtain ⟨b,rfl,rfl⟩:=DataW.trod_bool hu ht;exact ⟨_, .cons (.bool b) (.s _) rfl .nil⟩
  ·rename_i k hu;cases h;obtain ⟨m,rfl,rfl,hw⟩:=DataW.trod_int hu ht;exact ⟨_, .cons (.int k m hw) (.s _) rfl .nil⟩
  ·rename_i hu;cases h;obtain ⟨s,rfl,rfl,hw⟩:=DataW.trod_string hu ht;exact ⟨_, .cons (.str s hw) (.s _) rfl .nil⟩
  ·rename_i e hu;split at h<;>try (cases h;done)
   rename_i r hr;split at h<;>try (cases h;done)
   rename_i hc;cases h;rcases DataW.trod_slice hu ht with ⟨rfl,rfl⟩|⟨a,len,cap,elems,rest,m,rfl,rfl,rfl,_,hlc,hcm,hel,hes,_,_⟩
   ·exact ⟨[.sl r.length []], .cons (.sl r [] (Nat.zero_le _) (fun row hr=>by cases hr)) (.nil _) rfl .nil⟩
   ·have hrow:∀i,i<len→∃row,∃cs':List Value,(∀j,j<r.length→w.cell? ((a.add (i*r.length)).add j)=cs'[j]?)∧cs'.length=r.length∧Rw (fun b _=>b<w.heap.size) w r row cs':=by
     intro i hi;have h1:=hes i hi;have h2:∃y,elems[i]? =some y:=⟨elems[i]'(by omega),by simp⟩;obtain ⟨y,hy⟩:=h2;rw [hy,hc] at h1;simp only [Option.bind_eq_some_iff] at h1;obtain ⟨cs',h3,h4⟩:=h1;obtain ⟨row,h5⟩:=AIe9 n m e cs' y r hr h4;have h6:=World.cells?_some h3;exact ⟨row,cs',h6.2.2,h6.2.1,h5⟩
    obtain ⟨xs,hxl,hxs⟩:=BDu9 len hrow;refine ⟨[.sl r.length xs], .cons (.sl r xs (by omega) fun row hm=> ?_) ?_ rfl .nil⟩
    ·obtain ⟨i,hi⟩:=Zav.1 hm;obtain ⟨_,_,_,h⟩:=hxs i row hi;exact h.tys
    ·subst hxl;have key:∀(i:Nat) (row:List Dv) (j:Nat) (c:Dv),xs[i]? =some row→row[j]? =some c→a.spot=none∧∃v,w.cell? ⟨a.block,a.off+(i*r.length+j),none⟩=some v∧DR (fun b _=>b<w.heap.size) w c v∧v.oneCell'=true:=by
      intro i row j c hi hj;have hil:i<xs.length:=(Zac.1 hi).1;obtain ⟨cs',g1,g2,g3⟩:=hxs i row hi;obtain ⟨v,g4,g5,g6⟩:=g3.at j c hj;have hjl:j<r.length:=by
       have:=(Zac.1 hj).1;have:=g3.len.1;omega
      have g7:=g1 j hjl;rw [g4] at g7;have hsp:a.spot=none:=by
       cases hx0:xs[0]? with
       |none=>rw [List.getElem?_eq_none_iff] at hx0;omega
       | some row0=>
        obtain ⟨cs0,e1,e2,e3⟩:=hxs 0 row0 hx0;have e4:=e1 0 (by omega);have e5:∃v0,cs0[0]? =some v0:=⟨cs0[0]'(by omega),by simp⟩;obtain ⟨v0,e5⟩:=e5;rw [e5] at e4;have:=World.cell?_spot e4;simpa [Addr.add] using this
      refine ⟨hsp,v, ?_,g5,g6⟩;obtain ⟨ab,ao,ar⟩:=a;simp only at hsp;subst hsp;rw [WideShapes.add_plain,WideShapes.add_plain] at g7;rw [←g7,Nat.add_assoc]
     refine .sl r.length xs a cap (fun i j=>(w.cell? ⟨a.block,a.off+(i*r.length+j),none⟩).getD default) ?_ ?_ ?_ ?_ ?_ hlc ?_
     ·intro i row hi;obtain ⟨_,_,_,h⟩:=hxs i row hi;exact h.len.1
     ·intro i row j c hi hj;obtain ⟨_,v,hv,_⟩:=key i row j c hi hj;exact BGp9 (a:=⟨a.block,a.off+(i*r.length+j),none⟩) hv
     ·intro i row j c hi hj;obtain ⟨_,v,hv,_⟩:=key i row j c hi hj;rw [hv];rfl
     ·intro i row j c hi hj;obtain ⟨_,v,hv,h,_⟩:=key i row j c hi hj;rw [hv];exact h
     ·intro i row j c hi hj;obtain ⟨_,v,hv,_,h⟩:=key i row j c hi hj;rw [hv];exact h
     ·cases hx:xs with
      |nil=>exact .inr (.inr rfl)
      | cons row0 xs0=>
       cases hrl:r with
       |nil=>exact .inr (.inl rfl)
       | cons r0 rs=>
        left;have h0:xs[0]? =some row0:=by rw [hx];rfl
        obtain ⟨_,_,_,h⟩:=hxs 0 row0 h0;have hl:=h.len.1;have:∃c,row0[0]? =some c:=⟨row0[0]'(by rw [hl,hrl];simp),by simp⟩;obtain ⟨c,hc'⟩:=this;exact (key 0 row0 0 c h0 hc').1
  ·rename_i fs hu;split at h<;>try (cases h;done)
   rename_i r hr;split at h<;>try (cases h;done)
   rename_i hc;cases h;obtain ⟨xs,m,rfl,rfl,hl,hxl,hf⟩:=DataW.trod_struct hu ht;have:=ANk9 (fun t cs x tys h1 h2=>AIe9 n m t cs x tys h1 h2) fs.toList 0 cs tys hr (fun f hm=>by
    obtain ⟨i,hi⟩:=Zav.1 hm;have h1:=hf i f (by simpa using hi);have hil:i<fs.size:=by
     have:=(Zac.1 hi).1;simpa using this
    exact ⟨xs[i]'(by omega),by rw [h1];simp⟩) (by omega)
   simpa using this
  ·rename_i k e hu;split at h<;>try (cases h;done)
   rename_i r hr;split at h<;>try (cases h;done)
   rename_i hc;cases h;obtain ⟨xs,m,rfl,rfl,hl,hxl,hf⟩:=DataW.trod_array hu ht;have key:∀k',k'≤k→∃row,Rw (fun b _=>b<w.heap.size) w (Zap k' r).flatten row (cs.take (k'*r.length)):=by
    intro k';induction k' with
    |zero=>intro _;exact ⟨[],by simpa using Rw.nil⟩
    | succ k' ih=>
     intro hk;obtain ⟨row,h1⟩:=ih (by omega);have h2:=hf k' (by omega);rw [hc.1] at h2;have h3:xs[k']? =some (xs[k']'(by omega)):=by simp
     rw [h3] at h2;obtain ⟨row2,h4⟩:=AIe9 n m e _ _ r hr h2;refine ⟨row++row2, ?_⟩;have e1:(Zap (k'+1) r).flatten=(Zap k' r).flatten++r:=by
      rw [List.replicate_succ'];simp
     have e2:cs.take ((k'+1)*r.length)=cs.take (k'*r.length)++(cs.drop (k'*r.length)).take r.length:=by
      rw [Nat.succ_mul,List.take_add]
     rw [e1,e2];exact h1.append h4
   obtain ⟨row,h1⟩:=key k (Nat.le_refl _);refine ⟨row, ?_⟩
   rwa [List.take_of_length_le (by omega)] at h1
  ·cases h
end
end Go.Proofs.YthcbbmnjikhihaaGreat.Am
namespace Go.Proofs.YthcbbmnjikhihaaGreat.Am
open Go Go.RowKit Go.WideShapes Go.ChangeShapes
open AV renaming view → Zdx
open _root_.Array renaming getElem?_eq_some_iff → Zal
open Bool renaming and_eq_true → Zai, not_eq_true' → Zcb, or_eq_true → Zeb
open Go.Builtin renaming zeroCells → Zbi
open List renaming all_eq_true → Zbd, getElem?_append_left → Zar, getElem?_append_right → Zas, getElem?_eq_getElem → Zbb, getElem?_eq_some_iff → Zac, getElem?_take → Zay, mem_append → Zbu, mem_cons → Zbw, mem_cons_of_mem → Zbx, mem_cons_self → Zbv, mem_iff_getElem? → Zav, mem_map → Zbg, mem_of_getElem? → Zbn, replicate → Zap
open Nat renaming beq → Zgm, eq_of_beq_eq_true → Zbz, le_of_not_lt → Zdf
open Option renaming map_eq_some_iff → Zao
open Go.Region renaming ready → Zec
open AV (bad)
set_option linter.unusedVariables false
section
variable {H:Type} {enc:TypeId×Value→H} {P:Program}
theorem AJj9 (hl:laidOutB P=true) {W W':World} {sp:Nat→Bool} (hb:Below W.heap.size W W'):∀ {ts:List TypeId} {vs:List Value} {ds:List (DataW H)} {ps:List MemPlace},
 (ts.all fun t=>P.readableRec t&&decide (t<P.types.size))=true→DataW.TrodAll enc P W 0 (fun _=>true) true ts vs ds ps→(∀x∈ps,x.block<W.heap.size)→(∀x∈ps,sp x.block=true)→
 DataW.TrodAll enc P W' 0 sp true ts vs ds ps
 | [], [], [],ps,_,h,_,_=>h
 | t::ts,v::vs,d::ds,ps,hr,h,hlt,hsp=>by
  obtain ⟨p,q,h1,h2,rfl⟩:=h;simp only [List.all_cons,Zai,decide_eq_true_eq] at hr;exact ⟨p,q,WideElems.Trod_stays hl hr.1.1 hr.1.2 h1 (fun x hx=>hb.same (hlt x (by simp [hx]))) (fun x hx=>hsp x (by simp [hx])),
   AJj9 hl hb hr.2 h2 (fun x hx=>hlt x (by simp [hx])) (fun x hx=>hsp x (by simp [hx])),rfl⟩
theorem ANd9 {W:World} {b:Nat} {sp:Nat→Bool} {hd:Bool}:∀ {ts:List TypeId} {vs:List Value} {ds:List (DataW H)} {ps:List MemPlace},DataW.TrodAll enc P W b sp hd ts vs ds ps→ds.length=ts.length
 | [], [], [],_,_=>rfl
 | t::ts,v::vs,d::ds,_,h=>by
  obtain ⟨p,q,_,h2,_⟩:=h;simp [ANd9 h2]
theorem BVk9 {f:Func} {s:ChangeSpec} {apart fresh handsOn again:Bool} {W W':World} {args:Array Value} {ds gs:List (DataW H)} {before:List MemPlace} {tb:TypeId}
 (hl:laidOutB P=true) (hvars:s.vars= []) (hres:f.resultTypes=#[tb]) (htb:P.underlying tb=some .bool)
 (hread:(f.params.toList.all fun t=>P.readableRec t&&decide (t<P.types.size))=true)
 (hfn:∀ds:List (DataW H),ds.length=f.params.size→s.fn H ds= {results:= [.lit (.bool true)],args:=ds})
 (hW:DataW.Whole enc P f.params.toList s.vars apart W args.toList ds gs before) (hb:Below W.heap.size W W'):
 s.post enc P f apart fresh handsOn again W args (.bool true) W':=by
 have hlt:∀p∈before,p.block<W.heap.size:=fun p hp=>hW.lt p hp;have hold:∀p∈before,(fun b=>decide (b<W.heap.size)) p.block=true:=fun p hp=>by simpa using hlt p hp
 have hW0:=hW;obtain ⟨p,q,hA,hV,rfl,hz,hn⟩:=hW0;rw [hvars] at hV;obtain ⟨rfl,rfl⟩:=trodVars_none hV;have hlen:ds.length=f.params.size:=by
  have:=ANd9 hA;simpa using this
 have hspec:=hfn ds hlen;simp only [List.append_nil] at*;have hargs:∀sp:Nat→Bool,(∀x∈p,sp x.block=true)→DataW.TrodAll enc P W' 0 sp true f.params.toList args.toList ds p:=
  fun sp hsp=>AJj9 hl hb hread hA hlt hsp
 have hr:∀(b:Nat) (sp:Nat→Bool) (hd:Bool),DataW.TrodAll enc P W' b sp hd f.resultTypes.toList ((Value.bool true).resultList f.resultTypes.size) [DataW.lit (.bool true)] []:=by
  intro b sp hd;rw [hres];exact trodAll_cons_mk (shut_bool htb _) trodAll_mk0
 refine ⟨ds, [],p, [],p, [],by simpa using hW, ?_, ?_, ?_, ?_,fun _=> ?_⟩
 ·simp only [List.append_nil,hspec];exact hr _ _ _
 ·simp only [List.append_nil,hspec];exact hargs _ hold
 ·simp only [List.append_nil,hspec,hvars];exact rfl
 ·exact World.keptBut_mono (fun x hx=>⟨hx, .inr (.inl hx)⟩) (hb.frame (· ∈p))
 ·refine ⟨ok_one hres rfl (okWide_bool_mk htb _), [DataW.lit (.bool true)]++ds, [],p,⟨p, [], ?_, ?_,by simp, ?_, ?_⟩,fun x hx _=>hx⟩
  ·have:=trodAll_append (hargs (fun _=>true) (fun _ _=>rfl)) (hr 0 (fun _=>true) true);simpa using this
  ·rw [hvars];rfl
  ·intro b off hp;rw [hb.frozen (hlt _ hp)];exact hz b off hp
  ·intro ha;exact hn ha
inductive ArgsR (S:Pr) (w:World):List AV→List Value→Prop
 |nil:ArgsR S w [] []
 |cons {x:AV} {v:Value} {xs:List AV} {vs:List Value} (h:RV S w [] none x v) (hs:ArgsR S w xs vs):ArgsR S w (x::xs) (v::vs)
theorem ArgsR.at {S:Pr} {w:World} {xs:List AV} {vs:List Value} (h:ArgsR S w xs vs):xs.length=vs.length∧∀(i:Nat) (x:AV) (v:Value),xs[i]? =some x→vs[i]? =some v→RV S w [] none x v:=by
 induction h with
 |nil=>exact ⟨rfl,fun i x v h=>by simp at h⟩
 | cons h _ ih=>
  refine ⟨by simp [ih.1],fun i x v h1 h2=> ?_⟩;cases i with
  |zero=>simp at h1 h2;subst h1;subst h2;exact h
  |succ i=>exact ih.2 i x v (by simpa using h1) (by simpa using h2)
abbrev AllOf (w:World):Pr:=fun b _=>b<w.heap.size
theorem BMc9 {fid:Nat} {f:Func} {s:ChangeSpec} {apart fresh handsOn again:Bool} {W:World} {args:Array Value} {ds gs:List (DataW H)} {before:List MemPlace} {tb:TypeId}
 (hl:laidOutB P=true) (hvars:s.vars= []) (hres:f.resultTypes=#[tb]) (htb:P.underlying tb=some .bool)
 (hread:(f.params.toList.all fun t=>P.readableRec t&&decide (t<P.types.size))=true)
 (hfn:∀ds:List (DataW H),ds.length=f.params.size→s.fn H ds= {results:= [.lit (.bool true)],args:=ds})
 (hW:DataW.Whole enc P f.params.toList s.vars apart W args.toList ds gs before)
 (avs:List AV) (ha:ArgsR (AllOf W) W avs args.toList) (hp:PCall P fid avs (.d (.s (.bool true)))) (hgl:Glob (AllOf W) W):
 Calls P fid args W fun e W'=>∃v,e= .returned v∧s.post enc P f apart fresh handsOn again W args v W':=by
 obtain ⟨h1,h2⟩:=ha.at;have:=callsIn_wide.1 (hp.2 (AllOf W) W args.toList h1 h2 (fun b i h=>h) hgl);refine Calls.mono this ?_;rintro e W' ⟨v,S',rfl,hb,_,_,hr⟩;refine ⟨v,rfl, ?_⟩;have hv:v= .bool true:=by
  have:Zdx (.d (.s (.bool true)))= .d (.s (.bool true)):=rfl;rw [this] at hr;cases hr with
  |d h=>cases h;rfl
 subst hv;exact BVk9 hl hvars hres htb hread hfn hW hb
theorem BOk9 {W:World} {b0 n:Nat} {r:Reach} {sp:Nat→Bool} {hd:Bool} {t e:TypeId} {v:Value} {d:DataW H} {ps:List MemPlace} {ty:Ty} (hu:P.underlying t=some (.slice e)) (hf:flat P n t=some [ty])
 (hval:Value.okWide P W r b0 t v) (h:DataW.Trod enc P W 0 sp hd t v d ps):∃x,HasTy ty x∧RV (AllOf W) W [] none (.d x) v:=by
 obtain ⟨fuel,h⟩:=h;obtain ⟨a,len,cap,rfl⟩:=okWide_slice hu hval;obtain ⟨row,hr⟩:=AIe9 n fuel t _ _ _ hf h;cases hr with
 |cons h hr h1 hs=>exact ⟨_,h, .d hr⟩
theorem AXz9 {W:World} {b0:Nat} {r:Reach} {sp:Nat→Bool} {hd:Bool} {t:TypeId} {k:IntKind} {v:Value} {d:DataW H} {ps:List MemPlace} (hu:P.underlying t=some (.int k))
 (hval:Value.okWide P W r b0 t v) (h:DataW.Trod enc P W 0 sp hd t v d ps):∃x,(Lit.int k x).wf=true∧RV (AllOf W) W [] none (.d (.s (.int k x))) v:=by
 obtain ⟨x,rfl,_,_,hw⟩:=open_int hu hval h;exact ⟨x,hw, .d (.s _)⟩
theorem BRj9 {W:World} {b0 n:Nat} {r:Reach} {sp:Nat→Bool} {hd:Bool} {t:TypeId} {v:Value} {d:DataW H} {ps:List MemPlace} {tys:List Ty} (hu:(∃fs,P.underlying t=some (.struct fs))∨∃k e,P.underlying t=some (.array k e)) (hf:flat P n t=some tys)
 (hval:Value.okWide P W r b0 t v) (h:DataW.Trod enc P W 0 sp hd t v d ps):∃row,AGu9 tys row∧RV (AllOf W) W [] none (.agg (row.map .d)) v:=by
 obtain ⟨fuel,h⟩:=h;have:∃cs,v= .agg cs:=by
  unfold Value.okWide at hval;rcases hu with ⟨fs,hu⟩|⟨k,e,hu⟩<;>rw [hu] at hval<;>obtain ⟨cs,h,_⟩:=hval<;>exact ⟨cs,h⟩
 obtain ⟨cs,rfl⟩:=this;obtain ⟨row,hr⟩:=AIe9 n fuel t _ _ _ hf h;refine ⟨row,hr.tys, .agg ?_ fun i c v h1 h2=> ?_⟩
 ·have:=hr.len;simp [Value.cells] at this;simp;omega
 ·simp only [List.getElem?_map,Zao] at h1;obtain ⟨x,h1,rfl⟩:=h1;obtain ⟨v',h3,h4,_⟩:=hr.at i x h1;simp [Value.cells] at h3;rw [h2] at h3;cases h3;exact .d h4
end
end Go.Proofs.YthcbbmnjikhihaaGreat.Am
namespace Go.Proofs.YthcbbmnjikhihaaGreat.Am
open Go Go.RowKit Go.Proofs Go.ChangeShapes Go.WideShapes Go.ChangeAt
open AV renaming view → Zdx
open _root_.Array renaming getElem?_eq_some_iff → Zal
open Bool renaming and_eq_true → Zai, not_eq_true' → Zcb, or_eq_true → Zeb
open Go.Builtin renaming zeroCells → Zbi
open List renaming all_eq_true → Zbd, getElem?_append_left → Zar, getElem?_append_right → Zas, getElem?_eq_getElem → Zbb, getElem?_eq_some_iff → Zac, getElem?_take → Zay, mem_append → Zbu, mem_cons → Zbw, mem_cons_of_mem → Zbx, mem_cons_self → Zbv, mem_iff_getElem? → Zav, mem_map → Zbg, mem_of_getElem? → Zbn, replicate → Zap
open Nat renaming beq → Zgm, eq_of_beq_eq_true → Zbz, le_of_not_lt → Zdf
open Option renaming map_eq_some_iff → Zao
open Go.Region renaming ready → Zec
open AV (bad)
set_option linter.unusedVariables false
section
end
end Go.Proofs.YthcbbmnjikhihaaGreat.Am
namespace Go.Proofs.YthcbbmnjikhihaaGreat.Am
open Go Go.RowKit
open AV renaming view → Zdx
open _root_.Array renaming getElem?_eq_some_iff → Zal
open Bool renaming and_eq_true → Zai, not_eq_true' → Zcb, or_eq_true → Zeb
open Go.Builtin renaming zeroCells → Zbi
open List renaming all_eq_true → Zbd, getElem?_append_left → Zar, getElem?_append_right → Zas, getElem?_eq_getElem → Zbb, getElem?_eq_some_iff → Zac, getElem?_take → Zay, mem_append → Zbu, mem_cons → Zbw, mem_cons_of_mem → Zbx, mem_cons_self → Zbv, mem_iff_getElem? → Zav, mem_map → Zbg, mem_of_getElem? → Zbn, replicate → Zap
open Nat renaming beq → Zgm, eq_of_beq_eq_true → Zbz, le_of_not_lt → Zdf
open Option renaming map_eq_some_iff → Zao
open Go.Region renaming ready → Zec
open AV (bad)
set_option linter.unusedVariables false
set_option linter.unusedSimpArgs false
section
end
inductive LeV:AV→AV→Prop
 |rfl {x:AV}:LeV x x
 |bad {x:AV}:LeV x .bad
 |nil {x:AV} {k:Nat} (h:AAi9 x=true):LeV x (.d (.sl k []))
 |full {k:Nat} {xs:List (List Dv)}:LeV (.full k xs) (.d (.sl k xs))
 |agg {xs ys:List AV} (hl:xs.length=ys.length) (h:∀(i:Nat) (x y:AV),xs[i]? =some x→ys[i]? =some y→LeV x y):LeV (.agg xs) (.agg ys)
 |tup {xs ys:List AV} (hl:xs.length=ys.length) (h:∀(i:Nat) (x y:AV),xs[i]? =some x→ys[i]? =some y→LeV x y):LeV (.tup xs) (.tup ys)
inductive LeVs:List AV→List AV→Prop
 |nil:LeVs [] []
 |cons {x y:AV} {xs ys:List AV} (h:LeV x y) (hs:LeVs xs ys):LeVs (x::xs) (y::ys)
theorem LeVs.len {xs ys:List AV} (h:LeVs xs ys):xs.length=ys.length:=by
 induction h with
 |nil=>rfl
 |cons _ _ ih=>simp [ih]
theorem LeVs.at {xs ys:List AV} (h:LeVs xs ys):∀(i:Nat) (x y:AV),xs[i]? =some x→ys[i]? =some y→LeV x y:=by
 induction h with
 |nil=>intro i x y h;simp at h
 | cons h _ ih=>
  intro i x y h1 h2;cases i with
  |zero=>simp at h1 h2;subst h1;subst h2;exact h
  |succ i=>exact ih i x y (by simpa using h1) (by simpa using h2)
theorem LeVs.refl:∀xs:List AV,LeVs xs xs
 | []=> .nil
 |_::xs=> .cons .rfl (LeVs.refl xs)
theorem LeV.aggs {xs ys:List AV} (h:LeVs xs ys):LeV (.agg xs) (.agg ys):= .agg h.len h.at
theorem LeV.tups {xs ys:List AV} (h:LeVs xs ys):LeV (.tup xs) (.tup ys):= .tup h.len h.at
theorem LeV.rv {S:Pr} {w:World} {m:List MB} {yv:Option Nat} {x y:AV} (h:LeV x y):∀ {v:Value},RV S w m yv x v→RV S w m yv y v:=by
 induction h with
 |rfl=>exact fun h=>h
 |bad=>exact fun _=> .bad
 |nil h=>exact fun hr=>(LeA.nilSl h).rv hr
 |full=>exact fun hr=>(LeX.full _ _).rv hr
 | agg hl h ih=>
  intro v hr;cases hr with
  | agg hl' hr=>
   refine .agg (hl.symm.trans hl') fun i c v h1 h2=> ?_;have hi:=(Zac.1 h1).1;exact ih i _ c (Zbb (by omega)) h1 (hr i _ v (Zbb (by omega)) h2)
 | tup hl h ih=>
  intro v hr;cases hr with
  | tup hl' hr=>
   refine .tup (hl.symm.trans hl') fun i c v h1 h2=> ?_;have hi:=(Zac.1 h1).1;exact ih i _ c (Zbb (by omega)) h1 (hr i _ v (Zbb (by omega)) h2)
section
variable {P:Program}
theorem PCall.leArgsV {f:Nat} {args args':List AV} {x:AV} (h:LeVs args args') (hp:PCall P f args' x):PCall P f args x:=by
 refine ⟨hp.1,fun S w vs hl hvs hlt hgl=>hp.2 S w vs (h.len▸hl) (fun i y v h1 h2=> ?_) hlt hgl⟩;have hi:=(Zac.1 h1).1;have hi':i<args.length:=h.len▸hi;exact (h.at i _ y (Zbb hi') h1).rv (hvs i _ v (Zbb hi') h2)
theorem PCall.ofWV {f:Nat} {fn:Func} {c:Code} {args:List AV} {x:AV} (hf:P.funcs[f]? =some fn) (hb:fn.body=some c) (hn:(fn.name== "runtime.NumGoroutine")=false) (hargs:args.map Zdx=args)
 (hW:∀(Ev:Env P) (b:Ev.β),W Ev c ⟨ACg9 fn args, [],b⟩ (AMt9 P fn fun y hp _=>∃z,SealD hp y z∧LeV z x)):PCall P f args x:=by
 refine ⟨AGj9 hf hb hn,fun S w vs hl hvs hlt hgl=> ?_⟩;have hrel:Rel S (fun b _=>b<w.heap.size) none w [] (args.zip vs++([]++AAa9 [] [])) [] []:=by
  have h0:Rel S (fun b _=>b<w.heap.size) none w [] [] [] []:=⟨fun b i h=>h.elim (hlt b i) id,by simp,List.Pairwise.nil,by simp,by simp,by simp,rfl,rfl,by simp,hgl⟩;have:=h0.pushAll (args.zip vs) (fun p hp=>by
   obtain ⟨j,hj⟩:=Zav.1 hp;rw [List.getElem?_zip_eq_some] at hj;refine ⟨hvs j p.1 p.2 hj.1 hj.2, ?_⟩;have hp1:p.1.view=p.1:=by
    have h1:(args.map Zdx)[j]? =some p.1.view:=by simp [hj.1]
    rw [hargs,hj.1] at h1;exact (Option.some.inj h1).symm
   obtain ⟨p1,p2⟩:=p;simp only at hp1;rw [←hp1];exact AAq9 _ _)
  simpa [AAa9] using this
 refine ADk9 (Ev:=Env.none P none) (V:=fun _ _=>False) (b:=(():Unit)) hf hb hl (hW (Env.none P _) (():Unit)) hrel (fun _ _ h=>h.elim) trivial (Nat.zero_le _) ?_;intro y S' X' V' w' m' hv' hp' v b' hyz htr0 hxs hm hr _ hyv;obtain ⟨z,hy,hz⟩:=hyz;have htr:Tr (fun b i=>¬b<w.heap.size) (fun _=>False) S w S' w':=htr0.mono (fun b i h=>h.resolve_right id) (fun _ h=>h);refine ⟨v,AAz9 S' m',rfl,AEz9 htr (fun b i hb hz=>hz hb) (fun _ h=>h),fun b i hs=> .inl (htr.up b i hs),fun b i hs=> ?_,(hz.rv (ADb9 (B:= []) (T:=AAz9 S' m') (by simpa using hr) (fun _ _ h=> .inl h) hy (fun g _ p hp i hi=> .inr ⟨g,p,hp,rfl,hi⟩) hyv)).view⟩;rcases hs with hs|⟨g,p,hg,rfl,hi⟩
 ·rcases htr.new b i hs with h1|h1|h1
  ·exact .inl h1
  ·exact .inr ⟨Zdf h1,htr.lt b i hs⟩
  ·exact .inr ⟨h1,htr.lt b i hs⟩
 ·have hr':Rel S' X' none w' m' (([]:List (AV×Value))++AAa9 hp' hv') hp' hv':=hr;obtain ⟨blk,us,cur,e,g1,g2,g3,g4,g5,g6,g7,g8,g9,g10,g11,g12⟩:=hr'.block hg;have hlt':p.b<w'.heap.size:=(Zal.1 g8).1;cases hfr:blk.fro with
  | true=>
   have hs:=g12 hfr i hi;rcases htr.new _ _ hs with h1|h1|h1
   ·exact .inl h1
   ·exact .inr ⟨Zdf h1,hlt'⟩
   ·exact .inr ⟨h1,hlt'⟩
  | false=>
   refine .inr ⟨Zdf fun hb=> ?_,hlt'⟩;exact (g11 hfr i).2 (hxs _ _ hb)
theorem PCall.ofFnV {f n:Nat} {fn:Func} {args:List AV} {x:AV} {T:List (Nat×(List AV→(AV→Prop)→Prop))} {U:List (Nat×(List AV→List Blk→(AV→List Blk→Prop)→Prop))} {u:Bool} (wl:∀β:Type,WLT β) (hm:P.follows .mixedOrders=true)
 (hT:AAc9 P T) (hS:AAl9 P U) (hwl:∀(Ev:Env P) c tm hp b K,wl Ev.β c tm hp b K→W Ev c ⟨tm,hp,b⟩ (fun e s=>K e s.tm s.hp s.b)) (hf:P.funcs[f]? =some fn) (hn:(fn.name== "runtime.NumGoroutine")=false) (hargs:args.map Zdx=args)
 (h:∀(Ev:Env P) (b:Ev.β),wpFn P ⟨T,U,wl Ev.β,Ev.Y,u⟩ n fn args b (fun y _=>LeV y x)):PCall P f args x:=by
 cases hb:fn.body with
 | some c=>
  refine PCall.ofWV hf hb hn hargs fun Ev b=> ?_;have h1:=h Ev b;unfold wpFn at h1;rw [hb] at h1;refine AAw9 hm (CX.Ok.ofWl hT hS (hwl Ev)) h1 fun e tm hp b hK=> ?_;obtain ⟨g1,ys,g2,z,g3,g4⟩:=AFq9 hK;exact ⟨g1,ys,g2,z,g3,g4⟩
 | none=>
  have:=h (Env.none P none) ();unfold wpFn at this;rw [hb] at this;exact this.elim
end
section
end
end Go.Proofs.YthcbbmnjikhihaaGreat.Am
namespace Go.Proofs.YthcbbmnjikhihaaGreat.Am
open Go Go.RowKit Go.Proofs
open AV renaming view → Zdx
open _root_.Array renaming getElem?_eq_some_iff → Zal
open Bool renaming and_eq_true → Zai, not_eq_true' → Zcb, or_eq_true → Zeb
open Go.Builtin renaming zeroCells → Zbi
open List renaming all_eq_true → Zbd, getElem?_append_left → Zar, getElem?_append_right → Zas, getElem?_eq_getElem → Zbb, getElem?_eq_some_iff → Zac, getElem?_take → Zay, mem_append → Zbu, mem_cons → Zbw, mem_cons_of_mem → Zbx, mem_cons_self → Zbv, mem_iff_getElem? → Zav, mem_map → Zbg, mem_of_getElem? → Zbn, replicate → Zap
open Nat renaming beq → Zgm, eq_of_beq_eq_true → Zbz, le_of_not_lt → Zdf
open Option renaming map_eq_some_iff → Zao
open Go.Region renaming ready → Zec
open AV (bad)
set_option linter.unusedVariables false
def BIt9 (b:List Int):List (List Dv):=b.map fun x=> [u8 x]
theorem AAx9 {x:Int} (h0: -9223372036854775808≤x) (h1:x<9223372036854775808):IntKind.wrap .i64 x=x:=by
 simp only [IntKind.wrap];simp [IntKind.signed,IntKind.bits];omega
theorem LeL.at {x y:AV} (pre post:List AV) (h:LeA x y):LeL (pre++x::post) (pre++y::post):=by
 induction pre with
 |nil=>exact .cons h (LeL.refl _)
 |cons a pre ih=>exact .cons .rfl ih
end Go.Proofs.YthcbbmnjikhihaaGreat.Am
namespace Go.Proofs.YthcbbmnjikhihaaGreat.Am
open Go Go.RowKit
open AV renaming view → Zdx
open _root_.Array renaming getElem?_eq_some_iff → Zal
open Bool renaming and_eq_true → Zai, not_eq_true' → Zcb, or_eq_true → Zeb
open Go.Builtin renaming zeroCells → Zbi
open List renaming all_eq_true → Zbd, getElem?_append_left → Zar, getElem?_append_right → Zas, getElem?_eq_getElem → Zbb, getElem?_eq_some_iff → Zac, getElem?_take → Zay, mem_append → Zbu, mem_cons → Zbw, mem_cons_of_mem → Zbx, mem_cons_self → Zbv, mem_iff_getElem? → Zav, mem_map → Zbg, mem_of_getElem? → Zbn, replicate → Zap
open Nat renaming beq → Zgm, eq_of_beq_eq_true → Zbz, le_of_not_lt → Zdf
open Option renaming map_eq_some_iff → Zao
open Go.Region renaming ready → Zec
open AV (bad)
set_option linter.unusedVariables false
inductive LeF:AV→AV→Prop
 |v {x y:AV} (h:LeV x y):LeF x y
 |nilFull {x:AV} {k:Nat} (h:AAi9 x=true):LeF x (.full k [])
theorem LeF.rfl {x:AV}:LeF x x:= .v .rfl
section
variable {P:Program} {S S' T V:Pr} {yv:Option Nat} {w w':World} {m m':List MB} {hp hp' hp1:List Blk} {hv':List (List Value)}
theorem LeF.rv {x y:AV} {v:Value} (h:LeF x y) (hr:RV S w m yv x v):RV S w m yv y v:=by
 cases h with
 |v h=>exact h.rv hr
 | nilFull h=>
  have:=AAp9 h hr;subst this;exact RV.full (xs:= []) (.nil _)
theorem FCall.ofWF {f:Nat} {fn:Func} {c:Code} {args:List AV} {x:AV} (hf:P.funcs[f]? =some fn) (hb:fn.body=some c) (hn:(fn.name== "runtime.NumGoroutine")=false) (hargs:args.map Zdx=args) (hfro:hp1.all (fun b=> !b.fro)=true)
 (hW:∀(Ev:Env P) (b:Ev.β),W Ev c ⟨ACg9 fn args, [],b⟩ (AMt9 P fn fun y hp _=>LeF y x∧hp=hp1)):FCall P f args x hp1:=by
 refine ⟨AGj9 hf hb hn,fun S w vs hl hvs hlt hgl=> ?_⟩;have hrel:Rel S (fun b _=>b<w.heap.size) none w [] (args.zip vs++([]++AAa9 [] [])) [] []:=by
  have h0:Rel S (fun b _=>b<w.heap.size) none w [] [] [] []:=⟨fun b i h=>h.elim (hlt b i) id,by simp,List.Pairwise.nil,by simp,by simp,by simp,rfl,rfl,by simp,hgl⟩;have:=h0.pushAll (args.zip vs) (fun p hp=>by
   obtain ⟨j,hj⟩:=Zav.1 hp;rw [List.getElem?_zip_eq_some] at hj;refine ⟨hvs j p.1 p.2 hj.1 hj.2, ?_⟩;have hp1:p.1.view=p.1:=by
    have h1:(args.map Zdx)[j]? =some p.1.view:=by simp [hj.1]
    rw [hargs,hj.1] at h1;exact (Option.some.inj h1).symm
   obtain ⟨p1,p2⟩:=p;simp only at hp1;rw [←hp1];exact AAq9 _ _)
  simpa [AAa9] using this
 refine ADk9 (Ev:=Env.none P none) (V:=fun _ _=>False) (b:=(():Unit)) hf hb hl (hW (Env.none P _) (():Unit)) hrel (fun _ _ h=>h.elim) trivial (Nat.zero_le _) ?_;intro y S' X' V' w' m' hv' hp' v b' hy htr0 hxs hm hr _ hyv;obtain ⟨hle,rfl⟩:=hy;have htr:Tr (fun b i=>¬b<w.heap.size) (fun _=>False) S w S' w':=htr0.mono (fun b i h=>h.resolve_right id) (fun _ h=>h);have hr':Rel S' X' none w' m' (AAa9 hp' hv') hp' hv':=by
  have h0:=hr;simp only [List.nil_append] at h0;exact h0
 refine ⟨v,S',m',hv',rfl,AEz9 htr (fun b i hb hz=>hz hb) (fun _ h=>h),htr.up,fun b i hs=> ?_,fun p hp=> ?_,(hr'.lessX hxs).cons (hle.rv hyv).view (AAq9 _ _)⟩
 ·rcases htr.new b i hs with h1|h1|h1
  ·exact .inl h1
  ·exact .inr ⟨Zdf h1,htr.lt b i hs⟩
  ·exact .inr ⟨h1,htr.lt b i hs⟩
 ·obtain ⟨g,hg⟩:=Zav.1 hp;have hr2:Rel S' X' none w' m' (([]:List (AV×Value))++AAa9 hp' hv') hp' hv':=hr';obtain ⟨blk,us,cur,e,g1,g2,g3,g4,g5,g6,g7,g8,g9,g10,g11,g12⟩:=hr2.block hg;have hfr:blk.fro=false:=by
   have:=Zbd.1 hfro blk (Zbn g1);simpa using this
  exact Zdf fun hb=>(g11 hfr 0).2 (hxs _ _ hb)
theorem FCall.ofFnF {f n:Nat} {fn:Func} {args:List AV} {x:AV} {hp1:List Blk} {T:List (Nat×(List AV→(AV→Prop)→Prop))} {U:List (Nat×(List AV→List Blk→(AV→List Blk→Prop)→Prop))} {u:Bool} (wl:∀β:Type,WLT β) (hm:P.follows .mixedOrders=true)
 (hT:AAc9 P T) (hS:AAl9 P U) (hwl:∀Ev:Env P,∀c tm hp b K,wl Ev.β c tm hp b K→W Ev c ⟨tm,hp,b⟩ (fun e s=>K e s.tm s.hp s.b)) (hf:P.funcs[f]? =some fn) (hn:(fn.name== "runtime.NumGoroutine")=false) (hargs:args.map Zdx=args) (hfro:hp1.all (fun b=> !b.fro)=true)
 (h:∀(Ev:Env P) (b:Ev.β),wpFnS P ⟨T,U,wl Ev.β,Ev.Y,u⟩ n fn args b fun y hp _=>LeF y x∧hp=hp1):FCall P f args x hp1:=by
 cases hb:fn.body with
 | none=>
  have:=h (Env.none P none) (():Unit);simp only [wpFnS,hb] at this
 | some c=>
  refine FCall.ofWF hf hb hn hargs hfro fun Ev b=> ?_;have h1:=h Ev b;simp only [wpFnS,hb] at h1;exact AAw9 hm (CX.Ok.ofWl hT hS (hwl Ev)) h1 fun e tm hp b hK=>AEw9 hK
theorem AAl9.cons {P:Program} {k:Nat} {f:List AV→List Blk→(AV→List Blk→Prop)→Prop} {T:List (Nat×(List AV→List Blk→(AV→List Blk→Prop)→Prop))} (h:∀args hp K,f args hp K→∃x hp',SCall P k args hp x hp'∧K x hp') (hT:AAl9 P T):AAl9 P ((k,f)::T):=by
 intro j g hj;simp only [List.lookup] at hj;split at hj
 ·rename_i he;have:j=k:=by simpa using he
  subst this;cases hj;exact h
 ·exact hT j g hj
end
def blkG (cs:List AV) (v:Nat):Blk:=⟨cs,false,true,v⟩
def ATa9 (P:Program) (f k:Nat):Prop:=∀xs:List (List Dv),xs.length≤1000000→FCall P f [.d (.sl k xs)] (if xs.isEmpty then .full k [] else .gref 0 0 xs.length k) (if xs.isEmpty then [] else [blkG (flatA xs) 0])
theorem LeH.at {p q:List AV} {f g:Bool} {v:Nat} (pre post:List Blk) (h:LeL p q):LeH (pre++⟨p,f,g,v⟩::post) (pre++⟨q,f,g,v⟩::post):=by
 induction pre with
 |nil=>exact .cons h (LeH.refl _)
 |cons a pre ih=>obtain ⟨c,x,y,z⟩:=a;exact .cons (LeL.refl _) ih
def plain1:AV→Bool
 | .d (.s _)=>true
 |_=>false
def AZb9:AV→Bool
 | .d (.s _)=>true
 | .tup cs=>cs.all plain1
 |_=>false
section
variable {P:Program} {S S' X:Pr} {yv yv':Option Nat} {w w':World} {m m':List MB} {B:List (AV×Value)} {hp:List Blk} {hv:List (List Value)}
theorem RV.plain1 {x:AV} {v:Value} (hx:plain1 x=true) (h:RV S w m yv x v):RV S' w' m' yv' x v:=by
 cases h with
 | d h=>cases h with
  |s v=>exact .d (.s v)
  |sl=>cases hx
  |nil=>cases hx
  |pt=>cases hx
  |fn=>cases hx
 |_=>cases hx
theorem RV.plain {x:AV} {v:Value} (hx:AZb9 x=true) (h:RV S w m yv x v):RV S' w' m' yv' x v:=by
 cases h with
 | d h=>cases h with
  |s v=>exact .d (.s v)
  |sl=>cases hx
  |nil=>cases hx
  |pt=>cases hx
  |fn=>cases hx
 | tup hl h=>
  rename_i cs vs;simp only [AZb9,Zbd] at hx;exact .tup hl fun i c v h1 h2=>(h i c v h1 h2).plain1 (hx c (Zbn h1))
 |_=>cases hx
theorem BEn9 {x:AV} {v:Value} (hx:AZb9 x=true):ownB (x,v)=none:=by
 cases x<;>first|rfl|cases hx
theorem BCp9 {x:AV} (hx:AZb9 x=true):x.view=x:=by
 cases x<;>first|rfl|cases hx
theorem PCall.borrow {f:Nat} {args args':List AV} {r:AV} (h:PCall P f args' r) (hr:AZb9 r=true) (hl':args.length=args'.length)
 (hs:∀(i:Nat) (c y:AV),args[i]? =some c→args'[i]? =some y→SealD hp c y):SCall P f args hp r hp:=by
 refine ⟨h.1,fun S X yv w m B hv vs hl hrel=> ?_⟩;have hr0:Rel S X yv w m (B++AAa9 hp hv) hp hv:=hrel.sub (List.sublist_append_right _ _);have hargs:∀(i:Nat) (x:AV) (v:Value),args'[i]? =some x→vs[i]? =some v→RV (AAz9 S m) w [] none x v:=by
  intro i x v h1 h2;have hi:i<args.length:=by rw [hl'];exact (Zac.1 h1).1
  have h3:args[i]? =some args[i]:=by simp [hi]
  have hm:(args[i],v)∈args.zip vs:=Zav.2 ⟨i,by rw [List.getElem?_zip_eq_some];exact ⟨h3,h2⟩⟩;exact ADb9 (B:=B) hr0 (fun _ _ h=> .inl h) (hs i _ _ h3 h1) (fun g _ p hp i hi=> .inr ⟨g,p,hp,rfl,hi⟩) (hrel.rv _ (List.mem_append_left _ hm))
 have hlt:∀b i,AAz9 S m b i→b<w.heap.size:=by
  rintro b i (hb|⟨g,p,hg,rfl,hi⟩)
  ·exact hrel.lt b i (.inl hb)
  ·exact hrel.mLt p (Zbn hg)
 have hgl:Glob (AAz9 S m) w:=fun g j v hv=>by
  obtain ⟨h1,h2,h3⟩:=hrel.gl g j v hv;exact ⟨.inl h1,h2,h3⟩
 refine CallsIn.mono (h.2 (AAz9 S m) w vs (by rw [←hl',hl]) hargs hlt hgl) ?_;rintro e w' ⟨v,S',rfl,hb,h1,h2,h3⟩;refine ⟨v,S,m,hv,rfl,Gs.below hrel hb ⟨fun _ _ h=>h,fun _ _ h=> .inl h⟩, ?_⟩;rw [BCp9 hr] at h3 ⊢;exact (hr0.below hb (fun _ _ h=>h) (fun _ _ h=> .inl h)).cons (h3.plain hr) (BEn9 hr)
end
def lendC (c:List AV→(AV→Prop)→Prop) (args:List AV) (hp:List Blk) (K:AV→List Blk→Prop):Prop:=
 AGc9 hp 200 args fun args'=>c args' fun x=>BIf (AZb9 x) (K x hp) False
theorem AFk9 {P:Program} {f:Nat} {c:List AV→(AV→Prop)→Prop} (hc:∀args K,c args K→∃x,PCall P f args x∧K x):
 ∀args hp K,lendC c args hp K→∃x hp',SCall P f args hp x hp'∧K x hp':=by
 intro args hp K h;obtain ⟨ys,hl,hs,h1⟩:=ABv9 h;obtain ⟨x,hx,h2⟩:=hc _ _ h1;obtain ⟨hpl,hK⟩:=h2.elim';exact ⟨x,hp,hx.borrow hpl hl hs,hK⟩
def SemV (x y:AV):Prop:=∀(S:Pr) (w:World) (m:List MB) (yv:Option Nat) (v:Value),RV S w m yv x v→RV S w m yv y v
theorem SemV.rfl {x:AV}:SemV x x:=fun _ _ _ _ _ h=>h
theorem SemV.ofLeV {x y:AV} (h:LeV x y):SemV x y:=fun _ _ _ _ _ hr=>h.rv hr
inductive SemVs:List AV→List AV→Prop
 |nil:SemVs [] []
 |cons {x y:AV} {xs ys:List AV} (h:SemV x y) (hs:SemVs xs ys):SemVs (x::xs) (y::ys)
theorem SemVs.len {xs ys:List AV} (h:SemVs xs ys):xs.length=ys.length:=by
 induction h with
 |nil=>rfl
 |cons _ _ ih=>simp [ih]
theorem SemVs.at {xs ys:List AV} (h:SemVs xs ys):∀(i:Nat) (x y:AV),xs[i]? =some x→ys[i]? =some y→SemV x y:=by
 induction h with
 |nil=>intro i x y h;simp at h
 | cons h _ ih=>
  intro i x y h1 h2;cases i with
  |zero=>simp at h1 h2;subst h1;subst h2;exact h
  |succ i=>exact ih i x y (by simpa using h1) (by simpa using h2)
theorem PCall.semArgs {P:Program} {f:Nat} {args args':List AV} {x:AV} (h:SemVs args args') (hp:PCall P f args' x):PCall P f args x:=by
 refine ⟨hp.1,fun S w vs hl hvs hlt hgl=>hp.2 S w vs (h.len▸hl) (fun i y v h1 h2=> ?_) hlt hgl⟩;have hi:=(Zac.1 h1).1;have hi':i<args.length:=h.len▸hi;exact h.at i _ y (Zbb hi') h1 _ _ _ _ _ (hvs i _ v (Zbb hi') h2)
def semC (c:List AV→(AV→Prop)→Prop) (args:List AV) (K:AV→Prop):Prop:=∃args':List AV,SemVs args args'∧c args' K
theorem CAw9 {P:Program} {f:Nat} {c:List AV→(AV→Prop)→Prop} (hc:∀args K,c args K→∃x,PCall P f args x∧K x):∀args K,semC c args K→∃x,PCall P f args x∧K x:=by
 rintro args K ⟨args',hl,h⟩;obtain ⟨x,hx,h2⟩:=hc _ _ h;exact ⟨x,hx.semArgs hl,h2⟩
inductive ATb9:Dv→Dv→Prop
 |rfl {c:Dv}:ATb9 c c
 |nil {k:Nat}:ATb9 (.s (.slice none 0 0)) (.sl k [])
inductive AHa9:List Dv→List Dv→Prop
 |nil:AHa9 [] []
 |cons {x y:Dv} {xs ys:List Dv} (h:ATb9 x y) (hs:AHa9 xs ys):AHa9 (x::xs) (y::ys)
inductive AJz9:List (List Dv)→List (List Dv)→Prop
 |nil:AJz9 [] []
 |cons {x y:List Dv} {xs ys:List (List Dv)} (h:AHa9 x y) (hs:AJz9 xs ys):AJz9 (x::xs) (y::ys)
theorem ATb9.dr {S:Pr} {w:World} {c d:Dv} {v:Value} (h:ATb9 c d) (hr:DR S w c v):DR S w d v:=by
 cases h with
 |rfl=>exact hr
 | nil=>cases hr with
  |s=>exact .nil _
theorem AHa9.len {xs ys:List Dv} (h:AHa9 xs ys):xs.length=ys.length:=by
 induction h with
 |nil=>rfl
 |cons _ _ ih=>simp [ih]
theorem AHa9.at {xs ys:List Dv} (h:AHa9 xs ys):∀(i:Nat) (y:Dv),ys[i]? =some y→∃x,xs[i]? =some x∧ATb9 x y:=by
 induction h with
 |nil=>intro i y h;simp at h
 | cons h _ ih=>
  intro i y h1;cases i with
  |zero=>simp at h1;subst h1;exact ⟨_,by simp,h⟩
  |succ i=>simpa using ih i y (by simpa using h1)
theorem AJz9.len {xs ys:List (List Dv)} (h:AJz9 xs ys):xs.length=ys.length:=by
 induction h with
 |nil=>rfl
 |cons _ _ ih=>simp [ih]
theorem AJz9.at {xs ys:List (List Dv)} (h:AJz9 xs ys):∀(i:Nat) (y:List Dv),ys[i]? =some y→∃x,xs[i]? =some x∧AHa9 x y:=by
 induction h with
 |nil=>intro i y h;simp at h
 | cons h _ ih=>
  intro i y h1;cases i with
  |zero=>simp at h1;subst h1;exact ⟨_,by simp,h⟩
  |succ i=>simpa using ih i y (by simpa using h1)
theorem AJz9.dr {S:Pr} {w:World} {k:Nat} {xs ys:List (List Dv)} {v:Value} (h:AJz9 xs ys) (hr:DR S w (.sl k xs) v):DR S w (.sl k ys) v:=by
 have hlen:=h.len;have two:∀(i:Nat) (row:List Dv) (j:Nat) (c:Dv),ys[i]? =some row→row[j]? =some c→∃row' c',xs[i]? =some row'∧row'[j]? =some c'∧ATb9 c' c:=by
  intro i row j c h1 h2;obtain ⟨row',g1,g2⟩:=h.at i row h1;obtain ⟨c',g3,g4⟩:=g2.at j c h2;exact ⟨row',c',g1,g3,g4⟩
 cases hr with
 | sl _ _ a cap vals hk hs hc hr h1 hcap hsp=>
  rw [hlen];refine .sl k ys a cap vals (fun i row g=> ?_) (fun i row j c g g'=> ?_) (fun i row j c g g'=> ?_) (fun i row j c g g'=> ?_) (fun i row j c g g'=> ?_) (hlen▸hcap) ?_
  ·obtain ⟨row',g1,g2⟩:=h.at i row g;rw [←g2.len];exact hk i row' g1
  ·obtain ⟨r',c',g1,g2,g3⟩:=two i row j c g g';exact hs i r' j c' g1 g2
  ·obtain ⟨r',c',g1,g2,g3⟩:=two i row j c g g';exact hc i r' j c' g1 g2
  ·obtain ⟨r',c',g1,g2,g3⟩:=two i row j c g g';exact g3.dr (hr i r' j c' g1 g2)
  ·obtain ⟨r',c',g1,g2,g3⟩:=two i row j c g g';exact h1 i r' j c' g1 g2
  ·rcases hsp with h'|h'|h'
   ·exact .inl h'
   ·exact .inr (.inl h')
   ·subst h';exact .inr (.inr (List.length_eq_zero_iff.1 (by rw [←hlen];rfl)))
 | nil=>
  have:ys= []:=List.length_eq_zero_iff.1 (by rw [←hlen];rfl);subst this;exact .nil k
theorem SemV.rows {k:Nat} {xs ys:List (List Dv)} (h:AJz9 xs ys):SemV (.full k xs) (.d (.sl k ys)):=by
 intro S w m yv v hr;cases hr with
 |full hd=>exact .d (h.dr hd)
open Go.Maps (Keyed)
open Go.WideElems (Fit rd rg pl)
open Go.ChangeMaps (setBlock)
abbrev MC:=List (Lit×AV)
structure MapC where
 b:Nat
 k:TypeId
 es:MC
def heldR (v:Value):Option (DataW Value×List MemPlace):=some (.held v, [])
inductive Ents (S:Pr) (w:World):MC→List (Lit×DataW Value)→Prop
 |nil:Ents S w [] []
 |cons {k:Lit} {x:AV} {v:Value} {es:MC} {L:List (Lit×DataW Value)} (h:RV S w [] none x v) (hc:x.closed=true) (hr:Ents S w es L):Ents S w ((k,x)::es) ((k, .held v)::L)
def insK (x:Lit×AV):MC→MC
 | []=> [x]
 |y::r=>if x.1.before y.1 then x::y::r else y::insK x r
def delK (k:Lit) (es:MC):MC:=es.filter fun p=> !p.1.sameKey k
def putK (k:Lit) (x:AV) (es:MC):MC:=insK (k,x) (delK k es)
def atK (k:Lit) (z:AV) (es:MC):AV:=match es.find? fun p=>p.1.sameKey k with|some p=>p.2|none=>z
def hasK (k:Lit) (es:MC):Bool:=es.any fun p=>p.1.sameKey k
section
variable {P:Program} {S S':Pr} {w w' w0:World} {es:MC} {L:List (Lit×DataW Value)}
theorem Ents.length (h:Ents S w es L):L.length=es.length:=by
 induction h with
 |nil=>rfl
 |cons _ _ _ ih=>simp [ih]
theorem Ents.mono (h:Ents S w es L) (hv:∀x v,RV S w [] none x v→RV S' w' [] none x v):Ents S' w' es L:=by
 induction h with
 |nil=>exact .nil
 |cons h hc _ ih=>exact .cons (hv _ _ h) hc ih
theorem Ents.ins (h:Ents S w es L) {k:Lit} {x:AV} {v:Value} (hx:RV S w [] none x v) (hc:x.closed=true):Ents S w (insK (k,x) es) (DataW.insert (k, .held v) L):=by
 induction h with
 |nil=>exact .cons hx hc .nil
 | cons h hc' hr ih=>
  simp only [insK,DataW.insert];split
  ·exact .cons hx hc (.cons h hc' hr)
  ·exact .cons h hc' ih
theorem Ents.del (h:Ents S w es L) (k:Lit):Ents S w (delK k es) (L.filter fun p=> !p.1.sameKey k):=by
 induction h with
 |nil=>exact .nil
 | cons h hc hr ih=>
  simp only [delK,List.filter_cons] at ih ⊢;split
  ·exact .cons h hc ih
  ·exact ih
theorem Ents.at (h:Ents S w es L) (k:Lit) {z:AV} {zv:Value} (hz:RV S w [] none z zv):∃v,(DataW.map L).atKey k (.held zv)= .held v∧RV S w [] none (atK k z es) v:=by
 induction h with
 |nil=>exact ⟨zv,rfl,hz⟩
 | @cons k' x v es L h hc hr ih=>
  simp only [DataW.atKey,atK,List.find?_cons] at ih ⊢;cases k'.sameKey k
  ·exact ih
  ·exact ⟨v,rfl,h⟩
theorem Ents.has (h:Ents S w es L) (k:Lit):Maps.has (DataW.map L) k=hasK k es:=by
 induction h with
 |nil=>rfl
 |cons h hc hr ih=>simp only [Maps.has,hasK,List.any_cons] at ih ⊢;rw [ih]
def MapIs (P:Program) (S:Pr) (w:World) (c:MapC):Prop:=∃L,w.ownsMap P c.k heldR c.b c.es.length (DataW.map L)∧Ents S w c.es L
theorem MapIs.obj {c:MapC} (h:MapIs P S w c):∃es cl,w.heap[c.b]? =some (Obj.map es cl):=by
 obtain ⟨L,⟨es,cl,h1,_⟩,_⟩:=h;exact ⟨es,cl,h1⟩
theorem MapIs.lt {c:MapC} (h:MapIs P S w c):c.b<w.heap.size:=by
 obtain ⟨es,cl,h1⟩:=h.obj;exact (Zal.1 h1).1
theorem MapIs.mono {c:MapC} (h:MapIs P S w c) (ho:∀es cl,w.heap[c.b]? =some (Obj.map es cl)→w'.heap[c.b]? =some (Obj.map es cl)) (hv:∀x v,RV S w [] none x v→RV S' w' [] none x v):MapIs P S' w' c:=by
 obtain ⟨L,⟨es,cl,h1,h2,h3,h4⟩,h5⟩:=h;exact ⟨L,⟨es,cl,ho _ _ h1,h2,h3,h4⟩,h5.mono hv⟩
theorem ARj9 {k:TypeId} {b n:Nat} (h:w.ownsMap P k heldR b n (DataW.map L)):w.ownsMap P k heldR b L.length (DataW.map L):=by
 obtain ⟨es,cl,h1,h2,h3,h4⟩:=h;cases h4;exact ⟨es,cl,h1,h2,by rw [Go.length_sorted];simp,rfl⟩
structure MapsE (P:Program) (N:Nat) (w0:World) (lent:List Nat) (β:List MapC) (S:Pr) (w:World):Prop where
 is:∀c∈β,MapIs P S w c
 nd:(β.map MapC.b).Nodup
 mine:∀c∈β,N≤c.b∨c.b∈lent
 kept:∀b o,b<N→b∉lent→AMy9 o=true→w0.heap[b]? =some o→w.heap[b]? =some o
 lt:∀b i,S b i→b<w.heap.size
theorem MapsE.tr {N:Nat} {lent:List Nat} {β:List MapC} {Z:Pr} (h:MapsE P N w0 lent β S w) (ht:Tr Z (fun _=>False) S w S' w'):MapsE P N w0 lent β S' w':=by
 have ho:∀b o,AMy9 o=true→w.heap[b]? =some o→w'.heap[b]? =some o:=fun b o hm h1=>(ht.objs b _ h1 (ALu9 hm)).resolve_right fun h=>h.elim (fun h=>h.1) fun h=>h.1;exact ⟨fun c hc=>(h.is c hc).mono (fun es cl h=>ho c.b _ rfl h) fun x v hx=>hx.tr ht,h.nd,h.mine,fun b o h1 h2 hm h3=>ho b o hm (h.kept b o h1 h2 hm h3),ht.lt⟩
theorem RV.putObj {x:AV} {v:Value} {d:Nat} {o o':Obj} (h:RV S w [] none x v) (hd:w.heap[d]? =some o) (ho:o.isCells=false) (hS:∀b i,S b i→b<w.heap.size):RV S (w.putObj d o') [] none x v:=
 h.tr0 (Z:=fun _ _=>False) (AHq9 hd ho hS)
theorem MapsE.putObj {N:Nat} {lent:List Nat} {β:List MapC} (h:MapsE P N w0 lent β S w) {d:Nat} {o:Obj} (o':Obj) (hd:w.heap[d]? =some o) (ho:o.isCells=false) (hm:AMy9 o=false):MapsE P N w0 lent β S (w.putObj d o'):=by
 have hk:∀b o1,AMy9 o1=true→w.heap[b]? =some o1→(w.putObj d o').heap[b]? =some o1:=fun b o1 hm1 h1=>by
  have hne:b≠d:=by rintro rfl;rw [hd] at h1;cases h1;rw [hm] at hm1;cases hm1
  rw [World.putObj_heap_other hne];exact h1
 exact ⟨fun c hc=>(h.is c hc).mono (fun es cl h=>hk c.b _ rfl h) fun x v hx=>hx.putObj hd ho h.lt,h.nd,h.mine,fun b o1 h1 h2 hm1 h3=>hk b o1 hm1 (h.kept b o1 h1 h2 hm1 h3),fun b i h1=>by simpa using h.lt b i h1⟩
def Env.mapped (P:Program) (yl:Option Nat) (N:Nat) (w0:World) (lent:List Nat) {γ:Type} (f:γ→List MapC):Env P:=
 { β:=γ,N:=N,yl:=yl,L:=fun x=>x=0,E:=fun g S _ w=>MapsE P N w0 lent (f g) S w,Y:=fun _ _ _=>False,Llt:=fun h=>by omega,Ymono:=fun h _=>h,
   stable:=fun h ht=>h.tr ht,stableO:=fun o' h _ hd ho hm=>h.putObj o' hd ho hm,yok:=fun h=>h.elim}
end
section
variable {P:Program} {S X V:Pr} {w w' w0:World} {Ev:Env P} {lo:Nat} {r:Option Nat} {m:List MB} {B:List (AV×Value)} {hv:List (List Value)} {s:RS} {a:Act} {yl:Option Nat} {N:Nat} {lent:List Nat} {γ:Type} {f:γ→List MapC} {o:Oper}
theorem Tie.putQ {b:Ev.β} (h:Tie Ev lo r S X V w m B hv s b a) (d:Option Tmp) {x:AV} {v:Value} (hx:RV S w [] none x v):Tie Ev lo r S X V w m B hv {tm:=putA s.tm d x.view,hp:=s.hp,pv:=pvPut s.pv d} b (a.put d v):=
 ⟨⟨by rw [AAs9,ADc9];exact h.rel.1,(h.rel.2.1.cons hx.opened.view (AAq9 _ _)).putTmp h.rel.1 d,ACh9 h.rel.2.2 d v⟩,h.sub,h.env,h.round,by rw [ACl9];exact h.marks,h.base⟩
theorem BKk9 (hS:∀b i,S b i→b<w.heap.size) {d:Nat} {es es':Array MapEntry} {cl cl':Nat} (hd:w.heap[d]? =some (Obj.map es cl)):Tr X (fun x=>x=0) S w S (w.putObj d (.map es' cl')):=by
 have h:=AHq9 (Z:=X) (o':= .map es' cl') hd rfl hS;refine ⟨rfl,rfl,rfl,h.size,h.cells,fun b o hb ho=> ?_,h.same,h.up,h.new,h.lt⟩;by_cases hbd:b=d
 ·subst hbd;rw [hd] at hb;cases hb;exact .inr (.inr ⟨rfl,_,World.putObj_heap_same (Zal.1 hd).1, .map es cl es' cl'⟩)
 ·rw [World.putObj_heap_other hbd];exact .inl hb
theorem Tie.putMap {b b':γ} (h:Tie (Env.mapped P yl N w0 lent f) lo r S X V w m B hv s b a) {d:Nat} {es es':Array MapEntry} {cl cl':Nat} (hd:w.heap[d]? =some (Obj.map es cl))
 (hE:MapsE P N w0 lent (f b') S (w.putObj d (.map es' cl'))):Tie (Env.mapped P yl N w0 lent f) lo r S X V (w.putObj d (.map es' cl')) m B hv s b' a:=by
 refine ⟨⟨h.rel.1,h.rel.2.1.putObj hd rfl,h.rel.2.2⟩,h.sub,hE,fun l0 hl0=> ?_, ?_,h.base.1,by simpa using h.base.2⟩
 ·obtain ⟨rc,h1⟩:=h.round l0 hl0;exact ⟨rc,ABl9 h1 (by rintro rfl;rw [hd] at h1;cases h1)⟩
 ·obtain ⟨bs,h1,h2,h3⟩:=h.marks;refine ⟨bs,h1,h2,fun b hb=>⟨(h3 b hb).1,ABl9 (h3 b hb).2 ?_⟩⟩;rintro rfl;have h4:=(h3 _ hb).2;rw [hd] at h4;cases h4
theorem ASc9 {g:γ} {c:MapC} {t e:TypeId} {mo xo:Operand} {ok:Bool} (hop:o.op= .lookup t mo xo ok) (hc:c∈f g) (hm:evalA s.tm mo= .d (.s (.map (some c.b)))) {key:Value} (hx:(evalA s.tm xo).toVal? =some key)
 (K:Keyed P c.k) (ht:P.underlying t=some (.map c.k e)) {kl:Lit} (hk:keyOf P c.k key=some kl) {z:AV} {zv:Value} (hz:∀w,(zeroValue e).run P w= .ok zv w) (hzv:∀S w,RV S w [] none z zv) (hzc:z.closed=true):
 EnvOk (Env.mapped P yl N w0 lent f) o s g fun s' g'=>s'= {tm:=putA s.tm o.dst (if ok then .tup [atK kl z c.es, .d (.s (.bool (hasK kl c.es)))] else atK kl z c.es).view,hp:=s.hp,pv:=pvPut s.pv o.dst}∧g'=g:=by
 intro lo r S X V w m B hv a K' Q h hK;obtain ⟨Ld,hown,hent⟩:=h.env.is c hc;have hev:=AAg9 h.rel;have hme:=ABh9 (x:=evalA s.tm mo) (by rw [hm];rfl) (hev mo);have hxe:=ABh9 hx (hev xo);obtain ⟨v,h1,h2⟩:=hent.at kl (hzv S w);have key':∃v,(Instr.lookup t (.map (some c.b)) key ok).run P w= .ok v w∧RV S w [] none (if ok then .tup [atK kl z c.es, .d (.s (.bool (hasK kl c.es)))] else atK kl z c.es) v:=by
  cases ok with
  | false=>
   obtain ⟨v',ps,h3,h4⟩:=hown.lookup K ht (hz w) (zd:= .held zv) (zp:= []) rfl hk;rw [h1] at h4;cases h4;exact ⟨v,h3,h2⟩
  | true=>
   obtain ⟨v',ps,h3,h4⟩:=hown.look_ok K ht (hz w) (zd:= .held zv) (zp:= []) rfl hk;rw [h1] at h4;cases h4;rw [hent.has] at h3;refine ⟨_,h3, .tup rfl fun i c' v' h5 h6=> ?_⟩
   match i with
   |0=>simp at h5 h6;subst h5 h6;exact h2
   |1=>simp at h5 h6;subst h5 h6;exact .d (.s _)
   |i+2=>simp at h5
 obtain ⟨v,h3,h4⟩:=key';refine AAm9 (w':=w) (v:=v) (nx:= .value v) (by rw [hop];intro _ h;cases h) ?_ (.inl rfl) ?_
 ·unfold execOp;simp only [hop,hme,hxe];simp [h3,Result.andThen]
 ·exact hK _ _ ⟨rfl,rfl⟩ S X V w m hv _ (Went.refl h.rel.slt) (MStep.refl m) (h.putQ o.dst h4)
theorem MapsE.turned {l1 l2:List MapC} {c c':MapC} (h:MapsE P N w0 lent (l1++c::l2) S w) (hb:c'.b=c.b) {es es':Array MapEntry} {cl cl':Nat} (hd:w.heap[c.b]? =some (Obj.map es cl))
 (hc:MapIs P S (w.putObj c.b (.map es' cl')) c'):MapsE P N w0 lent (l1++c'::l2) S (w.putObj c.b (.map es' cl')):=by
 have hnd:=h.nd;simp only [List.map_append,List.map_cons,List.nodup_append,List.nodup_cons,Zbg,Zbw] at hnd;obtain ⟨n1,⟨n2,n3⟩,n4⟩:=hnd;have ho:∀c1∈l1++c::l2,c1.b≠c.b→MapIs P S (w.putObj c.b (.map es' cl')) c1:=fun c1 h1 h2=>
  (h.is c1 h1).mono (fun es cl h3=>by rw [World.putObj_heap_other h2];exact h3) fun x v hx=>hx.putObj hd rfl h.lt
 refine ⟨fun c1 h1=> ?_, ?_,fun c1 h1=> ?_,fun b o1 h1 h2 hm1 h3=> ?_,fun b i h1=>by simpa using h.lt b i h1⟩
 ·simp only [Zbu,Zbw] at h1;rcases h1 with h1|rfl|h1
  ·exact ho c1 (by simp [h1]) fun h2=>n4 c1.b ⟨c1,h1,rfl⟩ c.b (.inl rfl) h2
  ·exact hc
  ·exact ho c1 (by simp [h1]) fun h2=>n2 ⟨c1,h1,h2⟩
 ·have:=h.nd;simpa [hb] using this
 ·simp only [Zbu,Zbw] at h1;rcases h1 with h1|rfl|h1
  ·exact h.mine c1 (by simp [h1])
  ·rw [hb];exact h.mine c (by simp)
  ·exact h.mine c1 (by simp [h1])
 ·have hne:b≠c.b:=by
   rintro rfl;rcases h.mine c (by simp) with h4|h4
   ·omega
   ·exact h2 h4
  rw [World.putObj_heap_other hne];exact h.kept b o1 h1 h2 hm1 h3
theorem AJo9 {g g':γ} {l1 l2:List MapC} {c:MapC} {t e:TypeId} {mo xo vo:Operand} (hop:o.op= .mapUpdate t mo xo vo) (hg:f g=l1++c::l2) (hm:evalA s.tm mo= .d (.s (.map (some c.b)))) {key:Value} (hx:(evalA s.tm xo).toVal? =some key)
 (K:Keyed P c.k) (ht:P.underlying t=some (.map c.k e)) {kl:Lit} (hk:keyOf P c.k key=some kl) (hn:c.es.length<maxLen) (hcl:(evalA s.tm vo).view.closed=true) (hg':f g'=l1++ {c with es:=putK kl (evalA s.tm vo).view c.es}::l2):
 EnvOk (Env.mapped P yl N w0 lent f) o s g fun s' g''=>s'= {tm:=putA s.tm o.dst (.d (.s undef)),hp:=s.hp,pv:=pvPut s.pv o.dst}∧g''=g':=by
 intro lo r S X V w m B hv a K' Q h hK;have hE:MapsE P N w0 lent (l1++c::l2) S w:=hg▸h.env;obtain ⟨Ld,hown,hent⟩:=hE.is c (by simp);have hev:=AAg9 h.rel;have hme:=ABh9 (x:=evalA s.tm mo) (by rw [hm];rfl) (hev mo);have hxe:=ABh9 hx (hev xo);have hve:RV S w [] none (evalA s.tm vo).view (a.eval vo):=(RV.view (hev vo)).closed hcl;obtain ⟨w',hrun,hown',es,cl,es',cl',hd,rfl⟩:=hown.store K ht hn hk (val:=a.eval vo) (d:= .held (a.eval vo)) (ps:= []) rfl;have hput:setBlock w c.b (.map es' cl')=w.putObj c.b (.map es' cl'):=rfl;rw [hput] at hrun hown';have hmi:MapIs P S (w.putObj c.b (.map es' cl')) {c with es:=putK kl (evalA s.tm vo).view c.es}:=by
  have hent':Ents S (w.putObj c.b (.map es' cl')) (putK kl (evalA s.tm vo).view c.es) (DataW.insert (kl, .held (a.eval vo)) (Ld.filter fun p=> !p.1.sameKey kl)):=
   ((hent.del kl).ins hve hcl).mono fun x v hx=>hx.putObj hd rfl hE.lt
  refine ⟨_, ?_,hent'⟩;have:=ARj9 hown'
  rwa [hent'.length] at this
 have hE':MapsE P N w0 lent (f g') S (w.putObj c.b (.map es' cl')):=hg'▸hE.turned (c':= {c with es:=putK kl (evalA s.tm vo).view c.es}) rfl hd hmi;refine AAm9 (w':=w.putObj c.b (.map es' cl')) (v:=undef) (nx:= .skip) (by rw [hop];intro _ h;cases h) ?_ (.inr ⟨rfl,rfl⟩) ?_
 ·unfold execOp;simp only [hop,hme,hxe];simp [hrun,Result.andThen]
 ·have hlt:=h.rel.slt;have htr:Tr (fun b i=>¬X b i∨V b i) (fun x=>x=0) S w S (w.putObj c.b (.map es' cl')):=BKk9 hlt hd;exact hK _ _ ⟨rfl,rfl⟩ S X V _ m hv _ ⟨htr,fun _ _ h=>h,fun _ _ h=> .inl h⟩ (MStep.refl m) ((h.putMap hd hE').putQ o.dst (x:= .d (.s undef)) (.d (.s _)))
theorem ANq9 {g:γ} {mk:Nat→γ} {t k:TypeId} (hop:o.op= .makeMap t none) (hmk:∀d,f (mk d)=⟨d,k, []⟩::f g):
 EnvOk (Env.mapped P yl N w0 lent f) o s g fun s' g'=>∃d,s'= {tm:=putA s.tm o.dst (.d (.s (.map (some d)))),hp:=s.hp,pv:=pvPut s.pv o.dst}∧g'=mk d:=by
 intro lo r S X V w m B hv a K' Q h hK;have hb:Below w.heap.size w (w.alloc (.map #[] 0)):=(Below.refl _ _).alloc (Nat.le_refl _) _;have hG:=Gs.below h.rel.2.1 hb ⟨fun _ _ h=>h,fun _ _ h=> .inl h⟩;have hrel:=h.rel.2.1.below hb (fun _ _ h=>h) (fun _ _ h=> .inl h);have h1:Tie (Env.mapped P yl N w0 lent f) lo r S X V (w.alloc (.map #[] 0)) m B hv s g a:=h.step hG ⟨h.rel.1,hrel,h.rel.2.2⟩ rfl;have hE:MapsE P N w0 lent (f g) S (w.alloc (.map #[] 0)):=h1.env;have hE0:MapsE P N w0 lent (f g) S w:=h.env;have hE':MapsE P N w0 lent (f (mk w.heap.size)) S (w.alloc (.map #[] 0)):=by
  rw [hmk];refine ⟨fun c hc=> ?_, ?_,fun c hc=> ?_,hE.kept,hE.lt⟩
  ·simp only [Zbw] at hc;rcases hc with rfl|hc
   ·exact ⟨[],World.ownsMap_made w P k heldR, .nil⟩
   ·exact hE.is c hc
  ·simp only [List.map_cons,List.nodup_cons,Zbg];refine ⟨fun ⟨c,h2,h3⟩=> ?_,hE.nd⟩;have:=(hE0.is c h2).lt;omega
  ·simp only [Zbw] at hc;rcases hc with rfl|hc
   ·exact .inl (Nat.le_trans h.base.1 h.base.2)
   ·exact hE.mine c hc
 have h2:Tie (Env.mapped P yl N w0 lent f) lo r S X V (w.alloc (.map #[] 0)) m B hv s (mk w.heap.size) a:=⟨h1.rel,h1.sub,hE',h1.round,h1.marks,h1.base⟩;refine AAm9 (w':=w.alloc (.map #[] 0)) (v:= .map (some w.heap.size)) (nx:= .value (.map (some w.heap.size))) (by rw [hop];intro _ h;cases h) ?_ (.inl rfl) ?_
 ·unfold execOp;simp only [hop];rfl
 ·exact hK _ _ ⟨w.heap.size,rfl,rfl⟩ S X V _ m hv _ (hG.went h1.rel.slt) (MStep.refl m) (h2.putQ o.dst (x:= .d (.s (.map (some w.heap.size)))) (.d (.s _)))
end
abbrev MHook (γ:Type):=Oper→RS→γ→(RS→γ→Prop)→Option Prop
section
variable {β:Type}
def opM (P:Program) (X:CX β) (M:MHook β) (ops:Array Oper) (o:Oper) (s:RS) (b:β) (K:RS→β→Prop):Prop:=
 BFe9 ops o s.tm
  (fun tm=>match M o {s with tm:=tm} b K with
   |some p=>p
   |none=>opC P X ops o {s with tm:=tm} b K)
  (fun tm=>K {s with tm:=putA tm o.dst (.d (.s undef)),pv:=pvPut s.pv o.dst} b)
def opsM (P:Program) (X:CX β) (M:MHook β) (ops:Array Oper):List Oper→RS→β→(RS→β→Prop)→Prop
 | [],s,b,K=>K s b
 |o::l,s,b,K=>opM P X M ops o s b fun s b=>opsM P X M ops l s b K
def BDt9 (P:Program) (X:CX β) (M:MHook β) (ops:Array Oper) (k:Nat) (tm:List AV) (hp:List Blk) (b:β) (K:List AV→List Blk→β→Prop):Prop:=
 if k≤ops.size then preC P X ops hp (ops.toList.take k) tm [] fun tmK tb=>
  if (tb.map (·.1)).Nodup then opsM P X M ops (ops.toList.drop k) ⟨tmK,hp,pvAll P hp tmK (ops.toList.take k)⟩ b fun s b=>K s.tm s.hp b else False
 else False
def mapOp (o:Oper):Bool:=
 match o.op with
 | .lookup .. | .mapUpdate .. | .makeMap .. =>true
 |_=>false
def ARd9 (P:Program) (X:CX β) (M:MHook β) (ops:Array Oper) (draw:Bool) (tm:List AV) (hp:List Blk) (b:β) (K:List AV→List Blk→β→Prop):Prop:=
 if draw then match findK ops (ABs9 (ops.toList.takeWhile fun o=> !mapOp o)) with
  |some k=>BDt9 P X M ops k tm hp b K
  |none=>False
 else opsM P X M ops ops.toList ⟨tm,hp, []⟩ b fun s b=>K s.tm s.hp b
def wlM (P:Program) (X:CX β) (M:MHook β) (wl:Code→List AV→List Blk→β→(Exit→List AV→List Blk→β→Prop)→Prop):Code→List AV→List Blk→β→(Exit→List AV→List Blk→β→Prop)→Prop
 | .region id ops d,tm,hp,b,K=>ARd9 P X M ops d tm hp b (K .normal)
 |c,tm,hp,b,K=>wl c tm hp b K
end
def MOk {P:Program} (Ev:Env P) (M:MHook Ev.β):Prop:=∀o s b (K:RS→Ev.β→Prop) p,M o s b K=some p→p→∃T:RS→Ev.β→Prop,EnvOk Ev o s b T∧∀s' b',T s' b'→K s' b'
section
variable {P:Program} {hp hp':List Blk} {tm tm':List AV} {o:Oper} {ops:Array Oper} {Ev:Env P} {X:CX Ev.β} {M:MHook Ev.β} {s:RS} {b:Ev.β}
theorem AWj9 {K:RS→Ev.β→Prop} {R:RS→Ev.β→Prop} {l:List Oper} (hX:X.Ok) (hM:MOk Ev M) (h:opM P X M ops o s b K) (hK:∀s' b',K s' b'→wOps Ev ops l s' b' R):wOps Ev ops (o::l) s b R:=by
 unfold opM at h;rcases AHk9 h with ⟨hw,h⟩|⟨hw,h⟩
 ·split at h
  ·rename_i p hp;obtain ⟨T,he,h2⟩:=hM _ _ _ _ _ hp h;exact ⟨s, .rfl, .inr (.inr (.inr ⟨hw, .inr ⟨T,he,fun s' b' h=>hK _ _ (h2 s' b' h)⟩⟩))⟩
  ·exact AWl9 hX h hK
 ·exact ⟨s, .rfl, .inl ⟨_,by simp only [xStep,hw],hK _ _ h⟩⟩
theorem AIj9 (hX:X.Ok) (hM:MOk Ev M) {R:RS→Ev.β→Prop}:∀ {l:List Oper} {s:RS} {b:Ev.β} {K:RS→Ev.β→Prop},opsM P X M ops l s b K→(∀s' b',K s' b'→R s' b')→wOps Ev ops l s b R
 | [],s,b,K,h,hK=>hK _ _ h
 |o::l,s,b,K,h,hK=>AWj9 hX hM h fun s' b' h=>AIj9 hX hM h hK
theorem AJm9 {id:Nat} {d:Bool} (hm:P.follows .mixedOrders=true) (hX:X.Ok) (hM:MOk Ev M) {K:List AV→List Blk→Ev.β→Prop} {Q:Exit→St Ev.β→Prop} (h:ARd9 P X M ops d tm hp b K) (hq:∀tm' hp' b',K tm' hp' b'→Q .normal ⟨tm',hp',b'⟩):
 W Ev (.region id ops d) ⟨tm,hp,b⟩ Q:=by
 unfold ARd9 at h;cases d with
 |false=>exact W.region (AIj9 hX hM h fun _ _ h=>hq _ _ _ h)
 | true=>
  simp only [if_true] at h;split at h
  ·rename_i k hk;unfold BDt9 at h;split at h
   ·rename_i hks;obtain ⟨tmK,tb,h1,h2,h3,h4⟩:=ACe9 hX h;split at h1
    ·rename_i hnd;exact W.draw (s:=⟨tm,hp,b⟩) k (tblD tb) hm (AQm9 (h3 (by simp))) (AEx9 hk) hks (h4 tb (ACo9 hnd)) (AIj9 hX hM h1 fun s' b' h=>hq _ _ _ h)
    ·exact h1.elim
   ·exact h.elim
  ·exact h.elim
theorem BSo9 (hm:P.follows .mixedOrders=true) (hX:X.Ok) (hM:MOk Ev M) {wl:Code→List AV→List Blk→Ev.β→(Exit→List AV→List Blk→Ev.β→Prop)→Prop}
 (hwl:∀c tm hp b K,wl c tm hp b K→W Ev c ⟨tm,hp,b⟩ (fun e s=>K e s.tm s.hp s.b)):∀c tm hp b K,wlM P X M wl c tm hp b K→W Ev c ⟨tm,hp,b⟩ (fun e s=>K e s.tm s.hp s.b):=by
 intro c tm hp b K h;cases c with
 |region id ops d=>exact AJm9 hm hX hM h fun _ _ _ h=>h
 |_=>exact hwl _ _ _ _ _ h
end
def MCall (P:Program) {γ:Type} (f:γ→List MapC) (k:Nat) (args:List AV) (g:γ) (R:AV→γ→Prop):Prop:=
 (∀(azz:Array Value) (w:World),(callFunc k azz).run P w= .ok (.enter k azz) w)∧
 ∀ (S:Pr) (w:World) (vs:List Value),args.length=vs.length→(∀(i:Nat) (x:AV) (v:Value),args[i]? =some x→vs[i]? =some v→RV S w [] none x v)→(∀b i,S b i→b<w.heap.size)→Glob S w→
  (∀c∈f g,MapIs P S w c)→((f g).map MapC.b).Nodup→
  CallsIn Fence.wide 0 P k vs.toArray w fun e w'=>∃v S' x g',e= .returned v∧R x g'∧Tr (fun b _=>¬b<w.heap.size) (fun x=>x=0) S w S' w'∧
   MapsE P w.heap.size w ((f g).map MapC.b) (f g') S' w'∧RV S' w' [] none x.view v
section
variable {P:Program} {S S' X V:Pr} {w w' w0:World} {lo:Nat} {r:Option Nat} {m:List MB} {B:List (AV×Value)} {hv:List (List Value)} {s:RS} {a:Act} {yl:Option Nat} {N:Nat} {lent:List Nat} {γ γ':Type} {f:γ→List MapC} {f':γ'→List MapC} {o:Oper}
theorem AVs9 (x:AV):x.view.view=x.view:=by cases x<;>rfl
theorem AZd9 {yv:Option Nat} {k:Nat} {args:List AV} (h:RelS S X yv w m B hv s a) (hc:AHh9 s.tm o=some (k,args)):
 ∃ vs:List Value,args.length=vs.length∧(∀(i:Nat) (x:AV) (v:Value),args[i]? =some x→vs[i]? =some v→RV S w m yv x v)∧(∀c,o.op≠ .defer c)∧
  ((∀(azz:Array Value) (w:World),(callFunc k azz).run P w= .ok (.enter k azz) w)→(execOp a.eval o).run P w= .ok (.enter k vs.toArray) w):=by
 have hev:=AAg9 h;unfold AHh9 at hc;split at hc<;>try (cases hc;done)
 rename_i c ho;split at hc<;>try (cases hc;done)
 rename_i fo hcal;have hfv:=(hev fo).asFn;unfold AHl9 at hc;split at hc<;>try (cases hc;done)
 rename_i k' first caps hf
 simp only [Option.some.injEq,Prod.mk.injEq] at hc;obtain ⟨rfl,rfl⟩:=hc;rw [hf] at hfv;generalize hfe:a.eval fo=fv at hfv;cases hfv with
 | fn hne hl1 hl2 h1 h2=>
  rename_i fs cs;have e0:(fs.toList++(c.args.map a.eval).toList++cs.toList).toArray=fs++c.args.map a.eval++cs:=by apply Array.ext';simp
  refine ⟨fs.toList++(c.args.map a.eval).toList++cs.toList,by simp [hl1,hl2],fun j x u hj1 hj2=> ?_,by simp [ho],fun hent=> ?_⟩
  ·simp only [List.getElem?_map,Zao] at hj1;obtain ⟨y,hj1,rfl⟩:=hj1;refine RV.view ?_;by_cases c1:j<first.length
   ·rw [List.append_assoc,Zar c1] at hj1;rw [List.append_assoc,Zar (by simpa [←hl1] using c1)] at hj2;exact h1 j y u hj1 (by simpa using hj2)
   ·by_cases c2:j<first.length+c.args.size
    ·rw [Zar (by simpa using c2),Zas (by omega)] at hj1;rw [Zar (by simpa [←hl1] using c2),Zas (by simp [←hl1];omega)] at hj2;simp only [Array.length_toList,←hl1,List.getElem?_map,Zao,Array.getElem?_toList,Array.getElem?_map] at hj1 hj2;obtain ⟨y1,hy1,rfl⟩:=hj1;obtain ⟨y2,hy2,rfl⟩:=hj2;rw [hy1] at hy2;cases hy2;exact hev y1
    ·rw [Zas (by simp;omega)] at hj1;rw [Zas (by simp [←hl1];omega)] at hj2;simp only [List.length_append,List.length_map,Array.length_toList,Array.size_map,←hl1] at hj1 hj2;exact h2 _ y u hj1 (by simpa using hj2)
  ·rw [e0];unfold execOp;rw [ho];simp [resolve,hcal,hfe,Deferred.ofValue,invoke,hent]
theorem MapsE.back {l1 l2 c0 c1:List MapC} {Z:Pr} (h:MapsE P N w0 lent (l1++c0++l2) S w) (hN:N≤w.heap.size) (hc:MapsE P w.heap.size w (c0.map MapC.b) c1 S' w') (ht:Tr Z (fun x=>x=0) S w S' w'):MapsE P N w0 lent (l1++c1++l2) S' w':=by
 have hnd:=h.nd;simp only [List.map_append,List.nodup_append,Zbu,Zbg] at hnd;obtain ⟨⟨n1,n2,n3⟩,n4,n5⟩:=hnd;have hlt:∀c∈l1++c0++l2,c.b<w.heap.size:=fun c h1=>(h.is c h1).lt;have hfar:∀c∈l1++l2,c.b∉c0.map MapC.b:=by
  intro c h1 h2;obtain ⟨d,h3,h4⟩:=Zbg.1 h2;rcases Zbu.1 h1 with h1|h1
  ·exact n3 c.b ⟨c,h1,rfl⟩ d.b ⟨d,h3,rfl⟩ h4.symm
  ·exact n5 d.b (.inr ⟨d,h3,rfl⟩) c.b ⟨c,h1,rfl⟩ h4
 have hst:∀c∈l1++l2,MapIs P S' w' c:=fun c h1=>(h.is c (by simp only [Zbu] at h1 ⊢;exact h1.elim (fun h=> .inl (.inl h)) .inr)).mono
  (fun es cl h2=>hc.kept c.b _ (hlt c (by simp only [Zbu] at h1 ⊢;exact h1.elim (fun h=> .inl (.inl h)) .inr)) (hfar c h1) rfl h2) fun x v hx=>hx.tr ht
 have hdis:∀c∈l1++l2,∀d∈c1,c.b≠d.b:=by
  intro c h1 d h2 h3;rcases hc.mine d h2 with h4|h4
  ·have:=hlt c (by simp only [Zbu] at h1 ⊢;exact h1.elim (fun h=> .inl (.inl h)) .inr);omega
  ·exact hfar c h1 (h3▸h4)
 refine ⟨fun c h1=> ?_, ?_,fun c h1=> ?_,fun b o1 h1 h2 hm1 h3=> ?_,hc.lt⟩
 ·simp only [Zbu] at h1;rcases h1 with (h1|h1)|h1
  ·exact hst c (by simp [h1])
  ·exact hc.is c h1
  ·exact hst c (by simp [h1])
 ·simp only [List.map_append,List.nodup_append,Zbu,Zbg];refine ⟨⟨n1,hc.nd, ?_⟩,n4, ?_⟩
  ·rintro x ⟨c,h1,rfl⟩ y ⟨d,h2,rfl⟩;exact hdis c (by simp [h1]) d h2
  ·rintro x (⟨c,h1,rfl⟩|⟨c,h1,rfl⟩) y ⟨d,h2,rfl⟩
   ·exact n5 c.b (.inl ⟨c,h1,rfl⟩) d.b ⟨d,h2,rfl⟩
   ·exact fun he=>hdis d (by simp [h2]) c h1 he.symm
 ·simp only [Zbu] at h1;rcases h1 with (h1|h1)|h1
  ·exact h.mine c (by simp [h1])
  ·rcases hc.mine c h1 with h2|h2
   ·exact .inl (Nat.le_trans hN h2)
   ·obtain ⟨d,h3,h4⟩:=Zbg.1 h2;rw [←h4];exact h.mine d (by simp [h3])
  ·exact h.mine c (by simp [h1])
 ·refine hc.kept b o1 (Zal.1 (h.kept b o1 h1 h2 hm1 h3)).1 (fun h4=> ?_) hm1 (h.kept b o1 h1 h2 hm1 h3);obtain ⟨d,h5,h6⟩:=Zbg.1 h4;rcases h.mine d (by simp [h5]) with h7|h7
  ·omega
  ·exact h2 (h6▸h7)
theorem BLy9 {g:γ} {g0:γ'} {up:γ'→γ} {l1 l2:List MapC} {k:Nat} {args:List AV} {R:AV→γ'→Prop} (hc:AHh9 s.tm o=some (k,args)) (hcl:ABu9 args=true) (hf:f g=l1++f' g0++l2) (hup:∀g',f (up g')=l1++f' g'++l2) (hcall:MCall P f' k args g0 R):
 EnvOk (Env.mapped P yl N w0 lent f) o s g fun s' g'=>∃x g1,R x g1∧s'= {tm:=putA s.tm o.dst x.view,hp:=s.hp,pv:=pvPut s.pv o.dst}∧g'=up g1:=by
 intro lo r S X V w m B hv a K' Q h hK;have hE:MapsE P N w0 lent (l1++f' g0++l2) S w:=hf▸h.env;obtain ⟨vs,h1,h2,h3,h4⟩:=AZd9 (P:=P) h.rel hc;obtain ⟨hent,hcontract⟩:=hcall;refine ⟨fun f' _=>trivial, ?_⟩;rw [Oper.semAt_eq _ _ _ h3,h4 hent];refine ⟨fun hd=>(by cases hd), ?_⟩;have hnd:((f' g0).map MapC.b).Nodup:=by
  have:=hE.nd;simp only [List.map_append,List.nodup_append] at this;exact this.1.2.1
 refine (CallsIn.mono (hcontract S w vs h1 (fun j x u hj1 hj2=>(h2 j x u hj1 hj2).closed (ABi9 hcl j x hj1)) h.rel.slt h.rel.2.1.gl (fun c hc=>hE.is c (by simp [hc])) hnd) ?_:CallsIn Fence.wide 0 P k _ w _);rintro e w' ⟨v,S',x,g1,rfl,hR,ht,hE1,hxv⟩;have hE':MapsE P N w0 lent (f (up g1)) S' w':=by rw [hup];exact hE.back (Nat.le_trans h.base.1 h.base.2) hE1 ht
 have hrel:Rel S' X yl w' m (s.tm.zip a.tmps.toList++(B++AAa9 s.hp hv)) s.hp hv:=by
  refine h.rel.2.1.still ht (fun g blk p h1 h2 hfr i hz=> ?_) (fun p hp b hb i hz=> ?_) (fun _ _ h=> .inl h)
  ·have hb:=h.rel.2.1.block h2;obtain ⟨_,_,cur,e,_,_,_,_,_,_,_,g8,_⟩:=hb;exact hz (Zal.1 g8).1
  ·exact hz (BUx9 (h.rel.2.1.rv p hp) (x:=p.1) (v:=p.2) hb)
 have htr:Tr (fun b i=>¬X b i∨V b i) (fun x=>x=0) S w S' w':=ht.mono' (fun b i hb hz=>absurd hb hz) (fun _ h=>h);have htie:Tie (Env.mapped P yl N w0 lent f) lo r S' X V w' m B hv s (up g1) a:=
  ⟨⟨h.rel.1,hrel,h.rel.2.2⟩,h.sub,hE',h.round.tr ht,h.marks.tr ht,h.base.1,Nat.le_trans h.base.2 ht.size⟩
 exact hK _ _ ⟨x,g1,hR,rfl,rfl⟩ S' X V w' m hv _ ⟨htr,fun _ _ h=>h,fun _ _ h=> .inl h⟩ (MStep.refl m) (by have:=htie.putQ o.dst hxv;rwa [AVs9] at this)
end
section
variable {P:Program} {S S' X' V V':Pr} {w w' w0:World} {N:Nat} {lent:List Nat} {γ:Type} {f:γ→List MapC}
theorem MapsE.more {β:List MapC} (h:MapsE P N w0 lent β S w) (hS:∀b i,S b i→S' b i) (hlt:∀b i,S' b i→b<w.heap.size):MapsE P N w0 lent β S' w:=
 ⟨fun c hc=>(h.is c hc).mono (fun _ _ h=>h) fun x v hx=>hx.ext hS (Agree.refl _ _ _),h.nd,h.mine,h.kept,hlt⟩
theorem MCall.ofW {k:Nat} {fn:Func} {c:Code} {args:List AV} {g:γ} {R:AV→γ→Prop} (hf:P.funcs[k]? =some fn) (hb:fn.body=some c) (hn:(fn.name== "runtime.NumGoroutine")=false) (hargs:args.map Zdx=args)
 (hW:∀(N:Nat) (w0:World),W (Env.mapped P none N w0 ((f g).map MapC.b) f) c ⟨ACg9 fn args, [],g⟩ (AMt9 P fn fun y hp g'=>∃x,SealD hp y x∧R x g')):MCall P f k args g R:=by
 refine ⟨AGj9 hf hb hn,fun S w vs hl hvs hlt hgl hmaps hnd=> ?_⟩;have hrel:Rel S (fun b _=>b<w.heap.size) none w [] (args.zip vs++([]++AAa9 [] [])) [] []:=by
  have h0:Rel S (fun b _=>b<w.heap.size) none w [] [] [] []:=⟨fun b i h=>h.elim (hlt b i) id,by simp,List.Pairwise.nil,by simp,by simp,by simp,rfl,rfl,by simp,hgl⟩;have:=h0.pushAll (args.zip vs) (fun p hp=>by
   obtain ⟨j,hj⟩:=Zav.1 hp;rw [List.getElem?_zip_eq_some] at hj;refine ⟨hvs j p.1 p.2 hj.1 hj.2, ?_⟩;have hp1:p.1.view=p.1:=by
    have h1:(args.map Zdx)[j]? =some p.1.view:=by simp [hj.1]
    rw [hargs,hj.1] at h1;exact (Option.some.inj h1).symm
   obtain ⟨p1,p2⟩:=p;simp only at hp1;rw [←hp1];exact AAq9 _ _)
  simpa [AAa9] using this
 have hE0:MapsE P w.heap.size w ((f g).map MapC.b) (f g) S w:=⟨hmaps,hnd,fun c hc=> .inr (Zbg.2 ⟨c,hc,rfl⟩),fun _ _ _ _ _ h=>h,hlt⟩;refine ADk9 (Ev:=Env.mapped P none w.heap.size w ((f g).map MapC.b) f) (V:=fun _ _=>False) (b:=g) hf hb hl (hW w.heap.size w) hrel (fun _ _ h=>h.elim) hE0 (Nat.le_refl _) ?_;intro y S' X' V' w' m' hv' hp' v g' hy htr0 hxs hm hr hE hyv;obtain ⟨x,hx,hR⟩:=hy;have htr:Tr (fun b i=>¬b<w.heap.size) (fun x=>x=0) S w S' w':=htr0.mono (fun b i h=>h.resolve_right id) (fun _ h=>h);have hnew:∀b i,AAz9 S' m' b i→S b i∨(w.heap.size≤b∧b<w'.heap.size):=by
  intro b i hs;rcases hs with hs|⟨g,p,hg,rfl,hi⟩
  ·rcases htr.new b i hs with h1|h1|h1
   ·exact .inl h1
   ·exact .inr ⟨Zdf h1,htr.lt b i hs⟩
   ·exact .inr ⟨h1,htr.lt b i hs⟩
  ·have hr':Rel S' X' none w' m' (([]:List (AV×Value))++AAa9 hp' hv') hp' hv':=hr;obtain ⟨blk,us,cur,e,g1,g2,g3,g4,g5,g6,g7,g8,g9,g10,g11,g12⟩:=hr'.block hg;have hlt':p.b<w'.heap.size:=(Zal.1 g8).1;cases hfr:blk.fro with
   | true=>
    have hs:=g12 hfr i hi;rcases htr.new _ _ hs with h1|h1|h1
    ·exact .inl h1
    ·exact .inr ⟨Zdf h1,hlt'⟩
    ·exact .inr ⟨h1,hlt'⟩
   | false=>
    refine .inr ⟨Zdf fun hb=> ?_,hlt'⟩;exact (g11 hfr i).2 (hxs _ _ hb)
 have hlt2:∀b i,AAz9 S' m' b i→b<w'.heap.size:=fun b i hs=>(hnew b i hs).elim (fun h=>Nat.lt_of_lt_of_le (hlt b i h) htr.size) fun h=>h.2;refine ⟨v,AAz9 S' m',x,g',rfl,hR,⟨htr.os,htr.tape,htr.output,htr.size,htr.cells,htr.objs,htr.same,fun b i hs=> .inl (htr.up b i hs),fun b i hs=>(hnew b i hs).imp id fun h=> .inr h.1,hlt2⟩, ?_,(ADb9 (B:= []) (T:=AAz9 S' m') (by simpa using hr) (fun _ _ h=> .inl h) hx (fun g _ p hp i hi=> .inr ⟨g,p,hp,rfl,hi⟩) hyv).view⟩;exact MapsE.more hE (fun b i hs=> .inl hs) hlt2
theorem MCall.ofFn {k n:Nat} {fn:Func} {args:List AV} {g:γ} {R:AV→γ→Prop} {T:List (Nat×(List AV→(AV→Prop)→Prop))} {U:List (Nat×(List AV→List Blk→(AV→List Blk→Prop)→Prop))} {u:Bool} (wl:WLT γ) (hm:P.follows .mixedOrders=true)
 (hT:AAc9 P T) (hS:AAl9 P U) (hwl:∀(N:Nat) (w0:World) c tm hp b K,wl c tm hp b K→W (Env.mapped P none N w0 ((f g).map MapC.b) f) c ⟨tm,hp,b⟩ (fun e s=>K e s.tm s.hp s.b)) (hf:P.funcs[k]? =some fn) (hn:(fn.name== "runtime.NumGoroutine")=false) (hargs:args.map Zdx=args)
 (h:wpFn P ⟨T,U,wl,fun _ _ _=>False,u⟩ n fn args g R):MCall P f k args g R:=by
 cases hb:fn.body with
 | some c=>
  unfold wpFn at h;rw [hb] at h;refine MCall.ofW hf hb hn hargs fun N w0=> ?_;exact AAw9 hm (CX.Ok.ofWl (Ev:=Env.mapped P none N w0 ((f g).map MapC.b) f) hT hS (hwl N w0)) h fun e tm hp b hK=>AFq9 hK
 | none=>
  unfold wpFn at h;rw [hb] at h;exact h.elim
theorem MCall.toP {k:Nat} {args:List AV} {g:γ} {x:AV} (hg:f g= []) (h:MCall P f k args g fun y _=>y=x):PCall P k args x:=by
 refine ⟨h.1,fun S w vs hl hvs hlt hgl=> ?_⟩;refine (CallsIn.mono (h.2 S w vs hl hvs hlt hgl (by simp [hg]) (by simp [hg])) ?_:CallsIn Fence.wide 0 P k _ w _);rintro e w' ⟨v,S',y,g',rfl,rfl,ht,hE,hv⟩;refine ⟨v,S',rfl,⟨ht.os,ht.tape,ht.output,ht.size,fun k hk=> ?_⟩,ht.up,fun b i hs=> ?_,hv⟩
 ·have hk1:w.heap[k]? =some w.heap[k]:=by simp [hk]
  cases ho:w.heap[k] with
  | cells c e f=>
   rw [ho] at hk1;obtain ⟨c',h1,h2⟩:=ht.cells k c e f hk1;rw [hk1,h1];congr 2;apply Array.ext h2;intro i hi hi';have h3:w.cell? ⟨k,i,none⟩=some c[i]:=by simp [World.cell?,hk1,hi']
   have h4:=ht.same k i _ (.inr (fun h=>h hk)) h3;simp only [World.cell?,h1] at h4;simpa [hi] using h4
  | map es cl=>
   rw [ho] at hk1;rw [hk1];exact hE.kept k _ hk (by simp [hg]) rfl hk1
  | mapIter _ _ _ _=>
   rw [ho] at hk1;rw [hk1];exact hE.kept k _ hk (by simp [hg]) rfl hk1
  | _=>
   rw [ho] at hk1;rcases ht.objs k _ hk1 rfl with h1|⟨h1,_⟩|⟨_,o',_,h1⟩
   ·rw [hk1,h1]
   ·exact absurd h1 (by omega)
   ·cases h1
 ·rcases ht.new b i hs with h1|h1|h1
  ·exact .inl h1
  ·exact .inr ⟨Zdf h1,ht.lt b i hs⟩
  ·exact .inr ⟨h1,ht.lt b i hs⟩
end
section
end
section
variable {P:Program} {S S' X:Pr} {w w':World} {m:List MB} {B:List (AV×Value)} {hv:List (List Value)} {s:RS} {a:Act} {o:Oper}
theorem DemOk.env {Ev:Env P} {b:Ev.β} {T:RS→Prop} (h:DemOk P o s T):EnvOk Ev o s b fun s' b'=>T s'∧b'=b:=
 fun lo r S X V w m B hv a K Q ht hK=>h r S X Ev.yl w m B hv a K Q ht.rel fun s' hs=>Goes.nx ht (hK s' b ⟨hs,rfl⟩)
theorem BEv9 {c:Call} {ro:Operand} {name:String} {t:TypeId} {v rv:Value} {k:Nat} {x:AV} (ho:o.op= .call c) (hc:c.callee= .invoke ro name) (hr:(evalA s.tm ro).toVal? =some (.iface t v)) (hm:BVe9 P t v name=some (k,rv))
 (hcl:ABu9 (ofVal rv::(c.args.toList.map (evalA s.tm)).map Zdx)=true) (hcall:PCall P k (ofVal rv::(c.args.toList.map (evalA s.tm)).map Zdx) x):
 DemOk P o s fun s'=>s'= {tm:=putA s.tm o.dst x.view,hp:=s.hp,pv:=pvPut s.pv o.dst}:=by
 intro r S X yv w m B hv a K Q h hK;have hev:=AAg9 h;have hre:=ABh9 hr (hev ro);have hmr:=fun w=>AEu9 P _ _ hm w;obtain ⟨hent,hcon⟩:=hcall;have hexec:(execOp a.eval o).run P w= .ok (.enter k (rv::c.args.toList.map a.eval).toArray) w:=by
  have e0:(rv::c.args.toList.map a.eval).toArray=#[rv]++c.args.map a.eval:=by apply Array.ext';simp
  have e1:(#[Value.iface t v]++c.args.map a.eval)[0]? =some (Value.iface t v):=by simp [Array.getElem?_append]
  have e2:(#[Value.iface t v]++c.args.map a.eval).extract 1 (#[Value.iface t v]++c.args.map a.eval).size=c.args.map a.eval:=by apply Array.ext';simp;exact List.take_of_length_le (by simp)
  rw [e0];unfold execOp;rw [ho];simp only [resolve,hc,hre];show (invoke (.fn (.method name) #[]) (#[Value.iface t v]++c.args.map a.eval)).run P w=_;unfold invoke;simp only [e1,e2];unfold callMethod;simp [hmr,hent]
 have hdef:∀c',o.op≠ .defer c':=by simp [ho]
 refine ⟨fun f' _=>trivial, ?_⟩;rw [Oper.semAt_eq _ _ _ hdef,hexec];refine ⟨fun hd=>(by cases hd), ?_⟩;refine (CallsIn.mono (hcon S w (rv::c.args.toList.map a.eval) (by simp) (fun i y u h1 h2=> ?_) h.slt h.2.1.gl) ?_:CallsIn Fence.wide 0 P k _ w _)
 ·refine RV.closed (m:=m) (yv:=yv) ?_ (ABi9 hcl i y h1);cases i with
  | zero=>
   simp only [List.getElem?_cons_zero,Option.some.injEq] at h1 h2;subst h1 h2;exact RV.ofVal rv
  | succ i=>
   simp only [List.getElem?_cons_succ,List.getElem?_map,Zao] at h1 h2;obtain ⟨z,⟨q,h1,rfl⟩,rfl⟩:=h1;obtain ⟨q',h2,rfl⟩:=h2;rw [h1] at h2;cases h2;exact (hev q).view
 ·rintro e w' ⟨v',S',rfl,hb,h1,h2,hx⟩;have hrel:=h.2.1.below hb h1 h2;exact hK _ rfl S' w' m hv _ (Gs.below h.2.1 hb ⟨h1,h2⟩) ⟨by rw [AAs9,ADc9];exact h.1,(by have:=(hrel.cons hx.opened.view (AAq9 _ _)).putTmp h.1 o.dst;rwa [AVs9] at this),ACh9 h.2.2 o.dst v'⟩ (ACl9 _ _ _) (ADc9 _ _ _)
end
def invH {γ:Type} (P:Program) (I:List (Nat×(List AV→(AV→Prop)→Prop))):MHook γ:=fun o s g K=>match o.op with
 | .call c=>match c.callee with
  | .invoke r name=>match (evalA s.tm r).toVal? with
   | some (.iface t v)=>match BVe9 P t v name with
    | some (k,rv)=>match I.lookup k with
     |some f=>some (ABu9 (ofVal rv::(c.args.toList.map (evalA s.tm)).map Zdx)=true∧f (ofVal rv::(c.args.toList.map (evalA s.tm)).map Zdx) fun x=>K {tm:=putA s.tm o.dst x.view,hp:=s.hp,pv:=pvPut s.pv o.dst} g)
     |none=>none
    |none=>none
   |_=>none
  |_=>none
 |_=>none
theorem BPs9 {P:Program} {Ev:Env P} {I:List (Nat×(List AV→(AV→Prop)→Prop))} (hI:AAc9 P I):MOk Ev (invH P I):=by
 intro o s b K p hp h;unfold invH at hp;split at hp<;>try (cases hp;done)
 rename_i c ho;split at hp<;>try (cases hp;done)
 rename_i r name hc;split at hp<;>try (cases hp;done)
 rename_i t v hr;split at hp<;>try (cases hp;done)
 rename_i k rv hm;split at hp<;>try (cases hp;done)
 rename_i f hf;cases hp;obtain ⟨hcl,h⟩:=h;obtain ⟨x,hx,hK⟩:=hI k f hf _ _ h;refine ⟨_,(BEv9 ho hc hr hm hcl hx).env, ?_⟩;rintro s' b' ⟨rfl,rfl⟩;exact hK
def wlI {β:Type} (P:Program) (T:List (Nat×(List AV→(AV→Prop)→Prop))) (I:List (Nat×(List AV→(AV→Prop)→Prop))) (y:ACw9 β) (wl:WLT β):WLT β:=wlM P ⟨T, [],fun _ _ _ _ _=>False,y,false⟩ (invH P I) wl
theorem CAc9 {P:Program} {Ev:Env P} {T I:List (Nat×(List AV→(AV→Prop)→Prop))} {wl:WLT Ev.β} (hm:P.follows .mixedOrders=true) (hT:AAc9 P T) (hI:AAc9 P I)
 (hwl:∀c tm hp b K,wl c tm hp b K→W Ev c ⟨tm,hp,b⟩ (fun e s=>K e s.tm s.hp s.b)):∀c tm hp b K,wlI P T I Ev.Y wl c tm hp b K→W Ev c ⟨tm,hp,b⟩ (fun e s=>K e s.tm s.hp s.b):=
 BSo9 hm (CX.Ok.ofWl hT AAl9.nil fun _ _ _ _ _ h=>h.elim) (BPs9 hI) hwl
theorem PCall.ofFnE {P:Program} {f n:Nat} {fn:Func} {args:List AV} {x:AV} {T:List (Nat×(List AV→(AV→Prop)→Prop))} {U:List (Nat×(List AV→List Blk→(AV→List Blk→Prop)→Prop))} {u:Bool} (wl:∀Ev:Env P,WLT Ev.β) (hm:P.follows .mixedOrders=true)
 (hT:AAc9 P T) (hS:AAl9 P U) (hwl:∀(Ev:Env P) c tm hp b K,wl Ev c tm hp b K→W Ev c ⟨tm,hp,b⟩ (fun e s=>K e s.tm s.hp s.b)) (hf:P.funcs[f]? =some fn) (hn:(fn.name== "runtime.NumGoroutine")=false) (hargs:args.map Zdx=args)
 (h:∀(Ev:Env P) (b:Ev.β),wpFn P ⟨T,U,wl Ev,Ev.Y,u⟩ n fn args b (fun y _=>y=x)):PCall P f args x:=by
 cases hb:fn.body with
 | some c=>
  refine PCall.ofWS hf hb hn hargs fun Ev b=> ?_;have h1:=h Ev b;unfold wpFn at h1;rw [hb] at h1;refine AAw9 hm (CX.Ok.ofWl hT hS (hwl Ev)) h1 fun e tm hp b hK=> ?_;obtain ⟨g1,ys,g2,z,g3,rfl⟩:=AFq9 hK;exact ⟨g1,ys,g2,g3⟩
 | none=>
  have:=h (Env.none P none) ();unfold wpFn at this;rw [hb] at this;exact this.elim
section
variable {P:Program} {S S' X X' V V':Pr} {w w':World} {lo:Nat} {r:Option Nat} {m:List MB} {B:List (AV×Value)} {hv:List (List Value)} {s:RS} {a:Act} {o o':Oper} {ops:Array Oper} {Ev:Env P} {b:Ev.β}
def LOps (Ev:Env P) (ops:Array Oper) (l:List Oper) (s:RS) (b:Ev.β) (R:RS→Ev.β→Prop):Prop:=
 ∀ (lo:Nat) (r:Option Nat) (S X V:Pr) (w:World) (m:List MB) (B:List (AV×Value)) (hv:List (List Value)) (a:Act) (Q:Exit→Act→World→Prop),Tie Ev lo r S X V w m B hv s b a→
  (∀s' b',R s' b'→Goes Ev lo r S X V w m B s' b' (Q .normal))→wpListIn (Fn r) 0 P ops Q l a w
theorem LOps.append {R:RS→Ev.β→Prop} {l1:List Oper}:∀ {l0:List Oper} {s:RS} {b:Ev.β},wOps Ev ops l0 s b (fun s1 b1=>LOps Ev ops l1 s1 b1 R)→LOps Ev ops (l0++l1) s b R
 | [],s,b,h=>h
 | o::l0,s,b,h=>by
  intro lo r S X V w m B hv a Q ht hK;exact AKb9 ht h fun s' b' hx' S' X' V' w' m' hv' a' hw hm ht'=>LOps.append (l0:=l0) hx' lo r S' X' V' w' m' B hv' a' Q ht'
   fun s'' b'' hr S'' X'' V'' w'' m'' hv'' a'' hw' hm' ht''=>hK s'' b'' hr S'' X'' V'' w'' m'' hv'' a'' (hw.trans hw') (hm.trans hm') ht''
theorem W.ofLOps {id:Nat} {st:St Ev.β} {Q:Exit→St Ev.β→Prop} (h:LOps Ev ops ops.toList st.rs st.b (fun s' b'=>Q .normal ⟨s'.tm,s'.hp,b'⟩)):W Ev (.region id ops false) st Q:=by
 intro lo r S X V w m B hv a ht;refine wpIn_region_list (h lo r S X V w m B hv a _ ht fun s' b' hq S' X' V' w' m' hv' a' hw hm ht'=> ?_);exact ⟨⟨s'.tm,s'.hp,b'⟩,S',X',V',m',hv',hq,⟨hw,hm⟩,⟨⟨ht'.rel.1,ht'.rel.2.1,by intro p hp;cases hp⟩,ht'.sub,ht'.env,ht'.round,ht'.marks,ht'.base⟩⟩
theorem BFm9 {i:TypeInfo} {z:Value} {zr:List Dv} (hz:zr=z.cells.toList.map Dv.s) (hsz:zr.length=i.size) (hpos:0<i.size) (hone:(zr.map AV.d).all AV.one=true) (n:Nat):Flat S w i.size (Zap n zr) (Zbi z.cells n).toList:=by
 subst hz;have hzs:z.cells.size=i.size:=by simpa using hsz
 have hat:∀j,j<n*i.size→(Zbi z.cells n).toList[j]? =some (z.cells[j % i.size]!):=by
  intro j hj;simp [Zbi,hzs,hj]
 have hlen:(Zbi z.cells n).toList.length=n*i.size:=by simp [Zbi,hzs]
 generalize (Zbi z.cells n).toList=news at hat hlen;refine ⟨by simp [hlen],fun j r hr=> ?_,fun j r k x v e1 e2 e3=> ?_,fun v hv=> ?_⟩
 ·rw [List.getElem?_replicate] at hr;split at hr<;>cases hr;simpa using hsz
 ·rw [List.getElem?_replicate] at e1;split at e1<;>cases e1;rename_i hj;simp only [List.getElem?_map,Zao] at e2;obtain ⟨u,e2,rfl⟩:=e2;have hk:k<i.size:=by rw [←hzs];have:=(Zac.1 e2).1;simpa using this
  rw [hat _ (AZn9 hj hk)] at e3;have hmod:(j*i.size+k) % i.size=k:=by rw [Nat.mul_comm,Nat.mul_add_mod,Nat.mod_eq_of_lt hk]
  rw [hmod] at e3;have:z.cells[k]! =u:=by
   have h5:z.cells[k]? =some u:=by simpa using e2
   rw [getElem!_pos z.cells k (by rw [hzs];exact hk)];exact (Zal.1 h5).2
  rw [this] at e3;cases e3;exact .s _
 ·obtain ⟨j,hj⟩:=Zav.1 hv;have hjl:=(Zac.1 hj).1;rw [hat j (by omega)] at hj;have hk:j % i.size<z.cells.size:=by rw [hzs];exact Nat.mod_lt _ hpos
  have hv':v=z.cells[j % i.size]:=by
   rw [getElem!_pos z.cells _ hk] at hj;exact (Option.some.inj hj).symm
  have:=Zbd.1 hone (.d (.s z.cells[j % i.size])) (Zbg.2 ⟨.s z.cells[j % i.size],Zbg.2 ⟨_,by simp,rfl⟩,rfl⟩);rw [hv'];exact this
theorem BDe9 {α:Type} {l:List α} {g:Nat} {x:α} (h:l[g]? =some x):l.set g x=l:=by
 have hg:=(Zac.1 h).1;apply List.ext_getElem?;intro k;by_cases hk:g=k
 ·subst hk;rw [List.getElem?_set_self hg,h]
 ·rw [List.getElem?_set_ne hk]
def AMk9 (blk:Blk) (j n k:Nat) (zr:List Dv):Blk:= {blk with cells:=blk.cells.take (j*k)++flatA (Zap (n - j) zr)}
theorem BGi9 {t e:TypeId} {x lo':Operand} {i:TypeInfo} {g ver n d:Nat} {blk:Blk} {kk:IntKind} {j:Int} {zr:List Dv} (ho:o.op= .slice t x (some lo') none none) (hog:o.guard=none) (hod:o.dst=some d)
 (ho':o'.op= .call {callee:= .builtin .clear,args:=#[.tmp d],argTypes:=#[t]}) (hog':o'.guard=none) (hd:d<s.tm.length) (hu:P.underlying t=some (.slice e)) (hi:P.info? e=some i)
 (hx:evalA s.tm x= .gref g ver n i.size) (hj:evalA s.tm lo'= .d (.s (.int kk j))) (hg:s.hp[g]? =some blk) (hgr:blk.grow=true) (hver:blk.ver=ver) (hf:blk.fro=false) (h0:0≤j) (hn:j≤n)
 (hz:zrow i=some zr) (hsz:zr.length=i.size) (hpos:0<i.size) (hone:(zr.map AV.d).all AV.one=true):
 LOps Ev ops [o,o'] s b fun s' b'=>s'= {tm:=putA (putA s.tm (some d) .bad) o'.dst .bad,hp:=s.hp.set g (AMk9 blk j.toNat n i.size zr),pv:= []}∧b'=b:=by
 intro lo r S X V w m B hv a Q ht hK;have hbase:=AAg9 ht.rel x;have hej:=AAg9 ht.rel lo';rw [hx] at hbase;rw [hj] at hej;simp only [zrow,Zao] at hz;obtain ⟨z,hz,hzr⟩:=hz;obtain ⟨hl,hr,hpv⟩:=ht.rel;have hr':Rel S X Ev.yl w m ((s.tm.zip a.tmps.toList++B)++AAa9 s.hp hv) s.hp hv:=by simpa using hr
 have hvj:a.eval lo'= .int kk j:=by
  generalize a.eval lo'=u at hej;cases hej with|d h=>cases h;rfl
 generalize hva:a.eval x=va at hbase;cases hbase with
 | gref hm hv0 h1' hcur=>
  rename_i bb len ver';obtain ⟨blk',vs,cur,e',g1,g2,g3,g4,g5,g6,g7,g8,g9,g10,_⟩:=hr'.block hm;rw [hg] at g1;cases g1;simp only at g3 g5 g6 g8 g9 g10;obtain ⟨hlen,cap,rfl,hncap,hcm,cur',e2,hc2,hcsz⟩:=hcur (by omega);have e8:cur'=cur∧e2=e':=by rw [hc2] at g8;cases g8;exact ⟨rfl,rfl⟩
  obtain ⟨rfl,rfl⟩:=e8;have hjn:j.toNat≤n:=by omega
  have hjk:j.toNat*i.size+(n - j.toNat)*i.size=len:=by rw [hlen,←Nat.add_mul];congr 1;omega
  have hb:bnds n cap (some (kk,j)) none none=some (j.toNat,n,cap):=by
   unfold bnds;simp only [numOr];refine (if_pos ⟨h0,by omega,by omega,by omega,fun h=>by simp at h⟩).trans ?_;simp
  obtain ⟨hb1,hb2,hb3,hb4⟩:=AHg9 (P:=P) true hb w;have hrun:∃a2,(a2=(⟨bb,j.toNat*i.size,none⟩:Addr)∨n=j.toNat)∧(do pure (Next.value (←Instr.sliceAt t (.slice (some ⟨bb,0,none⟩) n cap) (some (.int kk j)) none none)):Sem Next).run P w= .ok (.value (.slice (some a2) (n - j.toNat) (cap - j.toNat))) w:=by
   simp only [Option.map_none,Option.map_some] at hb1;by_cases hc:cap - j.toNat=0
   ·refine ⟨⟨bb,0,none⟩, .inr (by omega), ?_⟩;simp only [Instr.sliceAt,Sem.run_bind,run_underlying hu,Result.andThen_ok,Instr.slice,hb1,sizeOf,typeInfo,run_program,hi,Sem.run_pure];have hc':cap=j.toNat:=by omega
    simp [hc']
   ·refine ⟨⟨bb,j.toNat*i.size,none⟩, .inl rfl, ?_⟩;simp only [Instr.sliceAt,Sem.run_bind,run_underlying hu,Result.andThen_ok,Instr.slice,hb1,sizeOf,typeInfo,run_program,hi,Sem.run_pure];have hc':¬cap=j.toNat:=by omega
    simp [hc',Addr.add];intro hq;rw [hq]
  obtain ⟨a2,ha2,hrun⟩:=hrun;have hexec:(execOp a.eval o).run P w= .ok (.value (.slice (some a2) (n - j.toNat) (cap - j.toNat))) w:=by
   unfold execOp;rw [ho];simp only [Option.map_none,Option.map_some,hva,hvj];exact hrun
  have hfl:=BFm9 (S:=S) (w:=w) hzr.symm hsz hpos hone (n - j.toNat);generalize hus:(Zbi z.cells (n - j.toNat)).toList=us at hfl;have hpl:=hfl.pairs.1;have hul:us.length=(n - j.toNat)*i.size:=by have:=hfl.len;simpa using this
  have hA:=hr'.pushAll ((flatA (Zap (n - j.toNat) zr)).zip us) hfl.rvs;obtain ⟨h2,h3⟩:=hA.storeBlock (us:=us) (off:=j.toNat*i.size) hpl hfl.one hg hm g2 hf (by rw [hul,←g3];omega) g8;have hcells:blk.cells.take (j.toNat*i.size)++flatA (Zap (n - j.toNat) zr)++blk.cells.drop (j.toNat*i.size+(flatA (Zap (n - j.toNat) zr)).length)=(AMk9 blk j.toNat n i.size zr).cells:=by
   rw [List.drop_eq_nil_of_le (by rw [hpl,hul,←g3];omega),List.append_nil];rfl
  have hst:=run_storeCells_at P bb (j.toNat*i.size) e2 us 0 cur' w g8 (by omega) hfl.one;simp only [Nat.add_zero] at hst;rw [hpl] at hcells;simp only [wpListIn,Region.wanted,hog,hog',if_true];refine AAm9 (by simp [ho]) hexec (.inl rfl) ?_;have hex2:∃w2,(w2=w.setRow bb (cur'.toList.take (j.toNat*i.size)++us++cur'.toList.drop (j.toNat*i.size+us.length)).toArray∨(w2=w∧us= []))∧
   (execOp (a.put o.dst (.slice (some a2) (n - j.toNat) (cap - j.toNat))).eval o').run P w= .ok (.value (.tuple #[])) w2:=by
   have hev:(a.put o.dst (.slice (some a2) (n - j.toNat) (cap - j.toNat))).eval (.tmp d)= .slice (some a2) (n - j.toNat) (cap - j.toNat):=by
    have:d<a.tmps.size:=by omega
    simp [hod,Act.put,Act.eval,this]
   by_cases hnj:n - j.toNat=0
   ·refine ⟨w, .inr ⟨rfl,List.eq_nil_of_length_eq_zero (by rw [hul,hnj];simp)⟩, ?_⟩;unfold execOp;rw [ho'];simp only [resolve,List.map_toArray,List.map_cons,List.map_nil,hev];rw [hnj];simp [invoke,builtin,Builtin.clear_,run_underlying hu]
   ·have ha2':a2=⟨bb,j.toNat*i.size,none⟩:=ha2.resolve_right (by omega);subst ha2';refine ⟨_, .inl rfl, ?_⟩;obtain ⟨q,hq⟩:∃q,n - j.toNat=q+1:=⟨n - j.toNat - 1,by omega⟩;have hus':(Zbi z.cells (q+1)).toList=us:=by rw [←hq];exact hus
    unfold execOp;rw [ho'];simp only [resolve,List.map_toArray,List.map_cons,List.map_nil,hev];rw [hq];simp [invoke,builtin,Builtin.clear_,run_underlying hu,zeroValue,typeInfo,hi,hz,hus',hst]
  obtain ⟨w2,hw2,hexec2⟩:=hex2;have hfin:RelS S X Ev.yl w2 m B (hv.set g (vs.take (j.toNat*i.size)++us++vs.drop (j.toNat*i.size+us.length))) {tm:=putA (putA s.tm (some d) .bad) o'.dst .bad,hp:=s.hp.set g (AMk9 blk j.toNat n i.size zr),pv:= []} ((a.put o.dst (.slice (some a2) (n - j.toNat) (cap - j.toNat))).put o'.dst (.tuple #[]))∧Gs S X none w m S w2 m:=by
   have hcl:({blk with cells:=blk.cells.take (j.toNat*i.size)++flatA (Zap (n - j.toNat) zr)++blk.cells.drop (j.toNat*i.size+us.length)}:Blk)=AMk9 blk j.toNat n i.size zr:=by rw [hcells];rfl
   rw [hcl] at h2;have hR2:Rel S X Ev.yl w2 m ((s.tm.zip a.tmps.toList++B)++AAa9 (s.hp.set g (AMk9 blk j.toNat n i.size zr)) (hv.set g (vs.take (j.toNat*i.size)++us++vs.drop (j.toNat*i.size+us.length)))) (s.hp.set g (AMk9 blk j.toNat n i.size zr)) (hv.set g (vs.take (j.toNat*i.size)++us++vs.drop (j.toNat*i.size+us.length)))∧Gs S X none w m S w2 m:=by
    rcases hw2 with rfl|⟨rfl,rfl⟩
    ·exact ⟨by simpa using h2,⟨h3,fun _ _ h=>h,fun _ _ h=> .inl h,MStep.refl m⟩⟩
    ·have e0:(flatA (Zap (n - j.toNat) zr))= []:=List.eq_nil_of_length_eq_zero (by rw [hpl];rfl);have e1:AMk9 blk j.toNat n i.size zr=blk:=by
      have:blk.cells.take (j.toNat*i.size)=blk.cells:=List.take_of_length_le (by rw [←g3];simp at hul;omega);unfold AMk9;rw [e0,this,List.append_nil]
     have e2:vs.take (j.toNat*i.size)++ []++vs.drop (j.toNat*i.size+([]:List Value).length)=vs:=by simp
     rw [e1,e2,BDe9 hg,BDe9 g2];exact ⟨hr',Gs.refl _ _ _ _ _⟩
   refine ⟨⟨by rw [AAs9,AAs9,ADc9,ADc9];exact hl, ?_,by intro p hp;cases hp⟩,hR2.2⟩;have c1:=(Rel.cons (x:= .bad) (v:= .slice (some a2) (n - j.toNat) (cap - j.toNat)) hR2.1 .bad rfl);have c1':=Rel.putTmp (C:=B++AAa9 (s.hp.set g (AMk9 blk j.toNat n i.size zr)) (hv.set g (vs.take (j.toNat*i.size)++us++vs.drop (j.toNat*i.size+us.length)))) hl (by simpa using c1) o.dst;have c2:=Rel.cons (x:= .bad) (v:= .tuple #[]) c1' .bad rfl;have c2':=Rel.putTmp (tm:=putA s.tm o.dst .bad) (a:=a.put o.dst (.slice (some a2) (n - j.toNat) (cap - j.toNat))) (C:=B++AAa9 (s.hp.set g (AMk9 blk j.toNat n i.size zr)) (hv.set g (vs.take (j.toNat*i.size)++us++vs.drop (j.toNat*i.size+us.length)))) (by rw [AAs9,ADc9];exact hl) (by simpa using c2) o'.dst;rw [hod] at c2';rw [hod];simpa using c2'
  refine AAm9 (by simp [ho']) hexec2 (.inl rfl) ?_;have hstep:Tie Ev lo r S X V w2 m B _ _ b _:=ht.step hfin.2 hfin.1 (by rw [ACl9,ACl9]);exact hK _ _ ⟨rfl,rfl⟩ S X V w2 m _ _ (hfin.2.went hfin.1.slt) (MStep.refl m) hstep
end
def BWy9 (P:Program) (s:RS) (o o':Oper) (K:RS→Prop):Prop:=
 match o.op,o.dst,o'.op with
 | .slice t x (some lo) none none,some d, .call c=>match c.callee,c.args[0]?,c.argTypes[0]? with
  | .builtin .clear,some (Operand.tmp d'),some t'=>match evalA s.tm x,evalA s.tm lo,P.underlying t with
   | .gref g ver n k, .d (.s (.int _ j)),some (.slice e)=>match P.info? e,s.hp[g]? with
    | some i,some blk=>match zrow i with
     |some zr=>BIf (o.guard.isNone&&(o'.guard.isNone&&(Zgm d d'&&(Zgm t t'&&(Zgm c.args.size 1&&(Zgm c.argTypes.size 1&&(Nat.blt d s.tm.length&&(blk.grow&&(!blk.fro&&(Zgm k i.size&&(Zgm zr.length i.size&&(Nat.blt 0 i.size&&(zr.map AV.d).all AV.one))))))))))))
      (blk.ver=ver∧BIf (decide (0≤j)&&decide (j≤n)) (K {tm:=putA (putA s.tm (some d) .bad) o'.dst .bad,hp:=s.hp.set g (AMk9 blk j.toNat n i.size zr),pv:= []}) False) False
     |none=>False
    |_,_=>False
   |_,_,_=>False
  |_,_,_=>False
 |_,_,_=>False
def BDl9 {β:Type} (P:Program) (X:CX β) (ops:Array Oper) (tm:List AV) (hp:List Blk) (b:β) (K:List AV→List Blk→β→Prop):Prop:=
 match ops.toList.reverse with
 |o'::o::l=>opsC P X ops l.reverse ⟨tm,hp, []⟩ b fun s b=>BWy9 P s o o' fun s=>K s.tm s.hp b
 |_=>False
def wlZ {β:Type} (P:Program) (X:CX β) (wl:WLT β):WLT β
 | .region id ops false,tm,hp,b,K=>BDl9 P X ops tm hp b (K .normal)
 |c,tm,hp,b,K=>wl c tm hp b K
section
variable {P:Program} {Ev:Env P} {X:CX Ev.β} {ops:Array Oper} {o o':Oper} {s:RS} {b:Ev.β}
theorem CCz9 {α:Type} {l:Array α} {x:α} (h0:l[0]? =some x) (h1:l.size=1):l=#[x]:=by
 apply Array.ext_getElem?;intro j
 match j with
 |0=>simpa using h0
 |j+1=>simp [Array.getElem?_eq_none (by omega:l.size≤j+1)]
theorem AUr9 {K:RS→Prop} (h:BWy9 P s o o' K):LOps Ev ops [o,o'] s b fun s' b'=>K s'∧b'=b:=by
 unfold BWy9 at h;split at h<;>try exact h.elim
 rename_i t x lo d c ho hod ho';split at h<;>try exact h.elim
 rename_i d' t' hcal ha hat;split at h<;>try exact h.elim
 rename_i g ver n k kk j e hx hj hu;split at h<;>try exact h.elim
 rename_i i blk hi hg;split at h<;>try exact h.elim
 rename_i zr hz;obtain ⟨hc,hver,h⟩:=h.elim';obtain ⟨hjn,hK⟩:=h.elim';simp only [Zai,Option.isNone_iff_eq_none,Zcb,decide_eq_true_eq] at hc hjn;obtain ⟨c1,c2,c3,c4,c5,c6,c7,c8,c9,c10,c11,c12,c13⟩:=hc;have c3:=Zbz c3;have c4:=Zbz c4;have c10:=Zbz c10;subst c3 c4 c10;have ea:=CCz9 ha (Zbz c5);have eat:=CCz9 hat (Zbz c6);have ho2:o'.op= .call {callee:= .builtin .clear,args:=#[.tmp d],argTypes:=#[t]}:=by
  rw [ho'];obtain ⟨q1,q2,q3⟩:=c;simp only at hcal ea eat;subst hcal ea eat;rfl
 have:=BGi9 (Ev:=Ev) (ops:=ops) (s:=s) (b:=b) ho c1 hod ho2 c2 (by rw [←Nat.blt_eq];exact c7) hu hi hx hj hg c8 hver c9 hjn.1 hjn.2 hz (Zbz c11) (by rw [←Nat.blt_eq];exact c12) c13;intro lo r S X V w m B hv a Q ht hKK;refine this lo r S X V w m B hv a Q ht ?_;rintro s' b' ⟨rfl,rfl⟩;exact hKK _ _ ⟨hK,rfl⟩
theorem BZp9 {wl:WLT Ev.β} (hX:X.Ok) (hwl:∀c tm hp b K,wl c tm hp b K→W Ev c ⟨tm,hp,b⟩ (fun e s=>K e s.tm s.hp s.b)):∀c tm hp b K,wlZ P X wl c tm hp b K→W Ev c ⟨tm,hp,b⟩ (fun e s=>K e s.tm s.hp s.b):=by
 intro c tm hp b K h;cases c with
 | region id ops d=>
  cases d with
  |true=>exact hwl _ _ _ _ _ h
  | false=>
   have h:BDl9 P X ops tm hp b (K .normal):=h;unfold BDl9 at h;split at h
   ·rename_i o' o l hl;refine W.ofLOps ?_;have e:ops.toList=l.reverse++ [o,o']:=by
     have:=congrArg List.reverse hl;simpa using this
    rw [e];refine LOps.append (AGd9 hX h fun s' b' h=> ?_);have:=AUr9 (Ev:=Ev) (ops:=ops) (b:=b') h;intro lo r S X V w m B hv a Q ht hKK;refine this lo r S X V w m B hv a Q ht ?_;rintro s'' b'' ⟨h1,rfl⟩;exact hKK _ _ h1
   ·exact h.elim
 |_=>exact hwl _ _ _ _ _ h
end
end Go.Proofs.YthcbbmnjikhihaaGreat.Am