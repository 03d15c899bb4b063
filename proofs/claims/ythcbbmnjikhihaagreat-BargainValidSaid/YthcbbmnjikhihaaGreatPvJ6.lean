import Derived.Test.YthcbbmnjikhihaaGreatPvJ5
import Derived.Test.YthcbbmnjikhihaaGreatPvJ2
import Derived.Test.YthcbbmnjikhihaaGreatRows
import Derived.ProofKit
set_option linter.unusedSimpArgs false
set_option linter.unusedVariables false
namespace Go.Proofs.YthcbbmnjikhihaaGreat.Am
open Go Go.RowKit Go.Proofs
open Bool renaming and_eq_true → Zaj
open LeV renaming aggs → Zgg
open List renaming filter_sublist → Zgu, length_cons → Zfl, mem_append → Zbx, mem_cons → Zcd, mem_cons_of_mem → Zci, mem_cons_self → Zcb, mem_filter → Zec, mem_map → Zbh, pairwise_cons → Zdy
variable {β:Type} (y:ACw9 β) (b:β) (R:AV→β→Prop)
open AV (bad)
set_option linter.unusedVariables false
set_option maxRecDepth 20000
set_option maxHeartbeats 1000000
theorem AJz9 {α:Type} (p:α→Bool) (g:α):∀l:List α,(insP p g l).Perm (g::l)
 | []=> .refl _
 | x::r=>by
  rw [insP];split
  ·exact .refl _
  ·exact ((AJz9 p g r).cons x).trans (List.Perm.swap g x r)
theorem AJa9 {α:Type} {sl:α→Int} {g:α}:∀ {l:List α},l.Pairwise (fun a b=>sl a<sl b)→(∀x∈l,sl x≠sl g)→(insP (fun x=>decide (sl x>sl g)) g l).Pairwise (fun a b=>sl a<sl b)
 | [],_,_=>List.pairwise_singleton _ _
 | x::r,h,hn=>by
  obtain ⟨h1,h2⟩:=Zdy.1 h;have hx:=hn x (Zcb);rw [insP];split
  ·rename_i c;have c':=of_decide_eq_true c;refine Zdy.2 ⟨fun y hy=> ?_,h⟩;rcases Zcd.1 hy with rfl|hy
   ·exact c'
   ·have:=h1 y hy;omega
  ·rename_i c;have c':¬sl x>sl g:=fun e=>c (decide_eq_true e);refine Zdy.2 ⟨fun y hy=> ?_,AJa9 h2 fun y hy=>hn y (Zci _ hy)⟩;rcases Zcd.1 ((AJz9 _ g r).mem_iff.1 hy) with rfl|hy
   ·omega
   ·exact h1 y hy
theorem BHt9 {t:TabT} {s:Int} (h:busyT t s=false):(∀x∈t.us,x.sl≠s)∧∀x∈t.gs,x.sl≠s:=by
 rw [busyT,Bool.or_eq_false_iff,List.any_eq_false,List.any_eq_false] at h;exact ⟨fun x hx e=>h.1 x hx (by simpa using e),fun x hx e=>h.2 x hx (by simpa using e)⟩
theorem AMt9 (t:TabT) (s:Int):((AHr9 t s).map (·.sl))=(t.ak.map (·.sl)).filter (fun x=> !(x==s)):=by
 rw [AHr9,List.filter_map];rfl
theorem AVg9 {u g a:List Int} {s:Int} (h:(u++g++a).Nodup) (hu:s∉u) (hg:s∉g):(s::(u++g++a.filter fun x=> !(x==s))).Nodup:=by
 refine List.nodup_cons.2 ⟨fun hm=> ?_, ?_⟩
 ·rw [Zbx,Zbx] at hm;rcases hm with (hm|hm)|hm
  ·exact hu hm
  ·exact hg hm
  ·have:=(Zec.1 hm).2;simp at this
 ·exact h.sublist (List.Sublist.append (List.Sublist.refl _) Zgu)
theorem ACd9.addG {t:TabT} {ly:LayT} {g:GraT} (h:ACd9 t ly) (hg:graOk g ly=true) (hb:busyT t g.sl=false) (hn:t.us.length+t.gs.length<24):ACd9 ⟨t.us,insSG g t.gs,AHr9 t g.sl⟩ ly:=by
 obtain ⟨h1,⟨h2,h3⟩,h4,⟨g1,g2⟩,⟨a1,a2⟩,h5⟩:=h;obtain ⟨b1,b2⟩:=BHt9 hb;have hp:=AJz9 (fun x:GraT=>decide (x.sl>g.sl)) g t.gs;refine ⟨h1,⟨?_, ?_⟩,h4,⟨fun x hx=> ?_,AJa9 (sl:=fun x:GraT=>x.sl) g2 b2⟩,⟨fun x hx=>a1 x (Zec.1 hx).1,a2.sublist Zgu⟩, ?_⟩
 ·have:=hp.length_eq;simp only [Zfl] at this;show t.us.length+(insP _ g t.gs).length≤24;omega
 ·exact Nat.le_trans (List.length_filter_le _ _) h3
 ·rcases Zcd.1 (hp.mem_iff.1 hx) with rfl|hx
  ·exact hg
  ·exact g1 x hx
 ·have h6:=AVg9 (s:=g.sl) h5 (fun hm=>by obtain ⟨x,hx,he⟩:=Zbh.1 hm;exact b1 x hx he) (fun hm=>by obtain ⟨x,hx,he⟩:=Zbh.1 hm;exact b2 x hx he);refine List.Perm.nodup (List.Perm.symm ?_) h6;show (t.us.map (·.sl)++(insP _ g t.gs).map (·.sl)++(AHr9 t g.sl).map (·.sl)).Perm _;rw [AMt9];have h7:((insP (fun x:GraT=>decide (x.sl>g.sl)) g t.gs).map (·.sl)).Perm (g.sl::t.gs.map (·.sl)):=hp.map _;refine ((List.Perm.append_left _ h7).append_right _).trans ?_;rw [List.append_assoc,List.append_assoc];exact List.perm_middle
theorem ACd9.addU {t:TabT} {ly:LayT} {g:UseT} (h:ACd9 t ly) (hg:useOk g ly=true) (hb:busyT t g.sl=false) (hn:t.us.length+t.gs.length<24):ACd9 ⟨insSU g t.us,t.gs,AHr9 t g.sl⟩ ly:=by
 obtain ⟨h1,⟨h2,h3⟩,⟨u1,u2⟩,h4,⟨a1,a2⟩,h5⟩:=h;obtain ⟨b1,b2⟩:=BHt9 hb;have hp:=AJz9 (fun x:UseT=>decide (x.sl>g.sl)) g t.us;refine ⟨h1,⟨?_, ?_⟩,⟨fun x hx=> ?_,AJa9 (sl:=fun x:UseT=>x.sl) u2 b1⟩,h4,⟨fun x hx=>a1 x (Zec.1 hx).1,a2.sublist Zgu⟩, ?_⟩
 ·have:=hp.length_eq;simp only [Zfl] at this;show (insP _ g t.us).length+t.gs.length≤24;omega
 ·exact Nat.le_trans (List.length_filter_le _ _) h3
 ·rcases Zcd.1 (hp.mem_iff.1 hx) with rfl|hx
  ·exact hg
  ·exact u1 x hx
 ·have h6:=AVg9 (s:=g.sl) h5 (fun hm=>by obtain ⟨x,hx,he⟩:=Zbh.1 hm;exact b1 x hx he) (fun hm=>by obtain ⟨x,hx,he⟩:=Zbh.1 hm;exact b2 x hx he);refine List.Perm.nodup (List.Perm.symm ?_) h6;show ((insP _ g t.us).map (·.sl)++t.gs.map (·.sl)++(AHr9 t g.sl).map (·.sl)).Perm _;rw [AMt9];have h7:((insP (fun x:UseT=>decide (x.sl>g.sl)) g t.us).map (·.sl)).Perm (g.sl::t.us.map (·.sl)):=hp.map _;exact (h7.append_right _).append_right _
theorem BAf9 {t:TabT} {ly:LayT} {g:GraT} (h:refEG t ly g=0):ACd9 (addSG t ly g) ly:=by
 obtain ⟨h1,h2,h3,h4⟩:=AJw9 h;rw [addSG,if_pos h];exact (ADw9.1 h1).addG h2 h3 h4
theorem BAe9 {t:TabT} {ly:LayT} {g:UseT} (h:refEU t ly g=0):ACd9 (addSU t ly g) ly:=by
 obtain ⟨h1,h2,h3,h4⟩:=AJw9 h;rw [addSU,if_pos h];exact (ADw9.1 h1).addU h2 h3 h4
theorem ADo9 {α β:Type} {P:β→Prop} {f:β→α→β} (hf:∀b a,P b→P (f b a)):∀(l:List α) {b:β},P b→P (l.foldl f b)
 | [],b,h=>h
 |x::r,b,h=>ADo9 hf r (hf b x h)
theorem AOt9 {s:SideT} {ly:LayT} {me fr:Int} {n:NearT} (t:TabT) (a:AskT) (h:ACd9 t ly):ACd9 (AAt9 s ly me fr n t a) ly:=by
 unfold AAt9;split
 ·exact h
 ·split
  ·rename_i h1;exact BAf9 h1
  ·exact h
theorem AOu9 {s:SideT} {ly:LayT} {me fr:Int} {t:TabT} (h:ACd9 t ly):ACd9 (ALt9 s ly me fr t) ly:=
 ADo9 (P:=fun t=>ACd9 t ly) (fun t n h=>by
  unfold AFw9;split
  ·exact ADo9 (P:=fun t=>ACd9 t ly) (fun t a h=>AOt9 t a h) _ h
  ·exact h) _ h
theorem APy9 {s:SideT} {ly:LayT} {ts:Prs} {t:TabT} (h:ACd9 t ly):ACd9 (s.ns.foldl (takeN s ly ts) t) ly:=
 ADo9 (P:=fun t=>ACd9 t ly) (fun t n h=>by
  unfold takeN;split
  ·refine ADo9 (P:=fun t=>ACd9 t ly) (fun t a h=> ?_) _ h;unfold AEg9;split
   ·rename_i h1;exact BAe9 h1
   ·exact h
  ·exact h) _ h
def LayIn (ly:LayT):Prop:=(1≤ly.no∧ly.no≤60)∧(1≤ly.da∧ly.da≤60)
theorem BLz9 {ly:LayT} (h:LayIn ly) (sl of pe:Int):ABs9 sl of pe ly=ABo9 sl of pe ly:=by
 obtain ⟨h1,h2⟩:=h;rw [ABs9,AAz9 (by omega) (by omega),AAz9 (by omega) (by omega),Bool.eq_iff_iff];simp only [inN,ABo9,Zaj,decide_eq_true_eq];omega
theorem BTx9 {ly:LayT} (h:LayIn ly) (x:GraT):graIs x ly=graOk x ly:=by
 rw [graIs,graOk,BLz9 h,Bool.eq_iff_iff];simp only [inN,Zaj,decide_eq_true_eq];constructor
 ·rintro ⟨h1,h2,⟨h3,h4⟩,h5⟩;exact ⟨h1,h2,h4,h5⟩
 ·rintro ⟨h1,h2,h4,h5⟩;exact ⟨h1,h2,⟨h2,h4⟩,h5⟩
theorem CEw9 {ly:LayT} (h:LayIn ly) (n:NearT):(filN ly n).gs=n.gs.filter fun x=>graOk x ly:=by
 show n.gs.filter _=_;simp only [BTx9 h]
theorem BTk9 {fr:Int} (h:0≤fr∧fr≤999999992) (g:GraT):BDw9 fr g=⟨g.sl,g.of,g.pe,g.st,if fr+8>g.un then fr+8 else g.un⟩:=by
 rw [BDw9,AAz9 (by omega) (by omega)]
theorem BRr9 {s:SideT} {ly:LayT} {fr:Int} (h:0≤fr∧fr≤999999992) {g:GraT} (hg:graOk g ly=true):graOk (AEu9 s fr g) ly=true:=by
 unfold AEu9;split
 ·rw [BTk9 h];simp only [graOk,Zaj,decide_eq_true_eq] at hg ⊢;refine ⟨hg.1,hg.2.1, ?_, ?_⟩<;>split<;>omega
 ·exact hg
theorem ATi9 (s:SideT) (fr:Int) (g:GraT):(AEu9 s fr g).sl=g.sl∧(AEu9 s fr g).of=g.of∧(AEu9 s fr g).pe=g.pe∧(AEu9 s fr g).st=g.st:=by
 unfold AEu9;split<;>exact ⟨rfl,rfl,rfl,rfl⟩
theorem ACd9.expired {t:TabT} {ly:LayT} {s:SideT} {fr:Int} (h:ACd9 t ly) (hf:0≤fr∧fr≤999999992):ACd9 ⟨t.us,(AEk9 t fr).gs.map (AEu9 s fr),t.ak⟩ ly:=by
 obtain ⟨h1,⟨h2,h3⟩,h4,⟨g1,g2⟩,h5,h6⟩:=h;have hsub:(AEk9 t fr).gs.Sublist t.gs:=Zgu;refine ⟨h1,⟨?_,h3⟩,h4,⟨fun x hx=> ?_, ?_⟩,h5, ?_⟩
 ·have:=hsub.length_le;simp only [List.length_map];omega
 ·obtain ⟨y,hy,rfl⟩:=Zbh.1 hx;exact BRr9 hf (g1 y (hsub.subset hy))
 ·rw [List.pairwise_map];refine (g2.sublist hsub).imp fun {a b} hab=> ?_;rw [(ATi9 s fr a).1,(ATi9 s fr b).1];exact hab
 ·show (t.us.map (·.sl)++((AEk9 t fr).gs.map (AEu9 s fr)).map (·.sl)++t.ak.map (·.sl)).Nodup;have e:((AEk9 t fr).gs.map (AEu9 s fr)).map (·.sl)=(AEk9 t fr).gs.map (·.sl):=by
   rw [List.map_map];exact List.map_congr_left fun x _=>(ATi9 s fr x).1
  rw [e];exact h6.sublist (List.Sublist.append (List.Sublist.append (List.Sublist.refl _) (hsub.map _)) (List.Sublist.refl _))
theorem ATp9 {ly:LayT} {t:TabT} {me:Int} {l:List NearT} {fr:Int} (h:newS ly t me l fr=true):ACd9 (AGf9 ly t me l fr) ly:=by
 rw [AGf9,if_pos h];exact AOu9 ((ADw9.1 (AEa9 h)).expired (BDr9 h).2)
theorem BKz9 (ly:LayT) (t:TabT) (me:Int) (l:List NearT) (fr:Int):(AGf9 ly t me l fr).us=t.us:=by
 unfold AGf9;split
 ·refine ADo9 (P:=fun q:TabT=>q.us=t.us) (fun q n hq=> ?_) _ rfl;unfold AFw9;split
  ·refine ADo9 (P:=fun q:TabT=>q.us=t.us) (fun q a hq=> ?_) _ hq;unfold AAt9;split
   ·exact hq
   ·split
    ·rename_i h1;rw [addSG,if_pos h1];exact hq
    ·exact hq
  ·exact hq
 ·rfl
theorem BRg9 (ly:LayT) (t:TabT) (me:Int) (l:List NearT) (fr:Int):(takeS ly t me l fr).gs=t.gs:=by
 unfold takeS;split
 ·refine ADo9 (P:=fun q:TabT=>q.gs=t.gs) (fun q n hq=> ?_) _ rfl;unfold takeN;split
  ·refine ADo9 (P:=fun q:TabT=>q.gs=t.gs) (fun q a hq=> ?_) _ hq;unfold AEg9;split
   ·rename_i h1;rw [addSU,if_pos h1];exact hq
   ·exact hq
  ·exact hq
 ·rfl
theorem BYm9 {ly:LayT} {me:Int} {l:List NearT} {fr:Int} (h:LayIn ly):∀n∈(sideS ly me l fr).ns,∀g∈n.gs,graOk g ly=true:=by
 intro n hn g hg;simp only [sideS,Zbh] at hn;obtain ⟨x,_,rfl⟩:=hn;rw [CEw9 h] at hg;exact (Zec.1 hg).2
theorem BCb9 {ly:LayT} {me:Int} {l:List NearT} {fr:Int} (h:LayIn ly) (u v:UseT) (hu:useOk u ly=true) (hv:v∈ACx9 (sideS ly me l fr) u):useOk v ly=true∧v.sl=u.sl:=by
 unfold ACx9 at hv;split at hv
 ·rename_i g hg;rw [List.mem_singleton] at hv;subst hv;have hm:=(Zec.1 (List.mem_of_find?_eq_some hg)).1;have hg2:graOk g ly=true:=by
   cases hf:sFind (sideS ly me l fr) u.pe with
   |none=>rw [hf] at hm;simp [nearO,zeroN] at hm
   | some n=>
    rw [hf] at hm;exact BYm9 h n (List.mem_of_find?_eq_some hf) g hm
  simp only [useOk,graOk,Zaj,decide_eq_true_eq] at hu hg2 ⊢;exact ⟨⟨hu.1,by omega,by omega⟩,trivial⟩
 ·cases hv
theorem APx9 {s:SideT} (us:List UseT):((us.flatMap (ACx9 s)).map (·.sl)).Sublist (us.map (·.sl)):=by
 induction us with
 |nil=>exact List.Sublist.refl _
 | cons u r ih=>
  rw [List.flatMap_cons,List.map_append,List.map_cons];unfold ACx9;split
  ·exact ih.cons_cons _
  ·exact ih.cons _
theorem ACd9.taken {t:TabT} {ly:LayT} {me:Int} {l:List NearT} {fr:Int} (h:ACd9 t ly) (hl:LayIn ly):ACd9 ⟨t.us.flatMap (ACx9 (sideS ly me l fr)),t.gs,t.ak⟩ ly:=by
 obtain ⟨h1,⟨h2,h3⟩,⟨u1,u2⟩,h4,h5,h6⟩:=h;have hs:=APx9 (s:=sideS ly me l fr) t.us;have hln:=hs.length_le;simp only [List.length_map] at hln;refine ⟨h1,⟨by show (t.us.flatMap _).length+t.gs.length≤24;omega,h3⟩,⟨fun x hx=> ?_, ?_⟩,h4,h5, ?_⟩
 ·obtain ⟨u,hu,hx⟩:=List.mem_flatMap.1 hx;exact (BCb9 hl u x (u1 u hu) hx).1
 ·have h7:(t.us.map (·.sl)).Pairwise (fun a b=>a<b):=List.pairwise_map.2 u2;exact List.pairwise_map.1 (h7.sublist hs)
 ·exact h6.sublist (List.Sublist.append (List.Sublist.append hs (List.Sublist.refl _)) (List.Sublist.refl _))
theorem AXx9 {ly:LayT} {t:TabT} {me:Int} {l:List NearT} {fr:Int} (h:newS ly t me l fr=true):ACd9 (takeS ly t me l fr) ly:=by
 rw [takeS,if_pos h];exact APy9 ((ADw9.1 (AEa9 h)).taken (ACe9 (AEa9 h)))
theorem AQe9 {z:List AskT} (h0:∀a∈z,0≤a.sl):∀n:Nat,(sortA z n).Perm (z.filter fun x=>decide (x.sl<(n:Int)))
 | 0=>by
  have e:(z.filter fun x=>decide (x.sl<((0:Nat):Int)))= []:=by
   rw [List.filter_eq_nil_iff];intro x hx;have:=h0 x hx;simp;omega
  rw [e];exact .refl _
 | n+1=>by
  rw [sortA];refine ((AQe9 h0 n).append_right _).trans ?_;have e:∀l:List AskT,(l.filter (fun x=>decide (x.sl<(n:Int)))++l.filter (fun x=>x.sl==((n:Nat):Int))).Perm (l.filter fun x=>decide (x.sl<((n+1:Nat):Int))):=by
   intro l;induction l with
   |nil=>exact .refl _
   | cons a l ih=>
    simp only [List.filter_cons];by_cases c1:a.sl<(n:Int)
    ·have c2:a.sl<((n+1:Nat):Int):=by omega
     have c3:¬a.sl=(n:Int):=by omega
     simp only [c1,c2,decide_true,if_true,beq_iff_eq,c3,if_false,List.cons_append];exact ih.cons a
    ·by_cases c3:a.sl=(n:Int)
     ·have c2:a.sl<((n+1:Nat):Int):=by omega
      rw [if_neg (by simpa using c1),if_pos (by simpa using c3),if_pos (by simpa using c2)];exact List.perm_middle.trans (ih.cons a)
     ·have c2:¬a.sl<((n+1:Nat):Int):=by omega
      simp only [c1,c2,decide_false,Bool.false_eq_true,if_false,beq_iff_eq,c3];exact ih
  exact e z
theorem AYa9 {z:List AskT} {da:Int} (h:AJe9 da z):(sortA z da.toNat).Perm z:=by
 have h1:=AQe9 (fun a ha=>(h.1 a ha).1) da.toNat;rw [List.filter_eq_self.2 (fun a ha=>decide_eq_true (by have:=h.1 a ha;omega))] at h1;exact h1
theorem CDw9 {α:Type} {R:α→α→Prop}:∀ {l:List α},l.length≤1→l.Pairwise R
 | [],_=>List.Pairwise.nil
 | [x],_=>List.pairwise_singleton _ _
 |_::_::_,h=>absurd h (by simp)
theorem AKx9 {z:List AskT} (hd:z.Pairwise (fun a b=>a.sl≠b.sl)):∀n:Nat,(sortA z n).Pairwise (fun a b=>a.sl<b.sl)∧∀a∈sortA z n,a.sl<(n:Int)
 |0=>⟨List.Pairwise.nil,fun a ha=>by cases ha⟩
 | n+1=>by
  obtain ⟨h1,h2⟩:=AKx9 hd n;have h3:∀a∈z.filter (fun x=>x.sl==((n:Nat):Int)),a.sl=(n:Int):=fun a ha=>by
   have:=(Zec.1 ha).2;simpa using this
  refine ⟨?_,fun a ha=> ?_⟩
  ·rw [sortA,List.pairwise_append];refine ⟨h1, ?_,fun a ha b hb=>by have:=h2 a ha;have:=h3 b hb;omega⟩;have h4:=AGi9 (n:Int) hd;exact CDw9 h4
  ·rw [sortA] at ha;rcases Zbx.1 ha with ha|ha
   ·have:=h2 a ha;omega
   ·have:=h3 a ha;omega
theorem AXd9 {P:AskT→Prop} {s:SideT} {us:List UseT} {gs:List GraT} {n:NearT} {pe many:Int}:∀ {ks:List Nat} {z:List AskT},(∀a∈z,P a)→(∀k∈ks,possS s ⟨us,gs, []⟩ n (triSl s k) (triOf s k)=true→P ⟨triSl s k,triOf s k,pe⟩)→∀a∈askGo s us gs n pe many ks z,P a
 | [],z,h,_=>h
 | k::r,z,h,hk=>by
  rw [askGo];split
  ·exact h
  ·refine AXd9 (fun a ha=> ?_) fun k' h'=>hk k' (Zci _ h');unfold AIn9 at ha;split at ha
   ·rename_i h1;split at ha
    ·exact h a ha
    ·rcases Zbx.1 ha with ha|ha
     ·exact h a ha
     ·rw [List.mem_singleton] at ha;subst ha;exact hk k (Zcb) h1
   ·exact h a ha
theorem AXc9 {s:SideT} {us:List UseT} {gs:List GraT} {n:NearT} {pe many:Int}:∀ {ks:List Nat} {z:List AskT},(z.length:Int)≤many→((askGo s us gs n pe many ks z).length:Int)≤many
 | [],z,h=>h
 | k::r,z,h=>by
  rw [askGo];split
  ·exact h
  ·rename_i h1;refine AXc9 ?_;unfold AIn9;split
   ·split
    ·exact h
    ·simp only [List.length_append,Zfl,List.length_nil];omega
   ·exact h
theorem BRa9 (s:SideT) (k:Nat) (hd:1≤s.lay.da∧s.lay.da≤60) (hc:0≤triC s k):0≤triOf s k∧triOf s k<16:=by
 have h1:triC s k<16*s.lay.da:=by
  unfold triC;rw [show IntKind.wrap IntKind.i64 (16*s.lay.da)=16*s.lay.da from AAz9 (by omega) (by omega)];exact Int.tmod_lt_of_pos _ (by omega)
 have h2:Int.tdiv (triC s k) s.lay.da=triC s k / s.lay.da:=Int.tdiv_eq_ediv_of_nonneg hc;have h3:0≤triC s k / s.lay.da:=Int.ediv_nonneg hc (by omega);have h4:triC s k / s.lay.da<16:=by
  rw [Int.ediv_lt_iff_lt_mul (by omega)];exact h1
 unfold triOf;rw [h2,AAz9 (by omega) (by omega)];exact ⟨h3,h4⟩
structure AskIs (ly:LayT) (t:TabT) (s:SideT) (n:NearT) (pe many:Int) (q:List AskT):Prop where
 ok:∀a∈q,askOk a ly=true∧possS s ⟨t.us,t.gs, []⟩ n a.sl a.of=true∧a.pe=pe
 sorted:q.Pairwise (fun a b=>a.sl<b.sl)
 len:(q.length:Int)≤many
theorem CAr9 {ly:LayT} {t:TabT} {me:Int} {l:List NearT} {fr pe:Int} {n:NearT} (h:newS ly t me l fr=true) (hf:sFind (sideS ly me l fr) pe=some n):∃x∈l,n=filN ly x∧x.fm=pe∧(0≤pe∧pe<ly.no)∧pe≠me:=by
 have hv:=ACe9 (AEa9 h);have hbad:(AAf9 none l).any (badN ly me fr)=false:=by
  rw [newS,Zaj,Zaj,Zaj,Bool.not_eq_true'] at h;exact h.2.2.2
 have h1:=List.mem_of_find?_eq_some hf;have h2:(n.fm==pe)=true:=List.find?_some (p:=fun x:NearT=>x.fm==pe) hf;simp only [sideS,Zbh] at h1;obtain ⟨x,hx,rfl⟩:=h1;have h3:x.fm=pe:=by
  have h5:(filN ly x).fm=pe:=by simpa using h2
  exact h5
 have h4:=BDs9 hv.1.2 hbad x hx;rw [h3] at h4;exact ⟨x,hx,rfl,h3,⟨h4.1,h4.2.1⟩,h4.2.2.1⟩
theorem BPq9 {ly:LayT} {t:TabT} {me:Int} {l:List NearT} {pe many fr:Int} (h:newS ly t me l fr=true) (hm:0≤many∧many≤24):
 (sFind (sideS ly me l fr) pe=none∧askS ly t me l pe many fr=⟨t.us,t.gs, []⟩)∨∃n q,sFind (sideS ly me l fr) pe=some n∧askS ly t me l pe many fr=⟨t.us,t.gs,q⟩∧AskIs ly t (sideS ly me l fr) n pe many q∧q=sortA (askGo (sideS ly me l fr) t.us t.gs n pe many (triKs ly) (keptA (sideS ly me l fr) t n pe many)) ly.da.toNat:=by
 have hin:inN many 24=true:=by rw [inN,decide_eq_true hm.1,decide_eq_true hm.2];rfl
 have hvt:=AEa9 h;have hv:=ACe9 hvt;have hva:=AHo9 hvt;have hni:=BDr9 h;cases hf:sFind (sideS ly me l fr) pe with
 |none=>exact .inl ⟨rfl,by rw [askS,h,hin,Bool.and_self,if_pos rfl,hf]⟩
 | some n=>
  refine .inr ⟨n,_,rfl,by rw [askS,h,hin,Bool.and_self,if_pos rfl,hf], ?_,rfl⟩;obtain ⟨x,_,_,_,hpe,_⟩:=CAr9 h hf;have hset0:AJe9 ly.da t.ak:=⟨fun a ha=>BHu9 (hva.2.2.1.1 a ha),hva.2.2.1.2.imp fun h=>by omega⟩;have hk0:AJe9 ly.da (keptA (sideS ly me l fr) t n pe many):=
   ⟨fun a ha=>hset0.1 a (Zec.1 (List.mem_of_mem_take ha)).1,(hset0.2.sublist Zgu).sublist (List.take_sublist _ _)⟩
  have htri:∀k∈triKs ly,(0≤triSl (sideS ly me l fr) k∧triSl (sideS ly me l fr) k<(sideS ly me l fr).lay.da)∧(0≤triOf (sideS ly me l fr) k∧triOf (sideS ly me l fr) k<16):=fun k hk=>by
   rw [triKs,List.mem_range'_1] at hk;have hd:(sideS ly me l fr).lay.da=ly.da:=rfl;have hn0:=BNq9 (s:=sideS ly me l fr) k (by omega) (by rw [hd];exact hv.2) ⟨hni.1.1,by have:=hni.1.2;show me<60;omega⟩ hni.2;exact ⟨BBy9 _ k (by rw [hd];exact hv.2) hn0,BRa9 _ k (by rw [hd];exact hv.2) hn0⟩
  have hgs:AJe9 ly.da _:=AKc9 (s:=sideS ly me l fr) (us:=t.us) (gs:=t.gs) (n:=n) (pe:=pe) (many:=many) hk0 fun k hk=>(htri k hk).1;have hp:=AYa9 hgs;refine ⟨fun a ha=> ?_,(AKx9 hgs.2 _).1, ?_⟩
  ·refine AXd9 (P:=fun a=>askOk a ly=true∧possS (sideS ly me l fr) ⟨t.us,t.gs, []⟩ n a.sl a.of=true∧a.pe=pe) (fun a ha=> ?_) (fun k hk hps=> ?_) a (hp.mem_iff.1 ha)
   ·have h1:=Zec.1 (List.mem_of_mem_take ha);have h2:=h1.2;rw [keepA,Zaj] at h2;exact ⟨hva.2.2.1.1 a h1.1,h2.2,by simpa using h2.1⟩
   ·obtain ⟨h1,h2⟩:=htri k hk;refine ⟨?_,hps,rfl⟩;show ABo9 _ _ pe ly=true;simp only [ABo9,Zaj,decide_eq_true_eq];have hd:(sideS ly me l fr).lay.da=ly.da:=rfl;rw [hd] at h1;exact ⟨h1.1,h1.2,h2.1,h2.2,hpe.1,hpe.2⟩
  ·rw [hp.length_eq];refine AXc9 ?_;rw [keptA,List.length_take];omega
theorem CCl9 (ly:LayT) (t:TabT) (me:Int) (l:List NearT) (pe many fr:Int):(askS ly t me l pe many fr).us=t.us∧(askS ly t me l pe many fr).gs=t.gs:=by
 unfold askS;split
 ·split<;>exact ⟨rfl,rfl⟩
 ·exact ⟨rfl,rfl⟩
theorem BZm9 {s:SideT} {t:TabT} {n:NearT} {sl of:Int} (h:possS s ⟨t.us,t.gs, []⟩ n sl of=true):busyT t sl=false∧busyT ⟨n.us,n.gs, []⟩ sl=false∧BEm9 s.ns sl of s.me=false:=by
 unfold possS at h;split at h
 ·cases h
 ·rename_i h1;split at h
  ·cases h
  ·rename_i h2;refine ⟨?_,by simpa using h2,by simpa using h⟩;have h3:busyT t sl=busyT ⟨t.us,t.gs, []⟩ sl:=rfl;rw [h3];simpa using h1
theorem ACd9.asks {t:TabT} {ly:LayT} {q:List AskT} (h:ACd9 t ly) (hok:∀a∈q,askOk a ly=true) (hs:q.Pairwise (fun a b=>a.sl<b.sl)) (hl:q.length≤24) (hb:∀a∈q,busyT t a.sl=false):ACd9 ⟨t.us,t.gs,q⟩ ly:=by
 obtain ⟨h1,⟨h2,_⟩,h4,h5,_,h6⟩:=h;refine ⟨h1,⟨h2,hl⟩,h4,h5,⟨hok,hs⟩, ?_⟩;show (t.us.map (·.sl)++t.gs.map (·.sl)++q.map (·.sl)).Nodup;have h7:(t.us.map (·.sl)++t.gs.map (·.sl)).Nodup:=h6.sublist (List.sublist_append_left _ _);rw [List.nodup_append];refine ⟨h7, ?_,fun a ha b hb' hab=> ?_⟩
 ·rw [List.Nodup,List.pairwise_map];exact hs.imp fun h=>by omega
 ·obtain ⟨x,hx,rfl⟩:=Zbh.1 hb';obtain ⟨b1,b2⟩:=BHt9 (hb x hx);rcases Zbx.1 ha with ha|ha
  ·obtain ⟨y,hy,rfl⟩:=Zbh.1 ha;exact b1 y hy hab
  ·obtain ⟨y,hy,rfl⟩:=Zbh.1 ha;exact b2 y hy hab
theorem BHv9 {ly:LayT} {t:TabT} {me:Int} {l:List NearT} {pe many fr:Int} (h:newS ly t me l fr=true):ACd9 (askS ly t me l pe many fr) ly:=by
 have hvt:=ADw9.1 (AEa9 h);by_cases hm:0≤many∧many≤24
 ·rcases BPq9 (pe:=pe) h hm with ⟨_,e⟩|⟨n,q,_,e,hq,_⟩
  ·rw [e];exact hvt.asks (by simp) .nil (by simp) (by simp)
  ·rw [e];exact hvt.asks (fun a ha=>(hq.ok a ha).1) hq.sorted (by have:=hq.len;omega) fun a ha=>(BZm9 (hq.ok a ha).2.1).1
 ·have hin:inN many 24=false:=by
   rw [inN];by_cases h1:0≤many
   ·rw [decide_eq_false (p:=many≤24) (by omega),Bool.and_false]
   ·rw [decide_eq_false (p:=many≥0) (by omega),Bool.false_and]
  rw [askS,hin,Bool.and_false,if_neg (by decide)];exact hvt
theorem BVv9 {ly:LayT} {t:TabT} {me:Int} {l:List NearT} {pe many fr:Int} (h:newS ly t me l fr=true) (hm:0≤many∧many≤24):((askS ly t me l pe many fr).ak.length:Int)≤many:=by
 rcases BPq9 (pe:=pe) h hm with ⟨_,e⟩|⟨n,q,_,e,hq,_⟩
 ·rw [e];exact hm.1
 ·rw [e];exact hq.len
theorem BRk9 {t:TabT} {l:List NearT} (h:AQf9 t l=true):TabOk t∧l.length<1000000∧(∀x∈l,ASg9 x)∧∀x∈l,AFc9 x:=by
 rw [AQf9,Zaj,BEu9] at h;obtain ⟨h1,h2,h3,h4⟩:=h;rw [ATu9,Zaj,Bool.not_eq_true',decide_eq_true_eq] at h1;have hl:l.length≤70:=by omega
 have h5:∀x∈l,x.us.length≤40∧x.gs.length≤40∧x.ak.length≤40:=fun x hx=>by
  have h6:=h1.1;rw [List.take_of_length_le hl,List.any_eq_false] at h6;have h7:=h6 x hx;simp only [manyN,Bool.or_eq_true,decide_eq_true_eq,not_or] at h7;omega
 refine ⟨⟨by omega,by omega,by omega⟩,by omega,fun x hx=> ?_,fun x hx=> ?_⟩
 ·have:=h5 x hx;exact ⟨by omega,by omega,by omega⟩
 ·have:=h5 x hx;exact ⟨by omega,by omega,by omega⟩
theorem mx_of {t:TabT} (h:t.us.length+t.gs.length≤24∧t.ak.length≤24):TabMx t:=⟨by omega,by omega,by omega⟩
theorem CEi9 (ly:LayT) (t:TabT) (me:Int) (l:List NearT) (pe many fr:Int) (ht:TabMx t) (hl:l.length≤9223372036854775807):
 PCall Tryz.prog 4 [layA ly,tabA t, .d (i64 me), .d (.sl 31 (rowsN l)), .d (i64 pe), .d (i64 many), .d (i64 fr)] (.d (bo true)):=by
 refine PCall.ofFn (n:=100) (u:=false) mixed CFq9 AAm9.nil Tryz.func4 (by rfl) (by rfl) fun Ev bb=> ?_;rw [CAv9];refine ⟨rfl,t,l,_,rfl,rfl,ly,t,me,l,fr,_,rfl,⟨ht,hl,rfl⟩,BIf.of (fun _=>rfl) fun c1=>BIf.of (fun _=>rfl) fun c2=> ?_⟩;have d1:AQf9 t l=true:=by simpa using c1
 have d2:newS ly t me l fr=true:=by simpa using c2
 obtain ⟨s1,s2,s3,s4⟩:=BRk9 d1;have v0:=ADw9.1 (AEa9 d2);have v1:=BHv9 (pe:=pe) (many:=many) d2;have v2:=ATp9 d2;have v3:=AXx9 d2;obtain ⟨e1,e2⟩:=CCl9 ly t me l pe many fr;have e3:=BKz9 ly t me l fr;have e4:=BRg9 ly t me l fr;refine ⟨ly,t,askS ly t me l pe many fr,me,l,pe,many,fr,rfl,⟨s1,s2,s3,rfl⟩,ly,t,AGf9 ly t me l fr,me,l,fr,rfl,⟨s1,s2,s4,rfl⟩,ly,t,takeS ly t me l fr,me,l,fr,rfl,⟨s1,s2,s4,rfl⟩, ?_⟩;refine ⟨⟨(askS ly t me l pe many fr).us,(askS ly t me l pe many fr).gs, []⟩,⟨t.us,t.gs, []⟩,true, .cons (Zgg (.cons .rfl (.cons .rfl (.cons (.nil rfl) .nil)))) (.cons (Zgg (.cons .rfl (.cons .rfl (.cons (.nil rfl) .nil)))) .nil),⟨⟨by have:=v1.2.1;simp only;omega,by have:=v1.2.1;simp only;omega,by simp⟩,by rw [e1,e2];exact (AEs9 _).symm⟩, ?_⟩;refine ⟨⟨(AGf9 ly t me l fr).us, [], []⟩,⟨t.us, [], []⟩,true, .cons (Zgg (.cons .rfl (.cons (.nil rfl) (.cons (.nil rfl) .nil)))) (.cons (Zgg (.cons .rfl (.cons (.nil rfl) (.cons (.nil rfl) .nil)))) .nil),⟨⟨by have:=v2.2.1;simp only;omega,by simp,by simp⟩,by rw [e3];exact (AEs9 _).symm⟩, ?_⟩;refine ⟨⟨[],(takeS ly t me l fr).gs, []⟩,⟨[],t.gs, []⟩,true, .cons (Zgg (.cons (.nil rfl) (.cons .rfl (.cons (.nil rfl) .nil)))) (.cons (Zgg (.cons (.nil rfl) (.cons .rfl (.cons (.nil rfl) .nil)))) .nil),⟨⟨by simp,by have:=v3.2.1;simp only;omega,by simp⟩,by rw [e4];exact (AEs9 _).symm⟩, ?_⟩;refine ⟨askS ly t me l pe many fr,ly,true,rfl,⟨mx_of v1.2.1,(AHp9.2 v1).symm⟩, ?_⟩;refine ⟨AGf9 ly t me l fr,ly,true,rfl,⟨mx_of v2.2.1,(AHp9.2 v2).symm⟩, ?_⟩;refine ⟨takeS ly t me l fr,ly,true,rfl,⟨mx_of v3.2.1,(AHp9.2 v3).symm⟩, ?_⟩;refine BIf.t rfl (BIf.t rfl (BIf.t rfl (BIf.t rfl (BIf.t rfl (BIf.t rfl (BIf.of (fun _=>rfl) fun c3=>BIf.of (fun _=>rfl) fun c4=> ?_))))));have h3:=of_decide_eq_false c3;have h4:=of_decide_eq_false c4;have h5:=BVv9 (pe:=pe) d2 (many:=many) (by omega);rw [AAo9,decide_eq_true h5]
end Go.Proofs.YthcbbmnjikhihaaGreat.Am
namespace Go.Proofs.YthcbbmnjikhihaaGreat.Am
open Go Go.RowKit Go.Proofs Go.ChangeShapes Go.WideShapes Go.ChangeAt
open Bool renaming and_eq_true → Zaj
open LeV renaming aggs → Zgg
open List renaming filter_sublist → Zgu, length_cons → Zfl, mem_append → Zbx, mem_cons → Zcd, mem_cons_of_mem → Zci, mem_cons_self → Zcb, mem_filter → Zec, mem_map → Zbh, pairwise_cons → Zdy
open AV (bad)
set_option linter.unusedVariables false
set_option maxRecDepth 20000
theorem glob0 (S:Pr) (w:World):Glob S w:=fun g j v h=>by simp [AGs9] at h
theorem CCx9:ownKnob Tryz.prog.godebug=none:=by kernel_rfl
theorem BAg9:laidOutB Tryz.prog=true:=by kernel_rfl
def APq9:List Ty:= [.int .i64, .int .i64, .int .i64, .int .i64]
def ATq9:List Ty:= [.int .i64, .int .i64, .int .i64, .int .i64, .int .i64]
def AUq9:List Ty:= [.int .i64, .int .i64, .int .i64]
theorem BYf9 {row:List Dv} (h:AGv9 APq9 row):∃x:UseT,row=useR x:=by
 unfold APq9 at h;obtain _|⟨h0,h⟩:=h
 obtain _|⟨h1,h⟩:=h
 obtain _|⟨h2,h⟩:=h
 obtain _|⟨h3,h⟩:=h
 cases h;cases h0;cases h1;cases h2;cases h3;exact ⟨⟨_,_,_,_⟩,rfl⟩
theorem CBb9 {row:List Dv} (h:AGv9 ATq9 row):∃x:GraT,row=graR x:=by
 unfold ATq9 at h;obtain _|⟨h0,h⟩:=h
 obtain _|⟨h1,h⟩:=h
 obtain _|⟨h2,h⟩:=h
 obtain _|⟨h3,h⟩:=h
 obtain _|⟨h4,h⟩:=h
 cases h;cases h0;cases h1;cases h2;cases h3;cases h4;exact ⟨⟨_,_,_,_,_⟩,rfl⟩
theorem CCk9 {row:List Dv} (h:AGv9 AUq9 row):∃x:AskT,row=askR x:=by
 unfold AUq9 at h;obtain _|⟨h0,h⟩:=h
 obtain _|⟨h1,h⟩:=h
 obtain _|⟨h2,h⟩:=h
 cases h;cases h0;cases h1;cases h2;exact ⟨⟨_,_,_⟩,rfl⟩
theorem BNp9 {x:Dv} (h:HasTy (.sl APq9) x):∃l:List UseT,x= .sl 4 (rowsU l)∧l.length≤maxLen∧True:=by
 cases h with
 | sl _ xs hl h=>
  have key:∀(xs:List (List Dv)),(∀row∈xs,AGv9 APq9 row)→∃l:List UseT,xs=rowsU l:=by
   intro xs;induction xs with
   |nil=>exact fun _=>⟨[],rfl⟩
   | cons row xs ih=>
    intro h;obtain ⟨p,rfl⟩:=ih fun r hr=>h r (Zci _ hr);obtain ⟨x,rfl⟩:=BYf9 (h row (Zcb ..));exact ⟨x::p,rfl⟩
  obtain ⟨p,rfl⟩:=key xs h;exact ⟨p,rfl,by simpa [rowsU] using hl,trivial⟩
theorem BOj9 {x:Dv} (h:HasTy (.sl ATq9) x):∃l:List GraT,x= .sl 5 (rowsG l)∧l.length≤maxLen∧True:=by
 cases h with
 | sl _ xs hl h=>
  have key:∀(xs:List (List Dv)),(∀row∈xs,AGv9 ATq9 row)→∃l:List GraT,xs=rowsG l:=by
   intro xs;induction xs with
   |nil=>exact fun _=>⟨[],rfl⟩
   | cons row xs ih=>
    intro h;obtain ⟨p,rfl⟩:=ih fun r hr=>h r (Zci _ hr);obtain ⟨x,rfl⟩:=CBb9 (h row (Zcb ..));exact ⟨x::p,rfl⟩
  obtain ⟨p,rfl⟩:=key xs h;exact ⟨p,rfl,by simpa [rowsG] using hl,trivial⟩
theorem BPp9 {x:Dv} (h:HasTy (.sl AUq9) x):∃l:List AskT,x= .sl 3 (rowsA l)∧l.length≤maxLen∧True:=by
 cases h with
 | sl _ xs hl h=>
  have key:∀(xs:List (List Dv)),(∀row∈xs,AGv9 AUq9 row)→∃l:List AskT,xs=rowsA l:=by
   intro xs;induction xs with
   |nil=>exact fun _=>⟨[],rfl⟩
   | cons row xs ih=>
    intro h;obtain ⟨p,rfl⟩:=ih fun r hr=>h r (Zci _ hr);obtain ⟨x,rfl⟩:=CCk9 (h row (Zcb ..));exact ⟨x::p,rfl⟩
  obtain ⟨p,rfl⟩:=key xs h;exact ⟨p,rfl,by simpa [rowsA] using hl,trivial⟩
def AQx9:List Ty:= [.int .i64, .int .i64, .int .i64, .int .i64, .int .i64, .int .i64, .int .i64, .int .i64, .int .i64, .int .i64, .int .i64, .int .i64, .sl APq9, .sl ATq9, .sl AUq9, .sl APq9, .bool, .sl [.int .i64, .int .i64, .int .i64, .int .i64, .int .i64, .int .i64, .int .i64, .int .i64], .sl [.int .i64, .int .i64, .int .i64, .int .i64, .int .i64, .int .i64, .int .i64, .int .i64], .sl [.int .i64], .int .i64, .int .i64, .int .u64, .int .i64, .int .i64, .int .i64, .int .i64, .int .i64, .sl [.int .u8], .sl [.int .u64], .bool]
theorem BTd9 {row:List Dv} (h:AGv9 AQx9 row):∃x:NearT,row=nearR x:=by
 unfold AQx9 at h;obtain _|⟨h0,h⟩:=h
 obtain _|⟨h1,h⟩:=h
 obtain _|⟨h2,h⟩:=h
 obtain _|⟨h3,h⟩:=h
 obtain _|⟨h4,h⟩:=h
 obtain _|⟨h5,h⟩:=h
 obtain _|⟨h6,h⟩:=h
 obtain _|⟨h7,h⟩:=h
 obtain _|⟨h8,h⟩:=h
 obtain _|⟨h9,h⟩:=h
 obtain _|⟨h10,h⟩:=h
 obtain _|⟨h11,h⟩:=h
 obtain _|⟨h12,h⟩:=h
 obtain _|⟨h13,h⟩:=h
 obtain _|⟨h14,h⟩:=h
 obtain _|⟨h15,h⟩:=h
 obtain _|⟨h16,h⟩:=h
 obtain _|⟨h17,h⟩:=h
 obtain _|⟨h18,h⟩:=h
 obtain _|⟨h19,h⟩:=h
 obtain _|⟨h20,h⟩:=h
 obtain _|⟨h21,h⟩:=h
 obtain _|⟨h22,h⟩:=h
 obtain _|⟨h23,h⟩:=h
 obtain _|⟨h24,h⟩:=h
 obtain _|⟨h25,h⟩:=h
 obtain _|⟨h26,h⟩:=h
 obtain _|⟨h27,h⟩:=h
 obtain _|⟨h28,h⟩:=h
 obtain _|⟨h29,h⟩:=h
 obtain _|⟨h30,h⟩:=h
 cases h;obtain ⟨us,rfl,_⟩:=BNp9 h12;obtain ⟨gs,rfl,_⟩:=BOj9 h13;obtain ⟨ak,rfl,_⟩:=BPp9 h14;cases h0;cases h1;cases h2;cases h3;cases h4;cases h5;cases h6;cases h7;cases h8;cases h9;cases h10;cases h11;cases h15;cases h16;cases h17;cases h18;cases h19;cases h20;cases h21;cases h22;cases h23;cases h24;cases h25;cases h26;cases h27;cases h28;cases h29;cases h30;exact ⟨⟨_,_,us,gs,ak,_,_,_,_,_,_,_,_,_,_,_,_,_,_,_,_,_,_,_,_,_,_,_,_,_,_⟩,rfl⟩
theorem BTc9 {x:Dv} (h:HasTy (.sl AQx9) x):∃l:List NearT,x= .sl 31 (rowsN l)∧l.length≤maxLen∧True:=by
 cases h with
 | sl _ xs hl h=>
  have key:∀(xs:List (List Dv)),(∀row∈xs,AGv9 AQx9 row)→∃l:List NearT,xs=rowsN l:=by
   intro xs;induction xs with
   |nil=>exact fun _=>⟨[],rfl⟩
   | cons row xs ih=>
    intro h;obtain ⟨p,rfl⟩:=ih fun r hr=>h r (Zci _ hr);obtain ⟨x,rfl⟩:=BTd9 (h row (Zcb ..));exact ⟨x::p,rfl⟩
  obtain ⟨p,rfl⟩:=key xs h;exact ⟨p,rfl,by simpa [rowsN] using hl,trivial⟩
theorem BYw9 {row:List Dv} (h:AGv9 [.int .i64, .int .i64] row):∃ly:LayT,AV.agg (row.map .d)=layA ly∧True:=by
 obtain _|⟨h0,h⟩:=h
 obtain _|⟨h1,h⟩:=h
 cases h;cases h0;cases h1;exact ⟨⟨_,_⟩,rfl,trivial⟩
theorem BYv9 {row:List Dv} (h:AGv9 [.sl APq9, .sl ATq9, .sl AUq9] row):∃t:TabT,AV.agg (row.map .d)=tabA t∧TabMx t:=by
 obtain _|⟨h0,h⟩:=h
 obtain _|⟨h1,h⟩:=h
 obtain _|⟨h2,h⟩:=h
 cases h;obtain ⟨us,rfl,l0,_⟩:=BNp9 h0;obtain ⟨gs,rfl,l1,_⟩:=BOj9 h1;obtain ⟨ak,rfl,l2,_⟩:=BPp9 h2;exact ⟨⟨us,gs,ak⟩,rfl,l0,l1,l2⟩
theorem CEv9:flat Tryz.prog 20 23=some [.int .i64, .int .i64]:=by kernel_rfl
theorem CEu9:flat Tryz.prog 20 28=some [.sl APq9, .sl ATq9, .sl AUq9]:=by kernel_rfl
theorem CEt9:flat Tryz.prog 20 29=some [.sl AQx9]:=by kernel_rfl
end Go.Proofs.YthcbbmnjikhihaaGreat.Am