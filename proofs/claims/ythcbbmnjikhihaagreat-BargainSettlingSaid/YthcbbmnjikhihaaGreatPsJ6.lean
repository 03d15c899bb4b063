import Derived.Test.YthcbbmnjikhihaaGreatPsJ5
set_option linter.unusedSimpArgs false
set_option linter.unusedVariables false
namespace Go.Proofs.YthcbbmnjikhihaaGreat.Am
open Go Go.RowKit Go.Proofs
open AV renaming d → Zab
open BIf renaming of → Zbh
open Bool renaming and_eq_true → Zaj
open Go.Code renaming loop → Zaz
open Dv renaming s → Zdc, sl → Zaf
open Go.IntKind renaming i64 → Zay, wrap → Zae
open LayT renaming da → Zds
open List renaming filter → Zcg, filter_sublist → Zes, foldl_nil → Zfb, length_cons → Zei, length_nil → Zdo, mem_cons → Zbq, mem_cons_of_mem → Zbx, mem_cons_self → Zbz, mem_filter → Zch, mem_map → Zbb, pairwise_cons → Zen
open PairT renaming li → Zdh, se → Zej
open AAk9 renaming nil → Zah
open Go.Value renaming slice → Zcl
variable {β:Type} (y:ACv9 β) (b:β) (R:AV→β→Prop) (K:Exit→List AV→List Blk→β→Prop) (Q:β→Prop)
open AV (bad)
set_option linter.unusedVariables false
set_option maxRecDepth 20000
set_option maxHeartbeats 1000000
theorem BHp9 {s:SideT} {us:List UseT} {gs:List GraT} {n:NearT} {pe:Int} (hp:∀sl of,possS s ⟨us,gs, []⟩ n sl of=true) (z:List AskT) (k:Nat):(∀a∈z,a∈AFu9 s us gs n pe z k)∧∃a∈AFu9 s us gs n pe z k,a.sl=triSl s k:=by
 unfold AFu9
 rw [if_pos (hp _ _)]
 split
 · rename_i h
   obtain ⟨a,ha,he⟩:=List.any_eq_true.1 h
   exact ⟨fun a h=>h,a,ha,by simpa using he⟩
 · exact ⟨fun a h=>List.mem_append_left _ h,_,List.mem_append_right _ (List.mem_singleton.2 rfl),rfl⟩
theorem ASi9 {s:SideT} {us:List UseT} {gs:List GraT} {n:NearT} {pe many:Int} (hp:∀sl of,possS s ⟨us,gs, []⟩ n sl of=true):∀(ks:List Nat) (z:List AskT),(∀a∈z,a∈askGo s us gs n pe many ks z)∧(many≤((askGo s us gs n pe many ks z).length:Int)∨∀k∈ks,∃a∈askGo s us gs n pe many ks z,a.sl=triSl s k)
 | [],z=>⟨fun a h=>h, .inr fun k hk=>by cases hk⟩
 | k::r,z=>by
   rw [askGo]
   split
   · rename_i h
     exact ⟨fun a h=>h, .inl h⟩
   · obtain ⟨h1,h2⟩:=ASi9 hp r (AFu9 s us gs n pe z k)
     obtain ⟨a1,a,ha,he⟩:=BHp9 (pe:=pe) hp z k
     refine ⟨fun a h=>h1 a (a1 a h),h2.imp id fun h2 j hj=> ?_⟩
     rcases Zbq.1 hj with rfl|hj
     · exact ⟨a,h1 a ha,he⟩
     · exact h2 j hj
theorem BXj9 {s:SideT} (hd:1≤s.lay.da∧s.lay.da≤60) (hm:0≤s.me∧s.me<60) (hf:0≤s.fr∧s.fr≤999999992) {x:Int} (hx:0≤x∧x<s.lay.da):∃k∈triKs s.lay,triSl s k=x:=by
 obtain ⟨d,hde⟩:∃d:Int,d=s.lay.da:=⟨_,rfl⟩
 obtain ⟨c,hc⟩:∃c:Int,c=17*s.me+5*s.fr:=⟨_,rfl⟩
 have h0:=Int.emod_nonneg (x - c) (show d≠0 by omega)
 have h1:=Int.emod_lt_of_pos (x - c) (show 0<d by omega)
 refine ⟨((x - c) % d).toNat, ?_, ?_⟩
 · rw [triKs,List.mem_range'_1];omega
 · have ek:(((x - c) % d).toNat:Int)=(x - c) % d:=by omega
   have e2:Zae Zay (17*s.me)=17*s.me:=AAt9 (by omega) (by omega)
   have e3:Zae Zay (5*s.fr)=5*s.fr:=AAt9 (by omega) (by omega)
   have e4:Zae Zay (17*s.me+5*s.fr)=c:=by rw [hc];exact AAt9 (by omega) (by omega)
   have e5:Zae Zay (c+(x - c) % d)=c+(x - c) % d:=AAt9 (by omega) (by omega)
   have e6:Zae Zay (16*s.lay.da)=d*16:=by rw [←hde];rw [AAt9 (by omega) (by omega)];omega
   have hcn:0≤c+(x - c) % d:=by omega
   rw [triSl,triC,ek,e2,e3,e4,e5,e6,←hde,Int.tmod_eq_emod_of_nonneg hcn,Int.tmod_eq_emod_of_nonneg (Int.emod_nonneg _ (by omega)),Int.emod_emod_of_dvd _ (Int.dvd_mul_right d 16),Int.add_emod,Int.emod_emod_of_dvd _ (Int.dvd_refl d),←Int.add_emod]
   rw [show c+(x - c)=x by omega]
   exact Int.emod_eq_of_lt hx.1 (by omega)
theorem BMq9 {q:List AskT} {d:Int} (h:∀x:Int,0≤x∧x<d→∃a∈q,a.sl=x):d≤q.length:=by
 have h1:((List.range d.toNat).map fun i:Nat=>(i:Int)).Nodup:=by
   rw [List.Nodup,List.pairwise_map]
   exact List.nodup_range.imp fun h=>by omega
 have h2:=List.Nodup.length_le_of_subset h1 (l₂:=q.map (·.sl)) fun x hx=>by
   obtain ⟨i,hi,rfl⟩:=Zbb.1 hx
   rw [List.mem_range] at hi
   obtain ⟨a,ha,he⟩:=h (i:Int) (by omega)
   exact Zbb.2 ⟨a,ha,he⟩
 simp only [List.length_map,List.length_range] at h2
 omega
def Full (k:Nat) (many d:Int):Prop:=many≤k∨d≤k
theorem BMp9 {ly:LayT} {t:TabT} {me:Int} {l:List NearT} {pe many fr:Int} {n:NearT} (h:newS ly t me l fr=true) (hm:0≤many∧many≤24) (hf:sFind (sideS ly me l fr) pe=some n) (hp:∀sl of,possS (sideS ly me l fr) ⟨t.us,t.gs, []⟩ n sl of=true):
   Full (askS ly t me l pe many fr).ak.length many ly.da∧∀a∈(askS ly t me l pe many fr).ak,a.pe=pe:=by
 have hvt:=ADq9 h
 have hv:=ABc9 hvt
 have hva:=AFw9 hvt
 have hni:=AQy9 h
 rcases BPg9 (pe:=pe) h hm with ⟨e,_⟩|⟨n',q,hf',e,hq,hqe⟩
 · rw [hf] at e;cases e
 · rw [hf] at hf'
   cases hf'
   rw [e]
   refine ⟨?_,fun a ha=>(hq.ok a ha).2.2⟩
   have hset0:AGu9 ly.da t.ak:=⟨fun a ha=>BVa9 (hva.2.2.1.1 a ha),hva.2.2.1.2.imp fun h=>by omega⟩
   have hk0:AGu9 ly.da (keptA (sideS ly me l fr) t n pe many):=
     ⟨fun a ha=>hset0.1 a (Zch.1 (List.mem_of_mem_take ha)).1,(hset0.2.sublist Zes).sublist (List.take_sublist _ _)⟩
   have hd:(sideS ly me l fr).lay.da=ly.da:=rfl
   have htri:∀k∈triKs ly,0≤triSl (sideS ly me l fr) k∧triSl (sideS ly me l fr) k<(sideS ly me l fr).lay.da:=fun k hk=>by
     rw [triKs,List.mem_range'_1] at hk
     have hn0:=BBu9 (s:=sideS ly me l fr) k (by omega) (by rw [hd];exact hv.2) ⟨hni.1.1,by have:=hni.1.2;show me<60;omega⟩ hni.2
     exact ATh9 _ k (by rw [hd];exact hv.2) hn0
   have hgs:AGu9 ly.da _:=AIg9 (s:=sideS ly me l fr) (us:=t.us) (gs:=t.gs) (n:=n) (pe:=pe) (many:=many) hk0 fun k hk=>htri k hk
   have hpm:=ANa9 hgs
   rw [←hqe] at hpm
   show Full q.length many ly.da
   rw [hpm.length_eq]
   rcases (ASi9 (many:=many) (pe:=pe) hp (triKs ly) (keptA (sideS ly me l fr) t n pe many)).2 with h1|h1
   · exact .inl h1
   · refine .inr (BMq9 fun x hx=> ?_)
     obtain ⟨k,hk,he⟩:=BXj9 (s:=sideS ly me l fr) (by rw [hd];exact hv.2) ⟨hni.1.1,by have:=hni.1.2;show me<60;omega⟩ hni.2 (x:=x) (by rw [hd];exact hx)
     obtain ⟨a,ha,hae⟩:=h1 k hk
     exact ⟨a,ha,by rw [hae,he]⟩
theorem ATu9 {s:SideT} {ly:LayT} {me fr:Int} {n:NearT} {t:TabT} {a:AskT} {g:GraT} (h:g∈t.gs):g∈(AAm9 s ly me fr n t a).gs:=by
 unfold AAm9
 split
 · exact h
 · split
   · rename_i h1
     rw [addSG,if_pos h1]
     exact (ADh9 _ _ t.gs).mem_iff.2 (Zbx _ h)
   · exact h
theorem ARr9 {s:SideT} {ly:LayT} {fr:Int} {n:NearT} (hl:ly.no=2) (hf:0≤fr∧fr≤999999992) (hn:s.ns= [n]) (h1:n.fm=1):∀(al:List AskT) (t:TabT),ABq9 t ly→t.us= []→t.gs.length+al.length≤24→(∀a∈al,ABr9 a.sl a.of a.pe ly=true∧a.pe=0)→al.Pairwise (fun a b=>a.sl≠b.sl)→(∀a∈al,∀g∈t.gs,g.sl≠a.sl)→
   ∀a∈al,newG fr n a∈(al.foldl (AAm9 s ly 0 fr n) t).gs
 | [],t,_,_,_,_,_,_=>fun a ha=>by cases ha
 | a::r,t,hv,hu,hc,hok,hd,hb=>by
   obtain ⟨ho,hpe⟩:=hok a Zbz
   have hg:graOk (newG fr n a) ly=true:=by
     rw [BNs9 hf,h1]
     rw [hpe] at ho
     simp only [graOk,ABr9,Zaj,decide_eq_true_eq] at ho ⊢
     refine ⟨⟨ho.1,ho.2.1,ho.2.2.1,ho.2.2.2.1,by omega,by omega⟩,by omega,by omega,by omega⟩
   have hbusy:busyT t (newG fr n a).sl=false:=by
     rw [busyT,hu,Bool.or_eq_false_iff,List.any_eq_false,List.any_eq_false]
     refine ⟨fun x hx=>by (cases hx),fun x hx he=> ?_⟩
     exact hb a Zbz x hx (show x.sl=(newG fr n a).sl by simpa using he)
   have href:refEG t ly (newG fr n a)=0:=by
     rw [refEG,refS,ABt9.2 hv,hg,hbusy,hu]
     simp only [Zei] at hc
     show (if (([]:List UseT).length:Int)+(t.gs.length:Int)≥24 then (10:Int) else 0)=0
     rw [if_neg (by simp only [Zdo];omega)]
   have hone:AAm9 s ly 0 fr n t a=addSG t ly (newG fr n a):=by
     have hused:usedS s.ns a.sl a.of n.fm=false:=by
       rw [usedS,hn];simp
     rw [AAm9,hused,hpe,if_neg (by decide),if_pos href]
   have hadd:addSG t ly (newG fr n a)=⟨t.us,insSG (newG fr n a) t.gs,AGs9 t (newG fr n a).sl⟩:=by rw [addSG,if_pos href]
   have hp:=ADh9 (fun x:GraT=>decide (x.sl>(newG fr n a).sl)) (newG fr n a) t.gs
   rw [Zen] at hd
   rw [List.foldl_cons,hone]
   have hv2:=ANs9 href
   have hmem:∀g,g∈(addSG t ly (newG fr n a)).gs↔g=newG fr n a∨g∈t.gs:=fun g=>by
     rw [hadd];exact hp.mem_iff.trans Zbq
   have hlen:(addSG t ly (newG fr n a)).gs.length=t.gs.length+1:=by
     rw [hadd];exact hp.length_eq
   have hus:(addSG t ly (newG fr n a)).us= []:=by rw [hadd];exact hu
   intro x hx
   rcases Zbq.1 hx with rfl|hx
   · exact ADi9 (P:=fun q:TabT=>newG fr n x∈q.gs) (fun q b h=>ATu9 h) r ((hmem _).2 (.inl rfl))
   · refine ARr9 hl hf hn h1 r _ hv2 hus (by rw [hlen];simp only [Zei] at hc;omega) (fun a ha=>hok a (Zbx _ ha)) hd.2 (fun b hb' g hg=> ?_) x hx
     rcases (hmem g).1 hg with rfl|hg
     · exact hd.1 b hb'
     · exact hb b (Zbx _ hb') g hg
theorem AMy9 {ly:LayT} {n:NearT} {t:TabT} {g:GraT}:(∀u∈t.us,u∈(ACb9 ly n t g).us)∧t.us.length≤(ACb9 ly n t g).us.length:=by
 unfold ACb9
 split
 · rename_i h1
   rw [addSU,if_pos h1]
   have hp:=ADh9 (fun x:UseT=>decide (x.sl>g.sl)) (⟨g.sl,g.of,n.fm,g.st⟩:UseT) t.us
   refine ⟨fun u h=>hp.mem_iff.2 (Zbx _ h), ?_⟩
   show t.us.length≤(insP _ _ _).length
   rw [hp.length_eq]
   simp
 · exact ⟨fun u h=>h,Nat.le_refl _⟩
theorem AVe9 {ly:LayT} {n:NearT} (hl:ly.no=2) (h1:n.fm=0):∀(gl:List GraT) (t:TabT),ABq9 t ly→t.gs= []→t.us.length+gl.length≤24→(∀g∈gl,graOk g ly=true)→gl.Pairwise (fun a b=>a.sl≠b.sl)→(∀g∈gl,∀u∈t.us,u.sl≠g.sl)→
   ∀g∈gl,∃u∈(gl.foldl (ACb9 ly n) t).us,u.sl=g.sl
 | [],t,_,_,_,_,_,_=>fun a ha=>by cases ha
 | g::r,t,hv,hu,hc,hok,hd,hb=>by
   have ho:=hok g Zbz
   have hg:useOk ⟨g.sl,g.of,n.fm,g.st⟩ ly=true:=by
     rw [h1]
     simp only [graOk,useOk,ABr9,Zaj,decide_eq_true_eq] at ho ⊢
     refine ⟨⟨ho.1.1,ho.1.2.1,ho.1.2.2.1,ho.1.2.2.2.1,by omega,by omega⟩,by omega,by omega⟩
   have hbusy:busyT t g.sl=false:=by
     rw [busyT,hu,Bool.or_eq_false_iff,List.any_eq_false,List.any_eq_false]
     refine ⟨fun x hx he=> ?_,fun x hx=>by (cases hx)⟩
     exact hb g Zbz x hx (by simpa using he)
   have href:refEU t ly ⟨g.sl,g.of,n.fm,g.st⟩=0:=by
     rw [refEU,refS,ABt9.2 hv,hg,hbusy,hu]
     simp only [Zei] at hc
     show (if (t.us.length:Int)+(([]:List GraT).length:Int)≥24 then (10:Int) else 0)=0
     rw [if_neg (by simp only [Zdo];omega)]
   have hone:ACb9 ly n t g=addSU t ly ⟨g.sl,g.of,n.fm,g.st⟩:=by rw [ACb9,if_pos href]
   have hadd:addSU t ly ⟨g.sl,g.of,n.fm,g.st⟩=⟨insSU ⟨g.sl,g.of,n.fm,g.st⟩ t.us,t.gs,AGs9 t g.sl⟩:=by rw [addSU,if_pos href]
   have hp:=ADh9 (fun x:UseT=>decide (x.sl>g.sl)) (⟨g.sl,g.of,n.fm,g.st⟩:UseT) t.us
   rw [Zen] at hd
   rw [List.foldl_cons,hone]
   have hv2:=ANr9 href
   have hmem:∀u,u∈(addSU t ly ⟨g.sl,g.of,n.fm,g.st⟩).us↔u=⟨g.sl,g.of,n.fm,g.st⟩∨u∈t.us:=fun u=>by
     rw [hadd];exact hp.mem_iff.trans Zbq
   have hlen:(addSU t ly ⟨g.sl,g.of,n.fm,g.st⟩).us.length=t.us.length+1:=by
     rw [hadd];exact hp.length_eq
   have hus:(addSU t ly ⟨g.sl,g.of,n.fm,g.st⟩).gs= []:=by rw [hadd];exact hu
   intro x hx
   rcases Zbq.1 hx with rfl|hx
   · exact ⟨_,ADi9 (P:=fun q:TabT=>(⟨x.sl,x.of,n.fm,x.st⟩:UseT)∈q.us) (fun q b h=>AMy9.1 _ h) r ((hmem _).2 (.inl rfl)),rfl⟩
   · refine AVe9 hl h1 r _ hv2 hus (by rw [hlen];simp only [Zei] at hc;omega) (fun a ha=>hok a (Zbx _ ha)) hd.2 (fun b hb' u hu'=> ?_) x hx
     rcases (hmem u).1 hu' with rfl|hu'
     · exact hd.1 b hb'
     · exact hb b (Zbx _ hb') u hu'
theorem BPt9:LeL [.d (Zdc (Zcl none 0 0)), .d (Zdc (Zcl none 0 0)), .d (Zdc (Zcl none 0 0)), .d (Zdc (Zcl none 0 0)), .d (Zdc (Zcl none 0 0)), .d (Zdc (Zcl none 0 0)), .d (Zdc (Zcl none 0 0)), .d (Zdc (Zcl none 0 0))] (pairB zeroP).cells:=by
 repeat' (first|exact .nil|refine .cons (LeA.nilSl rfl) ?_)
theorem AKi9 (ly:LayT) (me who f f0:Int) (t:TabT):(sideS ly me [toldN who t f0] f).ns= [filN ly (toldN who t f0)]:=rfl
theorem AOa9 (ly:LayT) (me who f f0:Int) (t:TabT):sFind (sideS ly me [toldN who t f0] f) who=some (filN ly (toldN who t f0)):=by
 show List.find? (fun x:NearT=>x.fm==who) [filN ly (toldN who t f0)]=_
 have e:((filN ly (toldN who t f0)).fm==who)=true:=beq_self_eq_true who
 rw [List.find?_cons,e]
theorem BJm9 {ly:LayT} {f f0:Int} {t:TabT} (hu:t.us= []) (hg:t.gs= []) (sl of:Int):possS (sideS ly 1 [toldN 0 t f0] f) ⟨[], [], []⟩ (filN ly (toldN 0 t f0)) sl of=true:=by
 have e1:(filN ly (toldN 0 t f0)).us= []:=by show Zcg _ t.us= [];rw [hu];rfl
 have e2:(filN ly (toldN 0 t f0)).gs= []:=by show Zcg _ t.gs= [];rw [hg];rfl
 rw [possS,e1,e2,AKi9]
 have e3:AOz9 [filN ly (toldN 0 t f0)] sl of (sideS ly 1 [toldN 0 t f0] f).me=false:=by
   rw [AOz9,List.any_cons,e2];rfl
 rw [e3];rfl
structure Set1 (ly:LayT) (many:Int) (p:PairT) (f:Int):Prop where
 inv:PInv ly p f
 lu:p.li.us= []
 lg:p.li.gs= []
 su:p.se.us= []
 sg:p.se.gs= []
def AJa9 (ly:LayT) (many:Int) (t:TabT):Prop:=Full t.ak.length many ly.da∧∀a∈t.ak,a.pe=0
theorem BEm9 {α β:Type} (f:α→List β) {l:List α} (h:l= []):l.flatMap f= []:=by rw [h];rfl
theorem AOd9 {ly:LayT} {p:PairT} {f:Int} (hn:newS ly p.se 1 [toldN 0 p.li f] f=true) (lg:p.li.gs= []) (su:p.se.us= []):takeS ly p.se 1 [toldN 0 p.li f] f=⟨[],p.se.gs,p.se.ak⟩:=by
 rw [takeS,if_pos hn,AKi9,BEm9 _ su,List.foldl_cons,Zfb,takeN]
 split
 · have e:ABj9 (sideS ly 1 [toldN 0 p.li f] f) (filN ly (toldN 0 p.li f))= []:=by
     have e2:(filN ly (toldN 0 p.li f)).gs= []:=by show Zcg _ p.li.gs= [];rw [lg];rfl
     rw [ABj9,e2];rfl
   rw [e];rfl
 · rfl
section
variable {ly:LayT} {many:Int} {p:PairT} {f:Int}
theorem ADs9 (hl:ly.no=2) (hf:0≤f∧f≤999999992) {t q:TabT} (ht:ABq9 t ly) (hq:ABq9 q ly) {me who:Int} (hm:0≤me∧me<2) (hw:0≤who∧who<2) (hmw:who≠me):newS ly t me [toldN who q f] f=true:=
 AJv9 (P:=fun _=>True) (.inr ⟨q,f,rfl,⟨hf.1,Int.le_refl _⟩,hq,trivial⟩) ht (by omega) (by omega) hmw hf
theorem BNi9 (hl:ly.no=2) (hf:0≤f∧f≤999999992) (hm:0≤many∧many≤24) {p:PairT} (h:PInv ly p f) (hns:∃q,p.ns= [toldN 0 q f]∧ABq9 q ly∧q.us= []∧q.gs= []) (su:p.se.us= []) (sg:p.se.gs= []):AJa9 ly many (turnS ly p f many).se:=by
 obtain ⟨q,e,hq,qu,qg⟩:=hns
 show AJa9 ly many (askS ly p.se 1 p.ns 0 many f)
 rw [e]
 refine BMp9 (ADs9 hl hf h.se hq (by omega) (by omega) (by decide)) hm (AOa9 _ _ _ _ _ _) fun sl of=> ?_
 rw [su,sg]
 exact BJm9 qu qg sl of
theorem BXu9 (hl:ly.no=2) (hf:0≤f∧f≤999999992) (hm:0≤many∧many≤24) (h:Set1 ly many p f) (ha:p.se.ak= []):Set1 ly many (turnS ly (nextS ly p f true true) f many) (f+1)∧AJa9 ly many (turnS ly (nextS ly p f true true) f many).se:=by
 obtain ⟨hi,lu,lg,su,sg⟩:=h
 have hn:=ADs9 (me:=1) (who:=0) hl hf hi.se hi.li (by omega) (by omega) (by decide)
 have hne:=AOd9 hn lg su
 obtain ⟨h1,_⟩:=hi.next hl hf true true
 have h2:=h1.turn hl hf many
 have hse:(nextS ly p f true true).se=⟨[],p.se.gs,p.se.ak⟩:=hne
 have hA:=BNi9 hl hf hm h1 ⟨p.li,rfl,hi.li,lu,lg⟩ (by rw [hse]) (by rw [hse];exact sg)
 refine ⟨⟨h2, ?_, ?_, ?_, ?_⟩,hA⟩
 · show (AEf9 ly p.li 0 _ f).us= []
   rw [BKu9];exact lu
 · show (AEf9 ly p.li 0 [toldN 1 (nextS ly p f true true).se f] f).gs= []
   have hn2:=ADs9 (me:=0) (who:=1) hl hf hi.li h1.se (by omega) (by omega) (by decide)
   refine List.eq_nil_iff_forall_not_mem.2 fun b hb=> ?_
   rcases (ALt9 hn2).2 b hb with hm'|⟨⟨n,hn',_,a,ha',_⟩,_⟩
   · obtain ⟨g,hg,_⟩:=Zbb.1 hm'
     have:=(Zch.1 hg).1
     rw [lg] at this;cases this
   · rw [AKi9,List.mem_singleton] at hn'
     subst hn'
     have hak:(filN ly (toldN 1 (nextS ly p f true true).se f)).ak= []:=by
       show Zcg _ (nextS ly p f true true).se.ak= []
       rw [hse];show Zcg _ p.se.ak= [];rw [ha];rfl
     rw [hak] at ha';cases ha'
 · show (askS ly (nextS ly p f true true).se 1 _ 0 many f).us= []
   rw [(ASh9 ..).1,hse]
 · show (askS ly (nextS ly p f true true).se 1 _ 0 many f).gs= []
   rw [(ASh9 ..).2,hse];exact sg
structure Set2 (ly:LayT) (many:Int) (p:PairT) (f:Int):Prop where
 inv:PInv ly p f
 su:p.se.us= []
 sg:p.se.gs= []
 ask:AJa9 ly many p.se
 all:∃q:List AskT,Full q.length many ly.da∧q.Pairwise (fun a b=>a.sl≠b.sl)∧∀a∈q,∃g∈p.li.gs,g.sl=a.sl∧g.pe=1∧g.un≥f
theorem BXt9 (hl:ly.no=2) (hf:0≤f∧f≤999999992) (hm:0≤many∧many≤24) (h:Set1 ly many p f) (ha:AJa9 ly many p.se):Set2 ly many (turnS ly (nextS ly p f true true) f many) (f+1):=by
 obtain ⟨hi,lu,lg,su,sg⟩:=h
 have hlay:LayIn ly:=ABc9 (ABt9.2 hi.se)
 have hn:=ADs9 (me:=1) (who:=0) hl hf hi.se hi.li (by omega) (by omega) (by decide)
 have hne:=AOd9 hn lg su
 obtain ⟨h1,_⟩:=hi.next hl hf true true
 have h2:=h1.turn hl hf many
 have hse:(nextS ly p f true true).se=⟨[],p.se.gs,p.se.ak⟩:=hne
 have hA:=BNi9 hl hf hm h1 ⟨p.li,rfl,hi.li,lu,lg⟩ (by rw [hse]) (by rw [hse];exact sg)
 refine ⟨h2, ?_, ?_,hA,p.se.ak,ha.1, ?_,fun a hma=> ?_⟩
 · show (askS ly (nextS ly p f true true).se 1 _ 0 many f).us= []
   rw [(ASh9 ..).1,hse]
 · show (askS ly (nextS ly p f true true).se 1 _ 0 many f).gs= []
   rw [(ASh9 ..).2,hse];exact sg
 · exact hi.se.2.2.2.2.1.2.imp fun h=>by omega
 · show ∃g∈(AEf9 ly p.li 0 [toldN 1 (nextS ly p f true true).se f] f).gs,_
   have hn2:=ADs9 (me:=0) (who:=1) hl hf hi.li h1.se (by omega) (by omega) (by decide)
   obtain ⟨n,hnd⟩:∃n,n=filN ly (toldN 1 (nextS ly p f true true).se f):=⟨_,rfl⟩
   have hak:n.ak=p.se.ak:=by
     rw [hnd,CDz9 hlay]
     have e:(toldN 1 (nextS ly p f true true).se f).ak=p.se.ak:=by rw [hse];rfl
     rw [e]
     exact List.filter_eq_self.2 hi.se.2.2.2.2.1.1
   have hex:(ADn9 p.li f).gs.map (ACs9 (sideS ly 0 [toldN 1 (nextS ly p f true true).se f] f) f)= []:=by
     have:(ADn9 p.li f).gs= []:=by show Zcg _ p.li.gs= [];rw [lg];rfl
     rw [this];rfl
   have hheard:AJn9 (sideS ly 0 [toldN 1 (nextS ly p f true true).se f] f) n=true:=by
     rw [hnd]
     refine decide_eq_true ?_
     show f≥Zae Zay (f - 1)
     rw [AAt9 (by omega) (by omega)];omega
   have hgr:=ARr9 (s:=sideS ly 0 [toldN 1 (nextS ly p f true true).se f] f) (n:=n) hl hf (by rw [AKi9,hnd]) (by rw [hnd];rfl) p.se.ak ⟨p.li.us, [],p.li.ak⟩ (by
       obtain ⟨v1,v2,v3,v4,v5,v6⟩:=hi.li
       rw [lg] at v2 v4
       refine ⟨v1,v2,v3,v4,v5, ?_⟩
       have:AYa9 p.li=AYa9 ⟨p.li.us, [],p.li.ak⟩:=by rw [←lg]
       rw [←this];exact v6) lu (by have:=hi.se.2.1.2;simp;omega) (fun a ha'=>⟨hi.se.2.2.2.2.1.1 a ha',ha.2 a ha'⟩) (hi.se.2.2.2.2.1.2.imp fun h=>by omega) (fun a _ g hg=>by cases hg) a hma
   refine ⟨newG f n a, ?_,rfl,by rw [hnd];rfl, ?_⟩
   · rw [AEf9,if_pos hn2,hex,AHj9,AKi9,←hnd,List.foldl_cons,Zfb,AEu9,if_pos hheard,hak]
     exact hgr
   · rw [BNs9 hf];show f+8≥f+1;omega
structure Set3 (ly:LayT) (many:Int) (p:PairT) (f:Int):Prop where
 inv:PInv ly p f
 full:Full p.se.us.length many ly.da
 held:∀v∈p.se.us,v.pe=0∧∃x∈p.li.gs,x.sl=v.sl∧x.of=v.of∧x.pe=1∧x.un≥f
theorem BEh9 (hl:ly.no=2) (hi:ABq9 p.li ly) {x:GraT} (hx:x∈p.li.gs) (h1:x.pe=1) (h2:x.un≥f):x∈ABj9 (sideS ly 1 [toldN 0 p.li f] f) (filN ly (toldN 0 p.li f)):=by
 have hlay:LayIn ly:=ABc9 (ABt9.2 hi)
 refine Zch.2 ⟨?_, ?_⟩
 · rw [BKz9 hlay]
   exact Zch.2 ⟨hx,hi.2.2.2.1.1 x hx⟩
 · have e1:(x.pe==(sideS ly 1 [toldN 0 p.li f] f).me)=true:=by rw [h1];rfl
   have e2:decide (x.un≥(sideS ly 1 [toldN 0 p.li f] f).fr)=true:=decide_eq_true h2
   rw [e1,e2];rfl
theorem BCe9 (hl:ly.no=2) (hf:0≤f∧f≤999999992) {m2:Int} {p:PairT} (h:PInv ly p f) (hfull:Full p.se.us.length many ly.da) (hnl:p.nl= [toldN 1 p.se f]) (hh:∀v∈p.se.us,v.pe=0∧∃x∈p.li.gs,x.sl=v.sl∧x.of=v.of∧x.pe=1∧x.un≥f):Set3 ly many (turnS ly p f m2) (f+1)∧(turnS ly p f m2).se.us=p.se.us:=by
 have hlay:LayIn ly:=ABc9 (ABt9.2 h.se)
 have eu:(turnS ly p f m2).se.us=p.se.us:=(ASh9 ..).1
 refine ⟨⟨h.turn hl hf m2,by rw [eu];exact hfull,fun v hv=> ?_⟩,eu⟩
 rw [eu] at hv
 obtain ⟨hpe,x,hx,x1,x2,x3,x4⟩:=hh v hv
 refine ⟨hpe, ?_⟩
 have hn2:newS ly p.li 0 p.nl f=true:=by rw [hnl];exact ADs9 hl hf h.li h.se (by omega) (by omega) (by decide)
 have hon:AEs9 (sideS ly 0 p.nl f) x=true:=by
   have hfi:sFind (sideS ly 0 p.nl f) x.pe=some (filN ly (toldN 1 p.se f)):=by rw [hnl,x3];exact AOa9 ..
   have hheard:AJn9 (sideS ly 0 p.nl f) (filN ly (toldN 1 p.se f))=true:=by
     refine decide_eq_true ?_
     show f≥Zae Zay (f - 1)
     rw [AAt9 (by omega) (by omega)];omega
   have htell:AKo9 (sideS ly 0 p.nl f) (filN ly (toldN 1 p.se f)) x.sl x.of=true:=by
     rw [AKo9,Bool.or_eq_true]
     left
     rw [CDy9 hlay]
     refine List.any_eq_true.2 ⟨v,Zch.2 ⟨hv,h.se.2.2.1.1 v hv⟩, ?_⟩
     have e1:(v.pe==(sideS ly 0 p.nl f).me)=true:=by rw [hpe];rfl
     rw [e1,x1,x2];simp
   rw [AEs9,hfi]
   show (true&&(AJn9 _ (filN ly (toldN 1 p.se f))&&AKo9 _ (filN ly (toldN 1 p.se f)) x.sl x.of))=true
   rw [hheard,htell];rfl
 obtain ⟨e1,e2,e3,_⟩:=ALc9 (sideS ly 0 p.nl f) f x
 refine ⟨ACs9 (sideS ly 0 p.nl f) f x,(ALt9 hn2).1 _ (Zbb.2 ⟨x,Zch.2 ⟨hx,by simpa using x4⟩,rfl⟩),by rw [e1,x1],by rw [e2,x2],by rw [e3,x3], ?_⟩
 rw [ACs9,if_pos hon,ATp9 hf]
 dsimp only
 split<;>omega
theorem BXs9 (hl:ly.no=2) (hf:0≤f∧f≤999999992) (hm:0≤many∧many≤24) (hd:1≤ly.da) {m2:Int} (h:Set2 ly many p f):Set3 ly many (turnS ly (nextS ly p f true true) f m2) (f+1):=by
 obtain ⟨hi,su,sg,ha,q,hq,hqd,hall⟩:=h
 have hlay:LayIn ly:=ABc9 (ABt9.2 hi.se)
 have hn:=ADs9 (me:=1) (who:=0) hl hf hi.se hi.li (by omega) (by omega) (by decide)
 obtain ⟨h1,hh⟩:=hi.next hl hf true true
 refine (BCe9 hl hf h1 ?_ rfl hh).1
 show Full (takeS ly p.se 1 [toldN 0 p.li f] f).us.length many ly.da
 by_cases hm0:many≤0
 · exact .inl (by omega)
 have hne:∃a∈p.se.ak,a.pe=0:=by
   have:0<p.se.ak.length:=by rcases ha.1 with h|h<;>omega
   obtain ⟨a,ha'⟩:=List.exists_mem_of_length_pos this
   exact ⟨a,ha',ha.2 a ha'⟩
 have hp:hasP (filN ly (toldN 0 p.li f)).fm (BJo9 p.se)=true:=by
   obtain ⟨a,ha',he⟩:=hne
   rw [BJo9,ALf9,ALf9]
   have:(p.se.ak.any fun a=>a.pe==(filN ly (toldN 0 p.li f)).fm)=true:=List.any_eq_true.2 ⟨a,ha',by rw [he];rfl⟩
   rw [this];simp
 have hgl:∀g∈ABj9 (sideS ly 1 [toldN 0 p.li f] f) (filN ly (toldN 0 p.li f)),g∈p.li.gs:=fun g hg=>ANl9 hlay (Zch.1 hg).1
 have hsub:(ABj9 (sideS ly 1 [toldN 0 p.li f] f) (filN ly (toldN 0 p.li f))).Sublist p.li.gs:=by
   have e1:(ABj9 (sideS ly 1 [toldN 0 p.li f] f) (filN ly (toldN 0 p.li f))).Sublist (filN ly (toldN 0 p.li f)).gs:=Zes
   refine e1.trans ?_
   rw [BKz9 hlay];exact Zes
 have hti:=AVe9 (n:=filN ly (toldN 0 p.li f)) hl rfl (ABj9 (sideS ly 1 [toldN 0 p.li f] f) (filN ly (toldN 0 p.li f))) ⟨[],p.se.gs,p.se.ak⟩ (by
     obtain ⟨v1,v2,v3,v4,v5,v6⟩:=hi.se
     rw [su] at v2 v3
     refine ⟨v1,v2,v3,v4,v5, ?_⟩
     have:AYa9 p.se=AYa9 ⟨[],p.se.gs,p.se.ak⟩:=by rw [←su]
     rw [←this];exact v6) sg (by
     have e1:=hsub.length_le
     have e2:=hi.li.2.1.1
     simp only [Zdo];omega) (fun g hg=>hi.li.2.2.2.1.1 g (hgl g hg)) ((hi.li.2.2.2.1.2.imp fun h=>by omega).sublist hsub) (fun g _ u hu=>by cases hu)
 have htk:takeS ly p.se 1 [toldN 0 p.li f] f=(ABj9 (sideS ly 1 [toldN 0 p.li f] f) (filN ly (toldN 0 p.li f))).foldl (ACb9 ly (filN ly (toldN 0 p.li f))) ⟨[],p.se.gs,p.se.ak⟩:=by
   rw [takeS,if_pos hn,AKi9,BEm9 _ su,List.foldl_cons,Zfb,takeN,if_pos hp]
 have hslots:q.length≤(takeS ly p.se 1 [toldN 0 p.li f] f).us.length:=by
   have h1:(q.map (·.sl)).Nodup:=by rw [List.Nodup,List.pairwise_map];exact hqd
   have h2:=List.Nodup.length_le_of_subset h1 (l₂:=(takeS ly p.se 1 [toldN 0 p.li f] f).us.map (·.sl)) fun x hx=>by
     obtain ⟨a,ha',rfl⟩:=Zbb.1 hx
     obtain ⟨g,hg,g1,g2,g3⟩:=hall a ha'
     obtain ⟨u,hu,hus⟩:=hti g (BEh9 hl hi.li hg g2 g3)
     rw [←htk] at hu
     exact Zbb.2 ⟨u,hu,by rw [hus,g1]⟩
   simpa using h2
 rcases hq with h|h
 · exact .inl (by omega)
 · exact .inr (by omega)
theorem BEl9 {α β:Type} {g:α→List β}:∀ {l:List α},(∀x∈l,(g x).length=1)→(l.flatMap g).length=l.length
 | [],_=>rfl
 | x::r,h=>by
   have h1:=h x Zbz
   have h2:=BEl9 (l:=r) fun y hy=>h y (Zbx _ hy)
   simp only [List.flatMap_cons,List.length_append,Zei];omega
theorem BXr9 (hl:ly.no=2) (hf:0≤f∧f≤999999992) {m2:Int} (h:Set3 ly many p f):Set3 ly many (turnS ly (nextS ly p f true true) f m2) (f+1):=by
 obtain ⟨hi,hfull,hheld⟩:=h
 have hn:=ADs9 (me:=1) (who:=0) hl hf hi.se hi.li (by omega) (by omega) (by decide)
 obtain ⟨h1,hh⟩:=hi.next hl hf true true
 refine (BCe9 hl hf h1 ?_ rfl hh).1
 show Full (takeS ly p.se 1 [toldN 0 p.li f] f).us.length many ly.da
 have e1:(p.se.us.flatMap (ACd9 (sideS ly 1 [toldN 0 p.li f] f))).length=p.se.us.length:=BEl9 fun v hv=>by
   obtain ⟨hpe,x,hx,x1,x2,x3,x4⟩:=hheld v hv
   unfold ACd9
   rw [hpe,AOa9]
   have hm:=BEh9 (f:=f) hl hi.li hx x3 x4
   cases hf':(ABj9 (sideS ly 1 [toldN 0 p.li f] f) (nearO (some (filN ly (toldN 0 p.li f))))).find? (fun y=>y.sl==v.sl&&y.of==v.of) with
   |some g=>rfl
   | none=>
     exfalso
     have:=List.find?_eq_none.1 hf' x hm
     rw [x1,x2] at this
     simp at this
 have e2:p.se.us.length≤(takeS ly p.se 1 [toldN 0 p.li f] f).us.length:=by
   rw [takeS,if_pos hn,AKi9,List.foldl_cons,Zfb,takeN]
   split
   · have:=ADi9 (P:=fun q:TabT=>p.se.us.length≤q.us.length) (f:=ACb9 ly (filN ly (toldN 0 p.li f))) (fun q b h=>Nat.le_trans h AMy9.2) (ABj9 (sideS ly 1 [toldN 0 p.li f] f) (filN ly (toldN 0 p.li f))) (b:=⟨p.se.us.flatMap (ACd9 (sideS ly 1 [toldN 0 p.li f] f)),p.se.gs,p.se.ak⟩) (by show _≤(p.se.us.flatMap _).length;omega)
     exact this
   · show _≤(p.se.us.flatMap _).length;omega
 rcases hfull with h|h
 · exact .inl (by omega)
 · exact .inr (by omega)
end
def SetAt (ly:LayT) (many:Int) (i:Nat) (p:PairT) (f:Int):Prop:=match i with
 |0=>Set1 ly many p f∧p.se.ak= []
 |1=>Set1 ly many p f∧AJa9 ly many p.se
 |2=>Set2 ly many p f
 |_=>Set3 ly many p f
theorem SetAt.inv {ly:LayT} {many:Int} {i:Nat} {p:PairT} {f:Int} (h:SetAt ly many i p f):PInv ly p f:=match i,h with
 |0,h=>Set1.inv h.1
 |1,h=>Set1.inv h.1
 |2,h=>Set2.inv h
 |_+3,h=>Set3.inv h
theorem BDq9 {many:Int} (hm:0≤many∧many≤24):(if Zae Zay (many - ((([]:List UseT).length:Nat):Int))>0 then Zae Zay (many - ((([]:List UseT).length:Nat):Int)) else 0)=many:=by
 rw [Zdo,AAt9 (by omega) (by omega)]
 split<;>omega
theorem SetAt.step {ly:LayT} {many:Int} {i:Nat} {p:PairT} {f:Int} (hl:ly.no=2) (hd:1≤ly.da) (hf:0≤f∧f≤999999992) (hm:0≤many∧many≤24) (h:SetAt ly many i p f):
   SetAt ly many (i+1) (turnS ly (nextS ly p f true true) f (if Zae Zay (many - (((nextS ly p f true true).se.us.length:Nat):Int))>0 then Zae Zay (many - (((nextS ly p f true true).se.us.length:Nat):Int)) else 0)) (f+1):=by
 have none (h:Set1 ly many p f):(nextS ly p f true true).se.us= []:=by
   have hn:=ADs9 (me:=1) (who:=0) hl hf h.inv.se h.inv.li (by omega) (by omega) (by decide)
   show (takeS ly p.se 1 [toldN 0 p.li f] f).us= []
   rw [AOd9 hn h.lg h.su]
 match i,h with
 |0,h=>rw [none h.1,BDq9 hm];exact BXu9 hl hf hm h.1 h.2
 |1,h=>rw [none h.1,BDq9 hm];exact BXt9 hl hf hm h.1 h.2
 |2,h=>exact BXs9 hl hf hm hd h
 |_+3,h=>exact BXr9 hl hf h
theorem SetAt.full {ly:LayT} {many:Int} {i:Nat} {p:PairT} {f:Int} (h:SetAt ly many (i+1) p f) (hi:¬(i:Int)<2):Full p.se.us.length many ly.da:=match i,h,hi with
 |0,h,hi=>absurd (by decide) hi
 |1,h,hi=>absurd (by decide) hi
 |_+2,h,_=>Set3.full h
theorem wrSe {Ev:Env Tryz.prog} {b:Ev.β} {Q:Exit→St Ev.β→Prop} (ly:LayT) (many fi:Int) (hl:ly.no=2) (hd:1≤ly.da) (hm:0≤many∧many≤24) (hf:0≤fi∧fi≤999999900)
   (hQ:∀(p:PairT) (i:Int),Q (.exit 0) ⟨tmSe ly.da many fi true i, [layB ly,pairB p],b⟩):∀(n i:Nat) (p:PairT),i+n=12→SetAt ly many i p (fi+i)→WR Ev lpSe (n+1) ⟨tmSe ly.da many fi true (i:Nat), [layB ly,pairB p],b⟩ Q:=by
 intro n
 induction n with
 | zero=>
   intro i p hi hp
   have:i=12:=by omega
   subst this
   refine WR.ofMask (X:=⟨TSt, [],wlW Ev,Ev.Y,false⟩) (k:=100) [0,1,2,7,8,9,10] mixed (CX.Ok.of CBz9 Zah) ?_
   refine Eq.mpr (rSe _ _ _ _ ly p ly.da many fi true _) ?_
   exact BIf.f (by decide) (hQ p _)
 | succ n ih=>
   intro i p hi hp
   refine WR.ofMask (X:=⟨TSt, [],wlW Ev,Ev.Y,false⟩) (k:=100) [0,1,2,7,8,9,10] mixed (CX.Ok.of CBz9 Zah) ?_
   refine Eq.mpr (rSe _ _ _ _ ly p ly.da many fi true _) ?_
   have hfi:0≤fi+(i:Int)∧fi+(i:Int)≤999999992:=by omega
   rw [AAt9 (x:=fi+(i:Int)) (by omega) (by omega),wrapN (by omega)]
   have hi1:=hp.inv
   obtain ⟨h1,_⟩:=hi1.next hl hfi true true
   have h2:=hp.step hl hd hfi hm
   refine BIf.t (decide_eq_true (by omega)) ⟨p,_,ly,_,many,true,true,rfl,⟨hi1.ok,rfl⟩,nextS ly p (fi+i) true true,_,ly,_,_,rfl,⟨h1.ok,rfl⟩,BIf.t rfl ?_⟩
   rw [AAi9]
   have hnx:(fi+((i+1:Nat):Int))=fi+(i:Int)+1:=by omega
   refine Zbh (fun c1=>ih (i+1) _ (by omega) (by rw [hnx];exact h2)) fun c1=> ?_
   rw [decide_eq_false_iff_not] at c1
   have h3:=h2.full c1
   have h4:=ih (i+1) _ (by omega) (by rw [hnx];exact h2)
   refine ⟨_,rfl, ?_⟩
   have key:∀z:Nat,Full z many ly.da→decide ((z:Int)≥(if ly.da<many then ly.da else many))=true:=fun z h=>decide_eq_true (by rcases h with h|h<;>split<;>omega)
   rw [AAi9,key _ h3]
   exact h4
def wlSe {β:Type}:WLT β:=fun cd tm hp b K=>∃(ly:LayT) (many fi:Int),cd= .loop lpSe∧ABd9 [0,1,2,7,8,9,10] 0 tm=tmSe ly.da many fi true 0∧LeH hp [layB ly,pairB zeroP]∧(ly.no=2∧(1≤ly.da∧ly.da≤60)∧(0≤many∧many≤24)∧(0≤fi∧fi≤999999900))∧
 ∀(p:PairT) (i:Int),K (.exit 0) (tmSe ly.da many fi true i) [layB ly,pairB p] b
theorem BWq9 {Ev:Env Tryz.prog} (c:Code) (tm:List AV) (hp:List Blk) (b:Ev.β) (K:Exit→List AV→List Blk→Ev.β→Prop) (h:wlSe c tm hp b K):W Ev c ⟨tm,hp,b⟩ (fun e s=>K e s.tm s.hp s.b):=by
 obtain ⟨ly,many,fi,rfl,htm,hhp,⟨hl,hd,hm,hf⟩,hK⟩:=h
 refine W.cast (htm▸AAe9 _ tm 0) hhp ?_
 have hlo:layOk ly=true:=by
   simp only [layOk,Zaj];exact ⟨decide_eq_true (by omega),decide_eq_true (by omega),decide_eq_true hd.1,decide_eq_true hd.2⟩
 exact W.rounds (wrSe (Q:=fun e s=>K e s.tm s.hp s.b) (b:=b) ly many fi hl hd.1 hm hf hK 12 0 zeroP rfl ⟨⟨PInv.zero hlo _,rfl,rfl,rfl,rfl⟩,rfl⟩)
abbrev Qz63:=Zab (bo true)::AV.ptr 0 0::AV.ptr 1 0::Zab (i64 0)::bds 66 []
theorem BZy9 (da many fi:Int):wpFn Tryz.prog ⟨TL7, [],wlSe,y,false⟩ 100 Tryz.f8 [.d (i64 da), .d (i64 many), .d (i64 fi)] b R=(([]:List AV)= []∧BIf (decide (da<(1:Int))) (R (.d (bo true)) b) (BIf (decide (da>(60:Int))) (R (.d (bo true)) b) (BIf (decide (many<(0:Int))) (R (.d (bo true)) b) (BIf (decide (many>(24:Int))) (R (.d (bo true)) b) (BIf (decide (fi<(0:Int))) (R (.d (bo true)) b) (BIf (decide (fi>(999999900:Int))) (R (.d (bo true)) b) (∃(ly0:LayT) (many1:Int) (fi2:Int),Zaz lpSe=Zaz lpSe∧(Zab (i64 da)::Zab (i64 many)::Zab (i64 fi)::bds 4 Qz63)=(Zab (i64 (Zds ly0))::Zab (i64 many1)::Zab (i64 fi2)::bds 4 Qz63)∧LeH [Blk.mk [Zab (i64 2),Zab (i64 da)] false false 0,Blk.mk [Zab (Zdc (.slice none 0 0)),Zab (Zdc (.slice none 0 0)),Zab (Zdc (.slice none 0 0)),Zab (Zdc (.slice none 0 0)),Zab (Zdc (.slice none 0 0)),Zab (Zdc (.slice none 0 0)),Zab (Zdc (.slice none 0 0)),Zab (Zdc (.slice none 0 0))] false false 0] [Blk.mk (Qz5 ly0) false false 0,Blk.mk [Zab (Zaf 4 (rowsU (TabT.us (Zdh zeroP)))),Zab (Zaf 5 (rowsG (TabT.gs (Zdh zeroP)))),Zab (Zaf 3 (rowsA (TabT.ak (Zdh zeroP)))),Zab (Zaf 4 (rowsU (TabT.us (Zej zeroP)))),Zab (Zaf 5 (rowsG (TabT.gs (Zej zeroP)))),Zab (Zaf 3 (rowsA (TabT.ak (Zej zeroP)))),Zab (Zaf 31 (rowsN (PairT.nl zeroP))),Zab (Zaf 31 (rowsN (PairT.ns zeroP)))] false false 0]∧(LayT.no ly0=(2:Int)∧((1:Int)≤Zds ly0∧Zds ly0≤(60:Int))∧((0:Int)≤many1∧many1≤(24:Int))∧(0:Int)≤fi2∧fi2≤(999999900:Int))∧∀(p:PairT) (i:Int),R (.d (bo true)) b))))))):=by kernel_rfl
theorem CDm9 (da many fi:Int):PCall Tryz.prog 8 [.d (i64 da), .d (i64 many), .d (i64 fi)] (.d (bo true)):=by
 refine PCall.ofFnW (n:=100) (u:=false) (fun _=>wlSe) mixed CEr9 Zah (fun Ev=>BWq9) Tryz.func8 (by rfl) (by rfl) fun Ev bb=> ?_
 rw [BZy9]
 refine ⟨rfl,Zbh (fun _=>rfl) fun c1=>Zbh (fun _=>rfl) fun c2=>Zbh (fun _=>rfl) fun c3=>Zbh (fun _=>rfl) fun c4=>Zbh (fun _=>rfl) fun c5=>Zbh (fun _=>rfl) fun c6=> ?_⟩
 rw [decide_eq_false_iff_not] at c1 c2 c3 c4 c5 c6
 exact ⟨⟨2,da⟩,many,fi,rfl,rfl, .cons (.refl _) (.cons BPt9 .nil),⟨rfl,⟨by show 1≤da;omega,by show da≤60;omega⟩,by omega,by omega⟩,fun p i=>rfl⟩
end Go.Proofs.YthcbbmnjikhihaaGreat.Am
