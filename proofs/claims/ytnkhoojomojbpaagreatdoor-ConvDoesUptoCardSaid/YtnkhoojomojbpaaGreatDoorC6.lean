/- mandrelref13.Do over data: run. -/
import Derived.Test.YtnkhoojomojbpaaGreatDoorC5
import Derived.Test.YtnkhoojomojbpaaGreatDoorC4
import Derived.Test.YtnkhoojomojbpaaGreatDoorC2
open Bool renaming and_self→uu,false→a8,not_true→cy,true_and→gb,true→bc
open Decidable renaming decide→a7
open Eq renaming trans→gp
open Go.DataW renaming trod→ahE
open Go.Vm.AV renaming d→eb,nils→b5,op→mm,os→mq
open Go.Vm.Tq renaming br_no→eN
open Go.Vm.Ty renaming str→fa,unit→eR
open Int renaming eq_ofNat_of_zero_le→q8,ofNat→bd,toNat_natCast→b9,toNat_of_nonneg→kd,toNat→j4
open List renaming all_eq_true→gv,append_assoc→gl,append_nil→eT,getD→ec,getElem?_eq_getElem→dv,getElem?_eq_some_iff→hT,getElem_mem→rm,length_append→bK,length_cons→bs,length_map→vb,length_nil→eO,length_range→IJ,length_replicate→mb,length_set→WB,length_singleton→eS,length→bk,map_cons→ox,mem_cons_self→ku,mem_map→QA,mem_of_getElem?→ik,mem_range→v8,range→hW,take_append_drop→tn
open Nat renaming div_lt_of_lt_mul→w5,le_trans→zv,mod_lt→WU,mul_comm→vr,mul_pos→ya,zero_le→k7
open Option renaming none→a6,some→ar
open PUnit renaming unit→bn
set_option maxRecDepth 100000
set_option maxHeartbeats 4000000
namespace Go.Proofs.XRT
open Go.Vm Go Tryz IntKind
noncomputable section
def agp  :=aU f12
def fm  :=cL (cL (cR (cL (cR (cR (cR (cR (cR agp))))))))
def cj :Cfg:=⟨124,7,0,[(8,[1,2,4,6,8,10])],bc⟩
def gW  :=(((((((GW.add 28 (ay aAc)).add 30 (ay FG)).add 31 aHg).add 32 ayX).add 33 az8).add 36 ay0).add 34 aq8).add 35 aq9
theorem Yr :gW.Good:=(((((((jS.add aoE).add wx).add aoG).add SA).add S4).add SB).add agc).add agf
def mo y a  :=bT [Y0,aa] (aB gW f12 7 [(8,[1,2,4,6,8,10])] [.d Y2 y,.d (.slice Y0) a] [] ah)
def FO y a  :=(mo y a).isSome
def oC y a  :=(mo y a).getD (dS _)
def arb  :=cC [Y2,.slice _] _ λy a=>(FO y a,oC y a)
theorem agq :bq 12 arb:=bh (bM Yr func12 call12 (h2:=rfl)) (by simp only[dg];exact λy a h=>aZ h)
theorem ao3 {a} y ts (h:mo y ts=ar a):FO y ts=bc/\oC y ts=a:=bU h
def ja :AEx->LSt->Option (aq×LHp):=(aI 0 (aL gW cj [8] (hlp gW cj) (cR (cR (cR (cR (cR (cR agp)))))) (aV prog 0 f12.results.toList ah)))
theorem IB (y:(Y2).den)(a:List (Y0).den):aB gW f12 7 [(8,[1,2,4,6,8,10])] [.d (Y2) y,.d (.slice (Y0)) a] [] ah=bif PM y&&(fj a&&a7 (a.length<=2147483648))then bif ic y a==0 then bif y.1==jT then (hlp gW cj) fm _ {fr:=az 7 [(1,eb Y0.slice a),(2,mm 0 [] 0),(4,mm 1 [] 0),(6,mm 2 [] 0),(8,I (aN (eQ y a).2.2.1)),(10,I 0)],hp:=[(0,au.box (eb Y2 y)),(1,au.box ((I 0).pr (b5.pr (b5.pr (eb eR bn))))),(2,au.box ((I (bif Ir y.1 then 9 else (eQ y a).2.1)).pr ((eb (aa).slice (eQ y a).2.2.1).pr (b5.pr (eb eR bn)))))],nx:=3} ja else bif y.1==lL then (hlp gW cj) fm _ {fr:=az 7 [(1,eb Y0.slice a),(2,mm 0 [] 0),(4,mm 1 [] 0),(6,mm 2 [] 0),(8,I (aN (eQ y a).2.2.1)),(10,I 0)],hp:=[(0,au.box (eb Y2 y)),(1,au.box ((I 0).pr (b5.pr (b5.pr (eb eR bn))))),(2,au.box ((I (bif Ir y.1 then 9 else (eQ y a).2.1)).pr ((eb (aa).slice (eQ y a).2.2.1).pr (b5.pr (eb eR bn)))))],nx:=3} ja else bif y.1==qF then (hlp gW cj) fm _ {fr:=az 7 [(1,eb Y0.slice a),(2,mm 0 [] 0),(4,mm 1 [] 0),(6,mm 2 [] 0),(8,I (aN (eQ y a).2.2.1)),(10,I 0)],hp:=[(0,au.box (eb Y2 y)),(1,au.box ((I 0).pr (b5.pr (b5.pr (eb eR bn))))),(2,au.box ((I (bif Ir y.1 then 9 else (eQ y a).2.1)).pr ((eb (aa).slice (eQ y a).2.2.1).pr (b5.pr (eb eR bn)))))],nx:=3} ja else bif !y.1==BM then ak [(I 0).pr (b5.pr (b5.pr (eb eR bn))),I 5]else (hlp gW cj) fm _ {fr:=az 7 [(1,eb Y0.slice a),(2,mm 0 [] 0),(4,mm 1 [] 0),(6,mm 2 [] 0),(8,I (aN (eQ y a).2.2.1)),(10,I 0)],hp:=[(0,au.box (eb Y2 y)),(1,au.box ((I 0).pr (b5.pr (b5.pr (eb eR bn))))),(2,au.box ((I (bif Ir y.1 then 9 else (eQ y a).2.1)).pr ((eb (aa).slice (eQ y a).2.2.1).pr (b5.pr (eb eR bn)))))],nx:=3} ja else bif ic y a !=0 then ak [(I 0).pr (b5.pr (b5.pr (eb eR bn))),I (ic y a)]else bif y.1==jT then a6 else bif y.1==lL then a6 else bif y.1==qF then a6 else bif !y.1==BM then ak [(I 0).pr (b5.pr (b5.pr (eb eR bn))),I 5]else a6 else a6:=(aW [8] cj rfl).trans (by obtain⟨b,h⟩:=aM gW cj;rw[h];kernel_rfl)
def arc (y:(Y2).den):LHp:=[(0,.box (.d (Y2) y)),(1,.box ((I 0).pr (b5.pr (b5.pr (eb eR bn)))))]
def D8 (y:(Y2).den)(a:List cu)(N t:Int)(d:af)(i:Int):LSt:={fr:=az 7 [(1,.d (.slice (Y0)) a),(2,.op 0 [] 0),(4,.op 1 [] 0),(6,.op 2 [] 0),(8,I N),(10,I i)],hp:=arc y++[(2,.box ((I t).pr ((eb (.slice aa) d).pr (b5.pr (eb eR bn)))))],nx:=3}
def zF (y:(Y2).den)(a:List cu)(N t:Int)(d:af)(i:Int)(o:af):LSt:=⟨az 7 [(1,.d (.slice _) a),(2,.op 0 [] 0),(4,.op 1 [] 0),(6,.op 2 [] 0),(8,I N),(10,I i)],arc y++[(2,.box<|(I t).pr<|(eb (.slice aa) d).pr<|(mq 3 0).pr<| .d .unit bn),(3,.arr 2 aa 0 a8 o)],4⟩
theorem Ax y a N t d i n:lp gW cj fm (n+1) (D8 y a N t d i) ja=bif i<N then bif aoF d i then bif y.1==jT then bif afT a then bif XL y (tp a)then bif Tb y a (tk y<|tp a).1 (wA d i).1 then lp gW cj fm n (zF y a N t d (i64.wrap<|i+1) [Tc y a (tk y<|tp a).1 (wA d i).1]) ja else a6 else a6 else a6 else bif y.1==BM then (idx a 0).bind λb=>(idx b.2.1 2).bind λe=>(idx b.2.1 3).bind λc=>(idx a 0).bind λf=>bif FL y f ([e,c],[1,1],[0,0,0,0],[1,1],[0,0],bn) (wA d i).1 then lp gW cj fm n (zF y a N t d (i64.wrap<|i+1) [FM y f ([e,c],[1,1],[0,0,0,0],[1,1],[0,0],()) (wA d i).1]) ja else a6 else (idx a 0).bind λb=>bif PA y b.2.1 then (idx a 0).bind λc=>bif FL y c (o6 y b.2.1).1 (wA d i).1 then lp gW cj fm n (zF y a N t d (i64.wrap<|i+1) [FM y c (o6 y b.2.1).1 (wA d i).1]) ja else a6 else a6 else a6 else ak [(I t).pr<|(eb (aa).slice d).pr<|b5.pr<| .d .unit bn,I 0]:=by kernel_rfl
theorem Ay y a N t d i o n:lp gW cj fm (n+1) (zF y a N t d i o) ja=bif i<N then bif aoF d i then bif y.1==jT then bif afT a then bif XL y (tp a)then bif Tb y a (tk y<|tp a).1 (wA d i).1 then (app o [Tc y a (tk y<|tp a).1 (wA d i).1]).bind λb=>lp gW cj fm n (zF y a N t d (i64.wrap<|i+1) b) ja else a6 else a6 else a6 else bif y.1==BM then (idx a 0).bind λc=>(idx c.2.1 2).bind λe=>(idx c.2.1 3).bind λb=>(idx a 0).bind λf=>bif FL y f ([e,b],[1,1],[0,0,0,0],[1,1],[0,0],bn) (wA d i).1 then (app o [FM y f ([e,b],[1,1],[0,0,0,0],[1,1],[0,0],bn) (wA d i).1]).bind λg=>lp gW cj fm n (zF y a N t d (i64.wrap<|i+1) g) ja else a6 else (idx a 0).bind λc=>bif PA y c.2.1 then (idx a 0).bind λb=>bif FL y b (o6 y c.2.1).1 (wA d i).1 then (app o [FM y b (o6 y c.2.1).1 (wA d i).1]).bind λh=>lp gW cj fm n (zF y a N t d (i64.wrap<|i+1) h) ja else a6 else a6 else a6 else ar (.ret [(I t).pr<|(eb (aa).slice d).pr<|(mq 0 0).pr<| .d .unit bn,I 0],[(0,.arr 2 aa 0 a8 o)]):=by kernel_rfl
def stD (y:(Y2).den)(a:List cu)(N t:Int)(d:af)(i:Int):List Int->LSt
 |[]=>D8 y a N t d i
 |v::o=>zF y a N t d i (v::o)
def x7 (t:Int)(d:af):List Int->Option (aq×LHp)
 |[]=>ar (.ret [(I t).pr ((eb (.slice aa) d).pr (b5.pr (eb eR bn))),I 0],[])
 |v::o=>ar (.ret [(I t).pr ((eb (.slice aa) d).pr ((mq 0 0).pr (eb eR bn))),I 0],[(0,.arr 2 aa 0 a8 (v::o))])
theorem aAG t (d o:af):bT [Y0,aa] (x7 t d o)=ar ((t,d,o,()),0):=by cases o<;>rfl
theorem aAH y a N t d:hlp gW cj fm _ (D8 y a N t d 0) ja=lp gW cj fm fu (D8 y a N t d 0) ja:=rfl
theorem ao4 {y b N}(g:N<=65536){t d}{F:Nat->Int}(h:∀(i:Nat) (o:af) (n:Nat),i<N->o.length=i->i64.wrap (i+1)=(i+1:Nat)->lp gW cj fm (n+1) (stD y b N t d i o) ja=lp gW cj fm n (stD y b N t d (i+1:Nat)<|o++[F i]) ja):
  lp gW cj fm fu (D8 y b N t d 0) ja=x7 t d ((hW N).map F):=by
 let j:maxLen=9223372036854775807:=by decide
 let key:∀(l:List Nat) (o:af),bG (λo i=>.go<|o++[F i]) _ l o=x7 t d (o++l.map F):=by intro l;induction l with|nil=>intro o;rw[bG,List.map_nil,eT]|cons i l e=>intro o;refine(e _).trans ?_;rw[gl]<;>rfl
 refine(fq (T:=λn s=>lp gW cj fm n s ja) (st:=λi o=>stD y b N t d i o) (f:=λo i=>.go<|o++[F i]) (fin:=x7 t d) (λi o=>o.length=i) (by omega) ?_ ?_ (a:=[]) rfl).trans<|key _ []
 ·grind
 ·intro o n k c;cases o with|nil=>show lp gW cj fm (n+1) (D8 y b N t d N) ja=_;rw[Ax,show a7 ((N:Int)<(N:Int))=a8 from c,al]<;>rfl|cons v o=>show lp gW cj fm (n+1) (zF y b N t d N<|v::o) ja=_;rw[Ay,show a7 ((N:Int)<(N:Int))=a8 from c,al]<;>rfl
theorem aAI {y:(Y2).den}(g:(y.1==jT)=bc){a:List cu}{N t}{d:af}{i:Nat}(E:i<N)(h:i64.wrap (i+1)=(i+1:Nat)){f:cm}{W}{b:Bool}{c:af}{e x:Int}
  (z:Mz a=ar f) (A:CY y f=ar (W,b)) (B:D7 d (i:Int)=ar (c,e)) (C:Dc y a W c=ar x) {o:af} (D:o.length<=2147483648) n:
  lp gW cj fm (n+1) (stD y a N t d i o) ja=lp gW cj fm n (stD y a N t d (i+1:Nat)<|o++[x]) ja:=by
 let ⟨j,k⟩:=afU a z
 let ⟨l,p⟩:=ae4 y f A
 let ⟨q,r⟩:=PN d i B
 let ⟨s,u⟩:=aoO y a W c C
 cases o with|nil=>show lp gW cj fm (n+1) (D8 y a N t d i) ja=_;rw[Ax,aF<|show i<(N:Int) by omega,ai,q,ai,r,g,ai,j,ai,k,l,ai,p,s,ai,u,h]<;>rfl|cons v o=>show lp gW cj fm (n+1) (zF y a N t d i<|v::o) ja=_;rw[Ay,aF<|show i<(N:Int) by omega,ai,q,ai,r,g,ai,j,ai,k,l,ai,p,s,ai,u,gu D,aw,h]<;>rfl
theorem aAJ {y:(Y2).den}(f:(y.1==jT)=a8)(a:(y.1==BM)=bc){u:cu}{b N t}{d:af}{i:Nat}(A:i<N)(g:i64.wrap (i+1)=(i+1:Nat)){c:af}{e x x2 x3:Int}
  (h:idx u.2.1 2=ar x2) (j:idx u.2.1 3=ar x3) (r:D7 d (i:Int)=ar (c,e)) (s:wD y u ([x2,x3],[1,1],[0,0,0,0],[1,1],([0,0],())) c=ar x) {o:af} (z:o.length<=2147483648) n:
  lp gW cj fm (n+1) (stD y (u::b) N t d i o) ja=lp gW cj fm n (stD y (u::b) N t d (i+1:Nat)<|o++[x]) ja:=by
 obtain⟨k,l⟩:=PN d i r
 obtain⟨p,q⟩:=Td y u ([x2,x3],[1,1],[0,0,0,0],[1,1],([0,0],())) c s
 cases o with|nil=>show lp gW cj fm (n+1) (D8 y (u::b) N t d i) ja=_;rw[Ax,aF<|show i<(N:Int) by omega,ai,k,ai,l,f,al,a,ai,show idx (u::b) 0=ar u from rfl,aw,h,aw,j,aw,aw,p,ai,q,g]<;>rfl|cons v o=>show lp gW cj fm (n+1) (zF y (u::b) N t d i<|v::o) ja=_;rw[Ay,aF<|show i<(N:Int) by omega,ai,k,ai,l,f,al,a,ai,show idx (u::b) 0=ar u from rfl,aw,h,aw,j,aw,aw,p,ai,q,gu z,aw,g]<;>rfl
theorem aAK {y:(Y2).den}(g:(y.1==jT)=a8)(a:(y.1==BM)=a8){u:cu}{f N t}{d:af}{i:Nat}(C:i<N)(h:i64.wrap (i+1)=(i+1:Nat)){W}{b:Bool}{c:af}{e x:Int}
  (s:Pz y u.2.1=ar (W,b)) (z:D7 d (i:Int)=ar (c,e)) (A:wD y u W c=ar x) {o:af} (B:o.length<=2147483648) n:
  lp gW cj fm (n+1) (stD y (u::f) N t d i o) ja=lp gW cj fm n (stD y (u::f) N t d (i+1:Nat)<|o++[x]) ja:=by
 let ⟨j,k⟩:=ae5 y u.2.1 s
 let ⟨l,p⟩:=PN d i z
 let ⟨q,r⟩:=Td y u W c A
 cases o with|nil=>show lp gW cj fm (n+1) (D8 y (u::f) N t d i) ja=_;rw[Ax,aF<|show i<(N:Int) by omega,ai,l,ai,p,g,al,a,al,show idx (u::f) 0=ar u from rfl,aw,j,ai,aw,k,q,ai,r,h]<;>rfl|cons v o=>show lp gW cj fm (n+1) (zF y (u::f) N t d i<|v::o) ja=_;rw[Ay,aF<|show i<(N:Int) by omega,ai,l,ai,p,g,al,a,al,show idx (u::f) 0=ar u from rfl,aw,j,ai,aw,k,q,ai,r,gu B,aw,h]<;>rfl
structure aAL (ag:bu)(h w kh kw s0 s1 q0 q1 q2 q3 d0 d1 oh ow:Int):Prop where
 s:aj ag ff [1,1]=[s0,s1]
 q:aj ag bl [0,0,0,0]=[q0,q1,q2,q3]
 d:aj ag ez [1,1]=[d0,d1]
 bs0:1<=s0/\s0<=100
 bs1:1<=s1/\s1<=100
 bq0:0<=q0/\q0<=100
 bq1:0<=q1/\q1<=100
 bq2:0<=q2/\q2<=100
 bq3:0<=q3/\q3<=100
 bd0:1<=d0/\d0<=100
 bd1:1<=d1/\d1<=100
 r0:i64.wrap (i64.wrap (i64.wrap (i64.wrap (h+q0)+q2)-i64.wrap (d0*i64.wrap (kh-1)))-1)>=0
 r1:i64.wrap (i64.wrap (i64.wrap (i64.wrap (w+q1)+q3)-i64.wrap (d1*i64.wrap (kw-1)))-1)>=0
 eh:oh=i64.wrap (i64.wrap ((i64.wrap (i64.wrap (i64.wrap (i64.wrap (h+q0)+q2)-i64.wrap (d0*i64.wrap (kh-1)))-1)).tdiv s0)+1)
 ew:ow=i64.wrap (i64.wrap ((i64.wrap (i64.wrap (i64.wrap (i64.wrap (w+q1)+q3)-i64.wrap (d1*i64.wrap (kw-1)))-1)).tdiv s1)+1)
theorem Ti {e}(q:aE e=bc){a b h w g i}(n:dp e [a,b,h,w] [g,i]=0):∃O Q r s t u R S,aAL e h w g i O Q r s t u R S (jV e [a,b,h,w] [g,i]) (jW e [a,b,h,w] [g,i]):=by
 let ⟨o,hp,p⟩:=Im q n;let L:=bz q;let A:=cN q ff (d:=[1,1]) (by decide);let B:=cN q bl (d:=[0,0,0,0]) (by decide);let C:=cN q ez (d:=[1,1]) (by decide);let M:pG e ([a,b,h,w].getD 2 0) ([a,b,h,w].getD 3 0) ([g,i].getD 0 0) ([g,i].getD 1 0)=pG e h w g i:=rfl;let f:=Eq.refl (pG e h w g i)
 conv at f=>rhs;unfold pG
 first|rw[rfl,rfl,rfl,aF (⟨by omega,A⟩),aF (⟨by omega,B⟩),aF (⟨by omega,C⟩)]at f|rw[show (du:ao)=ff from rfl,show (cE:ao)=bl from rfl,show (dw:ao)=ez from rfl,aF (⟨by omega,A⟩),aF (⟨by omega,B⟩),aF (⟨by omega,C⟩)]at f
 let o:cA 2 1 100 (aj e ff [1,1])=bc:=o;let hp:cA 4 0 100 (aj e bl [0,0,0,0])=bc:=hp;let p:cA 2 1 100 (aj e ez [1,1])=bc:=p;rw[o,hp,p]at f;have T:=fi o;have U:=fi hp;have V:=fi p;simp only[aK]at T U V;have v:=lE o;have x:=lE hp;have D:=lE p;unfold dp LG at n;unfold jV jW LG;rw[M]at n⊢;clear M o hp p A B C;let ⟨y,z,E⟩:=FE (l:=aj e ff [1,1]) (by omega);let ⟨r,s,t,u,F⟩:=r9 (l:=aj e bl [0,0,0,0]) (by omega);let ⟨G,I,eD⟩:=FE (l:=aj e ez [1,1]) (by omega);rw[E]at v;rw[F]at x;rw[eD]at D;rw[E,F,eD]at f;have W:¬y=0:=by have:=(v y (by simp)).1;omega
 have X:¬z=0:=by have:=(v z (by simp)).1;omega
 have j:∀(a b:Int),idx [a,b] 0=ar a/\idx [a,b] 1=ar b/\[a,b][0]?=ar a/\[a,b][1]?=ar b:=λ_ _=>⟨rfl,rfl,rfl,rfl⟩
 have k:∀(a b c d:Int),idx [a,b,c,d] 0=ar a/\idx [a,b,c,d] 1=ar b/\idx [a,b,c,d] 2=ar c/\idx [a,b,c,d] 3=ar d/\[a,b,c,d][0]?=ar a/\[a,b,c,d][1]?=ar b/\[a,b,c,d][2]?=ar c/\[a,b,c,d][3]?=ar d:=λ_ _ _ _=>⟨rfl,rfl,rfl,rfl,rfl,rfl,rfl,rfl⟩
 simp only[ai,(j _ _).1,(j _ _).2.1,(j _ _).2.2.1,(j _ _).2.2.2,(k _ _ _ _).1,(k _ _ _ _).2.1,(k _ _ _ _).2.2.1,(k _ _ _ _).2.2.2.1,(k _ _ _ _).2.2.2.2.1,(k _ _ _ _).2.2.2.2.2.1,(k _ _ _ _).2.2.2.2.2.2.1,(k _ _ _ _).2.2.2.2.2.2.2,aw,if_neg W,if_neg X]at f;cases J:a7 (i64.wrap (i64.wrap (i64.wrap (i64.wrap (h+r)+t)-i64.wrap (G*i64.wrap (g-1)))-1)>=0)with|false=>rw[J]at f;rw[f]at n;exact Cz n|true=>rw[J]at f;cases K:a7 (i64.wrap (i64.wrap (i64.wrap (i64.wrap (w+s)+u)-i64.wrap (I*i64.wrap (i-1)))-1)>=0)with|false=>rw[K]at f;rw[f]at n;exact Cz n|true=>rw[K]at f;rw[f];exact⟨y,z,r,s,t,u,G,I,E,F,eD,v y (by simp),v z (by simp),x r (by simp),x s (by simp),x t (by simp),x u (by simp),D G (by simp),D I (by simp),bt J,bt K,rfl,rfl⟩
theorem Tj {e h w f g i j n o k l p r}{a b:Nat} xs (c:aAL e h w a b f g i j n o k l p r) (kk:a*b<=65536) (t:a<=65536) (u:b<=65536):WnR (zD e xs [a,b]) a b f g i j k l:=by unfold zD;rw[c.s,c.q,c.d];exact⟨rfl,rfl,rfl,rfl,rfl,rfl,rfl,rfl,kk,t,u⟩
theorem ard {e h w f g i j n o k l p r}{A B C D a b:Nat}(c:aAL e h w a b f g i j n o k l p r)(kk:a*b<=65536)(t:C*D<=65536):Wv (kL e [A,B,C,D] a b) C D a b f g i j k l:=by unfold kL prL;rw[c.s,c.q,c.d];exact⟨rfl,rfl,rfl,rfl,rfl,rfl,rfl,rfl,rfl,rfl,t,kk⟩
theorem Tk {C:Nat}(o:1<=C)(p:C<=65536){K:Nat}(q:K<=100){s a b d:Int}(r:1<=s/\s<=100)(t:0<=a/\a<=100)(u:0<=b/\b<=100)(v:a<K)(x:b<K)
  (g:i64.wrap (i64.wrap (i64.wrap (i64.wrap (C+a)+b)-i64.wrap (1*i64.wrap (K-1)))-1)>=0)
  (f:d=i64.wrap (i64.wrap ((i64.wrap (i64.wrap (i64.wrap (i64.wrap (C+a)+b)-i64.wrap (1*i64.wrap (K-1)))-1)).tdiv s)+1)) {h:Nat} (y:h<d):∃i,i<K/\0<=mn h s a 1 i/\mn h s a 1 i<C:=by
 have e:i64.wrap (i64.wrap (i64.wrap (i64.wrap ((C:Int)+a)+b)-i64.wrap (1*i64.wrap ((K:Int)-1)))-1)=(C:Int)+a+b-(K:Int):=by grind [aH]
 rw[e]at g f
 have j:((C:Int)+a+b-(K:Int)).tdiv s=((C:Int)+a+b-(K:Int))/s:=Int.tdiv_eq_ediv_of_nonneg (by omega)
 have k:((C:Int)+a+b-(K:Int))/s<=(C:Int)+a+b-(K:Int):=Int.ediv_le_self _ (by omega)
 have z:0<=((C:Int)+a+b-(K:Int))/s:=Int.ediv_nonneg (by omega) (by omega)
 rw[j]at f
 have c:(h:Int)<=((C:Int)+a+b-(K:Int))/s:=by grind [aH]
 have l:(h:Int)*s<=(C:Int)+a+b-(K:Int):=(Int.le_ediv_iff_mul_le (by omega)).1 c
 have n:0<=(h:Int)*s:=Int.mul_nonneg (by omega) (by omega)
 have ev:∀i:Nat,i<K->mn (h:Int) s a 1 (i:Int)=(h:Int)*s-a+(i:Int):=λi A=>by unfold mn;grind [aH]
 by_cases B:a<=(h:Int)*s
 ·refine⟨0,by omega,?_⟩;rw[ev 0 (by omega)];omega
 ·refine⟨(a-(h:Int)*s).toNat,by omega,?_⟩;grind
theorem aAM {C D:Nat}{b c d e f g h k}{l n i j:Nat}(o:i<l)(p:j<n)(q:0<=mn h b d f i/\mn h b d f i<C)(r:0<=mn k c e g j/\mn k c e g j<D):mF C D b c d e f g h k l n≠[]:=by refine List.ne_nil_of_mem (a:=[(i:Int),j,mn h b d f i,mn k c e g j]) ?_;refine List.mem_flatMap.2 ⟨i,v8.2 o,List.mem_flatMap.2 ⟨j,v8.2 p,?_⟩⟩;unfold Ta;grind
theorem aHt A B H W i:xV [A,B,H,W] i=[i/(B*(H*W)),i % (B*(H*W))/(H*W),i % (H*W)/W,i % (H*W) % W]:=by let e:xV [A,B,H,W] i=[i/(B*(H*(W*1))),i % (B*(H*(W*1)))/(H*(W*1)),i % (B*(H*(W*1))) % (H*(W*1))/(W*1),i % (B*(H*(W*1))) % (H*(W*1)) % (W*1)/1]:=rfl;simp_all
theorem Ys (A B M i:Nat):i/(B*M)*B+i % (B*M)/M=i/M:=by rw[Nat.mod_mul_left_div_self,vr B M,←Nat.div_div_eq_div_mul];exact Nat.div_add_mod' _ B
theorem Az b a v A B d H W:SQ b a v (A*B) d H W=(hW<|A*(B*(H*W))).map λi=>H9 b (yV a d<|i/(B*(H*W))*B+i % (B*(H*W))/(H*W)) v (i % (H*W)/W:Nat) (i % (H*W) % W:Nat):=by
 let e1:∀c,poH b c v H W=(hW _).flatMap λk=>[H9 b c v _ _]:=λc=>x5 _ H W
 unfold SQ;rw[wE<|λp _=>e1 _,x5,List.map_eq_flatMap,Nat.mul_assoc];refine wE λi _=>?_
 rw[Ys A B _ i]
theorem aHu {A B H W:Nat}:[(A:Int),(B:Int),(H:Int),(W:Int)].map j4=[A,B,H,W]:=rfl
theorem ags A B H W:bo [A,B,H,W]=A*(B*(H*W)):=by simp only[bo,Nat.mul_one]
theorem aAN {a:af}{A B H W}(h:IZ a A B H W)(b:aC a=0):aN a=(A*(B*(H*W)):Nat):=by let ⟨_,_,_,c⟩:=eL b;let e:=ln [A,B,H,W];let e2:ints [A,B,H,W]=a:=h.eq.symm;rw[e2,ags]at e;omega
theorem aAO {a:af}{A B H W i}(h:IZ a A B H W)(b:aC a=0)(c:i<A*(B*(H*W))):D7 a (i:Int)=ar ([((i/(B*(H*W)):Nat):Int),(i % (B*(H*W))/(H*W):Nat),(i % (H*W)/W:Nat),(i % (H*W) % W:Nat)],0):=by
 let e:a.map j4=[A,B,H,W]:=by rw[h.eq]<;>rfl
 let:=aAA b (by rw[e,ags];exact c);rw[e,aHt]at this;exact this
theorem agt {A B M i:Nat}(a:i<A*(B*M)):i/(B*M)<A:=w5 (by rw[vr];exact a)
theorem PY {B M i}(a:1<=B)(b:1<=M):i % (B*M)/M<B:=w5 (by rw[vr M B];exact WU _ (ya a b))
theorem aAP {H W i}(a:1<=H)(b:1<=W):i % (H*W)/W<H:=PY a b
theorem aAQ {W i}(a:1<=W):i % W<W:=WU _ a
theorem aJE {b nm ins out ag}{x:cu}{c:List cu}(hp:b=iJ\/b=iK)(i:jj (b,nm,ins,out,ag,()))(h:ic (b,nm,ins,out,ag,()) (x::c)=0):plK ag x.2.1=bc:=by
 let d  :=i.shA;let ⟨n,e⟩:=iZ h;rw[ox]at e;let j:=SD (nm:=nm) (ins:=ins) (out:=out) (ag:=ag) (v:=aR x) (vs:=c.map aR) hp;let a:=e.dm;unfold Ah at a;rw[j]at a;unfold plP at a;rw[d,ai]at a;unfold plK;show (cA 2 1 100 (aj ag eZ [])&&(bd x.2.1.length==4&&(dp ag x.2.1 (aj ag eZ [])==0&&mj (aj ag eZ []) 0 (aj ag SC []))))=bc;cases f:cA 2 1 100 _ with
 |false=>rw[f]at a;exact Cz a
 |true=>
  rw[f,ai]at a;cases g:bd x.2.1.length==4 with|false=>rw[show (bd (bk (aR x).2.2.1)==4)=a8 from g]at a;exact Cz a|true=>let k:nq ag x.2.1 (aj ag eZ [])=bc:=lh d _ _ _ _;rw[show (bd (bk (aR x).2.2.1)==4)=bc from g,ai,show nq ag (aR x).2.2.1 (aj ag eZ [])=bc from k,ai]at a;cases l:dp ag x.2.1 (aj ag eZ [])==0 with|false=>rw[show (dp ag (aR x).2.2.1 (aj ag eZ [])==0)=a8 from l]at a;let a:dp ag x.2.1 (aj ag eZ [])=0:=a;grind|true=>grind
theorem MI {y:(Y2).den}{a:List cu}(b:jj y)(c:fj a=bc)(d:a.length<=2147483648)(h:(ic y a !=0)=bc):mo y a=ar ((0,[],[],()),ic y a):=by unfold mo;rw[IB,pS.2 b,c,aF d,uu,uu,ai,iu h,al,h,ai]<;>rfl
theorem MJ {y:(Y2).den}{a:List cu}(f:jj y)(g:fj a=bc)(i:a.length<=2147483648)(h:ic y a=0)
  (b:(y.1==cQ)=a8) (c:(y.1==iJ)=a8) (d:(y.1==iK)=a8) (e:(y.1==cz)=a8):mo y a=ar ((0,[],[],()),5):=by
 unfold cQ at b
 unfold iJ at c
 unfold iK at d
 unfold cz at e
 unfold mo
 rw[IB,pS.2 f,g,aF i,uu,uu,ai,h,show ((0:Int)==0)=bc from rfl,ai,b,al,c,al,d,al,e]<;>rfl
theorem Dg {y:(Y2).den}{a:List cu}(e:jj y)(f:fj a=bc)(g:a.length<=2147483648)(h:ic y a=0)(c:(y.1==cQ||(y.1==iJ||(y.1==iK||y.1==cz)))=bc){N:Nat}(j:N<=65536)(k:aN (eQ y a).2.2.1=N){F:Nat->Int}
  (l:∀(t:Int) (d:af),d=(eQ y a).2.2.1->∀(i:Nat) (o:af) (n:Nat),i<N->o.length=i->i64.wrap (i+1)=(i+1:Nat)->lp gW cj fm (n+1) (stD y a N t d i o) ja=lp gW cj fm n (stD y a N t d (i+1:Nat) (o++[F i])) ja):
  mo y a=ar (((eQ y a).2.1,(eQ y a).2.2.1,(hW N).map F,()),0):=by
 let p:Ir y.1=a8:=by simp only[Bool.or_eq_true,beq_iff_eq]at c;rcases c with h|h|h|h<;>(rw[h];decide)
 let q:hlp gW cj fm _ (D8 y a (aN (eQ y a).2.2.1) (bif Ir y.1 then 9 else (eQ y a).2.1) (eQ y a).2.2.1 0) ja=x7 (eQ y a).2.1 (eQ y a).2.2.1 _:=by rw[p,k];exact(aAH y a N _ _).trans (ao4 j (l _ _ rfl))
 let b:=(congrArg _ q).trans (aAG _ _ _)
 unfold mo
 rw[IB,pS.2 e,f,aF g,uu,uu,ai,h,show ((0:Int)==0)=bc from rfl,ai]
 unfold cQ iJ iK cz at c
 cases r:y.1==jT with
 |true=>rw[ai];exact b
 |false=>
  rw[al];cases s:y.1==lL with
  |true=>rw[ai];exact b
  |false=>
   rw[al];cases u:y.1==qF with|true=>rw[ai];exact b|false=>rw[al];cases v:y.1==BM with|true=>rw[cy,al];exact b|false=>rw[r,s,u,v]at c;cases c
theorem Tl {y:(Y2).den}{x A B C D H W}(p:T4 x A B C D)(q:aC x.2.1=0){r:af}(a:IZ r A B H W){w v e f g j k l n o}(s:WnR w e f g j k l n o)(t:Wv v C D e f g j k l n o)
  (u:(y.1==jr)=bc->∀h w:Nat,h<H->w<W->mF C D g j k l n o h w e f≠[]) {i} (z:i<A*(B*(H*W))):
  wD y x w [((i/(B*(H*W)):Nat):Int),((i % (B*(H*W))/(H*W):Nat):Int),((i % (H*W)/W:Nat):Int),((i % (H*W) % W:Nat):Int)]=ar (H9 y.1 (yV x.2.2.1 (C*D) (i/(B*(H*W))*B+i % (B*(H*W))/(H*W))) v (i % (H*W)/W:Nat) (i % (H*W) % W:Nat)):=
 aoX p q (agt z) (PY a.b (ya a.c a.d)) _ _ s t λE=>u E _ _ (aAP a.c a.d) (aAQ a.d)
theorem Yt {e s a b ag}{x:cu}{u:List cu}(I:e=iJ\/e=iK)(K:jj (e,s,a,b,ag,()))(hs:fj (x::u)=bc)(hl:(x::u).length<=2147483648)(J:ic (e,s,a,b,ag,()) (x::u)=0):
  mo (e,s,a,b,ag,()) (x::u)=Mq (e,s,a,b,ag,()) (x::u):=by
 have U  :=K.shA
 have hg  :=qs K hs hl
 obtain⟨A,B,C,D,H,W,ka,kb,hp,hk,eH,eW⟩:=agn I K J
 have hv:=Df J
 obtain⟨hb,E⟩:=iZ J
 have L:=(rL (lW hb x ku)).2.1
 have l:aC (kz (e,s,a,b,ag,()) (aR x::u.map aR))=0:=E.cnt
 have Qg:(eQ (e,s,a,b,ag,()) (x::u)).2.2.1=kz (e,s,a,b,ag,()) (aR x::u.map aR):=by rw[hv,ox]
 have v:=hp.td
 rw[←Qg]at v l
 have z:=aJE I K J
 have G:iS (cv (bW e).2.2.1) ag=0:=(nu E.ck).attr
 have M:aj ag ez [1,1]=[1,1]:=by
  rcases I with rfl|rfl
  ·exact lS G (by decide +kernel) _
  ·exact lS G (by decide +kernel) _
 obtain⟨W0,w1,w2⟩:=afI (y:=(e,s,a,b,ag,())) U x.2.1
 have O  :=w2 z
 unfold plK at z
 simp only[aX,beq_iff_eq]at z
 obtain⟨k1,k2,V,k4⟩:=z
 have X:aj ag bZ []=[ka,kb]:=hk
 rw[X]at k1 V k4 O
 have m1:=lE k1
 have ba:=m1 ka (by simp)
 have bb:=m1 kb (by simp)
 obtain⟨g,rfl⟩:=q8 (show 0<=ka by omega)
 obtain⟨k,rfl⟩:=q8 (show 0<=kb by omega)
 have Y:=hp.tx.fr.bnd
 have Q:g*k<=65536:=zv (Nat.mul_le_mul (show g<=100 by omega) (show k<=100 by omega)) (by decide)
 rw[hp.tx.fr.eq]at V eH eW
 obtain⟨Z,s1,S,T,q2,q3,d0,d1,f⟩:=Ti U V
 have hD:=f.d
 rw[M]at hD
 obtain⟨hd0,hd1⟩:d0=1/\d1=1:=by grind
 subst hd0
 subst hd1
 have r:=FF ag (ka:=(g:Int)) (kb:=(k:Int)) ba.1 bb.1
 rw[f.q,k4]at r
 have r:(a7 (S<(g:Int))&&(a7 (T<(k:Int))&&(a7 (q2<(g:Int))&&(a7 (q3<(k:Int))&&bc))))=bc:=r
 simp only[aX,decide_eq_true_eq]at r
 obtain⟨e0,e1,e2,e3,_⟩:=r
 have kC:∀h w:Nat,h<H->w<W->mF (C:Int) (D:Int) Z s1 S T 1 1 (h:Int) (w:Int) g k≠[]:=λh w hh hw=>by obtain⟨i,i1,i2⟩:=Tk hp.tx.fr.c Y.c (show g<=100 by omega) f.bs0 f.bq0 f.bq2 e0 e2 f.r0 f.eh (h:=h) (by rw[eH];omega);obtain⟨j,j1,j2⟩:=Tk hp.tx.fr.d Y.d (show k<=100 by omega) f.bs1 f.bq1 f.bq3 e1 e3 f.r1 f.ew (h:=w) (by rw[eW];omega);exact aAM i1 j1 i2 j2
 have za:WnR W0 g k Z s1 S T 1 1:=by rw[O];exact Tj _ f Q (by omega) (by omega)
 have hwv:Wv (kL ag x.2.1 (g:Int) (k:Int)) C D g k Z s1 S T 1 1:=by rw[hp.tx.fr.eq];exact ard f Q Y.cd
 have R:(e==jT)=a8/\(e==BM)=a8:=by rcases I with rfl|rfl<;>exact⟨by decide,by decide⟩
 have run:=Dg K hs hl J (by rcases I with rfl|rfl<;>rfl) (N:=A*(B*(H*W))) v.p (aAN v l) (F:=λi=>H9 e (yV x.2.2.1 (C*D) (i/(B*(H*W))*B+i % (B*(H*W))/(H*W))) (kL ag x.2.1 (g:Int) (k:Int)) ((i % (H*W)/W:Nat):Int) ((i % (H*W) % W:Nat):Int)) λt d hd i o n hi hoL hw=>by subst hd;have:=v.p;exact aAK R.1 R.2 hi hw w1 (aAO v l hi) (Tl hp.tx L v za hwv (λ_=>kC) hi) (by omega) n
 obtain⟨p1,p2⟩:=lr (ag:=ag) hp.tx.fr (g:Int) (k:Int)
 have dop:=Iz I hg J rfl rfl U hk hp.lk (pR hp.tx.fr v hp.tx.len hp.ka hp.kb)
 rw[run,dop,p1,p2,b9,b9,show (eQ (e,s,a,b,ag,()) (x::u)).2.2.1.getD 2 0=(H:Int) by rw[v.eq];rfl,show (eQ (e,s,a,b,ag,()) (x::u)).2.2.1.getD 3 0=(W:Int) by rw[v.eq];rfl,b9,b9,Az]
theorem agu {j a b ag}{x:cu}{g:List cu}(u:jj (cz,j,a,b,ag,()))(E:fj (x::g)=bc)(G:(x::g).length<=2147483648)(q:ic (cz,j,a,b,ag,()) (x::g)=0):
  mo (cz,j,a,b,ag,()) (x::g)=Mq (cz,j,a,b,ag,()) (x::g):=by
 let U  :=u.shA
 let I  :=qs u E G
 let ⟨A,B,C,D,hp⟩:=ago u q
 let J:=Df q
 let ⟨K,l⟩:=iZ q
 let r:=(rL (lW K x ku)).2.1
 let e:aC (kz (cz,j,a,b,ag,()) (aR x::g.map aR))=0:=l.cnt
 let L:(eQ (cz,j,a,b,ag,()) (x::g)).2.2.1=kz (cz,j,a,b,ag,()) (aR x::g.map aR):=by rw[J,ox]
 let k:=hp.td
 rw[←L]at k e
 let f:iS (cv (bW cz).2.2.1) ag=0:=(nu l.ck).attr
 let s:=hp.tx.fr.bnd
 let M:WnR ([C,D],[1,1],[0,0,0,0],[1,1],([0,0],())) C D 1 1 0 0 1 1:=⟨rfl,rfl,rfl,rfl,rfl,rfl,rfl,rfl,s.cd,s.c,s.d⟩
 let v:Wv (kL ag x.2.1 C D) C D C D 1 1 0 0 1 1:=by rw[hp.tx.fr.eq];unfold kL prL;rw[lS f (name:=ff) (by decide +kernel),lS f (name:=bl) (by decide +kernel),lS f (name:=ez) (by decide +kernel)];exact⟨rfl,rfl,rfl,rfl,rfl,rfl,rfl,rfl,rfl,rfl,s.cd,s.cd⟩
 let run:=Dg u E G q rfl (N:=A*(B*(1*1))) k.p (aAN k e) (F:=λi=>H9 cz (yV x.2.2.1 (C*D) (i/(B*(1*1))*B+i % (B*(1*1))/(1*1))) (kL ag x.2.1 C D) (i % (1*1)/1:Nat) (i % (1*1) % 1:Nat)) λt d O i o n y Q R=>by subst O;let:=k.p;exact aAJ rfl rfl y R (x2:=C) (x3:=D) (by rw[hp.tx.fr.eq]<;>rfl) (by rw[hp.tx.fr.eq]<;>rfl) (aAO k e y) (Tl (H:=1) (W:=1) hp.tx r k M v (λ(h:(cz==jr)=bc)=>absurd h (by decide)) y) (by omega) n
 let ⟨S,T⟩:=lr (ag:=ag) hp.tx.fr C D
 let z:=PW I q rfl rfl hp.tx.fr.eq hp.lk (pR hp.tx.fr k hp.tx.len hp.ka hp.kb)
 rw[run,z,S,T,b9,b9,show (eQ (cz,j,a,b,ag,()) (x::g)).2.2.1.getD 2 0=(1:Nat) by rw[k.eq];rfl,show (eQ (cz,j,a,b,ag,()) (x::g)).2.2.1.getD 3 0=(1:Nat) by rw[k.eq];rfl,b9,Az]
theorem aHv {a:af}{A B H W}(h:IZ a A B H W) i:sV a i 0=i/(B*(H*W))/\sV a i 1=i % (B*(H*W))/(H*W)/\sV a i 2=i % (H*W)/W/\sV a i 3=i % (H*W) % W:=by
 let e:a.map j4=[A,B,H,W]:=by rw[h.eq]<;>rfl
 unfold sV;rw[e,aHt];simp
theorem Yu {v f j ag}{x:cu}{I:List cu}(R:jj (cQ,v,f,j,ag,()))(hs:fj (x::I)=bc)(T:(x::I).length<=2147483648)(J:ic (cQ,v,f,j,ag,()) (x::I)=0):
  mo (cQ,v,f,j,ag,()) (x::I)=Mq (cQ,v,f,j,ag,()) (x::I):=by
 have S:aE ag=bc:=R.shA
 have hal:=bz S
 have hm:maxLen=9223372036854775807:=by decide
 have hg  :=qs R hs T
 obtain⟨y,r,A,B,C,D,k,E,q,s,H,W,g,K,rfl,e,hK⟩:=agl R J
 have hv:=Df J
 obtain⟨U,L⟩:=iZ J
 have hx:=(rL (lW U x ku)).2.1
 have hy:=(rL (lW U y (by simp))).2.1
 have l:aC (kz (cQ,v,f,j,ag,()) (aR x::(y::r).map aR))=0:=L.cnt
 have V:(eQ (cQ,v,f,j,ag,()) (x::y::r)).2.2.1=kz (cQ,v,f,j,ag,()) (aR x::(y::r).map aR):=by rw[hv,ox]
 have z:=e.td
 rw[←V]at z l
 have YM:=IA S e (by rw[←V];exact l)
 rw[←V]at YM
 have bx:=e.tx.fr.bnd
 have M:=e.ty.fr.bnd
 have X  :=afY T
 have I3:(r.map aR).length<=1:=by
  rw[vb];rcases e.rr with rfl|⟨b,rfl,_⟩
  all_goals simp
 have IK:∀u∈r.map aR,u.2.2.1.length<=maxLen:=λu hu=>by obtain⟨b,nM,rfl⟩:=QA.1 hu;have:=(eL (rL (lW U b (by simp[nM]))).2.1).2.1;show b.2.1.length<=maxLen;omega
 obtain⟨W0,w1,w2,_⟩:=afH (y:=(cQ,v,f,j,ag,())) S (aR x) (aR y) I3 IK
 have Y  :=by have:=(w2 hK).1;rw[show (aR y).2.2.1.drop 2=[(q:Int),(s:Int)]from by show y.2.1.drop 2=_;rw[e.ty.fr.eq];rfl]at this;exact this
 have O:=e.wc
 have Z:=e.tx.fr.eq
 rw[Z]at O
 obtain⟨s0,s1,q0,q1,q2,q3,d0,d1,hN⟩:=Ti S O
 have za:WnR W0 q s s0 s1 q0 q1 d0 d1:=by rw[Y];exact Tj _ hN M.cd M.c M.d
 have hwv:Wv (kL ag x.2.1 (q:Int) (s:Int)) C D q s s0 s1 q0 q1 d0 d1:=by rw[Z];exact ard hN M.cd bx.cd
 have Q:r=[]\/∃b:cu,r=[b]/\b.2.2.1.length=k:=by
  rcases e.rr with h|⟨b,h1,_,h2⟩
  all_goals grind
 have run:=Dg R hs T J rfl (N:=A*(k*(H*W))) z.p (aAN z l) (F:=λi=>FN r (i % (k*(H*W))/(H*W)) (cvC x.2.2.1 y.2.2.1 (kL ag x.2.1 (q:Int) (s:Int)) ((i % (H*W)/W:Nat):Int) ((i % (H*W) % W:Nat):Int) (i/(k*(H*W))*B+i % (k*(H*W))/(H*W)/K*E) (C*D) (i % (k*(H*W))/(H*W)*E) (q*s) E 0)) λt d hd i o n hi hoL hw=>by subst hd;have:=z.p;exact aAI rfl hi hw X w1 (aAO z l hi) (ao2 (n:=(cQ,v,f,j,ag,())) (show ag.length<=maxLen by omega) e.tx hx e.ty hy e.ge e.g1 e.gB e.gK e.p1 (agt hi) (PY z.b (ya z.c z.d)) _ _ za hwv Q) (by omega) n
 have dop:=Iy hg J YM
 rw[run,dop]
 have e1:(x.2.1.getD 1 0).toNat=B:=by rw[Z]<;>rfl
 have y0:y.2.1.getD 0 0=(k:Int):=by rw[e.ty.fr.eq]<;>rfl
 have y1:y.2.1.getD 1 0=(E:Int):=by rw[e.ty.fr.eq]<;>rfl
 have y2:y.2.1.getD 2 0=(q:Int):=by rw[e.ty.fr.eq]<;>rfl
 have y3:y.2.1.getD 3 0=(s:Int):=by rw[e.ty.fr.eq]<;>rfl
 have dP:k/g=K:=by rw[e.gK];exact Nat.mul_div_cancel_left _ (by have:=e.g1;omega)
 have bK0:=M.a
 have bP:K<=65536:=by rw[←dP];exact zv (Nat.div_le_self _ _) bK0
 have e2:(FD ag y.2.1).toNat=K:=by unfold FD;rw[y0,show aS ag oB 1=(g:Int)from e.ge,show (k:Int).tdiv (g:Int)=((k/g:Nat):Int)from rfl,dP,aH (by omega) (by omega),b9]
 have e3:Mn y.2.1=E:=by unfold Mn;rw[y1,b9]
 have e4:Ij ag x.2.1 y.2.1=kL ag x.2.1 (q:Int) (s:Int):=by unfold Ij;rw[y2,y3]
 have e5:(kL ag x.2.1 (q:Int) (s:Int)).2.2.2.2.2.2.2.2.2.1.toNat=C*D:=by rw[(lr (ag:=ag) e.tx.fr (q:Int) (s:Int)).2,b9]
 have e6:Mo y.2.1=q*s:=by unfold Mo;rw[y2,y3,←Int.natCast_mul,b9]
 have e7:qK (eQ (cQ,v,f,j,ag,()) (x::y::r)).2.2.1=A*(k*(H*W)):=by unfold qK;rw[z.eq,aHu,ags]
 have G:yX ag (x::y::r) (eQ (cQ,v,f,j,ag,()) (x::y::r)).2.2.1=(hW (A*(k*(H*W)))).map λi=>FN r (i % (k*(H*W))/(H*W)) (cvC x.2.2.1 y.2.2.1 (kL ag x.2.1 (q:Int) (s:Int)) ((i % (H*W)/W:Nat):Int) ((i % (H*W) % W:Nat):Int) (i/(k*(H*W))*B+i % (k*(H*W))/(H*W)/K*E) (C*D) (i % (k*(H*W))/(H*W)*E) (q*s) E 0):=by
  rcases Q with rfl|⟨b,rfl,_⟩
  ·show PG ag x.2.1 x.2.2.1 y.2.1 y.2.2.1 _=_
   rw[Mr,e7];refine List.map_congr_left λi _=>?_
   obtain⟨g0,g1,g2,g3⟩:=aHv z i;unfold xX;rw[e1,e2,e3,e4,e5,e6,g0,g1,g2,g3]<;>rfl
  ·show PH ag x.2.1 x.2.2.1 y.2.1 y.2.2.1 b.2.2.1 _=_
   rw[Ms,e7];refine List.map_congr_left λi _=>?_
   obtain⟨g0,g1,g2,g3⟩:=aHv z i;unfold tH xX;rw[e1,e2,e3,e4,e5,e6,g0,g1,g2,g3]<;>rfl
 rw[G]
theorem ao5 {n}{x:cu}{g:List cu}(a:jj n)(b:fj (x::g)=bc)(d:(x::g).length<=2147483648):mo n (x::g)=Mq n (x::g):=by
 let ⟨e,s,q,r,t,u⟩:=n;let l  :=qs a b d;cases c:ic _ _ !=0 with
 |true=>rw[PV l c,MI a b d c]
 |false=>
  let f:=kK c;cases i:e==cQ with
  |true=>obtain rfl:=eq_of_beq i;exact Yu a b d f
  |false=>
   by_cases j:e=iJ\/e=iK
   ·exact Yt j a b d f
   ·cases k:e==cz with
    |true=>obtain rfl:=eq_of_beq k;exact agu a b d f
    |false=>
     let o:(e==iJ)=a8:=by simpa using λh=>j (.inl h)
     let p:(e==iK)=a8:=by simpa using λh=>j (.inr h)
     rw[PX l f i o p k,MJ a b d f i o p k]
def arf  :=aU f23
def wI  :=cL (cL (cR (cL (cR (cR arf)))))
def lu :Cfg:=⟨33,6,0,[(3,[2,4,6,9,10,11])],bc⟩
def ouP (n:dQ) t  :=(eb .str n.2.2.2.1).pr ((I t).pr ((mq 0 0).pr (.d .unit bn)))
def agv (n:dQ)(a:cm):aq×LHp:=bif pe n a==0 then (.ret [ouP n (hO n.1 n.2.2.2.2.1 a),I 0],[(0,.arr 3 aa 0 a8 (kz n a))])else (.ret [zvO,I (pe n a)],[])
theorem ao6 {op nm:ao}{ins:List (ao)}{out:ao}{ag:bu}{a:cm}(j:IU (op,nm,ins,out,ag,()) a=bc):
  Ca qH f58 7 [(5,[1,2,4,5,26,27,28])] Od 3 [5] (hlp qH nt) [dU op nm ins out ag,.d (.slice (Y3)) a] [] ah=ar (agv (op,nm,ins,out,ag,()) a):=by
 unfold IU at j
 simp only[aX]at j
 obtain⟨⟨g1,g2,g3⟩,g5⟩:=j
 have g1:ins.length<=2147483648:=bt g1
 have e:∀{c:Int},(c==0)=a8->pe (op,nm,ins,out,ag,()) a=c->qO c=ar (agv (op,nm,ins,out,ag,()) a):=λp q=>by unfold agv;rw[q,p]<;>rfl
 rw[aqc,aF (show ins.length<=9223372036854775807 by omega),g2,g3,uu,uu,ai]
 have eC:pe (op,nm,ins,out,ag,()) a=bif Ac op ins out ag !=0 then Ac op ins out ag else bif !(bd a.length==bd ins.length)then 4 else bif yM a !=0 then yM a else bif hU op ag a==0 then (bif Ah (op,nm,ins,out,ag,()) a==0 then (bif aC (kz (op,nm,ins,out,ag,()) a) !=0 then aC (kz (op,nm,ins,out,ag,()) a)else bif iT ag (hO op ag a)then 0 else 4)else Ah (op,nm,ins,out,ag,()) a)else hU op ag a:=rfl
 cases h:Ac op ins out ag !=0 with
 |true=>rw[h,ai]at eC;exact e (iu h) eC
 |false=>
  rw[h,al]at eC;cases k:bd a.length==bd ins.length with
  |false=>rw[k,Bool.not_false,ai]at eC;exact e (c:=4) rfl eC
  |true=>
   rw[k,cy,al]at eC;have f:a.length<=2147483648:=by grind
   have b:=(aFt (op,nm,ins,out,ag,()) a).trans (aqd (op:=op) (nm:=nm) (ins:=ins) (out:=out) (ag:=ag) f);rw[al,cy,al];cases i:yM a !=0 with
   |true=>rw[i,ai]at b eC;exact b.trans (e (iu i) eC)
   |false=>
    rw[i,al]at b eC;rw[h,k,i]at g5;simp only[cy,Bool.false_or,aX]at g5;obtain⟨g6,g7⟩:=g5;unfold ouX at b;have g6:s9 op ag a=bc:=g6;rw[g6,ai]at b;cases l:hU op ag a==0 with
    |false=>rw[l,al]at b eC;exact b.trans (e l eC)
    |true=>
     rw[l,ai]at b eC;have g7:VE (op,nm,ins,out,ag,()) a=bc:=by grind
     rw[g7,ai]at b;cases n:Ah (op,nm,ins,out,ag,()) a==0 with
     |false=>rw[n,al]at b eC;exact b.trans (e n eC)
     |true=>
      rw[n,ai]at b eC;cases g:aC (kz (op,nm,ins,out,ag,()) a) !=0 with|true=>rw[g,ai]at b eC;exact b.trans (e (iu g) eC)|false=>have r:=(eL (show aC (kz (op,nm,ins,out,ag,()) a)=0 by simpa using g)).2.1;rw[g,al,g2,ai,aF (show (kz (op,nm,ins,out,ag,()) a).length<=2147483648 by omega),ai]at b;rw[g,al]at eC;cases o:iT ag (hO op ag a)with|false=>rw[o,al]at b eC;exact b.trans (e (c:=4) rfl eC)|true=>rw[o,ai]at b eC;refine b.trans ?_;unfold agv;rw[eC]<;>rfl
def aAR :List AV->LHp->Tq
 |[.d Y2 n,.d (.slice Y3) a],[]=>.br (IU n a) (.br (pe n a==0) (.leaf (.ret [ouP n (hO n.1 n.2.2.2.2.1 a),I 0]) [(0,.arr 3 aa 0 a8 (kz n a))]) (.leaf (.ret [zvO,I (pe n a)]) [])) .no
 |_,_=>.no
theorem ao7 :bq 58 (ay aAR):=by
 refine aY λh l o p c=>?_
 unfold aAR at c;split at c
 ·rename_i n d;obtain⟨i,j⟩:=eN c;obtain⟨e,f,a,b,g,u⟩:=n;have k:=ao6 i;refine OV.ok _ _ _ _ ((yG sL k).trans (gp ?_ j));unfold agv;show ar (bif pe (e,f,a,b,g,()) d==0 then _ else _)=(bif pe (e,f,a,b,g,()) d==0 then _ else _);cases pe (e,f,a,b,g,()) d==0<;>rfl
 ·cases c
def ouN  :=Ps [Y2,.slice Y3] (ay aAR)
theorem aAS :bq 58 ouN:=sR ao7
def wJ  :=(zp.add 58 ouN).add 57 (ay an1)
theorem Yv :wJ.Good:=(gq.add aAS).add SE
def IC  :=aI 0 (aL wJ lu [3] (hlp wJ lu) (cR (cR (cR arf))) (aV prog 0 f23.results.toList ah))
theorem aAT (n:dQ)(a:List (Y0).den):aB wJ f23 6 [(3,[2,4,6,9,10,11])] [.d Y2 n,.d (.slice _) a] [] ah=(hlp wJ lu) wI _ (qy n a 0) IC:=(aW [3] lu rfl).trans (by obtain⟨b,h⟩:=aM wJ lu;rw[h];kernel_rfl)
theorem agw (x)(b)(i)(n){R}(k:AEx->LSt->Option R):lp wJ lu wI (n+1) (qy x b i) k=bif a7 (i<.ofNat b.length)then (idx b i).bind λa=>bif a7 (bk a.2.1<=9223372036854775807/\bk a.2.2.1<=9223372036854775807)then bif gz a.1 a.2.1 a.2.2.1 !=0 then k .ret {fr:=az 6 [(2,.op 0 [] 0),(4,.op 1 [] 0),(5,I 1),(6,.nils),(8,.op 2 [] 0),(9,.d Y0.slice b),(10,I (.ofNat b.length)),(11,I i),(12,B bc),(13,.ip Y0 a),(14,.d Y0 a),(15,.d Y0 a),(16,I (gz a.1 a.2.1 a.2.2.1)),(17,B bc),(18,(eb .str []).pr ((I 0).pr (b5.pr (.d .unit bn))))],hp:=[(1,au.box ((eb fa []).pr ((I 0).pr (b5.pr (eb eR bn))))),(2,au.box (eb Y0 a)),(2,au.box ((I 0).pr (b5.pr (b5.pr (eb eR bn))))),(0,au.box (eb Y2 x)),(1,au.box ((eb fa []).pr ((I 0).pr (b5.pr (eb eR bn)))))],nx:=3}else lp wJ lu wI n (wk [([],a.1,a.2.1,())] x b (i64.wrap (i+1))) k else a6 else k (AEx.exit 0) {fr:=az 6 [(2,mm 0 [] 0),(4,mm 1 [] 0),(6,b5),(9,eb Y0.slice b),(10,I (bd b.length)),(11,I i),(12,B a8)],hp:=[(0,au.box (eb Y2 x)),(1,au.box ((eb fa []).pr ((I 0).pr (b5.pr (eb eR bn)))))],nx:=2}:=by kernel_rfl
theorem agx (v)(o:cm)(x)(b)(i)(n){R}(k:AEx->LSt->Option R):lp wJ lu wI (n+1) (wk (v::o) x b i) k=bif a7 (i<.ofNat b.length)then (idx b i).bind λa=>bif a7 (bk a.2.1<=9223372036854775807/\bk a.2.2.1<=9223372036854775807)then bif gz a.1 a.2.1 a.2.2.1 !=0 then k .ret {fr:=az 6 [(2,.op 0 [] 0),(4,.op 1 [] 0),(5,I 1),(6,.os 2 0),(8,.op 3 [] 0),(9,.d Y0.slice b),(10,I (.ofNat b.length)),(11,I i),(12,B bc),(13,.ip Y0 a),(14,eb Y0 a),(15,eb Y0 a),(16,I (gz a.1 a.2.1 a.2.2.1)),(17,B bc),(18,(eb fa []).pr ((I 0).pr (b5.pr (eb eR bn))))],hp:=[(1,au.box ((eb fa []).pr ((I 0).pr (b5.pr (eb eR bn))))),(3,au.box (eb Y0 a)),(3,au.box ((I 0).pr (b5.pr (b5.pr (eb eR bn))))),(0,au.box (eb Y2 x)),(1,au.box ((eb fa []).pr ((I 0).pr (b5.pr (eb eR bn))))),(2,au.arr 47 Y3 0 a8 (v::o))],nx:=4}else (app (v::o) [([],a.1,a.2.1,bn)]).bind λc=>lp wJ lu wI n (wk c x b (i64.wrap (i+1))) k else a6 else k (AEx.exit 0) {fr:=az 6 [(2,mm 0 [] 0),(4,mm 1 [] 0),(6,mq 2 0),(9,eb Y0.slice b),(10,I (bd b.length)),(11,I i),(12,B a8)],hp:=[(0,au.box (eb Y2 x)),(1,au.box ((eb fa []).pr ((I 0).pr (b5.pr (eb eR bn))))),(2,au.arr 47 Y3 0 a8 (v::o))],nx:=3}:=by kernel_rfl
theorem aAU (x)(a:List (Y0).den)(i):IC (.exit 0) {fr:=az 6 [(2,.op 0 [] 0),(4,.op 1 [] 0),(6,.nils),(9,.d (.slice _) a),(10,I (.ofNat a.length)),(11,I i),(12,B a8)],hp:=XO x,nx:=2}=bif IU x []then bif pe x []==0 then ar (.ret [(eb .str x.2.2.2.1).pr ((I (hO x.1 x.2.2.2.2.1 [])).pr ((mq 0 0).pr (.d .unit bn))),I 0],[(0,.arr 3 aa 0 a8 (kz x []))])else ak [(eb fa []).pr ((I 0).pr (b5.pr (eb eR bn))),I (pe x [])]else a6:=by kernel_rfl
theorem aAV (o:cm)(x)(a:List (Y0).den)(i):IC (.exit 0) {fr:=az 6 [(2,.op 0 [] 0),(4,.op 1 [] 0),(6,.os 2 0),(9,.d (.slice _) a),(10,I (.ofNat a.length)),(11,I i),(12,B a8)],hp:=XO x++[(2,.arr 47 _ 0 a8 o)],nx:=3}=bif IU x o then bif pe x o==0 then ar (.ret [(eb .str x.2.2.2.1).pr ((I (hO x.1 x.2.2.2.2.1 o)).pr ((mq 0 0).pr (.d .unit bn))),I 0],[(0,.arr 3 aa 0 a8 (kz x o))])else ak [(eb fa []).pr ((I 0).pr (b5.pr (eb eR bn))),I (pe x o)]else a6:=by kernel_rfl
def agy (n:dQ)(o:cm):Option (aq×LHp):=bif IU n o then bif pe n o==0 then ar (.ret [ouP n (hO n.1 n.2.2.2.2.1 o),I 0],[(0,.arr 3 aa 0 a8 (kz n o))])else ar (.ret [zvO,I (pe n o)],[])else a6
theorem MK n:∀(a) (o),bG bgN (agy n) a o=bif pQ a then agy n (o++a.map aR)else qO 1
 |[],o=>by rw[bG,List.map_nil,eT]<;>rfl
 |t::a,o=>by
  let e:bgN o t=bif gz t.1 t.2.1 t.2.2.1 !=0 then .stop _ else .go _:=rfl
  let b:pQ (t::a)=(gz t.1 t.2.1 t.2.2.1==0&&pQ a):=rfl;rw[bG,e,b];cases h:gz t.1 t.2.1 t.2.2.1 !=0 with
  |true=>rw[iu h]<;>rfl
  |false=>
   let c:(gz t.1 t.2.1 t.2.2.1==0)=bc:=by simpa using h
   rw[c,al,gb];show bG bgN _ a _=_;rw[MK,gl]<;>rfl
theorem aAW {n a}(b:fj a=bc)(q:a.length<=2147483648):lp wJ lu wI fu (qy n a 0) IC=bif pQ a then agy n (a.map aR)else qO 1:=by
 let r:maxLen=9223372036854775807:=by decide
 refine(cg (T:=λm s=>lp wJ lu wI m s IC) (st:=λi o=>aGL n a i o) (λi o=>o.length=i) (by omega) ?_ ?_ rfl).trans (MK n a [])
 ·intro i o t m d u l f g c
  let j:=bt (gv.1 b t (ik l));let e:bgN o t=bif gz t.1 t.2.1 t.2.2.1 !=0 then .stop _ else .go _:=rfl
  let k:a7 (bk t.2.1<=9223372036854775807/\bk t.2.2.1<=9223372036854775807)=bc:=aF (by let:=j.1;let:=j.2;omega);cases o with
  |nil=>let b:=agw n a i m IC;rw[c,ai,f,aw,k,ai,g]at b;cases h:gz t.1 t.2.1 t.2.2.1 !=0 with|true=>rw[h,ai]at b e;exact .inr ⟨_,e,b.trans (by kernel_rfl)⟩|false=>rw[h,al]at b e;exact .inl ⟨_,e,by rw[bK,d];rfl,b⟩
  |cons v o=>
   let p:(v::o).length+[aR t].length<=lim:=by rw[d,eS,show lim=4294967296 from rfl];omega
   let ev:([],t.1,t.2.1,.unit)=aR t:=rfl;let b:=agx v o n a i m IC;rw[c,ai,f,aw,k,ai,g,ev,eX p]at b;cases h:gz t.1 t.2.1 t.2.2.1 !=0 with|true=>rw[h,ai]at b e;exact .inr ⟨_,e,b.trans (by kernel_rfl)⟩|false=>rw[h,al,aw]at b;rw[h,al]at e;exact .inl ⟨_,e,by rw[bK,d];rfl,b⟩
 ·intro o m d c;cases o with|nil=>show lp _ _ _ (m+1) (qy n a a.length) _=_;rw[agw,c,al];exact aAU n a a.length|cons v o=>show lp _ _ _ (m+1) (wk (v::o) n a a.length) _=_;rw[agx,c,al];exact aAV (v::o) n a a.length
theorem aHx n a:hlp wJ lu wI _ (qy n a 0) IC=lp wJ lu wI fu (qy n a 0) IC:=rfl
def aAX :List AV->LHp->Tq
 |[.d Y2 n,.d (.slice Y0) ts],[]=>.br (wm n ts) (.br (ic n ts==0) (.leaf (.ret [ouP n (eQ n ts).2.1,I 0]) [(0,.arr 3 aa 0 a8 (eQ n ts).2.2.1)]) (.leaf (.ret [zvO,I (ic n ts)]) [])) .no
 |_,_=>.no
theorem ao8 :bq 23 (ay aAX):=by
 let f:=bM (d:=6) (l:=[(3,[2,4,6,9,10,11])]) Yv func23 call23;refine aY λc k o p a=>?_
 unfold aAX at a;split at a
 ·rename_i n ts
  let ⟨b,g⟩:=eN a;unfold wm at b;rw[aX,aX]at b;let ⟨g1,g2,g3⟩:=b;let h:=(aAT n ts).trans ((aHx n ts).trans (aAW g1 (bt g2)));refine f.okC (h.trans (gp ?_ g));show _=bif ic n ts==0 then ar _ else ak _
  unfold ic eQ;cases i:pQ ts with|false=>rfl|true=>rw[i]at g3;let g3:IU n _=bc:=g3;rw[ai,ai,ai];unfold agy;rw[g3,ai];cases j:pe n _==0 with|false=>rfl|true=>let e:=adB (eq_of_beq j);rw[e]
 ·cases a
def aHy  :=Ps [Y2,.slice Y0] (ay aAX)
theorem ao9 :bq 23 aHy:=sR ao8
theorem agz F (x y:cu) (ts:List cu) (a:af) v each kern fc N i o:KCz F (.exit 0) ⟨az 8 [(1,.d (.slice _) (x::y::ts)),(2,.d (.slice aa) a),(7,.op 0 [] 0),(8,.op 1 [] 0),(9,.op 2 [] 0),(11,I each),(12,I kern),(13,I fc),(16,.os 3 0),(69,I N),(70,I i),(71,B a8)],afv x y v o,4⟩=ar (.ret [.os 0 0],[(0,.arr 2 aa 0 a8 o)]):=by kernel_rfl
theorem aAY x t v a i (o:af) (b:o≠[]):KPz (.exit 0) (xPo x t v a i o)=ar (.ret [.os 0 0],[(0,.arr 2 aa 0 a8 o)]):=by cases o with|nil=>exact absurd rfl b|cons c r=>kernel_rfl
theorem apa {op nm ins out b}{x y:cu}{a}(i:(ml b x.2.1 y.2.1 a x.2.2.1.length y.2.2.1.length&&SX b x.2.1 y.2.1 a x.2.2.1.length y.2.2.1.length)=bc):aB (kA gG) f24 8 [(9,[1,2,7,8,9,11,12,13,16,69,70]),(15,[1,2,7,8,9,11,12,13,16,17,18,20,21,69,70,82,83]),(20,[0,1,2,3,9,21,23,24,25,32,65,77,97,100,108,117,131,132,133,134,135,136,137,138,139,140,141,142,143,144])] [dU op nm ins out b,.d (.slice _) (x::y::[]),.d (.slice aa) a] [] ah=ar (.ret [.os 0 0],[(0,.arr 2 aa 0 a8 (PG b x.2.1 x.2.2.1 y.2.1 y.2.2.1 a))]):=by
  rw[aX]at i;let ⟨c,k⟩:=i;let l:=Ik (op:=op) (nm:=nm) (ins:=ins) (out:=out) (ts:=[]) c;unfold ml at c;simp only[aX,decide_eq_true_eq]at c;let ⟨n,⟨v,z,o,j⟩,⟨A,B,C,p,e⟩,f,g,h⟩:=c;let ⟨D,eD,q,E,r,F⟩:=kv j;let s:qK a<=65536:=by unfold qK;rw[←q];exact r
  let t:bk x.2.1=4:=by unfold C1 at n;grind
  let g2  :=(aP (by omega)).trans (congrArg ar (kd p).symm);let u:=l.trans (FC j rfl s o g2 (by omega) (kd e).symm (sS f) rfl g h (bt k) mb);exact u.trans (agz _ _ _ _ _ _ _ _ _ _ _ _)
theorem agA {op nm ins out c}{x y b:cu}{a}(j:(ml c x.2.1 y.2.1 a x.2.2.1.length y.2.2.1.length&&SY c x.2.1 y.2.1 a x.2.2.1.length y.2.2.1.length b.2.2.1.length)=bc):aB (kA gG) f24 8 [(9,[1,2,7,8,9,11,12,13,16,69,70]),(15,[1,2,7,8,9,11,12,13,16,17,18,20,21,69,70,82,83]),(20,[0,1,2,3,9,21,23,24,25,32,65,77,97,100,108,117,131,132,133,134,135,136,137,138,139,140,141,142,143,144])] [dU op nm ins out c,.d (.slice _) (x::y::[b]),.d (.slice aa) a] [] ah=ar (.ret [.os 0 0],[(0,.arr 2 aa 0 a8 (PH c x.2.1 x.2.2.1 y.2.1 y.2.2.1 b.2.2.1 a))]):=by
  rw[aX]at j;let ⟨e,l⟩:=j;let n:=Ik (op:=op) (nm:=nm) (ins:=ins) (out:=out) (ts:=[b]) e;unfold ml at e;simp only[aX,decide_eq_true_eq]at e;let ⟨o,⟨z,A,p,k⟩,⟨B,C,E,q,f⟩,g,h,i⟩:=e;let ⟨D,eD,r,F,s,G⟩:=kv k;let t:qK a<=65536:=by unfold qK;rw[←r];exact s
  let u:bk x.2.1=4:=by unfold C1 at o;grind
  let g2  :=(aP (by omega)).trans (congrArg ar (kd q).symm);let v:=n.trans (C6 k rfl t p g2 (by omega) (kd f).symm (sS g) rfl h i (bt l) mb);exact v.trans (agz _ _ _ _ _ _ _ _ _ _ _ _)
def agB :List AV->LHp->Tq
 |[.d Y2 n,.d (.slice Y0) a,.d zS b],[]=>.br (wu n.2.2.2.2.1 a b) (.leaf (.ret [.os 0 0]) [(0,.arr 2 aa 0 a8 (yX n.2.2.2.2.1 a b))]) .no
 |_,_=>.no
theorem agC :bq 24 (ay agB):=by
 let e:bq 24 (aA _ f24 8 [(9,[1,2,7,8,9,11,12,13,16,69,70]),(15,[1,2,7,8,9,11,12,13,16,17,18,20,21,69,70,82,83]),(20,[0,1,2,3,9,21,23,24,25,32,65,77,97,100,108,117,131,132,133,134,135,136,137,138,139,140,141,142,143,144])]):=kT (Mj SV) cZ func24 call24 (by decide +kernel) rfl;refine aY λf h i j d=>?_
 unfold agB at d;split at d
 ·rename_i n g k
  let ⟨a,c⟩:=eN d
  match g,a,c with|[x,y],a,c=>exact e.okC ((apa a).trans c)|[x,y,b],a,c=>exact e.okC ((agA a).trans c)|[],a,_=>cases a|[_],a,_=>cases a|_::_::_::_::_,a,_=>cases a
 ·cases d
def nH (c:ao)(a:af)(v:bN)(b:af)  :=SQ c a v v.2.2.2.2.2.2.2.2.1.toNat v.2.2.2.2.2.2.2.2.2.1.toNat (b.getD 2 0).toNat (b.getD 3 0).toNat
def agD :List AV->LHp->Tq
 |[.d Y2 n,.d Y0 t,.d Y4 v,.d zS a],[]=>.br (mD (bk t.2.2.1) v a) (.br (!(nH n.1 t.2.2.1 v a).isEmpty) (.leaf (.ret [.os 0 0]) [(0,.arr 2 aa 0 a8 (nH n.1 t.2.2.1 v a))]) .no) .no
 |_,_=>.no
theorem agE :bq 26 (ay agD):=by
 let p:=bM (d:=6) (l:=[(3,[3,4,5,6,9,15,16]),(7,[3,4,5,6,9,11,15,16,31,32]),(10,[3,4,5,6,9,11,12,15,16,31,32,37,38])]) FB func26 call26;refine aY λj I J K c=>?_
 unfold agD at c;split at c
 ·rename_i n t v a
  let ⟨o,x⟩:=n;let ⟨q,r,b,u⟩:=t;let ⟨f,s⟩:=eN c;let ⟨L,y⟩:=eN s;let z:nH o b v a≠[]:=λe=>by grind
  unfold mD at f;simp only[aX,decide_eq_true_eq]at f;let ⟨A,B,⟨C,M⟩,⟨D,E⟩,O,⟨F,Q⟩,g,h⟩:=f;let g2:idx a 2=ar (((a.getD 2 0).toNat:Nat):Int):=by rw[kd F];exact aP (i:=2) (by omega)
  let g3:idx a 3=ar (((a.getD 3 0).toNat:Nat):Int):=by rw[kd g];exact aP (i:=3) (by omega)
  let G:=(aff _ _ v a).trans ((afo _ _ _ _).trans (afn (k:=KPz) (x:=(o,x)) (t:=(q,r,b,u)) (P:=v.2.2.2.2.2.2.2.2.1.toNat) (pn:=v.2.2.2.2.2.2.2.2.2.1.toNat) (H:=(a.getD 2 0).toNat) (W:=(a.getD 3 0).toNat) (kd C).symm (kd B).symm D E (by omega) A g2 g3 (by omega) h));exact p.okC (G.trans ((aAY _ _ _ _ _ _ z).trans y))
 ·cases c
noncomputable def arh  :=Ps [Y2,.slice Y0,.slice aa] (ay agB)
theorem agF :bq 24 arh:=sR agC
noncomputable def ari  :=Ps [Y2,Y0,Y4,.slice aa] (ay agD)
theorem agG :bq 26 ari:=sR agE
noncomputable def ML  :=((((g82.add 23 aHy).add 25 zt).add 27 aoe).add 26 ari).add 24 arh
theorem Yw :ML.Good:=((((nd.add ao9).add kc).add Ia).add agG).add agF
theorem x8 (e g:ao)(b:List (ao))(c:ao)(a:bu)(x:cu)(f:List cu):aB ML f11 7 [] [dU e g b c a,.d (.slice (Y0)) (x::f)] [] ah=bif wm (e,g,b,c,a,bn) (x::f)then bif ic (e,g,b,c,a,bn) (x::f)==0 then bif e==jT then bif wu a (x::f) (eQ (e,g,b,c,a,bn) (x::f)).2.2.1 then ar (aq.ret [(I (eQ (e,g,b,c,a,bn) (x::f)).2.1).pr ((mq 0 0).pr ((mq 1 0).pr (eb eR bn))),I 0],[(0,au.arr 3 (aa) 0 a8 (eQ (e,g,b,c,a,bn) (x::f)).2.2.1),(1,au.arr 2 (aa) 0 a8 (yX a (x::f) (eQ (e,g,b,c,a,bn) (x::f)).2.2.1))])else a6 else bif e==lL then bif aE a then (idx (aj a gX []) 0).bind λk=>(idx (aj a gX []) 1).bind λi=>bif C1 a x.2.1 then bif mD (bk x.2.2.1) (ec x.2.1 2 0,ec x.2.1 3 0,k,i,[(aj a du [1,1]).getD 0 0,(aj a du [1,1]).getD 1 0],[(aj a dw [1,1]).getD 0 0,(aj a dw [1,1]).getD 1 0],(aj a cE [0,0,0,0]).getD 0 0,(aj a cE [0,0,0,0]).getD 1 0,i64.wrap (ec x.2.1 0 0*ec x.2.1 1 0),i64.wrap (ec x.2.1 2 0*ec x.2.1 3 0),bn) (eQ (e,g,b,c,a,bn) (x::f)).2.2.1 then bif !(nH e x.2.2.1 (ec x.2.1 2 0,ec x.2.1 3 0,k,i,[(aj a du [1,1]).getD 0 0,(aj a du [1,1]).getD 1 0],[(aj a dw [1,1]).getD 0 0,(aj a dw [1,1]).getD 1 0],(aj a cE [0,0,0,0]).getD 0 0,(aj a cE [0,0,0,0]).getD 1 0,i64.wrap (ec x.2.1 0 0*ec x.2.1 1 0),i64.wrap (ec x.2.1 2 0*ec x.2.1 3 0),bn) (eQ (e,g,b,c,a,bn) (x::f)).2.2.1).isEmpty then ar (aq.ret [(I (eQ (e,g,b,c,a,bn) (x::f)).2.1).pr ((mq 0 0).pr ((mq 1 0).pr (eb eR bn))),I 0],[(0,au.arr 3 (aa) 0 a8 (eQ (e,g,b,c,a,bn) (x::f)).2.2.1),(1,au.arr 2 (aa) 0 a8 (nH e x.2.2.1 (ec x.2.1 2 0,ec x.2.1 3 0,k,i,[(aj a du [1,1]).getD 0 0,(aj a du [1,1]).getD 1 0],[(aj a dw [1,1]).getD 0 0,(aj a dw [1,1]).getD 1 0],(aj a cE [0,0,0,0]).getD 0 0,(aj a cE [0,0,0,0]).getD 1 0,i64.wrap (ec x.2.1 0 0*ec x.2.1 1 0),i64.wrap (ec x.2.1 2 0*ec x.2.1 3 0),bn) (eQ (e,g,b,c,a,bn) (x::f)).2.2.1))])else a6 else a6 else a6 else a6 else bif e==qF then bif aE a then (idx (aj a gX []) 0).bind λi=>(idx (aj a gX []) 1).bind λh=>bif C1 a x.2.1 then bif mD (bk x.2.2.1) (ec x.2.1 2 0,ec x.2.1 3 0,i,h,[(aj a du [1,1]).getD 0 0,(aj a du [1,1]).getD 1 0],[(aj a dw [1,1]).getD 0 0,(aj a dw [1,1]).getD 1 0],(aj a cE [0,0,0,0]).getD 0 0,(aj a cE [0,0,0,0]).getD 1 0,i64.wrap (ec x.2.1 0 0*ec x.2.1 1 0),i64.wrap (ec x.2.1 2 0*ec x.2.1 3 0),bn) (eQ (e,g,b,c,a,bn) (x::f)).2.2.1 then bif !(nH e x.2.2.1 (ec x.2.1 2 0,ec x.2.1 3 0,i,h,[(aj a du [1,1]).getD 0 0,(aj a du [1,1]).getD 1 0],[(aj a dw [1,1]).getD 0 0,(aj a dw [1,1]).getD 1 0],(aj a cE [0,0,0,0]).getD 0 0,(aj a cE [0,0,0,0]).getD 1 0,i64.wrap (ec x.2.1 0 0*ec x.2.1 1 0),i64.wrap (ec x.2.1 2 0*ec x.2.1 3 0),bn) (eQ (e,g,b,c,a,bn) (x::f)).2.2.1).isEmpty then ar (aq.ret [(I (eQ (e,g,b,c,a,bn) (x::f)).2.1).pr ((mq 0 0).pr ((mq 1 0).pr (eb eR bn))),I 0],[(0,au.arr 3 (aa) 0 a8 (eQ (e,g,b,c,a,bn) (x::f)).2.2.1),(1,au.arr 2 (aa) 0 a8 (nH e x.2.2.1 (ec x.2.1 2 0,ec x.2.1 3 0,i,h,[(aj a du [1,1]).getD 0 0,(aj a du [1,1]).getD 1 0],[(aj a dw [1,1]).getD 0 0,(aj a dw [1,1]).getD 1 0],(aj a cE [0,0,0,0]).getD 0 0,(aj a cE [0,0,0,0]).getD 1 0,i64.wrap (ec x.2.1 0 0*ec x.2.1 1 0),i64.wrap (ec x.2.1 2 0*ec x.2.1 3 0),bn) (eQ (e,g,b,c,a,bn) (x::f)).2.2.1))])else a6 else a6 else a6 else a6 else bif e==BM then (idx x.2.1 2).bind λi=>(idx x.2.1 3).bind λh=>bif C1 a x.2.1 then bif mD (bk x.2.2.1) (ec x.2.1 2 0,ec x.2.1 3 0,i,h,[(aj a du [1,1]).getD 0 0,(aj a du [1,1]).getD 1 0],[(aj a dw [1,1]).getD 0 0,(aj a dw [1,1]).getD 1 0],(aj a cE [0,0,0,0]).getD 0 0,(aj a cE [0,0,0,0]).getD 1 0,i64.wrap (ec x.2.1 0 0*ec x.2.1 1 0),i64.wrap (ec x.2.1 2 0*ec x.2.1 3 0),bn) (eQ (e,g,b,c,a,bn) (x::f)).2.2.1 then bif !(nH e x.2.2.1 (ec x.2.1 2 0,ec x.2.1 3 0,i,h,[(aj a du [1,1]).getD 0 0,(aj a du [1,1]).getD 1 0],[(aj a dw [1,1]).getD 0 0,(aj a dw [1,1]).getD 1 0],(aj a cE [0,0,0,0]).getD 0 0,(aj a cE [0,0,0,0]).getD 1 0,i64.wrap (ec x.2.1 0 0*ec x.2.1 1 0),i64.wrap (ec x.2.1 2 0*ec x.2.1 3 0),bn) (eQ (e,g,b,c,a,bn) (x::f)).2.2.1).isEmpty then ar (aq.ret [(I (eQ (e,g,b,c,a,bn) (x::f)).2.1).pr ((mq 0 0).pr ((mq 1 0).pr (eb eR bn))),I 0],[(0,au.arr 3 (aa) 0 a8 (eQ (e,g,b,c,a,bn) (x::f)).2.2.1),(1,au.arr 2 (aa) 0 a8 (nH e x.2.2.1 (ec x.2.1 2 0,ec x.2.1 3 0,i,h,[(aj a du [1,1]).getD 0 0,(aj a du [1,1]).getD 1 0],[(aj a dw [1,1]).getD 0 0,(aj a dw [1,1]).getD 1 0],(aj a cE [0,0,0,0]).getD 0 0,(aj a cE [0,0,0,0]).getD 1 0,i64.wrap (ec x.2.1 0 0*ec x.2.1 1 0),i64.wrap (ec x.2.1 2 0*ec x.2.1 3 0),bn) (eQ (e,g,b,c,a,bn) (x::f)).2.2.1))])else a6 else a6 else a6 else ak [(I 0).pr (b5.pr (b5.pr (eb eR bn))),I 5]else bif ic (e,g,b,c,a,bn) (x::f) !=0 then ak [(I 0).pr (b5.pr (b5.pr (eb eR bn))),I (ic (e,g,b,c,a,bn) (x::f))]else bif e==jT then bif wu a (x::f) []then ar (aq.ret [(I 0).pr (b5.pr ((mq 0 0).pr (eb eR bn))),I 0],[(0,au.arr 2 (aa) 0 a8 (yX a (x::f) []))])else a6 else bif e==lL then bif aE a then (idx (aj a gX []) 0).bind λi=>(idx (aj a gX []) 1).bind λh=>bif C1 a x.2.1 then bif mD (bk x.2.2.1) (ec x.2.1 2 0,ec x.2.1 3 0,i,h,[(aj a du [1,1]).getD 0 0,(aj a du [1,1]).getD 1 0],[(aj a dw [1,1]).getD 0 0,(aj a dw [1,1]).getD 1 0],(aj a cE [0,0,0,0]).getD 0 0,(aj a cE [0,0,0,0]).getD 1 0,i64.wrap (ec x.2.1 0 0*ec x.2.1 1 0),i64.wrap (ec x.2.1 2 0*ec x.2.1 3 0),bn) []then bif !(nH e x.2.2.1 (ec x.2.1 2 0,ec x.2.1 3 0,i,h,[(aj a du [1,1]).getD 0 0,(aj a du [1,1]).getD 1 0],[(aj a dw [1,1]).getD 0 0,(aj a dw [1,1]).getD 1 0],(aj a cE [0,0,0,0]).getD 0 0,(aj a cE [0,0,0,0]).getD 1 0,i64.wrap (ec x.2.1 0 0*ec x.2.1 1 0),i64.wrap (ec x.2.1 2 0*ec x.2.1 3 0),bn) []).isEmpty then ar (aq.ret [(I 0).pr (b5.pr ((mq 0 0).pr (eb eR bn))),I 0],[(0,au.arr 2 (aa) 0 a8 (nH e x.2.2.1 (ec x.2.1 2 0,ec x.2.1 3 0,i,h,[(aj a du [1,1]).getD 0 0,(aj a du [1,1]).getD 1 0],[(aj a dw [1,1]).getD 0 0,(aj a dw [1,1]).getD 1 0],(aj a cE [0,0,0,0]).getD 0 0,(aj a cE [0,0,0,0]).getD 1 0,i64.wrap (ec x.2.1 0 0*ec x.2.1 1 0),i64.wrap (ec x.2.1 2 0*ec x.2.1 3 0),bn) []))])else a6 else a6 else a6 else a6 else bif e==qF then bif aE a then (idx (aj a gX []) 0).bind λh=>(idx (aj a gX []) 1).bind λj=>bif C1 a x.2.1 then bif mD (bk x.2.2.1) (ec x.2.1 2 0,ec x.2.1 3 0,h,j,[(aj a du [1,1]).getD 0 0,(aj a du [1,1]).getD 1 0],[(aj a dw [1,1]).getD 0 0,(aj a dw [1,1]).getD 1 0],(aj a cE [0,0,0,0]).getD 0 0,(aj a cE [0,0,0,0]).getD 1 0,i64.wrap (ec x.2.1 0 0*ec x.2.1 1 0),i64.wrap (ec x.2.1 2 0*ec x.2.1 3 0),bn) []then bif !(nH e x.2.2.1 (ec x.2.1 2 0,ec x.2.1 3 0,h,j,[(aj a du [1,1]).getD 0 0,(aj a du [1,1]).getD 1 0],[(aj a dw [1,1]).getD 0 0,(aj a dw [1,1]).getD 1 0],(aj a cE [0,0,0,0]).getD 0 0,(aj a cE [0,0,0,0]).getD 1 0,i64.wrap (ec x.2.1 0 0*ec x.2.1 1 0),i64.wrap (ec x.2.1 2 0*ec x.2.1 3 0),bn) []).isEmpty then ar (aq.ret [(I 0).pr (b5.pr ((mq 0 0).pr (eb eR bn))),I 0],[(0,au.arr 2 (aa) 0 a8 (nH e x.2.2.1 (ec x.2.1 2 0,ec x.2.1 3 0,h,j,[(aj a du [1,1]).getD 0 0,(aj a du [1,1]).getD 1 0],[(aj a dw [1,1]).getD 0 0,(aj a dw [1,1]).getD 1 0],(aj a cE [0,0,0,0]).getD 0 0,(aj a cE [0,0,0,0]).getD 1 0,i64.wrap (ec x.2.1 0 0*ec x.2.1 1 0),i64.wrap (ec x.2.1 2 0*ec x.2.1 3 0),bn) []))])else a6 else a6 else a6 else a6 else bif e==BM then (idx x.2.1 2).bind λh=>(idx x.2.1 3).bind λj=>bif C1 a x.2.1 then bif mD (bk x.2.2.1) (ec x.2.1 2 0,ec x.2.1 3 0,h,j,[(aj a du [1,1]).getD 0 0,(aj a du [1,1]).getD 1 0],[(aj a dw [1,1]).getD 0 0,(aj a dw [1,1]).getD 1 0],(aj a cE [0,0,0,0]).getD 0 0,(aj a cE [0,0,0,0]).getD 1 0,i64.wrap (ec x.2.1 0 0*ec x.2.1 1 0),i64.wrap (ec x.2.1 2 0*ec x.2.1 3 0),bn) []then bif !(nH e x.2.2.1 (ec x.2.1 2 0,ec x.2.1 3 0,h,j,[(aj a du [1,1]).getD 0 0,(aj a du [1,1]).getD 1 0],[(aj a dw [1,1]).getD 0 0,(aj a dw [1,1]).getD 1 0],(aj a cE [0,0,0,0]).getD 0 0,(aj a cE [0,0,0,0]).getD 1 0,i64.wrap (ec x.2.1 0 0*ec x.2.1 1 0),i64.wrap (ec x.2.1 2 0*ec x.2.1 3 0),bn) []).isEmpty then ar (aq.ret [(I 0).pr (b5.pr ((mq 0 0).pr (eb eR bn))),I 0],[(0,au.arr 2 (aa) 0 a8 (nH e x.2.2.1 (ec x.2.1 2 0,ec x.2.1 3 0,h,j,[(aj a du [1,1]).getD 0 0,(aj a du [1,1]).getD 1 0],[(aj a dw [1,1]).getD 0 0,(aj a dw [1,1]).getD 1 0],(aj a cE [0,0,0,0]).getD 0 0,(aj a cE [0,0,0,0]).getD 1 0,i64.wrap (ec x.2.1 0 0*ec x.2.1 1 0),i64.wrap (ec x.2.1 2 0*ec x.2.1 3 0),bn) []))])else a6 else a6 else a6 else ak [(I 0).pr (b5.pr (b5.pr (eb eR bn))),I 5]else a6:=by kernel_rfl
theorem aHz (a f:ao)(b:List (ao))(c:ao)(e:bu):aB ML f11 7 [] [dU a f b c e,.d (.slice (Y0)) []] [] ah=bif wm (a,f,b,c,e,bn) []then bif ic (a,f,b,c,e,bn) []==0 then bif a==jT then a6 else bif a==lL then bif aE e then a6 else a6 else bif a==qF then bif aE e then a6 else a6 else bif a==BM then a6 else ak [(I 0).pr (b5.pr (b5.pr (eb eR bn))),I 5]else bif ic (a,f,b,c,e,bn) [] !=0 then ak [(I 0).pr (b5.pr (b5.pr (eb eR bn))),I (ic (a,f,b,c,e,bn) [])]else bif a==jT then a6 else bif a==lL then bif aE e then a6 else a6 else bif a==qF then bif aE e then a6 else a6 else bif a==BM then a6 else ak [(I 0).pr (b5.pr (b5.pr (eb eR bn))),I 5]else a6:=by kernel_rfl
def Yx (p:cu×Int):aq×LHp:=bif p.2==0 then (.ret [(I p.1.1).pr ((mq 0 0).pr ((mq 1 0).pr (eb eR bn))),I 0],[(0,.arr 3 aa 0 a8 p.1.2.1),(1,.arr 2 aa 0 a8 p.1.2.2.1)])else (.ret [Yc,I p.2],[])
noncomputable def doZ (n:dQ)(a:List cu):Option (cu×Int):=match a with|[]=>ar ((0,[],[],()),bif ic n [] !=0 then ic n []else 5)|x::r=>Mq n (x::r)
theorem agH {n:dQ}(h:ic n []=0):(n.1==cQ)=a8/\(n.1==iJ)=a8/\(n.1==iK)=a8/\(n.1==cz)=a8:=by
 obtain⟨_,c⟩:=iZ h;have d:=(nu c.ck).least;have e:(([]:List cu).map aR).length=n.2.2.1.length:=c.len;have f:n.2.2.1.length=0:=by rw[←e]<;>rfl
 rw[f]at d;have b:∀a:ao,1<=(bW a).1->(n.1==a)=a8:=λa g=>by grind
 exact⟨b _ (by decide +kernel),b _ (by decide +kernel),b _ (by decide +kernel),b _ (by decide +kernel)⟩
theorem agI {n:dQ}{a:List cu}(b:jj n)(d:fj a=bc)(e:a.length<=2147483648):mo n a=doZ n a:=by
 cases a with|cons x r=>exact ao5 b d e|nil=>unfold doZ;cases c:ic n [] !=0 with|true=>rw[MI b d e c]<;>rfl|false=>obtain⟨f,g,h,i⟩:=agH (kK c);rw[MJ b d e (kK c) f g h i]<;>rfl
theorem apb {n:dQ}(q:jj n):∃p,doZ n []=ar p/\aB ML f11 7 [] [.d (Y2) n,.d (.slice (Y0)) []] [] ah=ar (Yx p):=by
 obtain⟨e,f,a,b,g,u⟩:=n;have r:wm (e,f,a,b,g,()) []=bc:=qs q rfl (k7 _);have h:=aHz e f a b g;rw[show wm (e,f,a,b,g,bn) []=bc from r,ai]at h;cases c:ic (e,f,a,b,g,()) [] !=0 with
 |true=>
  have i:=iu c;rw[show (ic (e,f,a,b,g,bn) []==0)=a8 from i,al,show (ic (e,f,a,b,g,bn) [] !=0)=bc from c,ai]at h;refine⟨((0,[],[],()),ic (e,f,a,b,g,()) []),?_,h.trans ?_⟩
  ·show ar (_,bif ic (e,f,a,b,g,()) [] !=0 then ic (e,f,a,b,g,()) []else 5)=_;rw[c]<;>rfl
  ·unfold Yx;rw[i]<;>rfl
 |false=>have i:=kK c;obtain⟨j,k,l,o⟩:=agH i;have j:(e==jT)=a8:=j;have k:(e==lL)=a8:=k;have l:(e==qF)=a8:=l;have o:(e==BM)=a8:=o;rw[show (ic (e,f,a,b,g,bn) []==0)=bc by rw[show ic (e,f,a,b,g,bn) []=0 from i];rfl,ai,j,al,k,al,l,al,o,al]at h;refine⟨((0,[],[],()),5),?_,h⟩;show ar (_,bif ic (e,f,a,b,g,()) [] !=0 then ic (e,f,a,b,g,()) []else 5)=_;rw[c]<;>rfl
theorem aAZ {l:af}(h:1<=l.length):(!l.isEmpty)=bc:=by grind
theorem agJ {op ag}{x:cu}{A B C D H W kh kw}{f:af}(g:IZ x.2.1 A B C D)(e:IZ f A B H W):(!(nH op x.2.2.1 (kL ag x.2.1 kh kw) f).isEmpty)=bc:=by let ⟨h,i⟩:=lr (ag:=ag) g kh kw;refine aAZ ?_;unfold nH;rw[h,i,b9,b9,(by rw[e.eq];rfl:f.getD 2 0=H),(by rw[e.eq];rfl:f.getD 3 0=W),b9,b9,Az,vb,IJ];exact ya e.a<|ya e.b<|ya e.c e.d
theorem Tm {n}{f:List cu}(q:jj n)(S:fj f=bc)(T:f.length<=2147483648):∃p,doZ n f=ar p/\aB ML f11 7 [] [.d Y2 n,.d (.slice _) f] [] ah=ar (Yx p):=by
 cases f with
 |nil=>exact apb q
 |cons x f=>
 obtain⟨op,i,a,b,ag,u⟩:=n;have F  :=q.shA;have k  :=qs q S T;show∃p,Mq (op,i,a,b,ag,()) (x::f)=ar p/\aB ML f11 7 [] [dU op i a b ag,.d (.slice Y0) (x::f)] [] ah=ar (Yx p);cases c:ic (op,i,a,b,ag,()) (x::f) !=0 with
 |true=>refine⟨_,PV k c,(x8 op i a b ag x f).trans ?_⟩;have j:=iu c;rw[k,ai,j,al,c,ai];unfold Yx;rw[j]<;>rfl
 |false=>
  have j:=kK c;have U:=Df j;have K:(eQ (op,i,a,b,ag,()) (x::f)).2.2.1=kz (op,i,a,b,ag,()) (aR x::f.map aR):=by rw[U,ox]
  cases G:op==cQ with
  |true=>obtain rfl:=eq_of_beq G;obtain⟨y,r,A,B,C,D,X,Y,Z,K3,H,W,g,Pr,rfl,V,hK⟩:=agl q j;have s  :=(iZ j).2.cnt;have L:=IA F V s;rw[←K]at L;refine⟨_,Iy k j L,(x8 cQ i a b ag x (y::r)).trans ?_⟩;rw[k,ai,show (ic (cQ,i,a,b,ag,bn) (x::y::r)==0)=bc by rw[j];rfl,ai,show (cQ==jT)=bc from rfl,ai,L,ai]<;>rfl
  |false=>
   by_cases t:op=iJ\/op=iK
   ·obtain⟨A,B,C,D,H,W,v,z,hp,R,eH,eW⟩:=agn t q j
    have o:=hp.td;rw[←K]at o;have l:=pR (ag:=ag) hp.tx.fr o hp.tx.len hp.ka hp.kb;have M:=agJ (op:=op) (ag:=ag) (x:=x) (kh:=v) (kw:=z) hp.tx.fr o;refine⟨_,Iz t k j rfl rfl F R hp.lk l,?_⟩;have E:aj ag gX []=[v,z]:=R
    have e:aB ML f11 7 [] [dU op i a b ag,.d (.slice Y0) (x::f)] [] ah=bif mD (bk x.2.2.1) (kL ag x.2.1 v z) (eQ (op,i,a,b,ag,bn) (x::f)).2.2.1 then bif !(nH op x.2.2.1 (kL ag x.2.1 v z) (eQ (op,i,a,b,ag,bn) (x::f)).2.2.1).isEmpty then ar (.ret [(I (eQ (op,i,a,b,ag,bn) (x::f)).2.1).pr ((mq 0 0).pr ((mq 1 0).pr (eb eR bn))),I 0],[(0,.arr 3 aa 0 a8 (eQ (op,i,a,b,ag,bn) (x::f)).2.2.1),(1,.arr 2 aa 0 a8 (nH op x.2.2.1 (kL ag x.2.1 v z) (eQ (op,i,a,b,ag,bn) (x::f)).2.2.1))])else a6 else a6:=by
     rcases t with rfl|rfl
     ·refine(x8 iJ i a b ag x f).trans ?_;rw[k,ai,j,F,E,hp.lk]<;>rfl
     ·refine(x8 iK i a b ag x f).trans ?_;rw[k,ai,j,F,E,hp.lk]<;>rfl
    rw[e,l,ai,M,ai]<;>rfl
   ·cases J:op==cz with
    |true=>
     obtain rfl:=eq_of_beq J;obtain⟨A,B,C,D,hp⟩:=ago q j;have o:=hp.td;rw[←K]at o;have l:=pR (ag:=ag) hp.tx.fr o hp.tx.len hp.ka hp.kb;have M:=agJ (op:=cz) (ag:=ag) (x:=x) (kh:=C) (kw:=(D:Int)) hp.tx.fr o;refine⟨_,PW k j rfl rfl hp.tx.fr.eq hp.lk l,?_⟩;have e:aB ML f11 7 [] [dU cz i a b ag,.d (.slice Y0) (x::f)] [] ah=bif mD (bk x.2.2.1) (kL ag x.2.1 (C:Int) (D:Int)) (eQ (cz,i,a,b,ag,bn) (x::f)).2.2.1 then bif !(nH cz x.2.2.1 (kL ag x.2.1 (C:Int) (D:Int)) (eQ (cz,i,a,b,ag,bn) (x::f)).2.2.1).isEmpty then ar (.ret [(I (eQ (cz,i,a,b,ag,bn) (x::f)).2.1).pr ((mq 0 0).pr ((mq 1 0).pr (eb eR bn))),I 0],[(0,.arr 3 aa 0 a8 (eQ (cz,i,a,b,ag,bn) (x::f)).2.2.1),(1,.arr 2 aa 0 a8 (nH cz x.2.2.1 (kL ag x.2.1 (C:Int) (D:Int)) (eQ (cz,i,a,b,ag,bn) (x::f)).2.2.1))])else a6 else a6:=by refine(x8 cz i a b ag x f).trans ?_;rw[show wm (cz,i,a,b,ag,bn) (x::f)=bc from k,ai,show ic (cz,i,a,b,ag,bn) (x::f)=0 from j,show idx x.2.1 2=ar (C:Int) by rw[hp.tx.fr.eq];rfl,show idx x.2.1 3=ar (D:Int) by rw[hp.tx.fr.eq];rfl,hp.lk]<;>rfl
     rw[e,show mD (bk x.2.2.1) (kL ag x.2.1 (C:Int) (D:Int)) (eQ (cz,i,a,b,ag,bn) (x::f)).2.2.1=bc from l,ai,show (!(nH cz x.2.2.1 (kL ag x.2.1 (C:Int) (D:Int)) (eQ (cz,i,a,b,ag,bn) (x::f)).2.2.1).isEmpty)=bc from M,ai]<;>rfl
    |false=>
     have O:(op==iJ)=a8:=by simpa using λh=>t (.inl h)
     have Q:(op==iK)=a8:=by simpa using λh=>t (.inr h)
     refine⟨_,PX k j G O Q J,(x8 op i a b ag x f).trans ?_⟩;unfold cQ at G;unfold iJ at O;unfold iK at Q;unfold cz at J;rw[show wm (op,i,a,b,ag,bn) (x::f)=bc from k,ai,show (ic (op,i,a,b,ag,bn) (x::f)==0)=bc by rw[show ic (op,i,a,b,ag,bn) (x::f)=0 from j];rfl,ai,G,al,O,al,Q,al,J,al]<;>rfl
def arj  :=aU f9
def wK  :=cL (cL (cR (cL (cR (cR arj)))))
def lv :Cfg:=⟨22,5,0,[(3,[0,3,4])],bc⟩
def ark  :=aU f7
def Dh  :=cL (cL (cR (cL (cR ark))))
def nI :Cfg:=⟨20,5,0,[(2,[0,3])],bc⟩
theorem aA0 (a:af):aB g82 f56 3 [] [.d (.slice aa) a] [] ah=(app [] a).bind λb=>ar (.ret [.os 0 0],[(0,.arr 3 aa 0 a8 b)]):=by kernel_rfl
theorem Tn {b:Type}{a:List b}(h:a.length<=2147483648):app ([]:List b) a=ar a:=by rw[eX (by rw[show lim=4294967296 from rfl];simp only[eO];omega)]<;>rfl
def aA1 :List AV->LHp->Tq
 |[.d zS a],[]=>.br (a7 (a.length<=2147483648)) (dat (.slice aa) a) .no
 |_,_=>.no
theorem apc :bq 56 (ay aA1):=by
 refine aY λc g h i b=>?_
 unfold aA1 at b;split at b
 ·rename_i a;obtain⟨d,e⟩:=eN b;have f:bq 56 (aA g82 f56 3 []):=aa5;refine f.okO (.slice aa) (gp ?_ e);rw[aA0,Tn (bt d)]<;>rfl
 ·cases b
def aHA  :=fC [.slice aa] (ay aA1)
theorem apd :bq 56 aHA:=cn apc
def aHB  :=zY.add 56 aHA
theorem Yy :aHB.Good:=rC.add apd
theorem aA2 (t:Int)(d x:af):aB aHB f22 5 [] [.d Y0 (t,d,x,())] [] ah=bif a7 (d.length<=2147483648)then (app [] x).bind λa=>ar (.ret [(I t).pr ((eb (aa).slice d).pr ((mq 0 0).pr (.d .unit bn)))],[(0,.arr 2 aa 0 a8 a)])else a6:=by kernel_rfl
def aA3 :List AV->LHp->Tq
 |[.d Y0 t],[]=>.br (a7 (bk t.2.1<=2147483648/\bk t.2.2.1<=2147483648)) (dat (Y0) t) .no
 |_,_=>.no
theorem ape :bq 22 (ay aA3):=by
 have c:=bM (d:=5) (l:=[]) Yy func22 call22;refine aY λb i j k a=>?_
 unfold aA3 at a;split at a
 ·rename_i t;obtain⟨e,f⟩:=eN a;obtain⟨g,h⟩:=bt e;obtain⟨t,d,x,u⟩:=t;refine c.okO (Y0) (gp ?_ f);rw[show (eb (Y0) (t,d,x,u):AV)=.d (Y0) (t,d,x,())from rfl,aA2,aF (show d.length<=2147483648 from g),ai,Tn (show x.length<=2147483648 from h)]<;>rfl
 ·cases a
def aA4  :=fC [Y0] (ay aA3)
theorem To :bq 22 aA4:=cn ape
def wL  :=zY.add 22 aA4
theorem FP :wL.Good:=rC.add To
def Di (a:List (Y0).den)(i:Int):LSt:=⟨az 5 [(0,.d (.slice _) a),(3,.nils),(4,I i)],[],0⟩
def KCp  :=aI 0 (aL wL lv [3] (hlp wL lv) (cR (cR (cR arj))) (aV prog 0 f9.results.toList ah))
theorem agK (a:List (Y0).den):aB wL f9 5 [(3,[0,3,4])] [.d (.slice _) a] [] ah=(hlp wL lv) wK _ (Di a 0) KCp:=(aW [3] lv rfl).trans (by obtain⟨b,h⟩:=aM wL lv;rw[h];kernel_rfl)
def y5 (a:List (Y0).den)(i:Int):LSt:=⟨az 5 [(0,.d (.slice _) a),(3,I i)],[],0⟩
def Yz  :=aI 0 (aL e0 nI [2] (hlp e0 nI) (cR (cR ark)) (aV prog 0 f7.results.toList ah))
theorem aA5 (a:List (Y0).den):aB e0 f7 5 [(2,[0,3])] [.d (.slice _) a] [] ah=(hlp e0 nI) Dh _ (y5 a 0) Yz:=(aW [2] nI rfl).trans (by obtain⟨b,h⟩:=aM e0 nI;rw[h];kernel_rfl)
def MM (o a:List (Y0).den)(i:Int):LSt:=⟨az 5 [(0,.d (.slice _) a),(3,.os 0 0),(4,I i)],[(0,.arr 34 _ 0 a8 o)],1⟩
theorem agL a i n {R} (k:AEx->LSt->Option R):lp wL lv wK (n+1) (Di a i) k=bif a7 (i<.ofNat a.length)then (idx a i).bind λb=>bif a7 (bk b.2.1<=2147483648/\bk b.2.2.1<=2147483648)then lp wL lv wK n (MM [b] a (i64.wrap (i+1))) k else a6 else k (.exit 0) ⟨az 5 [(0,.d Y0.slice a),(3,.nils),(4,I i),(6,I i),(7,.d Y0.slice a),(8,I (.ofNat a.length)),(9,B a8)],[],0⟩:=by kernel_rfl
theorem agM v o a i n {R} (k:AEx->LSt->Option R):lp wL lv wK (n+1) (MM (v::o) a i) k=bif a7 (i<.ofNat a.length)then (idx a i).bind λb=>bif a7 (bk b.2.1<=2147483648/\bk b.2.2.1<=2147483648)then (app (v::o) [b]).bind λc=>lp wL lv wK n (MM c a (i64.wrap (i+1))) k else a6 else k (.exit 0) ⟨az 5 [(0,.d Y0.slice a),(3,.os 0 0),(4,I i),(6,I i),(7,.d Y0.slice a),(8,I (.ofNat a.length)),(9,B a8)],[(0,.arr 34 Y0 0 a8 (v::o))],1⟩:=by kernel_rfl
theorem arl a i n {R} (k:AEx->LSt->Option R):lp e0 nI Dh (n+1) (y5 a i) k=bif a7 (i<.ofNat a.length)then (idx a i).bind λb=>bif a7 (bd (bk b.2.2.1)>600)then k .ret ⟨az 5 [(0,.d Y0.slice a),(2,B a8),(3,I i),(4,I i),(5,.d Y0.slice a),(6,I (.ofNat a.length)),(7,B bc),(10,.d Y0.slice a),(11,I i),(12,.ip Y0 b),(13,.ip (aa).slice b.2.2.1),(14,.d (aa).slice b.2.2.1),(15,I (.ofNat (bk b.2.2.1))),(16,B bc)],[],0⟩else lp e0 nI Dh n (y5 a (i64.wrap (i+1))) k else k (.exit 0) ⟨az 5 [(0,.d Y0.slice a),(3,I i),(4,I i),(5,.d Y0.slice a),(6,I (.ofNat a.length)),(7,B a8)],[],0⟩:=by kernel_rfl
def aJF (a:List (Y0).den)(i:Int)(o:List (Y0).den):LSt:=match o with|[]=>Di a i|v::o=>MM (v::o) a i
def MN (o:List (Y0).den):Option (aq×LHp):=match o with|[]=>ar (.ret [.nils],[])|v::o=>ar (.ret [.os 0 0],[(0,.arr 34 _ 0 a8<|v::o)])
def cpN (o:List (Y0).den)(t:(Y0).den):Nx (List (Y0).den) (aq×LHp):=.go (o++[t])
theorem Tp :∀(a o),bG cpN MN a o=MN (o++a)
 |[],o=>by rw[bG,eT]
 |t::a,o=>by show bG cpN MN a _=_;rw[Tp,gl]<;>rfl
theorem agN {b}(j:fj b=bc)(n:b.length<=2147483648):lp wL lv wK fu (Di b 0) KCp=MN b:=by
 let p:maxLen=9223372036854775807:=by decide
 refine(cg (T:=λm s=>lp wL lv wK m s KCp) (st:=λi o=>aJF b i o) (λi o=>o.length=i) (by omega) ?_ ?_ (a:=[]) rfl).trans<|Tp b []
 ·intro i o t m d q k e f c
  let g:=bt<|gv.1 j t<|ik k
  left;refine⟨_,rfl,by rw[bK,d];rfl,?_⟩;cases o with
  |nil=>let h:=agL b i m KCp;rw[c,ai,e,aw,aF g,ai,f]at h;exact h
  |cons v o=>
   let l:(v::o).length+[t].length<=lim:=by rw[d,eS,show lim=4294967296 from rfl];omega
   let h:=agM v o b i m KCp;rw[c,ai,e,aw,aF g,ai,f,eX l,aw]at h;exact h
 ·intro o m d c;cases o with|nil=>show lp _ _ _ _ (Di b _) _=_;rw[agL,c,al];kernel_rfl|cons v o=>show lp _ _ _ _ (MM _ b _) _=_;rw[agM,c,al];kernel_rfl
theorem arn a:hlp wL lv wK _ (Di a 0) KCp=lp wL lv wK fu (Di a 0) KCp:=rfl
def aA7 :List AV->LHp->Tq
 |[.d (.slice Y0) (t::a)],[]=>.br (fj (t::a)&&a7 (a.length<=2147483640)) (.leaf (.ret [.os 0 0]) [(0,.arr 34 (Y0) 0 a8 (t::a))]) .no
 |_,_=>.no
theorem apf :bq 9 (ay aA7):=by
 let e:=bM (d:=5) (l:=[(3,[0,3,4])]) FP func9 call9;refine aY λc h i j a=>?_
 unfold aA7 at a;split at a
 ·let ⟨b,f⟩:=eN a
  rw[aX]at b;let k:=bt b.2;let g:=(agK _).trans<|(arn _).trans<|agN b.1<|by simp only[bs];omega
  exact e.okC<|g.trans f
 ·cases a
def ID (a:List (Y0).den)  :=a.all (λt=>bk t.2.2.1<=600)&&a.length<=6
def smN (_:Unit)(t:(Y0).den):Nx Unit (aq×LHp):=bif bd (bk t.2.2.1)>600 then .stop (ar (.ret [B a8],[]))else .go ()
theorem Ts b:∀(a:List (Y0).den),bG smN (λ_=>ar (.ret [B b],[])) a ()=ar (.ret [B<|a.all (λt=>bk t.2.2.1<=600)&&b],[])
 |[]=>rfl
 |t::a=>by
  rw[bG];let e:smN () t=bif bd _>600 then .stop _ else .go ():=rfl
  rw[e,List.all_cons];by_cases h:bk t.2.2.1<=600
  ·rw[aF h,cq<|(by simp only[aK];omega:¬bd _>600),gb];exact Ts b a
  ·rw[cq h,aF<|(by simp only[aK];omega:bd _>600)]<;>rfl
theorem aA8 {a}(g:a.length<=2147483648):lp e0 nI Dh fu (y5 a 0) Yz=ar (.ret [B<|ID a],[]):=by
 let j:maxLen=9223372036854775807:=by decide
 let e6:a7 (bd a.length<=6)=a7 (a.length<=6):=decide_eq_decide.2<|by simp only[aK];omega
 refine(cg (T:=λm s=>lp e0 nI Dh m s Yz) (st:=λi _=>y5 a i) (λ_ _=>True) (by omega) ?_ ?_ trivial).trans<|Ts _ a
 ·intro i _ t m _ k l d f b
  let e:smN () t=bif bd _>600 then .stop _ else .go ():=rfl
  let h:=arl a i m Yz;rw[b,ai,d,aw,f]at h;cases c:a7 (bd _>600)with|true=>rw[c,ai]at h e;exact .inr ⟨_,e,h.trans<|by kernel_rfl⟩|false=>rw[c,al]at h e;exact .inl ⟨(),e,trivial,h⟩
 ·intro _ m _ b;rw[arl,b,al,←e6];kernel_rfl
theorem aHC a:hlp e0 nI Dh _ (y5 a 0) Yz=lp e0 nI Dh fu (y5 a 0) Yz:=rfl
def aA9 :List AV->LHp->Tq
 |[.d (.slice Y0) a],[]=>.br (a7 (a.length<=2147483648)) (.leaf (.ret [B (ID a)]) []) .no
 |_,_=>.no
theorem apg :bq 7 (ay aA9):=by
 let d  :=apM;refine aY λb g h i a=>?_
 unfold aA9 at a;split at a
 ·rename_i c;let ⟨e,f⟩:=eN a;exact d.okC<|((aA5 c).trans<|(aHC c).trans<|aA8<|bt e).trans f
 ·cases a
def aro  :=aU f13
def Dj  :=cL<|cL<|cR<|cL<|cR<|cR aro
def nJ :Cfg:=⟨46,6,0,[(4,[2,3,5])],bc⟩
def pT  :=GW.add 37 axg
theorem Dk :pT.Good:=jS.add Sl
def PZ a b  :=bT [.bool]<|aB pT f13 6 [(4,[2,3,5])] [.d Y0 a,.d Y0 b] [] ah
def zG a b  :=(PZ a b).isSome
def zH a b  :=(PZ a b).getD<|dS _
def aBa  :=cC [Y0,Y0] _ λa b=>(zG a b,zH a b)
theorem Tt :bq 13 aBa:=bh (bM Dk func13 call13 (h2:=rfl))<|by simp only[dg];exact λa b h=>aZ h
theorem P0 {c} a b (h:PZ a b=ar c):zG a b=bc/\zH a b=c:=bU h
def P1 (a b:(Y0).den)(i:Int):LSt:=⟨az 6 [(2,.op 0 [] 0),(3,.op 1 [] 0),(5,I i)],[(0,.box<| .d _ a),(1,.box<| .d _ b)],2⟩
def KSa  :=aI 0<|aL pT nJ [4] (hlp pT nJ) (cR<|cR<|cR aro)<|aV prog 0 f13.results.toList ah
theorem aBb a b:aB pT f13 6 [(4,[2,3,5])] [.d Y0 a,.d Y0 b] [] ah=bif a.1 !=b.1 then ak [B a8]else bif am6 a.2.1 b.2.1 then bif !am7 a.2.1 b.2.1 then ak [B a8]else bif .ofNat (bk a.2.2.1) !=bd (bk b.2.2.1)then ak [B a8]else (hlp pT nJ) Dj _ (P1 a b 0) KSa else a6:=(aW [4] nJ rfl).trans<|by obtain⟨c,h⟩:=aM pT nJ;rw[h];kernel_rfl
theorem arp a b i n:lp pT nJ Dj (n+1) (P1 a b i) KSa=bif i<.ofNat (bk a.2.2.1)then (idx a.2.2.1 i).bind λc=>(idx b.2.2.1 i).bind λd=>bif c !=d then ak [B a8]else lp pT nJ Dj n (P1 a b<|i64.wrap<|i+1) KSa else ak [B bc]:=by kernel_rfl
def arq  :=aU f38
def Dl  :=cL<|cL<|cR<|cL<|cR<|cR arq
def nK :Cfg:=⟨74,7,0,[(4,[2,3,5])],bc⟩
def x9  :=GW.add 13 aBa
theorem YA :x9.Good:=jS.add Tt
def YB a b  :=bT [.bool]<|aB x9 f38 7 [(4,[2,3,5])] [.d Y1 a,.d Y1 b] [] ah
def aBd a b  :=(YB a b).isSome
def aBe a b  :=(YB a b).getD<|dS _
def aHD  :=cC [Y1,Y1] _ λa b=>(aBd a b,aBe a b)
theorem aph :bq 38 aHD:=bh (bM YA func38 call38 (h2:=rfl))<|by simp only[dg];exact λa b h=>aZ h
theorem aBf {c} a b (h:YB a b=ar c):aBd a b=bc/\aBe a b=c:=bU h
def Dm (a b:(Y1).den)(i:Int):LSt:=⟨az 7 [(2,.op 0 [] 0),(3,.op 1 [] 0),(5,I i)],[(0,.box<| .d _ a),(1,.box<| .d _ b)],2⟩
def KSt  :=aI 0<|aL x9 nK [4] (hlp x9 nK) (cR<|cR<|cR arq)<|aV prog 0 f38.results.toList ah
theorem aBg a b:aB x9 f38 7 [(4,[2,3,5])] [.d Y1 a,.d Y1 b] [] ah=bif !a.1==b.1 then ak [B a8]else bif a.2.1 !=b.2.1 then ak [B a8]else bif a.2.2.1 !=b.2.2.1 then ak [B a8]else bif a.2.2.2.1 !=b.2.2.2.1 then ak [B a8]else bif !a.2.2.2.2.1==b.2.2.2.2.1 then ak [B a8]else bif zG a.2.2.2.2.2.1 b.2.2.2.2.2.1 then bif !zH a.2.2.2.2.2.1 b.2.2.2.2.2.1 then ak [B a8]else bif .ofNat (bk a.2.2.2.2.2.2.1) !=bd (bk b.2.2.2.2.2.2.1)then ak [B a8]else (hlp x9 nK) Dl _ (Dm a b 0) KSt else a6:=(aW [4] nK rfl).trans<|by obtain⟨c,h⟩:=aM x9 nK;rw[h];kernel_rfl
theorem ars a b i n:lp x9 nK Dl (n+1) (Dm a b i) KSt=bif i<.ofNat (bk a.2.2.2.2.2.2.1)then (idx a.2.2.2.2.2.2.1 i).bind λc=>(idx b.2.2.2.2.2.2.1 i).bind λd=>bif c !=d then ak [B a8]else lp x9 nK Dl n (Dm a b<|i64.wrap<|i+1) KSt else ak [B bc]:=by kernel_rfl
def FQ  :=aU f15
def Dn  :=cL<|cL<|cR<|cL<|cR<|cR FQ
def Ds  :=cL (cL (cR (cL (cR (cR (cR FQ))))))
def fW :Cfg:=⟨83,7,0,[(4,[2,3,5]),(9,[2,3,6])],bc⟩
def mi  :=GW.add 38 aHD
theorem YC :mi.Good:=jS.add aph
def YD a b  :=bT [.bool]<|aB mi f15 7 [(4,[2,3,5]),(9,[2,3,6])] [.d Y2 a,.d Y2 b] [] ah
def IE a b  :=(YD a b).isSome
def IF a b  :=(YD a b).getD<|dS _
def aHE  :=cC [Y2,Y2] _ λa b=>(IE a b,IF a b)
theorem api :bq 15 aHE:=bh (bM YC func15 call15 (h2:=rfl))<|by simp only[dg];exact λa b h=>aZ h
theorem aBi {c} a b (h:YD a b=ar c):IE a b=bc/\IF a b=c:=bU h
def aBk (a b:(Y2).den):LHp:=[(0,.box<| .d _ a),(1,.box<| .d _ b)]
def Dt (a b:(Y2).den)(i:Int):LSt:=⟨az 7 [(2,.op 0 [] 0),(3,.op 1 [] 0),(5,I i)],aBk a b,2⟩
theorem aBj a b:aB mi f15 7 [(4,[2,3,5]),(9,[2,3,6])] [.d Y2 a,.d Y2 b] [] ah=bif !a.1==b.1 then ak [B a8]else bif !a.2.1==b.2.1 then ak [B a8]else bif !a.2.2.2.1==b.2.2.2.1 then ak [B a8]else bif .ofNat (bk a.2.2.1) !=bd (bk b.2.2.1)then ak [B a8]else bif .ofNat (bk a.2.2.2.2.1) !=bd (bk b.2.2.2.2.1)then ak [B a8]else (hlp mi fW) Dn _ (Dt a b 0) (aI 0<|aL mi fW [4,9] (hlp mi fW) (cR<|cR<|cR FQ)<|aV prog 0 f15.results.toList ah):=(aW [4,9] fW rfl).trans<|by obtain⟨c,h⟩:=aM mi fW;rw[h];kernel_rfl
def art a  :=aI 0<|aL mi fW [4,9] a (cR<|cR<|cR FQ)<|aV prog 0 f15.results.toList ah
def YE  :=art<|hlp mi fW
def YF  :=aI 2<|aL mi fW [4,9] (hlp mi fW) (cR<|cR<|cR<|cR FQ)<|aV prog 0 f15.results.toList ah
def Du (a b:(Y2).den)(i:Int):LSt:=⟨az 7 [(2,.op 0 [] 0),(3,.op 1 [] 0),(6,I i)],aBk a b,2⟩
theorem agO a b i n {R} (k:AEx->LSt->Option R):lp mi fW Dn (n+1) (Dt a b i) k=bif i<.ofNat (bk a.2.2.1)then (idx a.2.2.1 i).bind λc=>(idx b.2.2.1 i).bind λe=>bif !c==e then k .ret ⟨az 7 [(2,.op 0 [] 0),(3,.op 1 [] 0),(4,B a8),(5,I i),(45,I i),(46,.op 0 [2] 2),(47,.d _ a.2.2.1),(48,I<| .ofNat<|bk a.2.2.1),(49,B bc),(52,.op 0 [2] 2),(53,.d _ a.2.2.1),(54,I i),(55,.ip _ c),(56,.d _ c),(57,.op 1 [2] 2),(58,.d _ b.2.2.1),(59,I i),(60,.ip _ e),(61,.d _ e),(62,B bc)],[(0,.box<| .d Y2 a),(1,.box<| .d Y2 b)],2⟩else lp mi fW Dn n (Dt a b<|i64.wrap<|i+1) k else k (.exit 0) ⟨az 7 [(2,.op 0 [] 0),(3,.op 1 [] 0),(5,I i),(45,I i),(46,.op 0 [2] 2),(47,.d _ a.2.2.1),(48,I<| .ofNat<|bk a.2.2.1),(49,B a8)],[(0,.box<| .d Y2 a),(1,.box<| .d Y2 b)],2⟩:=by kernel_rfl
theorem agP a b i n:lp mi fW Ds (n+1) (Du a b i) YF=bif i<.ofNat (bk a.2.2.2.2.1)then (idx a.2.2.2.2.1 i).bind λc=>(idx b.2.2.2.2.1 i).bind λd=>bif aBd c d then bif !aBe c d then ak [B a8]else lp mi fW Ds n (Du a b<|i64.wrap<|i+1) YF else a6 else ak [B bc]:=by kernel_rfl
theorem aHF c a b i:art c (.exit 0) ⟨az 7 [(2,.op 0 [] 0),(3,.op 1 [] 0),(5,I i),(45,I i),(46,.op 0 [2] 2),(47,.d _ a.2.2.1),(48,I<| .ofNat<|bk a.2.2.1),(49,B a8)],aBk a b,2⟩=c Ds _ (Du a b 0) (aI 2<|aL mi fW [4,9] c (cR<|cR<|cR<|cR FQ)<|aV prog 0 f15.results.toList ah):=by kernel_rfl
def aru  :=aU f10
def wM  :=cL (cL (cR (cL (cR (cR (cR aru))))))
def lx :Cfg:=⟨57,6,0,[(4,[1,2,3,4])],bc⟩
def uJ  :=zY.add 22 aA4
theorem YG :uJ.Good:=rC.add To
def YH a  :=bT [Y2]<|aB uJ f10 6 [(4,[1,2,3,4])] [.d Y2 a] [] ah
def apj a  :=(YH a).isSome
def nL a  :=(YH a).getD<|dS _
def aHG  :=cC [Y2] _ λa=>(apj a,nL a)
theorem apk :bq 10 aHG:=bh (bM YG func10 call10 (h2:=rfl))<|by simp only[dg];exact λa h=>aZ h
theorem aBl {b} a (h:YH a=ar b):apj a=bc/\nL a=b:=bU h
def arv (a:(Y2).den)(q:AV)(l:List ao):LHp:=[(0,.box (.d Y2 a)),(1,.box ((eb fa []).pr ((eb fa []).pr (b5.pr ((eb fa []).pr (b5.pr (eb eR bn))))))),(2,.box ((eb fa a.1).pr ((eb fa a.2.1).pr ((mq 3 0).pr ((eb fa a.2.2.2.1).pr (q.pr (eb eR bn))))))),(3,.arr 9 fa 0 a8 l)]
def FR (a:(Y2).den)(l:List<|ao)(i:Int):LSt:=⟨az 6 [(1,.op 0 [] 0),(2,.op 1 [] 0),(3,.op 2 [] 0),(4,I i)],arv a .nils l,4⟩
def IG  :=aI 0<|aL uJ lx [4] (hlp uJ lx) (cR<|cR<|cR<|cR aru)<|aV prog 0 f10.results.toList ah
theorem aBm a:aB uJ f10 6 [(4,[1,2,3,4])] [.d Y2 a] [] ah=(app [] a.2.2.1).bind λb=>(hlp uJ lx) wM _ (FR a b 0) IG:=(aW [4] lx rfl).trans<|by obtain⟨c,h⟩:=aM uJ lx;rw[h];kernel_rfl
def Tu (a:(Y2).den)(l:List<|ao)(o:bu)(i:Int):LSt:=⟨az 6 [(1,.op 0 [] 0),(2,.op 1 [] 0),(3,.op 2 [] 0),(4,I i)],arv a (.os 4 0) l++[(4,.arr 44 _ 0 a8 o)],5⟩
theorem agQ a l i n:lp uJ lx wM (n+1) (FR a l i) IG=bif i<.ofNat (bk a.2.2.2.2.1)then (idx a.2.2.2.2.1 i).bind λb=>(idx a.2.2.2.2.1 i).bind λc=>bif bk c.2.2.2.2.2.1.2.1<=2147483648/\bk c.2.2.2.2.2.1.2.2.1<=2147483648 then (idx a.2.2.2.2.1 i).bind λe=>(app [] e.2.2.2.2.2.2.1).bind λf=>lp uJ lx wM n (Tu a l [(b.1,b.2.1,b.2.2.1,b.2.2.2.1,b.2.2.2.2.1,c.2.2.2.2.2.1,f,b.2.2.2.2.2.2.2)]<|i64.wrap<|i+1) IG else a6 else ar (.ret [(eb _ a.1).pr<|(eb _ a.2.1).pr<|(mq 0 0).pr<|(eb _ a.2.2.2.1).pr<|b5.pr<| .d .unit bn],[(0,.arr 9 .str 0 a8 l)]):=by kernel_rfl
theorem agR a l o i n:lp uJ lx wM (n+1) (Tu a l o i) IG=bif i<.ofNat (bk a.2.2.2.2.1)then (idx a.2.2.2.2.1 i).bind λb=>(idx a.2.2.2.2.1 i).bind λc=>bif bk c.2.2.2.2.2.1.2.1<=2147483648/\bk c.2.2.2.2.2.1.2.2.1<=2147483648 then (idx a.2.2.2.2.1 i).bind λe=>(app [] e.2.2.2.2.2.2.1).bind λf=>(app o [(b.1,b.2.1,b.2.2.1,b.2.2.2.1,b.2.2.2.2.1,c.2.2.2.2.2.1,f,b.2.2.2.2.2.2.2)]).bind λg=>lp uJ lx wM n (Tu a l g<|i64.wrap<|i+1) IG else a6 else ar (.ret [(eb _ a.1).pr<|(eb _ a.2.1).pr<|(mq 0 0).pr<|(eb _ a.2.2.2.1).pr<|(mq 1 0).pr<| .d .unit bn],[(0,.arr 9 .str 0 a8 l),(1,.arr 44 Y1 0 a8 o)]):=by kernel_rfl
def agS  :=aU f14
def Dv  :=cL<|cL<|cR<|cL<|cR<|cR agS
def ky :Cfg:=⟨29,5,0,[(4,[0,1,5])],bc⟩
def pU  :=GW.add 13 aBa
theorem P2 :pU.Good:=jS.add Tt
def FT a b  :=bT [.bool]<|aB pU f14 5 [(4,[0,1,5])] [.d (.slice<|Y0) a,.d (.slice<|Y0) b] [] ah
def Dw a b  :=(FT a b).isSome
def Dx a b  :=(FT a b).getD<|dS _
def arw  :=cC [.slice _,.slice _] _ λa b=>(Dw a b,Dx a b)
theorem agT :bq 14 arw:=bh (bM P2 func14 call14 (h2:=rfl))<|by simp only[dg];exact λa b h=>aZ h
theorem apl {c} a b (h:FT a b=ar c):Dw a b=bc/\Dx a b=c:=bU h
def Dy (a b:List cu)(i:Int):LSt:=⟨az 5 [(0,.d (.slice _) a),(1,.d (.slice _) b),(5,I i)],[],0⟩
def P3  :=aI 0<|aL pU ky [4] (hlp pU ky) (cR<|cR<|cR agS)<|aV prog 0 f14.results.toList ah
theorem apm (a b:List cu):aB pU f14 5 [(4,[0,1,5])] [.d (.slice _) a,.d (.slice _) b] [] ah=bif .ofNat a.length !=bd b.length then ak [B a8]else (hlp pU ky) Dv _ (Dy a b 0) P3:=(aW [4] ky rfl).trans<|by obtain⟨c,h⟩:=aM pU ky;rw[h];kernel_rfl
theorem agU a b i n:lp pU ky Dv (n+1) (Dy a b i) P3=bif i<.ofNat a.length then (idx a i).bind λc=>(idx b i).bind λd=>bif zG c d then bif !zH c d then ak [B a8]else lp pU ky Dv n (Dy a b<|i64.wrap<|i+1) P3 else a6 else ak [B bc]:=by kernel_rfl
theorem MO {b R}{fin:Unit->Option R}:∀a:List b,bG (λ_ _=>.go ()) fin a ()=fin ()
 |[]=>rfl
 |_::a=>by exact MO a
theorem MP {S c R:Type}{T:Nat->S->Option R}{a}{st:Int->S}{r}(d:a.length<=maxLen)
  (h:∀(i:Nat) (x:c) (n:Nat),x∈a->idx a i=ar x->i64.wrap (i+1)=(i+1:Nat)->a7 (i<bd a.length)=bc->T (n+1) (st i)=T n (st (i+1:Nat)))
  (e:∀n:Nat,a7 ((a.length:Nat)<bd a.length)=a8->T (n+1) (st (a.length:Nat))=r):T fu (st 0)=r:=
 (cg (st:=λi _=>st i) (λ_ _=>True) d (λi _ x n _ _ f g j b=>.inl ⟨(),rfl,trivial,h i x n (ik f) g j b⟩) (λ_ n _ b=>e n b) trivial).trans (MO a)
theorem aBn {a:cu}(c:a.2.2.1.length<=maxLen):lp pT nJ Dj fu (P1 a a 0) KSa=ar (.ret [B bc],[]):=by
 refine MP (T:=λm s=>lp pT nJ Dj m s KSa) c ?_ ?_
 ·intro i x m _ d e b;let h:=arp a a i m;rw[b,ai,d,aw,aw,bne_self_eq_false,al,e]at h;exact h
 ·intro m b;let h:=arp a a a.2.2.1.length m;grind
theorem aHH (a:cu):hlp pT nJ Dj _ (P1 a a 0) KSa=lp pT nJ Dj fu (P1 a a 0) KSa:=rfl
theorem P4 {a:cu}(b:a.2.1.length<=maxLen)(c:a.2.2.1.length<=maxLen):PZ a a=ar bc:=by let ⟨g1,g2⟩:=adZ a.2.1 a.2.1 (ad0 b);let e:=aBb a a;rw[bne_self_eq_false,al,g1,ai,g2,aF rfl,cy,al,bne_self_eq_false,al]at e;let e:=e.trans ((aHH a).trans (aBn c));unfold PZ;rw[e]<;>rfl
def MQ (a:(Y1).den)  :=bk a.2.2.2.2.2.1.2.1<=2147483648/\bk a.2.2.2.2.2.1.2.2.1<=2147483648/\bk a.2.2.2.2.2.2.1<=2147483648
theorem aBo {a}(c:bk a.2.2.2.2.2.2.1<=maxLen):lp x9 nK Dl fu (Dm a a 0) KSt=ar (.ret [B bc],[]):=by
 refine MP (T:=λm s=>lp x9 nK Dl m s KSt) c ?_ ?_
 ·intro i x m _ d e b;let h:=ars a a i m;rw[b,ai,d,aw,aw,bne_self_eq_false,al,e]at h;exact h
 ·intro m b;let h:=ars a a (bk a.2.2.2.2.2.2.1) m;grind
theorem aHI a:hlp x9 nK Dl _ (Dm a a 0) KSt=lp x9 nK Dl fu (Dm a a 0) KSt:=rfl
theorem aBp {a}(b:MQ a):YB a a=ar bc:=by
 let c:maxLen=9223372036854775807:=by decide
 let ⟨d,f,g⟩:=b;let ⟨g1,g2⟩:=P0 a.2.2.2.2.2.1 a.2.2.2.2.2.1 (P4 (by omega) (by omega));let e:=aBg a a;rw[beq_self_eq_true,cy,al,bne_self_eq_false,al,bne_self_eq_false,al,bne_self_eq_false,al,beq_self_eq_true,cy,al,g1,ai,g2,cy,al,bne_self_eq_false,al]at e;let e:=e.trans ((aHI a).trans (aBo (by omega)));unfold YB;rw[e]<;>rfl
theorem apn {a}(c:a.2.2.2.2.1.length<=maxLen)(d:∀x∈a.2.2.2.2.1,MQ x):lp mi fW Ds fu (Du a a 0) YF=ar (.ret [B bc],[]):=by
 refine MP (T:=λm s=>lp mi fW Ds m s YF) c ?_ ?_
 ·intro i x m e f g b;let ⟨g1,g2⟩:=aBf x x (aBp (d x e));let h:=agP a a i m;rw[b,ai,f,aw,aw,g1,ai,g2,cy,al,g]at h;exact h
 ·intro m b;let h:=agP a a a.2.2.2.2.1.length m;grind
theorem aBq a:hlp mi fW Ds _ (Du a a 0) YF=lp mi fW Ds fu (Du a a 0) YF:=rfl
theorem apo {a}(c:a.2.2.1.length<=maxLen)(d:a.2.2.2.2.1.length<=maxLen)(e:∀x∈a.2.2.2.2.1,MQ x):lp mi fW Dn fu (Dt a a 0) YE=ar (.ret [B bc],[]):=by
 refine MP (T:=λm s=>lp mi fW Dn m s YE) c ?_ ?_
 ·intro i x m _ f g b;let h:=agO a a i m YE;rw[b,ai,f,aw,aw,beq_self_eq_true,cy,al,g]at h;exact h
 ·intro m b;let h:=agO a a a.2.2.1.length m YE;rw[b,al]at h;exact h.trans ((aHF _ a a _).trans ((aBq a).trans (apn d e)))
theorem aBr a:hlp mi fW Dn _ (Dt a a 0) YE=lp mi fW Dn fu (Dt a a 0) YE:=rfl
theorem aBs {a}(b:a.2.2.1.length<=maxLen)(c:a.2.2.2.2.1.length<=maxLen)(d:∀x∈a.2.2.2.2.1,MQ x):YD a a=ar bc:=by let e:=aBj a a;rw[beq_self_eq_true,cy,al,beq_self_eq_true,cy,al,beq_self_eq_true,cy,al,bne_self_eq_false,al,bne_self_eq_false,al]at e;let e:=e.trans ((aBr a).trans (apo b c d));unfold YD;rw[e]<;>rfl
theorem apq {a:List cu}(c:a.length<=maxLen)(d:fj a=bc):lp pU ky Dv fu (Dy a a 0) P3=ar (.ret [B bc],[]):=by
 let j:maxLen=9223372036854775807:=by decide
 refine MP (T:=λm s=>lp pU ky Dv m s P3) c ?_ ?_
 ·intro i x m e f g b;let k:=bt (gv.1 d x e);let ⟨g1,g2⟩:=P0 x x (P4 (by omega) (by omega));let h:=agU a a i m;rw[b,ai,f,aw,aw,g1,ai,g2,cy,al,g]at h;exact h
 ·intro m b;let h:=agU a a a.length m;grind
theorem aBt a:hlp pU ky Dv _ (Dy a a 0) P3=lp pU ky Dv fu (Dy a a 0) P3:=rfl
theorem apr {a:List cu}(b:a.length<=maxLen)(c:fj a=bc):FT a a=ar bc:=by have e:=apm a a;rw[bne_self_eq_false,al]at e;have e:=e.trans ((aBt a).trans (apq b c));unfold FT;rw[e]<;>rfl
def arx (a:(Y2).den)(l:List (ao))(o:bu):Option (aq×LHp):=match o with|[]=>ar (.ret [(eb fa a.1).pr ((eb fa a.2.1).pr ((mq 0 0).pr ((eb fa a.2.2.2.1).pr (b5.pr (eb eR bn)))))],[(0,au.arr 9 fa 0 a8 l)])|x::o=>ar (.ret [(eb fa a.1).pr ((eb fa a.2.1).pr ((mq 0 0).pr ((eb fa a.2.2.2.1).pr ((mq 1 0).pr (eb eR bn)))))],[(0,au.arr 9 fa 0 a8 l),(1,au.arr 44 (Y1) 0 a8 (x::o))])
def aHJ (a:(Y2).den)(l:List (ao))(o:bu)(i:Int):LSt:=match o with|[]=>FR a l i|x::o=>Tu a l (x::o) i
theorem Tv {R:Type}{fin:bu->Option R}:∀(a o:bu),bG (λo t=>.go (o++[t])) fin a o=fin (o++a)
 |[],o=>by rw[bG,eT]
 |t::a,o=>by rw[bG];show bG _ fin a (o++[t])=_;rw[Tv a,gl]<;>rfl
theorem aBu {a:(Y2).den}(l:List (ao))(q:a.2.2.2.2.1.length<=2147483648)(k:∀x∈a.2.2.2.2.1,MQ x):lp uJ lx wM fu (FR a l 0) IG=arx a l a.2.2.2.2.1:=by
 have r:maxLen=9223372036854775807:=by decide
 have u:lim=4294967296:=rfl;refine(cg (xs:=a.2.2.2.2.1) (T:=λm s=>lp uJ lx wM m s IG) (st:=λ(i:Int) (o:bu)=>aHJ a l o i) (f:=λo t=>.go (o++[t])) (fin:=arx a l) (λ(i:Nat) (o:bu)=>o.length=i) (by omega) ?_ ?_ (a:=[]) rfl).trans (Tv _ _)
 ·intro i o x m d y n e g b;have c:=k x (ik n);have j:app [] x.2.2.2.2.2.2.1=ar x.2.2.2.2.2.2.1:=eX (xs:=[]) (by have:=c.2.2;rw[eO];omega);left;refine⟨o++[x],rfl,by rw[bK,d];rfl,?_⟩;cases o with|nil=>have h:=agQ a l (i:Int) m;rw[b,ai,e,aw,aw,aF ⟨c.1,c.2.1⟩,ai,aw,j,aw,g]at h;exact h|cons v o=>have p:app (v::o) [x]=ar (v::o++[x]):=eX (by rw[d,eS];omega);have h:=agR a l (v::o) (i:Int) m;rw[b,ai,e,aw,aw,aF ⟨c.1,c.2.1⟩,ai,aw,j,aw,p,aw,g]at h;exact h
 ·intro o m d b;cases o with|nil=>have h:=agQ a l (a.2.2.2.2.1.length:Int) m;rw[b,al]at h;exact h|cons v o=>have h:=agR a l (v::o) (a.2.2.2.2.1.length:Int) m;rw[b,al]at h;exact h
theorem aHK (a:(Y2).den)(l:List (ao)):hlp uJ lx wM (aq×LHp) (FR a l 0) IG=lp uJ lx wM fu (FR a l 0) IG:=rfl
theorem aBv {a:(Y2).den}(h:a.2.2.1.length<=2147483648)(b:a.2.2.2.2.1.length<=2147483648)(c:∀x∈a.2.2.2.2.1,MQ x):YH a=ar a:=by have e:=aBm a;rw[eX (xs:=[]) (by have:lim=4294967296:=rfl;rw[eO];omega),aw,List.nil_append]at e;have e:=e.trans ((aHK a a.2.2.1).trans (aBu a.2.2.1 b c));unfold YH;rw[e];obtain⟨i,j,d,f,g,u⟩:=a;cases g<;>rfl
def Tw :Code:=aU f3
def oD :Code:=cL (cL (cR (cL (cR (cR (cR (cR (cR (cR (cR Tw))))))))))
def MS :Code:=cR (cR (cR (cR (cR (cR (cR (cR Tw)))))))
def Tx :Code:=cR (cR (cR (cR (cR (cR (cR (cR (cR Tw))))))))
def pV :Code:=cL (cL (cR (cL (cR (cR (cR (cR (cR (cR (cR (cR Tw)))))))))))
def ct :Cfg:=⟨75,7,0,[(10,[1,2,5,6,7,11]),(14,[1,2,5,6,7,12])],bc⟩
def FU n a  :=(doZ n a).getD ((0,[],[],()),0)
def agY :List AV->LHp->Tq
 |[.d Y2 n,.d (.slice Y0) a],[]=>.br (PM n&&(fj a&&a7 (a.length<=2147483648))) (.br ((FU n a).2==0) (.leaf (.ret [(I (FU n a).1.1).pr ((mq 0 0).pr ((mq 1 0).pr (.d .unit bn))),I 0]) [(0,.arr 3 aa 0 a8 (FU n a).1.2.1),(1,.arr 2 aa 0 a8 (FU n a).1.2.2.1)]) (.leaf (.ret [Yc,I (FU n a).2]) [])) .no
 |_,_=>.no
theorem agZ :bq 11 (ay agY):=by
 let g:=bM (d:=7) (l:=[]) Yw func11 call11;refine aY λc j k o a=>?_
 unfold agY at a;split at a
 ·rename_i n h
  let ⟨b,f⟩:=eN a;rw[aX,aX,decide_eq_true_eq,pS]at b;let ⟨p,hp,i⟩:=Tm b.1 b.2.1 b.2.2;let e:FU n h=p:=by unfold FU;rw[hp]<;>rfl
  rw[e]at f;refine g.okC<|i.trans<|gp ?_ f
  unfold Yx;cases p.2==0<;>rfl
 ·cases a
def ary  :=Ps [Y2,.slice<|Y0]<|ay agY
theorem ag0 :bq 11 ary:=sR agZ
def aHL  :=aeH [Y0,Y0] _ λa b=>(zG a b,zH a b)
theorem aps :bq 13 aHL:=L7 (bM Dk func13 call13 (h2:=rfl))<|by simp only[dg];exact λa b h=>aZ h
def Tz :List AV->LHp->Tq
 |[.d (.slice Y0) []],[]=>.leaf (.ret [.nils]) []
 |a,h=>aA7 a h
theorem ag1 :bq 9 (ay Tz):=by
 let c:=bM (d:=5) (l:=[(3,[0,3,4])]) FP func9 call9;refine⟨λ_ _ _=>Tq.eq _ _,λa e f g h=>?_⟩;have b:(Tz a e).run ah=ar _:=h;unfold Tz at b;split at b
 ·exact c.okC<|((agK []).trans<|(arn []).trans<|agN rfl<|k7 _).trans b
 ·exact apf.ok _ _ _ _ b
def fO  :=((((((((GW.add 11 ary).add 12 arb).add 9<|ay Tz).add 7<|ay aA9).add 10 aHG).add 13 aHL).add 14 arw).add 15 aHE).add 8<|fnE MR
theorem YI :fO.Good:=((((((((jS.add ag0).add agq).add ag1).add apg).add apk).add aps).add agT).add api).add agX
def arz (z y:dQ)(a:List cu)(k:Int)(b c:af):LHp:=[(0,.box (.d (Y2) z)),(1,.arr 34 (Y0) 0 a8 a),(2,.box (.d (Y2) y)),(3,.box ((I k).pr ((mq 4 0).pr ((mq 5 0).pr (eb eR bn))))),(4,.arr 3 aa 0 a8 b),(5,.arr 2 aa 0 a8 c)]
def tI (r:Nat)(z y:dQ)(a:List cu)(k:Int)(b c:af)(i:Int):LSt:=⟨az 7 [(1,.d (.slice _) a),(2,.op 0 [] 0),(5,.os 1 0),(6,.op 2 [] 0),(7,.op 3 [] 0),(r,I i)],arz z y a k b c,6⟩
theorem aBw (n:dQ)(x:cu)(a:List cu):aB fO f3 7 [(10,[1,2,5,6,7,11]),(14,[1,2,5,6,7,12])] [.d Y2 n,.d (.slice _) (x::a)] [] ah=bif a7 ((x::a).length<=2147483648)then bif !ID (x::a)then ak [B bc]else bif fj (x::a)&&a7 (a.length<=2147483640)then bif apj n then bif PM (nL n)&&(fj (x::a)&&a7 ((x::a).length<=2147483648))then bif (FU (nL n) (x::a)).2==0 then bif FO n (x::a)then bif 0 !=(oC n (x::a)).2 then ak [B a8]else bif zG ((FU (nL n) (x::a)).1.1,(FU (nL n) (x::a)).1.2.1,(FU (nL n) (x::a)).1.2.2.1,bn) (oC n (x::a)).1 then bif !zH ((FU (nL n) (x::a)).1.1,(FU (nL n) (x::a)).1.2.1,(FU (nL n) (x::a)).1.2.2.1,bn) (oC n (x::a)).1 then ak [B a8]else (hlp fO ct) oD _ (tI 11 n (nL n) (x::a) (FU (nL n) (x::a)).1.1 (FU (nL n) (x::a)).1.2.1 (FU (nL n) (x::a)).1.2.2.1 0) (aI 0 (aL fO ct [10,14] (hlp fO ct) MS (aV prog 0 f3.results.toList ah)))else a6 else a6 else bif FO n (x::a)then bif (FU (nL n) (x::a)).2 !=(oC n (x::a)).2 then ak [B a8]else bif zG (0,[],[],bn) (oC n (x::a)).1 then bif !zH (0,[],[],bn) (oC n (x::a)).1 then ak [B a8]else (hlp fO ct) oD _ {fr:=az 7 [(1,eb Y0.slice (x::a)),(2,mm 0 [] 0),(5,mq 1 0),(6,mm 2 [] 0),(7,mm 3 [] 0),(11,I 0)],hp:=[(0,au.box (eb Y2 n)),(1,au.arr 34 Y0 0 a8 (x::a)),(2,au.box (eb Y2 (nL n))),(3,au.box ((I 0).pr (b5.pr (b5.pr (eb eR bn)))))],nx:=4} (aI 0 (aL fO ct [10,14] (hlp fO ct) MS (aV prog 0 f3.results.toList ah)))else a6 else a6 else a6 else a6 else a6 else a6:=(aW [10,14] ct rfl).trans<|by obtain⟨b,h⟩:=aM fO ct;rw[h];kernel_rfl
theorem apt (n:dQ):aB fO f3 7 [(10,[1,2,5,6,7,11]),(14,[1,2,5,6,7,12])] [.d Y2 n,.d (.slice<|Y0) []] [] ah=bif apj n then bif PM (nL n)&&bc then bif (bif ic (nL n) [] !=0 then ic (nL n) []else 5)==0 then bif FO n []then bif 0 !=(oC n []).2 then ak [B a8]else bif zG (0,[],[],bn) (oC n []).1 then bif !zH (0,[],[],bn) (oC n []).1 then ak [B a8]else (hlp fO ct) oD _ {fr:=az 7 [(1,.d Y0.slice []),(2,.op 0 [] 0),(5,.nils),(6,.op 1 [] 0),(7,.op 2 [] 0),(11,I 0)],hp:=[(0,.box<| .d Y2 n),(1,.box<| .d Y2<|nL n),(2,.box<|(I 0).pr<|(mq 3 0).pr<|(mq 4 0).pr<| .d .unit bn),(3,.arr 3 aa 0 a8 []),(4,.arr 2 aa 0 a8 [])],nx:=5} (aI 0<|aL fO ct [10,14] (hlp fO ct) MS<|aV prog 0 f3.results.toList ah)else a6 else a6 else bif FO n []then bif (bif ic (nL n) [] !=0 then ic (nL n) []else 5) !=(oC n []).2 then ak [B a8]else bif zG (0,[],[],bn) (oC n []).1 then bif !zH (0,[],[],bn) (oC n []).1 then ak [B a8]else (hlp fO ct) oD _ {fr:=az 7 [(1,.d Y0.slice []),(2,.op 0 [] 0),(5,.nils),(6,.op 1 [] 0),(7,.op 2 [] 0),(11,I 0)],hp:=[(0,.box<| .d Y2 n),(1,.box<| .d Y2<|nL n),(2,.box<|(I 0).pr<|b5.pr<|b5.pr<| .d .unit bn)],nx:=3} (aI 0<|aL fO ct [10,14] (hlp fO ct) MS<|aV prog 0 f3.results.toList ah)else a6 else a6 else a6 else a6:=(aW [10,14] ct rfl).trans<|by obtain⟨a,h⟩:=aM fO ct;rw[h];kernel_rfl
def TA a  :=aI 0<|aL fO ct [10,14] a MS<|aV prog 0 f3.results.toList ah
def D9  :=TA<|hlp fO ct
def Ea  :=aI 2<|aL fO ct [10,14] (hlp fO ct) Tx<|aV prog 0 f3.results.toList ah
def arA (z y:dQ)(a:List cu):LHp:=[(0,.box<| .d Y2 z),(1,.arr 34 Y0 0 a8 a),(2,.box<| .d Y2 y),(3,.box Yc)]
def arB (z y:dQ):LHp:=[(0,.box<| .d Y2 z),(1,.box<| .d Y2 y),(2,.box Yc)]
def MT (r:Nat)(z y:dQ)(a:List cu):LSt:=⟨az 7 [(1,.d (.slice _) a),(2,.op 0 [] 0),(5,.os 1 0),(6,.op 2 [] 0),(7,.op 3 [] 0),(r,I 0)],arA z y a,4⟩
def TB (r:Nat)(z y:dQ):LSt:=⟨az 7 [(1,.d (.slice<|Y0) []),(2,.op 0 [] 0),(5,.nils),(6,.op 1 [] 0),(7,.op 2 [] 0),(r,I 0)],arB z y,3⟩
theorem ag2 z y b q c a i n {R} (k:AEx->LSt->Option R):lp fO ct oD (n+1) (tI 11 z y b q c a i) k=bif i<.ofNat a.length then (idx a i).bind λf=>(fR a i.toNat<| -7).bind λe=>lp fO ct oD n (tI 11 z y b q c e<|i64.wrap<|i+1) k else k (.exit 0) ⟨az 7 [(1,.d Y0.slice b),(2,.op 0 [] 0),(5,.os 1 0),(6,.op 2 [] 0),(7,.op 3 [] 0),(11,I i),(42,I i),(43,.op 3 [2] 2),(44,.os 5 0),(45,I<| .ofNat a.length),(46,B a8)],[(0,.box<| .d Y2 z),(1,.arr 34 Y0 0 a8 b),(2,.box<| .d Y2 y),(3,.box<|(I q).pr<|(mq 4 0).pr<|(mq 5 0).pr<| .d .unit bn),(4,.arr 3 aa 0 a8 c),(5,.arr 2 aa 0 a8 a)],6⟩:=by kernel_rfl
theorem ag3 z y a q b c i n:lp fO ct pV (n+1) (tI 12 z y a q b c i) Ea=bif i<.ofNat b.length then (idx b i).bind λe=>(fR b i.toNat<| -7).bind λd=>lp fO ct pV n (tI 12 z y a q d c<|i64.wrap<|i+1) Ea else bif Dw a a then bif Dx a a then bif IE y z then bif IF y z then ak [B bc]else ak [B a8]else a6 else ak [B a8]else a6:=by kernel_rfl
theorem aBx z y a n {R} (k:AEx->LSt->Option R):lp fO ct oD (n+1) (MT 11 z y a) k=k (.exit 0) ⟨az 7 [(1,.d Y0.slice a),(2,.op 0 [] 0),(5,.os 1 0),(6,.op 2 [] 0),(7,.op 3 [] 0),(11,I 0),(42,I 0),(43,.op 3 [2] 2),(44,.nils),(45,I 0),(46,B a8)],[(0,.box<| .d Y2 z),(1,.arr 34 Y0 0 a8 a),(2,.box<| .d Y2 y),(3,.box<|(I 0).pr<|b5.pr<|b5.pr<| .d .unit bn)],4⟩:=by kernel_rfl
theorem aBy z y a n:lp fO ct pV (n+1) (MT 12 z y a) Ea=bif Dw a a then bif Dx a a then bif IE y z then bif IF y z then ak [B bc]else ak [B a8]else a6 else ak [B a8]else a6:=by kernel_rfl
theorem aBz z y n {R} (k:AEx->LSt->Option R):lp fO ct oD (n+1) (TB 11 z y) k=k (.exit 0) ⟨az 7 [(1,.d Y0.slice []),(2,.op 0 [] 0),(5,.nils),(6,.op 1 [] 0),(7,.op 2 [] 0),(11,I 0),(42,I 0),(43,.op 2 [2] 2),(44,.nils),(45,I 0),(46,B a8)],[(0,.box<| .d Y2 z),(1,.box<| .d Y2 y),(2,.box<|(I 0).pr<|b5.pr<|b5.pr<| .d .unit bn)],3⟩:=by kernel_rfl
theorem aBA z y n:lp fO ct pV (n+1) (TB 12 z y) Ea=bif IE y z then bif IF y z then ak [B bc]else ak [B a8]else a6:=by kernel_rfl
theorem aBB {ag x y r}{a:af}{A B C D d f h i H W g j}(c:aAD ag x y r a A B C D d f h i H W g j):a.length<=65536/\(yX ag (x::y::r) a).length<=65536:=by
 let e:qK a=A*(d*(H*W)):=c.td.cnt;let p:=c.td.p;refine⟨by rw[c.td.eq];exact(by decide:4<=65536),?_⟩;rcases c.rr with rfl|⟨b,rfl,_⟩
 ·show (PG _ _ _ _ _ _).length<=_;rw[Mr,vb,IJ,e];exact p
 ·show (PH _ _ _ _ _ _ _).length<=_;rw[Ms,vb,IJ,e];exact p
theorem ag4 {op ag x A B C D H W b c}{a:af}(hp:aAF ag x a A B C D H W b c):a.length<=65536/\(SQ op x.2.2.1 (kL ag x.2.1 b c) (kL ag x.2.1 b c).2.2.2.2.2.2.2.2.1.toNat (kL ag x.2.1 b c).2.2.2.2.2.2.2.2.2.1.toNat (a.getD 2 0).toNat (a.getD 3 0).toNat).length<=65536:=by let ⟨d,e⟩:=lr (ag:=ag) hp.tx.fr b c;let p:=hp.td.p;refine⟨by rw[hp.td.eq];exact(by decide:4<=65536),?_⟩;rw[d,e,b9,b9,(by rw[hp.td.eq];rfl:a.getD 2 0=H),(by rw[hp.td.eq];rfl:a.getD 3 0=W),b9,b9,Az,vb,IJ];exact p
theorem apu {n}{b:List cu}{p}(k:jj n)(J:fj b=bc)(K:b.length<=2147483648)(a:doZ n b=ar p):p.1.2.1.length<=65536/\p.1.2.2.1.length<=65536/\(p.2≠0->p.1=(0,[],[],())):=by
 cases b with
 |nil=>cases a;simp
 |cons x b=>
 obtain⟨op,s,d,e,ag,u⟩:=n;let z  :=k.shA;let l  :=qs k J K;let a:Mq (op,s,d,e,ag,()) (x::b)=ar p:=a;cases c:ic (op,s,d,e,ag,()) (x::b) !=0 with
 |true=>rw[PV l c]at a;grind
 |false=>
  let f:=kK c;let v:(eQ (op,s,d,e,ag,())<|x::b).2.2.1=kz (op,s,d,e,ag,()) (aR x::b.map aR):=by rw[Df f,ox]
  cases E:op==cQ with
  |true=>obtain rfl:=eq_of_beq E;obtain⟨y,r,A,B,C,D,Q,R,S,T,H,W,g,U,rfl,F,V⟩:=agl k f;let o  :=(iZ f).2.cnt;let G:=IA z F o;let i:=aBB F;rw[←v]at G i;rw[Iy l f G]at a;grind
  |false=>
   by_cases t:op=iJ\/op=iK
   ·let ⟨A,B,C,D,H,W,X,Y,hp,L,eH,Z⟩:=agn t k f;let i:=ag4 (op:=op) hp;let q:=hp.td;rw[←v]at q i;let j:=pR (ag:=ag) hp.tx.fr q hp.tx.len hp.ka hp.kb;rw[Iz t l f rfl rfl z L hp.lk j]at a;grind
   ·cases I:op==cz with
    |true=>obtain rfl:=eq_of_beq I;let ⟨A,B,C,D,hp⟩:=ago k f;let i:=ag4 (op:=cz) hp;let q:=hp.td;rw[←v]at q i;let j:=pR (ag:=ag) hp.tx.fr q hp.tx.len hp.ka hp.kb;rw[PW l f rfl rfl hp.tx.fr.eq hp.lk j]at a;rw[←Option.some.inj a];exact⟨i.1,i.2,λh=>absurd rfl h⟩
    |false=>
     let M:(op==iJ)=a8:=by simpa using λh=>t<| .inl h
     let O:(op==iK)=a8:=by simpa using λh=>t<| .inr h
     rw[PX l f E M O I]at a;cases a;exact⟨k7 _,k7 _,λ_=>rfl⟩
theorem aBC a z y (b:List cu) q ds xs i:TA a (.exit 0) ⟨az 7 [(1,.d (.slice _) b),(2,.op 0 [] 0),(5,.os 1 0),(6,.op 2 [] 0),(7,.op 3 [] 0),(11,I i),(42,I i),(43,.op 3 [2] 2),(44,.os 5 0),(45,I<| .ofNat xs.length),(46,B a8)],arz z y b q ds xs,6⟩=a pV _ (tI 12 z y b q ds xs 0) (aI 2<|aL fO ct [10,14] a Tx<|aV prog 0 f3.results.toList ah):=by kernel_rfl
theorem aBD b z y (a:List cu):TA b (.exit 0) ⟨az 7 [(1,.d (.slice _) a),(2,.op 0 [] 0),(5,.os 1 0),(6,.op 2 [] 0),(7,.op 3 [] 0),(11,I 0),(42,I 0),(43,.op 3 [2] 2),(44,.nils),(45,I 0),(46,B a8)],arA z y a,4⟩=b pV _ ⟨az 7 [(1,.d Y0.slice a),(2,.op 0 [] 0),(5,.os 1 0),(6,.op 2 [] 0),(7,.op 3 [] 0),(12,I 0)],[(0,.box<| .d Y2 z),(1,.arr 34 Y0 0 a8 a),(2,.box<| .d Y2 y),(3,.box<|(I 0).pr<|b5.pr<|b5.pr<| .d .unit bn)],4⟩ (aI 2<|aL fO ct [10,14] b Tx<|aV prog 0 f3.results.toList ah):=by kernel_rfl
theorem aBE a z y:TA a (.exit 0) ⟨az 7 [(1,.d (.slice<|Y0) []),(2,.op 0 [] 0),(5,.nils),(6,.op 1 [] 0),(7,.op 2 [] 0),(11,I 0),(42,I 0),(43,.op 2 [2] 2),(44,.nils),(45,I 0),(46,B a8)],arB z y,3⟩=a pV _ ⟨az 7 [(1,.d Y0.slice []),(2,.op 0 [] 0),(5,.nils),(6,.op 1 [] 0),(7,.op 2 [] 0),(12,I 0)],[(0,.box<| .d Y2 z),(1,.box<| .d Y2 y),(2,.box<|(I 0).pr<|b5.pr<|b5.pr<| .d .unit bn)],3⟩ (aI 2<|aL fO ct [10,14] a Tx<|aV prog 0 f3.results.toList ah):=by kernel_rfl
theorem TC {a:af}{i}(h:i<a.length) v:fR a (i:Int).toNat v=ar (a.set i v):=by grind [fR,b9,Nat.blt,Nat.blt_eq]
theorem IH {c A R}{g:A->c->A}{r:Option R}:∀(b:List c) (a),bG (λa x=>.go<|g a x) (λ_=>r) b a=r
 |[],_=>rfl
 |_::b,_=>by exact IH b _
theorem P5 s:hlp fO ct pV _ s Ea=lp fO ct pV fu s Ea:=rfl
theorem P6 s:hlp fO ct oD _ s D9=lp fO ct oD fu s D9:=rfl
theorem apv {z y:dQ}{a:List cu} q {b} xs (c:b.length<=65536) (g1:Dw a a=bc) (g2:Dx a a=bc) (g3:IE y z=bc) (g4:IF y z=bc):lp fO ct pV fu (tI 12 z y a q b xs 0) Ea=ar (.ret [B bc],[]):=by
 let g:maxLen=9223372036854775807:=by decide
 refine(fq (N:=b.length) (T:=λm s=>lp fO ct pV m s Ea) (st:=λi o=>tI 12 z y a q o xs i) (f:=λo i=>.go<|o.set i<| -7) (λ_ o=>o.length=b.length) (by omega) ?_ ?_ rfl).trans<|IH _ _
 ·intro i o m d j e c;let h:=ag3 z y a q o xs i m;rw[d,c,ai,aP<|by omega,aw,TC<|by omega,aw,e]at h;exact .inl ⟨_,rfl,by rw[WB];exact d,h⟩
 ·intro o m d c;let h:=ag3 z y a q o xs b.length m;grind
theorem apw {z y:dQ}{a:List cu} q {b c} (e:b.length<=65536) (l:c.length<=65536) (g1:Dw a a=bc) (g2:Dx a a=bc) (g3:IE y z=bc) (g4:IF y z=bc):lp fO ct oD fu (tI 11 z y a q b c 0) D9=ar (.ret [B bc],[]):=by
 let n:maxLen=9223372036854775807:=by decide
 refine(fq (N:=c.length) (T:=λm s=>lp fO ct oD m s D9) (st:=λi o=>tI 11 z y a q b o i) (f:=λo i=>.go<|o.set i<| -7) (λ_ o=>o.length=c.length) (by omega) ?_ ?_ rfl).trans<|IH _ _
 ·intro i o m d p j e;let h:=ag2 z y a q b o i m D9;rw[d,e,ai,aP<|by omega,aw,TC<|by omega,aw,j]at h;exact .inl ⟨_,rfl,by rw[WB];exact d,h⟩
 ·intro o m d k;let h:=ag2 z y a q b o c.length m D9;let g:=aBC (hlp fO ct) z y a q b o c.length;rw[d,k,al]at h;rw[d]at g;exact h.trans<|g.trans<|(P5 _).trans<|apv q o e g1 g2 g3 g4
theorem aBF {z y:dQ}{a:List cu}(g1:Dw a a=bc)(g2:Dx a a=bc)(g3:IE y z=bc)(g4:IF y z=bc):lp fO ct oD fu (MT 11 z y a) D9=ar (.ret [B bc],[]):=by
 let b:lp fO ct pV fu _ Ea=ar (.ret [B bc],[]):=by refine(aBy z y a 18446744073709551615).trans ?_;grind
 exact(aBx z y a 18446744073709551615 D9).trans<|(aBD _ z y a).trans<|(P5 _).trans b
theorem aBG {z y:dQ}(g3:IE y z=bc)(g4:IF y z=bc):lp fO ct oD fu (TB 11 z y) D9=ar (.ret [B bc],[]):=by
 let a:lp fO ct pV fu _ Ea=ar (.ret [B bc],[]):=by refine(aBA z y 18446744073709551615).trans ?_;grind
 exact(aBz z y 18446744073709551615 D9).trans<|(aBE _ z y).trans<|(P5 _).trans a
theorem ag5 {n}{b:List cu}(f:jj n)(q:∀a∈n.2.2.2.2.1,MQ a)(g:fj b=bc)(A:b.length<=1048576):
  aB fO f3 7 [(10,[1,2,5,6,7,11]),(14,[1,2,5,6,7,12])] [.d Y2 n,.d (.slice _) b] [] ah=ar (.ret [B bc],[]):=by
 let I:maxLen=9223372036854775807:=by decide
 let J:=f.ins
 let K:=bz f.shA
 let ⟨r,s⟩:=aBl n<|aBv (by omega) (by omega) q
 let ⟨t,u⟩:=apl b b<|apr (by omega) g
 let ⟨l,o⟩:=aBi n n<|aBs (by omega) (by omega) q
 let ⟨p,hp,_⟩:=Tm f g<|by omega
 let ⟨v,y⟩:=ao3 n b<|(agI f g<|by omega).trans hp
 let C:FU n b=p:=by unfold FU;rw[hp]<;>rfl
 let ⟨D,E,F⟩:=apu f g (by omega) hp
 let ⟨j,k⟩:=P0 p.1 p.1<|P4 (by omega)<|by omega
 let z:=pS.2 f
 cases b with
 |nil=>
  cases hp;let e:=apt n;let G:((bif ic n [] !=0 then ic n []else 5)==0)=a8:=by grind
  rw[r,s,ai,z,Bool.and_true,ai,G,al,v,ai,y]at e;rw[bne_self_eq_false,al,j,ai,k,cy,al]at e;exact e.trans<|(P6 _).trans<|aBG l o
 |cons x b=>
  simp only[bs]at A;let e:=aBw n x b;rw[aF<|show (x::b).length<=2147483648 by simp only[bs];omega,ai]at e;cases c:ID (x::b)with
  |false=>grind
  |true=>
   rw[c,cy,al,g,gb,aF<|show b.length<=2147483640 by omega,ai,r,ai,s,z,gb,gb,ai,C,v,ai,y]at e;cases i:p.2==0 with
   |true=>let e0  :=eq_of_beq i;rw[i,ai,e0,bne_self_eq_false,al,j,ai,k,cy,al]at e;exact e.trans<|(P6 _).trans<|apw _ D E t u l o
   |false=>
    let e0  :=F λh=>by rw[h]at i;cases i
    rw[e0]at j k;rw[i,al,ai,bne_self_eq_false,al,e0,j,ai,k,cy,al]at e;exact e.trans<|(P6<|MT 11 n n<|x::b).trans<|aBF t u l o
end
end Go.Proofs.XRT
namespace Go.Vm
open Go.ChangeShapes Go.WideShapes Go.RowKit
def uK (N:Nat):(t:Ty)->t.den->Prop
 | .int _,_=>True
 | .bool,_=>True
 | .str,s=>s.length<=N
 | .flt _,_=>True
 | .slice e,c=>c.length<=N/\∀x∈c,uK N e x
 | .unit,_=>True
 | .pair a b,x=>uK N a x.1/\uK N b x.2
 | .arr _ e,c=>∀x∈c,uK N e x
structure apx {H:Type}(m:DataW H->Nat):Prop where
 str:∀b:List UInt8,b.length<=m (.lit (.string b))
 slen:∀es sp,es.length<=m (.slice es sp)
 selt:∀es sp (e:DataW H),e∈es->m e<=m (.slice es sp)
 part:∀es (e:DataW H),e∈es->m e<=m (.agg es)
section
variable {H:Type}{enc:TypeId×Value->H}{P:Program}{w:World}{sp:Nat->Bool}{held:Bool}{m:DataW H->Nat}{N:Nat}
mutual
theorem open_tyB (q:apx m):∀(M:Ty) (t:TypeId) (g:Nat) (A:List Value) (x:DataW H×List MemPlace),readTy P M t=bc->ahE enc P w 0 sp held g t A=ar x->m x.1<=N->
    ∃y:M.den,bm w (λb=>b<w.heap.size) M A y/\WfD M y/\uK N M y
  | .int k,t,g,A,x,d,h,_=>by
    simp only[readTy]at d;split at d
    · rename_i k' B
      obtain rfl:=bt d;obtain⟨n,rfl,_,W⟩:=DataW.trod_int B h;exact⟨n,rfl,W,trivial⟩
    · cases d
  | .bool,t,g,A,x,d,h,_=>by
    simp only[readTy]at d;split at d
    · rename_i B
      obtain⟨n,rfl,_⟩:=DataW.trod_bool B h;exact⟨n,rfl,trivial,trivial⟩
    · cases d
  | .str,t,g,A,x,d,h,K=>by
    simp only[readTy]at d;split at d
    · rename_i B
      obtain⟨s,rfl,rfl,W⟩:=DataW.trod_string B h;refine⟨s.data.toList,by simp[bm],by simpa [WfD] using W,zv (q.str _) K⟩
    · cases d
  | .flt _,_,_,_,_,d,_,_=>by simp[readTy]at d
  | .unit,_,_,_,_,d,_,_=>by simp[readTy]at d
  | .arr _ _,_,_,_,_,d,_,_=>by simp[readTy]at d
  | .slice e,t,g,A,x,d,h,K=>by
    simp only[readTy]at d;split at d
    · rename_i u B
      simp only[aX]at d;obtain⟨⟨F,X⟩,h3⟩:=d;have F:=cb F;have X:=Nat.le_of_ble_eq_true X;rcases DataW.trod_slice B h with ⟨rfl,_⟩|⟨a,len,Y,o,D,n,_,rfl,Z,_,hlc,M8,hel,G,_,_⟩
      · exact⟨[],⟨a6,0,rfl,Nat.le_refl _,by simp,λ_=>rfl,rfl⟩,by simp[WfD],by simp[uK]⟩
      · subst Z
        have O:∀i,0<=i->i<0+len->∃c z,w.cells? 0 (a.add (i*P.cellsOf u)) (P.cellsOf u)=ar c/\bm w (λb=>b<w.heap.size) e c z/\(WfD e z/\uK N e z):=by intro i _ L;have:=G i (by omega);rw[dv (by omega)]at this;obtain⟨c,hc,hx⟩:=Option.bind_eq_some_iff.1 this;obtain⟨z,h4,h5⟩:=open_tyB q e u n c _ h3 hx (zv (q.selt _ _ _ (QA.2 ⟨_,rm _,rfl⟩)) K);exact⟨c,z,hc,h4,h5⟩
        obtain⟨c,zs,C,Q,hg,y9,p⟩:=Qw len 0 O;have l:zs.length<=N:=by have:=q.slen (o.map (·.1)) (D.map (·.1));rw[vb]at this;have hN':m (.slice (o.map (·.1)) (D.map (·.1)))<=N:=K;omega
        refine⟨zs,⟨ar a,Y,by rw[C],by omega,M8,λh=>(by cases h),?_⟩,⟨by rw[C];omega,λz C=>(hg z C).1⟩,⟨l,λz C=>(hg z C).2⟩⟩;cases len with
        |zero=>exact .inl (List.eq_nil_of_length_eq_zero C)
        |succ len=>
          right;have I:=p 0 0 (by omega) (by omega);rw[dv (by rw[y9,F];exact Nat.lt_of_lt_of_le (by omega) (Nat.mul_le_mul (show 1<=len+1 by omega) X))]at I;have J:a.spot=a6:=by simpa [Addr.add] using World.cell?_spot I
          obtain⟨b,off,R⟩:=a;obtain rfl:R=a6:=J;have S:=aid I;simp only[add_plain]at S;refine⟨rfl,S,c,λj v hj=>?_,Q⟩;have T:=(hT.1 hj).1;rw[y9]at T;have q:=Nat.div_add_mod j (P.cellsOf u);have:=p (j/P.cellsOf u) (j % P.cellsOf u) (w5 (by rw[vr];exact T)) (WU _ (by omega));rw[add_plain,add_plain,Nat.zero_add,vr,q,Nat.add_assoc,q]at this;exact this.trans hj
    · cases d
  | .pair a b,t,g,A,x,d,h,K=>by
    simp only[readTy]at d;split at d
    · rename_i fs B
      simp only[aX]at d;obtain⟨F,d⟩:=d;have F:=cb F;obtain⟨V,n,_,rfl,hl,hxl,hf⟩:=DataW.trod_struct B h;split at d
      · rename_i f r U
        simp only[aX]at d;obtain⟨⟨⟨g1,g2⟩,g3⟩,g4⟩:=d;have g1:=cb g1;have g2:=cb g2;have wQ:∀(i:Nat) (E:Field),(f::r)[i]?=ar E->ahE enc P w 0 sp held n E.type ((A.drop E.offset).take (P.cellsOf E.type))=V[i]?:=by intro i E L;exact hf i E (by rw[←U]at L;simpa using L)
        have l:V.length=(f::r).length:=by rw[hxl,←U];simp
        have TG:=wQ 0 f rfl;rw[dv (by rw[l];simp)]at TG;rw[g1,g2,List.drop_zero]at TG;have S:∀z∈V,m z.1<=N:=λz C=>zv (q.part _ _ (QA.2 ⟨z,C,rfl⟩)) K
        obtain⟨y1,k1,k2,k5⟩:=open_tyB q a f.type n _ _ g3 TG (S _ (rm _));obtain⟨y2,k3,k4,k6⟩:=open_fsB q b a.size r n A (by rw[hl,F]) g4 (λi E L=>⟨V[i+1]'(by rw[l];have:=(hT.1 L).1;simp;omega),by rw[wQ (i+1) E L,dv],S _ (rm _)⟩);exact⟨(y1,y2),⟨_,_,(tn a.size A).symm,k1,k3⟩,⟨k2,k4⟩,k5,k6⟩
      · cases d
    · cases d
theorem open_fsB (o:apx m):∀(g:Ty) (d:Nat) (j:List Field) (n:Nat) (e:List Value),e.length=d+g.size->readFs P g d j=bc->(∀(i:Nat) (f:Field),j[i]?=ar f->∃x,ahE enc P w 0 sp held n f.type ((e.drop f.offset).take (P.cellsOf f.type))=ar x/\m x.1<=N)->
    ∃y:g.den,bm w (λb=>b<w.heap.size) g (e.drop d) y/\WfD g y/\uK N g y
  | .unit,d,j,n,e,k,_,_=>⟨(),List.drop_eq_nil_of_le (by rw[k];exact Nat.le_refl _),trivial,trivial⟩
  | .pair a b,d,j,n,e,k,c,h=>by
    simp only[readFs]at c;split at c
    · rename_i f r
      simp only[aX]at c;obtain⟨⟨⟨g1,g2⟩,g3⟩,g4⟩:=c;have g1:=cb g1;have g2:=cb g2;obtain⟨x,p,l⟩:=h 0 f rfl;rw[g1,g2]at p;obtain⟨q,s,t,u⟩:=open_tyB o a f.type n _ _ g3 p l;obtain⟨v,z,A,B⟩:=open_fsB o b (d+a.size) r n e (by rw[k];simp[Ty.size,Nat.add_assoc]) g4 (λi C D=>h (i+1) C D);refine⟨(q,v),⟨_,_,(tn a.size (e.drop d)).symm,s,?_⟩,⟨t,A⟩,u,B⟩;rw[List.drop_drop];exact z
    · cases c
  | .int _,_,_,_,_,_,c,_=>by simp[readFs]at c
  | .bool,_,_,_,_,_,c,_=>by simp[readFs]at c
  | .str,_,_,_,_,_,c,_=>by simp[readFs]at c
  | .flt _,_,_,_,_,_,c,_=>by simp[readFs]at c
  | .slice _,_,_,_,_,_,c,_=>by simp[readFs]at c
  | .arr _ _,_,_,_,_,_,c,_=>by simp[readFs]at c
end
theorem FV (g:apx m){a t v}{d:DataW H}{p:List _}(i:readTy P a t=bc)(c:bS v=a.isAgg)(h:DataW.Trod enc P w 0 sp held t v d p)(j:m d<=N):
  ∃y:a.den,bm w (λb=>b<w.heap.size) a v.cells.toList y/\WfD a y/\uK N a y/\cr w (λb=>b<w.heap.size) (λ_=>.none) (aD []) (.d a y) v:=by
 let ⟨e,h⟩:=h
 let ⟨y,f,k,l⟩:=open_tyB g a t e _ _ i h j
 exact⟨y,f,k,l,f,c⟩
end
end Go.Vm
set_option maxRecDepth 100000
set_option maxHeartbeats 4000000
namespace Go.Proofs.XRT
open Go.Vm Go Tryz IntKind
noncomputable section
theorem ag6 {n:dQ}(h:uK 1048576 Y2 n):jj n:=by
 let ⟨p,q,j,k,d,u⟩:=n;let ⟨_,_,l,_,e,_⟩:=h;let o:d.length<=1048576:=e.1;let b  :=e.2;refine⟨l.1,?_,?_,λa h=>?_⟩
 ·show aE d=bc
  unfold aE;rw[aF<|(by omega:d.length<=2147483647),gb];refine gv.2 λa h=>?_
  let ⟨f,_,_,_,g,_,c,_⟩:=b a h;let f:bk a.1<=1048576:=f;let g:bk a.2.2.2.2.1<=1048576:=g;let c  :=c.1;grind
 ·refine gv.2 λa h=>?_
  let ⟨_,_,_,_,_,i,_⟩:=b a h;let r  :=i.2.1.1;let s  :=i.2.2.1.1;let t:maxLen=9223372036854775807:=by decide
  grind
 ·let ⟨_,_,_,_,_,_,c,_⟩:=b a h;exact c.1
theorem MU {a:List cu}(h:uK 1048576 (.slice _) a):fj a=bc/\a.length<=1048576:=by refine⟨gv.2 λt b=>?_,h.1⟩;let ⟨_,c,d,_⟩:=h.2 t b;let e  :=c.1;let f  :=d.1;grind
theorem YJ {n:dQ}(h:uK 1048576 Y2 n):∀a∈n.2.2.2.2.1,MQ a:=by let ⟨_,_,_,_,c,_⟩:=h;intro a h;let ⟨_,_,_,_,_,b,d,_⟩:=c.2 a h;let e  :=b.2.1.1;let f  :=b.2.2.1.1;let g  :=d.1;exact⟨by omega,by omega,by omega⟩
theorem cdl_call (n:dQ)(a:uK 1048576 Y2 n)(b:List cu)(c:uK 1048576 (.slice _) b):FnH prog (Env.gam e0) 3 [.d Y2 n,.d (.slice _) b] (aD []) λe f=>e=.ret [B bc]/\f=aD []:=
 Ur YI cZ func3 call3 (by decide +kernel) rfl<|ag5 (ag6 a) (YJ a) (MU c).1 (MU c).2
end
end Go.Proofs.XRT
