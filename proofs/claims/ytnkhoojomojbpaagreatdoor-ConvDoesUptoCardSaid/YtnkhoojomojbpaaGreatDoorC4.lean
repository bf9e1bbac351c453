/- infer.maker.unsqueeze, squeeze over data: told. -/
import Derived.Test.YtnkhoojomojbpaaGreatDoorC3
import Derived.Test.YtnkhoojomojbpaaGreatDoorC2
open Bool renaming and_self→uu,eq_iff_iff→vc,false_and→so,false_or→IN,false→a8,not_eq_true'→T2,not_false→hX,not_true→cy,true_and→gb,true_or→ahn,true→bc
open Decidable renaming decide→a7
open Eq renaming trans→gp
open Go.Vm.AV renaming d→eb,nils→b5,op→mm,os→mq
open Go.Vm.Nx renaming go→WD,stop→WI
open Go.Vm.Tq renaming br_no→eN
open Go.Vm.Ty renaming str→fa,unit→eR
open Int renaming le_refl→DC,mul_le_mul→Qb,natCast_nonneg→u4,ofNat→bd,toNat_natCast→b9,toNat_of_nonneg→kd,toNat→j4
open List renaming all_cons→py,all_eq_true→gv,any_eq_false→v7,any_eq_true→tr,append_assoc→gl,append_nil→eT,cons_append→Ar,contains_iff_mem→ahl,drop→fb,find?_eq_none→YT,find?_some→ahd,find?→te,findIdx?_eq_none_iff→yd,findIdx?_eq_some_iff_getElem→fk,getD_eq_getElem?_getD→kM,getD→ec,getElem?_eq_getElem→dv,getElem_mem→rm,getElem_zipWith→ahq,length_append→bK,length_cons→bs,length_drop→km,length_nil→eO,length_replicate→mb,length_set→WB,length_singleton→eS,length_take→fl,length→bk,map_nil→Dr,mem_append→q7,mem_cons_of_mem→m3,mem_cons_self→ku,mem_cons→kt,mem_of_find?_eq_some→kq,mem_of_getElem?→ik,mem_range→v8,mem_singleton→ahz,nil_append→pb,nodup_cons→aho,not_mem_nil→Dp,range→hW,replicate→eo,take_length→yf,take→gy,zipWith_cons_cons→QC,zipWith→MV
open Nat renaming beq_refl→ye,beq→dK,le_refl→ep,le_trans→zv,lt_of_lt_of_le→xd,zero_add→hM,zero_le→k7
open Option renaming none→a6,some→ar
open Option.some renaming inj→hY
open PUnit renaming unit→bn
set_option maxRecDepth 100000
set_option maxHeartbeats 4000000
namespace Go.Proofs.XRT
open Go.Vm Go Tryz IntKind
noncomputable section
theorem ns {r}:∀{l o:af},dj r l o=bc->(jy l r).Nodup/\∀a∈jy l r,a∉o
 |[],_,_=>⟨List.nodup_nil,λ_ h=>by cases h⟩
 |a::l,o,h=>by
  rw[dj,aX,aX]at h;let ⟨f,e⟩:=ns h.2.2
  let g:kD a r∉o:=λc=>by
   let:o.any λw=>kD a r==w=bc:=tr.2 ⟨_,c,by simp⟩
   rw[this]at h;exact absurd h.2.1<|by decide
  refine⟨aho.2 ⟨λc=>e _ c<|q7.2<| .inr<|ahz.2 rfl,f⟩,λb d=>?_⟩;rcases kt.1 d with rfl|d
  ·exact g
  ·exact λc=>e b d<|q7.2<| .inl c
theorem Cx {r}{l o:af}(c:0<=r)(d:r<=4294967296)(h:dj r l o=bc):∀a∈jy l r,0<=a/\a<r:=by intro a e;obtain⟨b,f,rfl⟩:=List.mem_map.1 e;exact Oz c d<|Cq h b f
theorem lg l:(jA l).Perm l:=List.mergeSort_perm _ _
theorem Cy l:(jA l).length=l.length:=(lg l).length_eq
theorem vP {l}(h:l.Nodup):(jA l).Pairwise (· < ·):=by
 let d:(jA l).Pairwise _:=List.pairwise_mergeSort λa b c=>by simp only[decide_eq_true_eq];omega λa b=>by simp only[Bool.or_eq_true,decide_eq_true_eq];omega l
 let e  :=(lg l).nodup_iff.2 h;refine List.Pairwise.imp_of_mem (λ_ _ f=>?_)<|d.and e
 let:=bt f.1;omega
theorem OU {S:af}(h:S.Pairwise (· < ·)){i}:∀(d) (a:i+d<S.length),S[i]'(by omega)+(d:Int)<=S[i+d]
 |0,a=>by simp
 |d+1,a=>by
  let b:=OU h (i:=i) d<|by omega
  let c:=List.pairwise_iff_getElem.1 h (i+d) _ (by omega) a<|by omega
  omega
theorem adt {S:af}(h:S.Pairwise (· > ·)):∀(i) (a:i<S.length),S[i]+(i:Int)<=S[0]'(by omega)
 |0,a=>by simp
 |i+1,a=>by
  let b:=adt h i<|by omega
  let c:=List.pairwise_iff_getElem.1 h i _ (by omega) a<|by omega
  omega
def KUq  :=aI 0<|aL vN ld [6] (hlp vN ld) (cR<|cR<|cR<|cR<|cR<|cR adr)<|aV prog 0 f223.results.toList ah
def KSz  :=aI 0<|aL vO lf [6] (hlp vO lf) (cR<|cR<|cR<|cR<|cR<|cR ads)<|aV prog 0 f222.results.toList ah
def usR :List Int->List Int->af
 |[],o=>o
 |a::l,o=>usR l (jz o a.toNat 1)
theorem avZ {l xs:af}(r:xs.length<=6)(t:l.length<=2147483640)(j:∀i (h:i<l.length),0<=l[i]/\l[i]<=xs.length+i):lp vN ld OS fu (LL l 0 xs) KUq=Hm 3 (ar<|usR l xs):=by
 let u:maxLen=9223372036854775807:=by decide
 let k:∀(l o:af),bG (λo a=>.go<|jz o a.toNat 1) (λo=>Hm 3<|some o) l o=Hm 3 (ar<|usR l o):=by intro l;induction l with|nil=>intro o;rfl|cons a l m=>intro o;exact m _
 refine(cg (xs:=l) (T:=λn s=>lp vN ld OS n s KUq) (λi o=>o.length=xs.length+i) (by omega) ?_ ?_ rfl).trans<|k l xs
 ·intro i o a n d e f p q c;let b:=f;rw[dv e]at b;let v:=hY b;let ⟨w,x⟩:=j i e;let g:=ap7 l i o n KUq;rw[c,ai,p,aw,b9,f,aw,aF<|(by simp only[aK];omega:0<=a/\a<=.ofNat _/\o.length<=2147483648),ai,q]at g;exact .inl ⟨_,rfl,by rw[vM<|by omega,d];omega,g⟩
 ·intro o n d c;rw[ap7,c,al];kernel_rfl
theorem aFh l a:hlp vN ld OS _ (LL l 0 a) KUq=lp vN ld OS fu (LL l 0 a) KUq:=rfl
def sqR :List Int->List Int->Option (af)
 |[],o=>ar o
 |a::l,o=>bif o.getD a.toNat 0==1 then sqR l (nQ o a.toNat)else a6
theorem LN {xs i}(h:i<xs.length):(nQ xs i).length+1=xs.length:=by unfold nQ;rw[bK,fl,km];omega
theorem av0 {l xs:af}(x:xs.length<=6)(y:l.length<=2147483640)(m:∀i (h:i<l.length),0<=l[i]/\l[i]+(i:Int)<(xs.length:Int)):lp vO lf OT fu (LM l 0 xs) KSz=Hm 3 (sqR l xs):=by
 have z:maxLen=9223372036854775807:=by decide
 have p:∀(l o:af),bG (λ(o:af) (a:Int)=>bif o.getD a.toNat 0==1 then WD (nQ o a.toNat)else WI (ar (aq.panic 131 4,([]:LHp)))) (λo=>Hm 3 (ar o)) l o=Hm 3 (sqR l o):=by
  intro l;induction l with|nil=>intro o;rfl|cons a l q=>intro o;rw[bG,sqR];cases o.getD a.toNat 0==1 with|true=>exact q _|false=>rfl
 refine(cg (xs:=l) (T:=λn s=>lp vO lf OT n s KSz) (st:=λ(i:Int) (o:af)=>LM l i o) (f:=λ(o:af) (a:Int)=>bif o.getD a.toNat 0==1 then WD (nQ o a.toNat)else WI (ar (aq.panic 131 4,([]:LHp)))) (fin:=λ(o:af)=>Hm 3 (ar o)) (λ(i:Nat) (o:af)=>o.length+i=xs.length) (by omega) ?_ ?_ (a:=xs) rfl).trans (p l xs)
 ·intro i o a n r g j t u d
  have b:=j;rw[dv g]at b;have v:=hY b;obtain⟨e,w⟩:=m i g;rw[v]at e w;have c:=ap8 l (i:Int) o n KSz;have g1:idx o a=ar (o.getD a.toNat 0):=Hk e (by omega);have g2:o[a.toNat]?=ar (o.getD a.toNat 0):=by rw[kM,dv (by omega)]<;>rfl
  rw[d,ai,t,aw,b9,j,aw,g1,aw,g2,aw,aF (show 0<=a/\a<bd o.length/\i64.wrap (a+1)=a+1 from⟨e,by simp only[aK];omega,aH (by omega) (by omega)⟩),ai,u]at c;cases k:o.getD a.toNat 0==1 with|true=>rw[k,cy,al]at c;exact .inl ⟨_,rfl,by show (nQ o a.toNat).length+(i+1)=_;have:=LN (xs:=o) (i:=a.toNat) (by omega);omega,c⟩|false=>rw[k,hX,ai]at c;exact .inr ⟨_,rfl,c.trans (by kernel_rfl)⟩
 ·intro o n r d;show lp _ _ _ (n+1) (LM l (l.length:Int) o) _=_;rw[ap8,d,al];show _=_;kernel_rfl
theorem aFi l a:hlp vO lf OT _ (LM l 0 a) KSz=lp vO lf OT fu (LM l 0 a) KSz:=rfl
def cS a  :=aj a bD []
def adu (a:bu)(b:af)  :=bif dj (.ofNat<|b.length+(cS a).length) (cS a) []then ar (usR (jA<|jy (cS a)<| .ofNat<|b.length+(cS a).length) b)else a6
def av1 a b  :=(adu a b).isSome
def av2 a b  :=(adu a b).getD []
def av3 :List AV->LHp->Tq
 |[.d Y7 ((_,_,_,_,a,_),_,_),.d zS b],[]=>.br (aE a) (.br (a7 (b.length<=6)) (.br (a7 ((cS a).length<=2147483640)) (ynT (av1 a b) (av2 a b)) .no) .no) .no
 |_,_=>.no
theorem amu :bq 223 (ay av3):=by
 let t:=bM (d:=6) (l:=[(6,[7,24,25,26])]) Vz func223 call223;refine aY λo p u v g=>?_
 unfold av3 at g;split at g
 ·rename_i x y j k a _ z _ c
  let ⟨p,A⟩:=eN g;let ⟨m,B⟩:=eN A;let ⟨n,C⟩:=eN B;let m  :=bt m;let n:=bt n;refine t.okO (.slice aa)<|gp ?_<|show (Co<|adu a c).run ah=ar (u,v)from C
  refine gp (congrArg (fv _)<|avX x y j k a z c) ?_;let D:aj a m9 []=cS a:=rfl;let w:i64.wrap (.ofNat c.length+.ofNat (cS a).length)=.ofNat (c.length+(cS a).length):=by simp only[aK];rw[aH (by omega)<|by omega];omega
  rw[p,ai,D,aF<|(by omega:(cS a).length<=2147483648),ai,w,aF<|show (jy (cS a)<| .ofNat<|c.length+(cS a).length).length<=2147483648 by rw[gr];omega,ai,aF<|show c.length<=2147483648 by omega,ai,←nk];unfold adu;cases q:dj (.ofNat<|c.length+(cS a).length) (cS a) []with
  |false=>rfl
  |true=>
   let E:=(ns q).1;let s:=Cx (r:=.ofNat<|c.length+(cS a).length) (by simp only[aK];omega) (by simp only[aK];omega) q;let b:(jA<|jy (cS a)<| .ofNat<|c.length+(cS a).length).length=(cS a).length:=by rw[Cy,gr]
   let e:=vP E
   let F:=(aFh (jA<|jy (cS a)<| .ofNat<|c.length+(cS a).length) c).trans<|avZ m (by rw[b];exact n)<|by
    intro i h;let f:=s _<|(lg _).mem_iff.1<|rm h
    refine⟨f.1,?_⟩;let G:=OU e (i:=i) ((cS a).length-1-i)<|by rw[b];rw[b]at h;omega
    let H:_<((c.length+(cS a).length:Nat):Int):=(s _<|(lg _).mem_iff.1<|rm<|show i+((cS a).length-1-i)<(jA<|jy (cS a)<| .ofNat<|c.length+(cS a).length).length by rw[b];rw[b]at h;omega).2;rw[b]at h;omega
   rw[ai,ai];exact congrArg (fv<| .slice aa) F
 ·cases g
def aFj  :=fC [Y7,.slice aa]<|ay av3
theorem amv :bq 223 aFj:=cn amu
def adv (b:bu)(a:af)  :=bif dj (.ofNat a.length) (cS b) []then sqR (jA<|jy (cS b)<| .ofNat a.length).reverse a else a6
def av4 a b  :=(adv a b).isSome
def av5 a b  :=(adv a b).getD []
def av6 :List AV->LHp->Tq
 |[.d Y7 ((_,_,_,_,a,_),_,_),.d zS b],[]=>.br (aE a) (.br (a7 (b.length<=6)) (.br (a7 ((cS a).length<=2147483640)) (ynT (av4 a b) (av5 a b)) .no) .no) .no
 |_,_=>.no
theorem amw :bq 222 (ay av6):=by
 let r:=bM (d:=6) (l:=[(6,[6,21,22,23])]) VA func222 call222;refine aY λo p C D h=>?_
 unfold av6 at h;split at h
 ·rename_i s t j k b _ u _ c
  let ⟨p,v⟩:=eN h;let ⟨m,w⟩:=eN v;let ⟨n,x⟩:=eN w;let m  :=bt m;let n:=bt n;refine r.okO (.slice aa)<|gp ?_<|show (Co _).run ah=ar _ from x
  refine gp (congrArg _<|avY s t j k b u c) ?_;let y:aj b m9 []=cS b:=rfl;rw[p,ai,y,aF<|(by omega:(cS b).length<=2147483648),ai,aF<|(by rw[gr];omega:(jy _ _).length<=2147483648),ai,aF<|(by rw[Cy,gr];omega:(jA _).length<=2147483648),ai,aF<|(by omega:c.length<=2147483648),ai,←nk];unfold adv;cases q:dj _ _ []with
  |false=>rfl
  |true=>
   let z:=(ns q).1;let A:=Cx (by simp only[aK];omega) (by simp only[aK];omega) q;let e:(jA<|jy _<| .ofNat c.length).reverse.length=(cS b).length:=by rw[List.length_reverse,Cy,gr]
   let f  :=List.pairwise_reverse.2<|vP z
   let a:∀i (g:i<(jA _).reverse.length),0<=(jA _).reverse[i]/\(jA _).reverse[i]<.ofNat _:=λi g=>A _<|(lg _).mem_iff.1<|List.mem_reverse.1<|rm g
   let B:=(aFi (jA _).reverse c).trans<|av0 m (by rw[e];exact n)<|by
    intro i g;refine⟨(a i g).1,?_⟩;let E:=adt f i g;let F:_<(c.length:Int):=(a 0<|by omega).2;omega
   rw[ai,ai];exact congrArg _ B
 ·cases h
def aFk  :=fC [Y7,.slice aa]<|ay av6
theorem amx :bq 222 aFk:=cn amw
def av7 :List AV->LHp->Tq
 |[.os 0 0],[(0,.arr 31 zS 0 a8 [a,b,c])]=>.br (a7 (a.length+b.length+c.length<=65536)) (.leaf (.ret [.os 1 0]) [(0,.arr 31 (.slice aa) 0 a8 [a,b,c]),(1,.arr 3 aa 0 a8 (a++b++c))]) .no
 |_,_=>.no
theorem amy :bq 220 (ay av7):=by
 let c  :=GO;refine aY λb f g h a=>?_
 unfold av7 at a;split at a
 ·let ⟨d,e⟩:=eN a;cases e;exact c.okC<|QN _ _ _<|bt d
 ·cases a
noncomputable def amz  :=(((((((((((((zp.add 25 zt).add 149<|ay U4).add 59<|ay Cb).add 148 ame).add 215 aly).add 216 aEL).add 219 aEH).add 218 aE4).add 217 aFe).add 221 aEZ).add 224 aE5).add 223 aFj).add 222 aFk).add 220<|ay av7
theorem VB :amz.Good:=(((((((((((((gq.add kc).add Ad).add mA).add Hw).add Hj).add alK).add alH).add ama).add amn).add al8).add amc).add amv).add amx).add amy
theorem adw (c j:ao)(f:List<|ao)(g:ao)(a:bu) vs (b:af):aB amz f155 7 [] [iN (c,j,f,g,a,()) vs,.d (.slice aa) b] [] ah=bif c==zg then bif aE a then bif b.length<=2147483648 then bif aEJ a b then ak [.d (aa).slice<|aEK a b]else bF else a6 else a6 else bif c==zh then bif aE a then bif aE a then bif cA (.ofNat (aj a zo []).length) 1 9223372036854775807 (aj a zo [])then bif b.length<=2147483648/\(aj a zo []).length<=2147483648 then bif dY b (aj a zo [])==0 then ak [.d (aa).slice<|ir b<|aj a zo []]else ar (.panic 131<|dY b<|aj a zo [],[])else a6 else bF else a6 else a6 else bif c==zi then bif aE a then bif b.length<=6 then bif Hy a b then ak [.d (aa).slice<|aFd a b]else bF else a6 else a6 else bif c==vm then bif aE a then bif b.length<=2147483648 then bif 1<=vs.length/\vs.length<=2147483648 then bif aE2 a vs b then ak [.d (aa).slice<|aE3 a vs b]else bF else a6 else a6 else a6 else bif c==zj then bif aE a then bif b.length<=2147483648 then bif aEF a b then ak [.d (aa).slice<|aEG a b]else bF else a6 else a6 else bif c==qE then bif a.length<=9223372036854775807 then bif uf (aS a jG 0) (.ofNat b.length)then (if (0:Int)<=0/\0<=kD (aS a jG 0) (.ofNat b.length)/\kD (aS a jG 0) (.ofNat b.length)<=.ofNat b.length then ar (fb 0<|gy (kD (aS a jG 0)<| .ofNat b.length).toNat b)else a6).bind λh=>(idx vs 1).bind λi=>(if 0<=i64.wrap (kD (aS a jG 0) (.ofNat b.length)+1)/\i64.wrap (kD (aS a jG 0) (.ofNat b.length)+1)<=.ofNat b.length/\.ofNat b.length<=bd b.length then ar (fb (i64.wrap<|kD (aS a jG 0) (.ofNat b.length)+1).toNat<|gy (bd b.length).toNat b)else a6).bind λe=>bif h.length+bk i.2.2.1+e.length<=65536 then ar (.ret [.os 0 0],[(0,.arr 3 aa 0 a8<|h++i.2.2.1++e)])else a6 else bF else a6 else bif c==GK then bif aE a then bif b.length<=2147483648 then bif al6 a b then ak [.d (aa).slice<|avz a b]else bF else a6 else a6 else bif c==zk then bif aE a then bif b.length<=6 then bif (cS a).length<=2147483640 then bif av4 a b then ak [.d (aa).slice<|av5 a b]else bF else a6 else a6 else a6 else bif c==zl then bif aE a then bif b.length<=6 then bif (cS a).length<=2147483640 then bif av1 a b then ak [.d (aa).slice<|av2 a b]else bF else a6 else a6 else a6 else bif aE a then bif b.length<=2147483648 then bif avF a b then ak [.d (aa).slice<|avG a b]else bF else a6 else a6:=by kernel_rfl
def Sc  :=aU f105
def HC :Code:=cL (cL (cR (cL (cR (cL (cR (cR (cR (cR (cR (cR (cR (cR (cR (cR (cR (cR (cR (cR (cR (cR (cR (cR (cR (cR (cR (cL (cR (cL (cR (cR (cR Sc))))))))))))))))))))))))))))))))
def aFl :Code:=cR (cR (cL (cR (cR (cR (cR (cR (cR (cR (cR (cR (cR (cR (cR (cR (cR (cR (cR (cR (cR (cR (cR (cR (cL (cR (cL (cR (cR (cR Sc)))))))))))))))))))))))))))))
def hZ :Cfg:=⟨149,8,0,[(56,[3,132,133,134])],bc⟩
def rO (r:Option (aq×LHp)):Option (Int×af):=match fv (.slice aa) r with|some (.ret [.d (.slice (.int .i64)) l],[])=>ar (0,l)|some (.panic t c,[])=>bif dK t 131&& !(c==0)then ar (c,[])else a6|_=>a6
theorem LO {r:Option (aq×LHp)}{p:Int×af}(h:rO r=ar p):fv (.slice aa) r=(Hu p.1 p.2).run ah:=by
 unfold rO at h;split at h
 ·rename_i l b;cases h;exact b
 ·rename_i t c b
  cases a:dK t 131&& !(c==0)with
  |false=>rw[a]at h;cases h
  |true=>
   rw[a]at h;cases h;rw[aX]at a;have d:=cb a.1;subst d;rw[b,LI];have:(c==0)=a8:=by simpa using a.2
   show _=(bif c==0 then _ else _);rw[this]<;>rfl
 ·cases h
abbrev dQ :=ao×ao×List ao×ao×bu×Unit
def mvR (n:dQ)(a:cm)(b:af)  :=rO<|aB amz f155 7 [] [iN n a,.d (.slice aa) b] [] ah
def mvG n a b  :=(mvR n a b).isSome
def mvC n a b  :=((mvR n a b).getD (0,[])).1
def mvL n a b  :=((mvR n a b).getD (0,[])).2
def av8 :List AV->LHp->Tq
 |[.d Y7 (n,a,_),.d zS b],[]=>.br (mvG n a b) (Hu (mvC n a b) (mvL n a b)) .no
 |_,_=>.no
theorem amA :bq 155 (ay av8):=by
 let f:=bM (d:=7) (l:=[]) VB func155 call155;refine aY λc j k m a=>?_
 unfold av8 at a;split at a
 ·rename_i n g _ h
  let ⟨b,i⟩:=eN a;refine f.okO (.slice aa)<|gp ?_ i
  unfold mvG at b;unfold mvC mvL;cases e:mvR n g h with|none=>rw[e]at b;cases b|some p=>exact LO e
 ·cases a
def aFm  :=fC [Y7,.slice aa]<|ay av8
theorem amB :bq 155 aFm:=cn amA
def aFn  :=fC [Y7,.slice aa]<|aj9 (.slice aa)<|ay avf
def aFo  :=fC [Y7,.slice aa]<|aj9 (.slice aa)<|ay avx
def aFp  :=fC [.slice aa,.slice aa]<|ay ac1
theorem amC :bq 153 aFn:=cn (G3 alR)
theorem amD :bq 154 aFo:=cn (G3 al4)
theorem amE :bq 77 aFp:=cn Hq
def lR  :=((((((((((zp.add 155 aFm).add 149<|ay U4).add 59<|ay Cb).add 148 ame).add 150 aEB).add 151 avM).add 152 aFa).add 153 aFn).add 154 aFo).add 77 aFp).add 145<|ay alW
theorem VC :lR.Good:=((((((((((gq.add amB).add Ad).add mA).add Hw).add alA).add R6).add amk).add amC).add amD).add amE).add R5
def fZ (c:cm)(a:Y3.den)  :=(idx c 1).bind λb=>bif bk a.2.2.1<=2147483648/\bk b.2.2.1<=2147483648 then bif dY a.2.2.1 b.2.2.1==0 then ak [.d (aa).slice<|ir a.2.2.1 b.2.2.1]else ar (.panic 131<|dY a.2.2.1 b.2.2.1,[])else a6
def oq (a:bu)(b:Y3.den)  :=bif aE a then bif cA 2 1 100 (aj a gX [])then bif bd (bk b.2.2.1)==4 then bif nq a b.2.2.1 (aj a gX [])then bif dp a b.2.2.1 (aj a gX [])==0 then bif mj (aj a gX []) 0 (aj a cE [])then ak [.d (aa).slice [ec b.2.2.1 0 0,ec b.2.2.1 1 0,jV a b.2.2.1<|aj a gX [],jW a b.2.2.1<|aj a gX []]]else bF else ar (.panic 131<|dp a b.2.2.1<|aj a gX [],[])else a6 else bF else bF else a6
def lF (c:ao)(a:bu)(b:Y3.den)  :=bif aE a then bif bk b.2.2.1<=2147483648 then bif LB c a b.2.2.1 then ak [.d (aa).slice<|auT c a b.2.2.1]else bF else a6 else a6
def fH (a:Y3.den)  :=ak [.d (aa).slice a.2.2.1]
theorem oS (b m:ao)(g:List<|ao)(i:ao)(e:bu)(c):aB lR f105 8 [(56,[3,132,133,134])] [iN (b,m,g,i,e,()) c] [] ah=bif b==oK then bif a7 (e.length<=9223372036854775807)then (te gJ e).bind λo=>ak [.d (aa).slice o.2.2.2.2.2.1.2.1]else a6 else (idx c 0).bind λa=>bif b==aah then fH a else bif b==DX then fH a else bif b==BO then fH a else bif b==aai then fH a else bif b==aab then fH a else bif b==aac then fH a else bif b==aad then fH a else bif b==aae then fH a else bif b==aaf then fH a else bif b==aag then fH a else bif b==GJ then fH a else bif b==m8 then fH a else bif b==Uv then fZ c a else bif b==zl5 then fZ c a else bif b==Uy then fZ c a else bif b==Ux then fZ c a else bif b==Uw then fZ c a else bif b==zl7 then fZ c a else bif b==zl8 then fZ c a else bif b==[79,114]then fZ c a else bif b==zl9 then fZ c a else bif b==tY then fZ c a else bif b==xk then fZ c a else bif b==xm then fZ c a else bif b==nO then (idx c 1).bind λf=>bif a7 (bk a.2.2.1<=2147483648/\bk f.2.2.1<=2147483648)then bif dY a.2.2.1 f.2.2.1==0 then (idx c 2).bind λj=>bif a7 ((ir a.2.2.1 f.2.2.1).length<=2147483648/\bk j.2.2.1<=2147483648)then bif dY (ir a.2.2.1 f.2.2.1) j.2.2.1==0 then ak [.d (aa).slice<|ir (ir a.2.2.1 f.2.2.1) j.2.2.1]else ar (.panic 131<|dY (ir a.2.2.1 f.2.2.1) j.2.2.1,[])else a6 else (idx c 2).bind λj=>ar (.panic 131<|dY a.2.2.1 f.2.2.1,[])else a6 else bif b==Kf then bif a7 (e.length<=9223372036854775807)then bif uf (aS e jG<| -1) (.ofNat<|bk a.2.2.1)then fH a else bF else a6 else bif b==vk then lF b e a else bif b==vl then lF b e a else bif b==Kd then lF b e a else bif b==qD then lF b e a else bif b==DV then (idx c 1).bind λk=>bif a7 (bk a.2.2.1<=2147483648/\bk k.2.2.1<=2147483648)then bif uh a.2.2.1 k.2.2.1==0 then ak [.d (aa).slice<|qj a.2.2.1 k.2.2.1]else ar (.panic 131<|uh a.2.2.1 k.2.2.1,[])else a6 else bif b==BN then bif aE e then bif a7 (2<=c.length)then bif uj c then bif OP e c==0 then ak [.d (aa).slice<|tc e c]else ar (.panic 131<|OP e c,[])else a6 else a6 else a6 else bif b==jT then bif vI e c a.2.2.1 then bif lQ e c a.2.2.1 then ak [.d (aa).slice<|Cr e c a.2.2.1]else ar (.panic 131<|vJ e c a.2.2.1,[])else a6 else bif b==lL then oq e a else bif b==qF then oq e a else bif b==BM then bif !Int.ofNat (bk a.2.2.1)==4 then bF else (idx a.2.2.1 0).bind λn=>(idx a.2.2.1 1).bind λl=>ar (.ret [.os 0 0],[(0,.arr 3 aa 0 a8 [n,l,1,1])])else bif b==DW then bif !decide (bd (bk a.2.2.1)>=2)then bF else (if (0:Int)<=1/\1<=bd c.length/\bd c.length<=bd c.length then ar (fb 1<|gy (bd c.length).toNat c)else a6).bind λl=>(hlp lR hZ) HC _ {fr:=az 8 [(3,eb (aa).slice a.2.2.1),(132,eb Y3.slice l),(133,I<|bd l.length),(134,I 0)],hp:=[],nx:=0} (aI 1<|aL lR hZ [56] (hlp lR hZ) aFl<|aI 0<|aL lR hZ [56] (hlp lR hZ) (cR<|cR<|cR<|cR Sc)<|aV prog 0 f105.results.toList ah)else bif mvG (b,m,g,i,e,bn) c a.2.2.1 then bif mvC (b,m,g,i,e,bn) c a.2.2.1==0 then ak [eb (aa).slice<|mvL (b,m,g,i,e,bn) c a.2.2.1]else ar (aq.panic 131<|mvC (b,m,g,i,e,bn) c a.2.2.1,[])else a6:=(aW [56] hZ rfl).trans<|by obtain⟨p,h⟩:=aM lR hZ;rw[h];kernel_rfl
def VD (n:dQ) vs  :=rO<|aB lR f105 8 [(56,[3,132,133,134])] [iN n vs] [] ah
def VE n a  :=(VD n a).isSome
def Ah n a  :=((VD n a).getD (0,[])).1
def kz n a  :=((VD n a).getD (0,[])).2
def av9 :List AV->LHp->Tq
 |[.d Y7 (n,a,_)],[]=>.br (VE n a) (Hu (Ah n a) (kz n a)) .no
 |_,_=>.no
theorem amF :bq 105 (ay av9):=by
 let f:=bM (d:=8) (l:=[(56,[3,132,133,134])]) VC func105 call105;refine aY λc i j k a=>?_
 unfold av9 at a;split at a
 ·rename_i n g _
  let ⟨b,h⟩:=eN a;refine f.okO (.slice aa)<|gp ?_ h
  unfold VE at b;unfold Ah kz;cases e:VD n g with|none=>rw[e]at b;cases b|some p=>exact LO e
 ·cases a
def aFq  :=fC [Y7]<|ay av9
theorem amG :bq 105 aFq:=cn amF
def awa :List AV->LHp->Tq
 |[.d zS a],[]=>.leaf (.ret [I (aN a),I (aC a)]) []
 |_,_=>.no
theorem amH :bq 60 (ay awa):=by
 refine aY λb g h i a=>?_
 unfold awa at a;split at a
 ·rename_i c
  refine FnH.len call60 λd=>xq.ok _ _ _ _ ?_
  let e  :=d _ c<|ahz.2 rfl
  let f:(Tq.br (c.length<=maxLen) (.leaf _ []) .no).run ah=ar _:=by rw[aF e];exact a
  exact f
 ·cases a
def qH  :=(((((zp.add 102<|ay acj).add 104<|fC [Y7]<|ay avo).add 105 aFq).add 106<|fC [Y7,aa]<|ay avt).add 107<|ay Lx).add 60<|ay awa
theorem sL :qH.Good:=(((((gq.add ack).add (cn al0)).add amG).add (cn al2)).add sH).add amH
def ouR  :=vi qH f58 7 [(5,[1,2,4,5,26,27,28])] Od
theorem OV :bq 58 ouR:=J9 sL<|NZ sL cZ func58 call58 rfl rfl (by decide +kernel) rfl func100 call100 rfl rfl<|by decide +kernel
def ady  :=aU f58
def OW :Code:=cL (cL (cR (cL (cR (cR (cR (cR ady)))))))
def nt :Cfg:=⟨69,7,3,[(5,[1,2,4,5,26,27,28])],a8⟩
theorem aqc (c)(b nm)(ins)(out)(ag)(a:cm):Ca qH f58 7 [(5,[1,2,4,5,26,27,28])] Od 3 [5] c [dU b nm ins out ag,.d (.slice _) a] [] ah=bif a7 (ins.length<=9223372036854775807)&&(aE ag&&nf ag)then bif Ac b ins out ag !=0 then ak [(eb .str []).pr<|(I 0).pr<|b5.pr<| .d .unit bn,I<|Ac b ins out ag]else bif !.ofNat a.length==bd ins.length then ak [(eb .str []).pr<|(I 0).pr<|b5.pr<| .d .unit bn,I 4]else c OW _ {fr:=az 7 [(1,.d Y3.slice a),(2,.op 0 [] 0),(4,.op 1 [] 0),(5,.op 2 [] 0),(26,.d Y3.slice a),(27,I<| .ofNat a.length),(28,I 0)],hp:=[(0,.box<| .d Y2 (b,nm,ins,out,ag,bn)),(1,au.box<|(eb fa []).pr<|(I 0).pr<|b5.pr<|eb eR bn),(2,au.box<|I 0)],nx:=6} (aI 0<|aL qH nt [5] c (cR<|cR<|cR<|cR<|cR ady)<|ES qH Od (cR<|aU f100) 0 f58.results.toList [.op 1 [] 0,.op 2 [] 0] ah)else a6:=by kernel_rfl
def KOu  :=aI 0<|aL qH nt [5] (hlp qH nt) (cR<|cR<|cR<|cR<|cR ady)<|ES qH Od (cR<|aU f100) 0 f58.results.toList [.op 1 [] 0,.op 2 [] 0] ah
def aFr (n:dQ):LHp:=[(0,.box<| .d Y2 n),(1,.box<|(eb .str []).pr<|(I 0).pr<|b5.pr<| .d .unit bn),(2,.box<|I 0)]
def OX (n:dQ)(a:cm)(i:Int):LSt:=⟨az 7 [(1,.d (.slice _) a),(2,.op 0 [] 0),(4,.op 1 [] 0),(5,.op 2 [] 0),(26,.d (.slice _) a),(27,I<| .ofNat a.length),(28,I i)],aFr n,6⟩
theorem aFs (c nm)(ins)(out)(ag)(b)(i)(n){R}(k:AEx->LSt->Option R):lp qH nt OW (n+1) (OX (c,nm,ins,out,ag,()) b i) k=bif a7 (i<.ofNat b.length)then (idx b i).bind λa=>bif !aQ a.2.1 0 then k .ret {fr:=az 7 [(1,.d Y3.slice b),(2,.op 0 [] 0),(4,.op 1 [] 0),(5,.op 2 [] 0),(7,.op 6 [] 0),(26,.d Y3.slice b),(27,I<| .ofNat b.length),(28,I i),(29,B bc),(30,.ip Y3 a),(31,.d Y3 a),(32,mm 6 [1] 1),(33,I a.2.1),(34,B<|aQ a.2.1 0),(35,B bc),(36,(eb fa []).pr<|(I 0).pr<|b5.pr<|eb eR bn)],hp:=[(2,au.box<|I 5),(1,au.box<|(eb fa []).pr<|(I 0).pr<|b5.pr<|eb eR bn),(6,au.box<|eb Y3 a),(6,au.box<|(eb fa []).pr<|(I 0).pr<|b5.pr<|eb eR bn),(0,au.box<|eb Y2 (c,nm,ins,out,ag,bn)),(1,au.box<|(eb fa []).pr<|(I 0).pr<|b5.pr<|eb eR bn),(2,au.box<|I 0)],nx:=7}else bif aC a.2.2.1 !=0 then k (AEx.panic 131<|aC a.2.2.1) {fr:=az 7 [(1,eb Y3.slice b),(2,mm 0 [] 0),(4,mm 1 [] 0),(5,mm 2 [] 0),(7,mm 6 [] 0),(8,I<|aN a.2.2.1),(9,I<|aC a.2.2.1),(26,eb Y3.slice b),(27,I<|bd b.length),(28,I i),(29,B bc),(30,AV.ip Y3 a),(31,eb Y3 a),(32,mm 6 [1] 1),(33,I a.2.1),(34,B<|aQ a.2.1 0),(35,B a8),(37,AV.tup [I<|aN a.2.2.1,I<|aC a.2.2.1]),(38,mm 6 [2] 2),(39,eb (aa).slice a.2.2.1),(40,AV.tup [I<|aN a.2.2.1,I<|aC a.2.2.1]),(41,I<|aN a.2.2.1),(42,I<|aC a.2.2.1),(43,I<|aC a.2.2.1)],hp:=[(6,au.box<|eb Y3 a),(6,au.box<|(eb fa []).pr<|(I 0).pr<|b5.pr<|eb eR bn),(0,au.box<|eb Y2 (c,nm,ins,out,ag,bn)),(1,au.box<|(eb fa []).pr<|(I 0).pr<|b5.pr<|eb eR bn),(2,au.box<|I 0)],nx:=7}else lp qH nt OW n (OX (c,nm,ins,out,ag,()) b<|i64.wrap<|i+1) k else k (AEx.exit 0) {fr:=az 7 [(1,eb Y3.slice b),(2,mm 0 [] 0),(4,mm 1 [] 0),(5,mm 2 [] 0),(26,eb Y3.slice b),(27,I<|bd b.length),(28,I i),(29,B a8)],hp:=[(0,au.box<|eb Y2 (c,nm,ins,out,ag,bn)),(1,au.box<|(eb fa []).pr<|(I 0).pr<|b5.pr<|eb eR bn),(2,au.box<|I 0)],nx:=6}:=by kernel_rfl
theorem aJm f g b a c (e:cm) i:KOu (.exit 0) ⟨az 7 [(1,.d (.slice _) e),(2,.op 0 [] 0),(4,.op 1 [] 0),(5,.op 2 [] 0),(26,.d (.slice _) e),(27,I<| .ofNat e.length),(28,I i),(29,B a8)],aFr (f,g,b,a,c,()),6⟩=bif s9 f c e then bif hU f c e==0 then bif VE (f,g,b,a,c,bn) e then bif Ah (f,g,b,a,c,bn) e==0 then bif aC (kz (f,g,b,a,c,bn) e) !=0 then ak [(eb .str []).pr<|(I 0).pr<|b5.pr<| .d .unit bn,I<|aC<|kz (f,g,b,a,c,bn) e]else bif aE c then bif iT c (hO f c e)then bif (kz (f,g,b,a,c,bn) e).length<=2147483648 then ar (.ret [(eb .str a).pr<|(I<|hO f c e).pr<|(mq 0 0).pr<| .d .unit bn,I 0],[(0,.arr 3 aa 0 a8<|kz (f,g,b,a,c,bn) e)])else a6 else ak [(eb .str []).pr<|(I 0).pr<|b5.pr<| .d .unit bn,I 4]else a6 else ak [(eb .str []).pr<|(I 0).pr<|b5.pr<| .d .unit bn,I<|Ah (f,g,b,a,c,bn) e]else a6 else ak [(eb .str []).pr<|(I 0).pr<|b5.pr<| .d .unit bn,I<|hU f c e]else a6:=by kernel_rfl
def yM :cm->Int
 |[]=>0
 |v::r=>bif !aQ v.2.1 0 then 5 else bif aC v.2.2.1 !=0 then aC v.2.2.1 else yM r
def zvO  :=(eb .str []).pr<|(I 0).pr<|b5.pr<| .d .unit bn
def qO (c:Int):Option (aq×LHp):=ar (.ret [zvO,I c],[])
def ouX e g b a c f  :=
 bif s9 e c f then bif hU e c f==0 then (bif VE (e,g,b,a,c,()) f then (bif Ah (e,g,b,a,c,()) f==0 then (bif aC (kz (e,g,b,a,c,()) f) !=0 then qO (aC<|kz (e,g,b,a,c,()) f)else (bif aE c then (bif iT c (hO e c f)then (bif ((kz (e,g,b,a,c,()) f).length<=2147483648)then ar (.ret [(eb .str a).pr<|(I<|hO e c f).pr<|(mq 0 0).pr<| .d .unit bn,I 0],[(0,.arr 3 aa 0 a8<|kz (e,g,b,a,c,()) f)])else a6)else qO 4)else a6))else qO<|Ah (e,g,b,a,c,()) f)else a6)else qO<|hU e c f else a6
theorem aqd {op nm:ao}{ins:List (ao)}{out:ao}{ag:bu}{b:cm}(p:b.length<=2147483648):lp qH nt OW fu (OX (op,nm,ins,out,ag,()) b 0) KOu=bif yM b !=0 then qO (yM b)else ouX op nm ins out ag b:=by
 have q:maxLen=9223372036854775807:=by decide
 have j:∀(l:cm),bG (λ(_:Unit) (v:(Y3).den)=>bif !aQ v.2.1 0 then WI (qO 5)else bif aC v.2.2.1 !=0 then WI (qO (aC v.2.2.1))else WD ()) (λ_=>ouX op nm ins out ag b) l ()=bif yM l !=0 then qO (yM l)else ouX op nm ins out ag b:=by
  intro l;induction l with
  |nil=>rfl
  |cons v l k=>
   rw[bG,yM];cases aQ v.2.1 0 with|false=>rfl|true=>rw[cy,al,al];cases h:aC v.2.2.1 !=0 with|true=>rw[ai,ai,h]<;>rfl|false=>rw[al,al];exact k
 refine(cg (xs:=b) (T:=λn s=>lp qH nt OW n s KOu) (st:=λ(i:Int) (_:Unit)=>OX (op,nm,ins,out,ag,()) b i) (f:=λ(_:Unit) (v:(Y3).den)=>bif !aQ v.2.1 0 then WI (qO 5)else bif aC v.2.2.1 !=0 then WI (qO (aC v.2.2.1))else WD ()) (fin:=λ(_:Unit)=>ouX op nm ins out ag b) (λ(_:Nat) (_:Unit)=>True) (by omega) ?_ ?_ (a:=()) trivial).trans (j b)
 ·intro i _ v n _ r t m o d
  have c:=aFs op nm ins out ag b (i:Int) n KOu;rw[d,ai,m,aw]at c;cases e:aQ v.2.1 0 with|false=>rw[e,hX,ai]at c;exact .inr ⟨_,rfl,c.trans (by kernel_rfl)⟩|true=>rw[e,cy,al]at c;simp only[cy,al];cases g:aC v.2.2.1 !=0 with|true=>rw[g,ai]at c;exact .inr ⟨_,rfl,c.trans (by kernel_rfl)⟩|false=>rw[g,al,o]at c;exact .inl ⟨(),rfl,trivial,c⟩
 ·intro _ n _ d;show lp _ _ _ (n+1) (OX (op,nm,ins,out,ag,()) b (b.length:Int)) _=_;rw[aFs,d,al];exact aJm op nm ins out ag b (b.length:Int)
theorem aFt n a:hlp qH nt OW _ (OX n a 0) KOu=lp qH nt OW fu (OX n a 0) KOu:=rfl
def pe n vs  :=bif Ac n.1 n.2.2.1 n.2.2.2.1 n.2.2.2.2.1 !=0 then Ac n.1 n.2.2.1 n.2.2.2.1 n.2.2.2.2.1 else bif ! .ofNat vs.length==bd n.2.2.1.length then 4 else bif yM vs !=0 then yM vs else bif hU n.1 n.2.2.2.2.1 vs==0 then bif Ah n vs==0 then (bif aC (kz n vs) !=0 then aC (kz n vs)else bif iT n.2.2.2.2.1 (hO n.1 n.2.2.2.2.1 vs)then 0 else 4)else Ah n vs else hU n.1 n.2.2.2.2.1 vs
def IU n vs  :=(n.2.2.1.length<=2147483648)&&(aE n.2.2.2.2.1&&nf n.2.2.2.2.1)&&(Ac n.1 n.2.2.1 n.2.2.2.1 n.2.2.2.2.1 !=0||(!(.ofNat vs.length==bd n.2.2.1.length)||(yM vs !=0||(s9 n.1 n.2.2.2.2.1 vs&&(!(hU n.1 n.2.2.2.2.1 vs==0)||VE n vs)))))
def DG (n:dQ)(a:cm):(Y3).den:=bif pe n a==0 then (n.2.2.2.1,hO n.1 n.2.2.2.2.1 a,kz n a,())else ([],0,[],())
def amI (r:Option<|aq×LHp):Option (aq×LHp):=match r with|some (a,b)=>abp [Y3,aa] ah b a|none=>a6
theorem amJ (a:ao) t (l:af):amI (ar (.ret [(eb .str a).pr<|(I t).pr<|(mq 0 0).pr<| .d .unit bn,I 0],[(0,.arr 3 aa 0 a8 l)]))=ar (.ret [.d Y3<|(a,t,l,()),I 0],[]):=rfl
theorem iu {c:Int}(h:(c !=0)=bc):(c==0)=a8:=by simpa using h
theorem awb {op nm:ao}{ins:List (ao)}{out:ao}{ag:bu}{a:cm}(m:IU (op,nm,ins,out,ag,()) a=bc):
  ∃p,Ca qH f58 7 [(5,[1,2,4,5,26,27,28])] Od 3 [5] (hlp qH nt) [dU op nm ins out ag,.d (.slice (Y3)) a] [] ah=ar p/\amI (ar p)=ar (.ret [.d (Y3) (DG (op,nm,ins,out,ag,()) a),I (pe (op,nm,ins,out,ag,()) a)],[]):=by
 unfold IU at m
 simp only[aX]at m
 obtain⟨⟨g1,g2,g3⟩,g5⟩:=m
 have g1:ins.length<=2147483648:=bt g1
 have e:∀{c:Int},(c==0)=a8->pe (op,nm,ins,out,ag,()) a=c->amI (qO c)=ar (.ret [.d (Y3) (DG (op,nm,ins,out,ag,()) a),I (pe (op,nm,ins,out,ag,()) a)],[]):=λq r=>by unfold DG;rw[r,q]<;>rfl
 rw[aqc,aF (show ins.length<=9223372036854775807 by omega),g2,g3,uu,uu,ai]
 have eC:pe (op,nm,ins,out,ag,()) a=bif Ac op ins out ag !=0 then Ac op ins out ag else bif !(bd a.length==bd ins.length)then 4 else bif yM a !=0 then yM a else bif hU op ag a==0 then (bif Ah (op,nm,ins,out,ag,()) a==0 then (bif aC (kz (op,nm,ins,out,ag,()) a) !=0 then aC (kz (op,nm,ins,out,ag,()) a)else bif iT ag (hO op ag a)then 0 else 4)else Ah (op,nm,ins,out,ag,()) a)else hU op ag a:=rfl
 cases i:Ac op ins out ag !=0 with
 |true=>rw[i,ai]at eC;exact⟨_,rfl,e (iu i) eC⟩
 |false=>
  rw[i,al]at eC;cases j:bd a.length==bd ins.length with
  |false=>rw[j,hX,ai]at eC;exact⟨_,rfl,e rfl eC⟩
  |true=>
   rw[j,cy,al]at eC;have f:a.length<=2147483648:=by have:=eq_of_beq j;simp only[aK]at this;omega
   have b:=(aFt (op,nm,ins,out,ag,()) a).trans (aqd (op:=op) (nm:=nm) (ins:=ins) (out:=out) (ag:=ag) f);rw[al,cy,al];cases k:yM a !=0 with
   |true=>rw[k,ai]at b eC;exact⟨_,b,e (iu k) eC⟩
   |false=>
    rw[k,al]at b eC;rw[i,j,k]at g5;simp only[cy,IN,aX]at g5;obtain⟨g6,g7⟩:=g5;unfold ouX at b;have g6:s9 op ag a=bc:=g6;rw[g6,ai]at b;cases l:hU op ag a==0 with
    |false=>rw[l,al]at b eC;exact⟨_,b,e l eC⟩
    |true=>
     rw[l,ai]at b eC;have g7:VE (op,nm,ins,out,ag,()) a=bc:=by have g:(!(hU op ag a==0)||VE (op,nm,ins,out,ag,()) a)=bc:=g7;rw[l]at g;exact g
     rw[g7,ai]at b;cases n:Ah (op,nm,ins,out,ag,()) a==0 with
     |false=>rw[n,al]at b eC;exact⟨_,b,e n eC⟩
     |true=>
      rw[n,ai]at b eC;cases h:aC (kz (op,nm,ins,out,ag,()) a) !=0 with|true=>rw[h,ai]at b eC;exact⟨_,b,e (iu h) eC⟩|false=>have s:=(eL (show aC (kz (op,nm,ins,out,ag,()) a)=0 by simpa using h)).2.1;rw[h,al,g2,ai,aF (show (kz (op,nm,ins,out,ag,()) a).length<=2147483648 by omega),ai]at b;rw[h,al]at eC;cases o:iT ag (hO op ag a)with|false=>rw[o,al]at b eC;exact⟨_,b,e rfl eC⟩|true=>rw[o,ai]at b eC;refine⟨_,b,(amJ _ _ _).trans ?_⟩;unfold DG;rw[eC]<;>rfl
def ouF :List AV->LHp->Tq
 |[.d Y2 n,.d (.slice Y3) a],[]=>.br (IU n a) (.leaf (.ret [.d (Y3) (DG n a),I (pe n a)]) []) .no
 |_,_=>.no
theorem awc :bq 58 (ay ouF):=by
 have g:bq 58 (vz [Y3,aa] ouR):=vA OV;refine aY λf w x y b=>?_
 unfold ouF at b;split at b
 ·rename_i n i
  let ⟨j,k⟩:=eN b;let ⟨l,m,c,e,o,u⟩:=n;let ⟨p,q,r⟩:=awb j;refine g.ok _ _ _ _<|gp ?_<|r.trans k
  simp only[vz];rw[OV.eq];have s:ouR.run [dU l m c e o,.d (.slice<|Y3) i] [] (λa h=>ar (a,h))=ar p:=yG sL q;rw[s];let ⟨t,v⟩:=p;rfl
 ·cases b
def ouE  :=fC [Y2,.slice<|Y3]<|ay ouF
theorem awd :bq 58 ouE:=cn awc
theorem Cz {p:Prop}(h:(4:Int)=0):p:=absurd h (by decide)
theorem no5 {p:Prop}(h:(5:Int)=0):p:=absurd h (by decide)
theorem kK {c:Int}(h:(c !=0)=a8):c=0:=by simpa using h
theorem HD {f}:∀(r d),U2 f d r=0->∀a∈r,∃w,f.find? (oM a)=ar w/\fM (il w<|bk a.1+1)=a.2.1
 |[],_,_,a,e=>by cases e
 |b::r,d,h,a,e=>by
  rw[U2]at h;let c  :=by cases g:U1 f d b !=0 with|true=>rw[g,ai]at h;exact h|false=>exact kK g
  rw[c]at h;rcases kt.1 e with rfl|e
  ·unfold U1 at c
   cases i:f.find? _ with|none=>rw[i]at c;exact no5 c|some w=>rw[i]at c;cases j:fM _ !=a.2.1 with|true=>let c:(bif fM _ !=a.2.1 then (4:Int)else _)=0:=c;rw[j]at c;exact Cz c|false=>simpa using j
  ·exact HD r _ h a e
theorem um {a c}(h:iS a c=0):U2 a [] c=0/\a.any (neO c)=a8:=by
 unfold iS at h;cases b:U2 a [] c !=0 with|true=>rw[b,ai]at h;rw[h]at b;exact absurd b<|by decide|false=>rw[b,al]at h;refine⟨kK b,?_⟩;cases d:a.any _ with|false=>rfl|true=>rw[d]at h;exact absurd h<|by decide
theorem lS {f b}(h:iS f b=0){name}(g:f.any (λw=>dL w<|name++[32])=a8) d:aj b name d=d:=by
 unfold aj;cases i:b.find? _ with
 |none=>rfl
 |some a=>
  exfalso;let ⟨w,j,_⟩:=HD b [] (um h).1 a<|kq i
  let c:=ahd j;let e:=ahd i;unfold ie at e;rw[aX]at e;let k  :=eq_of_beq e.1;unfold oM at c;rw[k]at c;rw[v7]at g;exact g w (kq j) c
theorem Ff {f b}(h:iS f b=0){w}(i:w∈f)(j:je (dd w)=bc):∃a∈b,a.1=fN w/\b.find? (ie (fN w)<|fM<|il (dd w++[32]) 0)=ar a:=by let g:=(um h).2;rw[v7]at g;let c:=g w i;unfold neO at c;rw[j,gb]at c;cases d:b.find? _ with|none=>rw[d]at c;exact absurd rfl c|some a=>let e:=ahd d;unfold ie at e;rw[aX]at e;exact⟨a,kq d,eq_of_beq e.1,rfl⟩
structure aJo (op:List UInt8)(ins:List (List UInt8))(ag:bu):Prop where
 least:(bW op).1<=(ins.length:Int)
 most:(ins.length:Int)<=(bW op).2.1
 attr:iS (cv (bW op).2.2.1) ag=0
 const:oN op ag=0
theorem nu {a ins out ag}(h:Ac a ins out ag=0):aJo a ins ag:=by
 unfold Ac at h;cases e: !od a with
 |true=>rw[e]at h;exact no5 h
 |false=>
  rw[e,al]at h;cases c:a7 (.ofNat _<(bW a).1)with
  |true=>rw[c]at h;exact Cz h
  |false=>
   rw[c,al]at h;cases d:a7 (.ofNat _>(bW a).2.1)with
   |true=>rw[d]at h;exact Cz h
   |false=>
    rw[d,al]at h;cases f:out==[]with
    |true=>rw[f]at h;exact no5 h
    |false=>
     rw[f,al]at h;cases g:ins.any _ with
     |true=>rw[g]at h;exact no5 h
     |false=>
      rw[g,al]at h;cases b:iS _ ag !=0 with
      |true=>rw[b,ai]at h;rw[h]at b;exact absurd b<|by decide
      |false=>
       rw[b,al]at h;let e2:=uQ c;let e3:=uQ d;simp only[aK]at e2 e3;refine⟨by omega,by omega,kK b,?_⟩;cases i:kZ ag with|true=>rw[i]at h;exact h|false=>rw[i,al]at h;cases j:fY ag with|true=>rw[j]at h;exact Cz h|false=>rw[j]at h;exact h
def CA (o:Option<|Int×Int×ao×Unit)  :=1<=(o.getD (1,1,[],())).1
theorem VF {c a b}(d:CA a)(e:CA b):CA (bif c then a else b):=by cases c with|true=>exact d|false=>exact e
theorem uo {a}(h:(a==cH)=a8):1<=(bW a).1:=by
 show CA _;unfold oc;unfold cH at h;rw[h,al];repeat' apply VF
 all_goals (unfold CA;decide)
theorem VG {d c}(h:(d==cH)=bc)(f:iS (cv (bW d).2.2.1) c=0):∃a,te gJ c=ar a:=by
 obtain rfl:=eq_of_beq h;let ⟨a,g,i,_⟩:=Ff f (w:=[118,97,108,117,101,32,116,42]) (by decide +kernel)<|by decide +kernel
 cases e:te gJ c with|some b=>exact⟨b,rfl⟩|none=>exfalso;rw[YT]at e;refine e a g ?_;unfold gJ;rw[i];decide +kernel
theorem iU {d:Type}{c}{a b:Option d}(e:c=bc->a.isSome=bc)(f:c=a8->b.isSome=bc):(bif c then a else b).isSome=bc:=by cases c with|true=>exact e rfl|false=>exact f rfl
def adz :ao:=nO
def LP :ao:=qE
theorem adA {b:ao}{d:bu}{c:cm}(i:c.length<=9223372036854775807)(j:d.length<=9223372036854775807)
  (e:(b==cH)=bc->∃a,te gJ d=ar a) (f:(b==cH)=a8->∃v,idx c 0=ar v)
  (k:(b==adz)=bc->∃v w,idx c 1=ar v/\idx c 2=ar w) (l:(b==LP)=bc->∃v,idx c 1=ar v):s9 b d c=bc:=by
 unfold s9 Hs
 rw[ug];simp only[dW,dF,qf,ki,qg,qh,qi]
 simp only[alX,ade,adf,alY,avm,avn]
 rw[aF i,aF j]
 unfold cH at e f
 cases g:b==oK with
 |true=>obtain⟨a,m⟩:=e g;rw[ai,ai,m]<;>rfl
 |false=>
  obtain⟨v,n⟩:=f g;rw[al,n,aw];simp only[ai];repeat' (first|(refine iU (λh=>?_) (λ_=>?_))|rfl)
  all_goals first
   | (obtain⟨u,w,e1,e2⟩:=k ‹(b==nO)=bc›
      rw[e1,e2];simp only[aw];repeat' (first|(refine iU (λh=>?_) (λ_=>?_))|rfl))
   | (obtain⟨u,e1⟩:=l ‹(b==qE)=bc›
      rw[e1];simp only[aw];repeat' (first|(refine iU (λh=>?_) (λ_=>?_))|rfl))
def HE (b:af)(a:cm)(i:Int):LSt:=⟨az 8 [(3,.d (.slice aa) b),(132,.d (.slice _) a),(133,I<| .ofNat a.length),(134,I i)],[],0⟩
theorem aFv b a i n {R} (k:AEx->LSt->Option R):lp lR hZ HC (n+1) (HE b a i) k=bif i<.ofNat a.length then (idx a i).bind λv1=>(if (0:Int)<=1/\(1:Int)<=2/\2<=bd b.length then ar (fb 1<|gy 2 b)else a6).bind λc=>bif bk v1.2.2.1<=9223372036854775807 then bif !v1.2.2.1==c then k (.panic 131 4) ⟨az 8 [(3,.d (aa).slice b),(5,.op 0 [] 0),(132,.d Y3.slice a),(133,I<| .ofNat a.length),(134,I i),(135,B bc),(136,.ip Y3 v1),(137,.d Y3 v1),(138,.op 0 [2] 2),(139,.d (aa).slice v1.2.2.1),(140,.d (aa).slice b),(141,.d (aa).slice c),(142,B<|v1.2.2.1==c)],[(0,.box<| .d Y3 v1),(0,.box<|(eb .str []).pr<|(I 0).pr<|b5.pr<| .d .unit bn)],1⟩else lp lR hZ HC n (HE b a<|i64.wrap<|i+1) k else a6 else k (.exit 1) ⟨az 8 [(3,.d (aa).slice b),(132,.d Y3.slice a),(133,I<| .ofNat a.length),(134,I i),(135,B a8)],[],0⟩:=by kernel_rfl
noncomputable def KBn  :=aI 1<|aL lR hZ [56] (hlp lR hZ) aFl<|aI 0<|aL lR hZ [56] (hlp lR hZ) (cR<|cR<|cR<|cR Sc)<|aV prog 0 f105.results.toList ah
theorem sM c a b:rO (bif c then a else b)=bif c then rO a else rO b:=by cases c<;>rfl
theorem CB {a:Type}(x:Option a) f:rO (x.bind f)=x.bind λv=>rO (f v):=by cases x<;>rfl
theorem CC :rO a6=a6:=rfl
theorem Ai (l:af):rO (ar (.ret [.d (.slice aa) l],[]))=ar (0,l):=rfl
theorem HF (l:af):rO (ar (.ret [.os 0 0],[(0,.arr 3 aa 0 a8 l)]))=ar (0,l):=rfl
theorem vQ (c:Int):rO (ar (.panic 131 c,[]))=bif !(c==0)then ar (c,[])else a6:=by cases h:c==0 with|true=>have:=eq_of_beq h;subst this;rfl|false=>unfold rO;have e:fv (.slice aa) (ar (.panic 131 c,[]))=ar (.panic 131 c,[]):=rfl;rw[e];show (bif dK _ _&& !(c==0)then _ else _)=_;rw[h]<;>rfl
theorem Aj c l:(bif c==0 then ar ((0,l):Int×af)else bif ! c==0 then ar (c,[])else a6).isSome=bc:=by cases c==0<;>rfl
theorem awf {k r}(h:uf k r=bc)(c:0<=r)(d:r<=6):0<=kD k r/\kD k r<r:=by
 unfold uf at h;rw[aX]at h;let b:=bt h.1;let e:=bt h.2;rw[aH (by omega)<|by omega]at b;unfold kD;by_cases a:k<0
 ·rw[aF a,ai,aH (by omega)<|by omega];omega
 ·rw[cq a,al];omega
theorem amK {n}{a:cm}{b}(f:aE n.2.2.2.2.1=bc)(m:b.length<=6)(o:1<=a.length)(p:a.length<=2147483648)(g:(cS n.2.2.2.2.1).length<=2147483640)(h:(aj n.2.2.2.2.1 [115,104,97,112,101] []).length<=2147483648)
  (i:(n.1==LP)=bc->∃v,idx a 1=ar v/\bk v.2.2.1<=6):mvG n a b=bc:=by
 let ⟨j,k,c,d,e,u⟩:=n
 let f:aE e=bc:=f
 let g  :=g
 let h  :=h
 let i  :=i
 let l:=bz f
 unfold mvG mvR
 rw[show iN (j,k,c,d,e,u) a=iN (j,k,c,d,e,()) a from rfl,adw]
 simp only[sM,CB,CC,Ai,HF,vQ]
 rw[f,aF<|show b.length<=2147483648 by omega,aF m,aF<|show 1<=a.length/\a.length<=2147483648 from⟨o,p⟩,aF g,aF<|show e.length<=9223372036854775807 by omega,aF<|⟨by omega,h⟩]
 simp only[ai]
 repeat' (first|rfl|exact Aj _ _|(refine iU (λt=>?_)<|λ_=>?_))
 all_goals skip
 let ⟨v,e1,e2⟩:=i ‹(j==qE)=bc›
 let q:= ‹uf (aS e jG 0) (bd b.length)=bc›
 let ⟨r,w⟩:=awf q (u4 _)<|by simp only[aK];omega
 let s:bd b.length<=6:=by simp only[aK];omega
 rw[if_pos ⟨DC _,r,by omega⟩,aw,e1,aw,aH (by omega)<|by omega,if_pos ⟨by omega,by omega,DC _⟩,aw]
 rw[aF]
 ·rfl
 ·simp only[km,fl];omega
def bnK (a:af)(b:cm)  :=b.all λv=>v.2.2.1==fb 1 (gy 2 a)
def bnN (a:af)(_:Unit)(v:(Y3).den):Nx Unit (aq×LHp):=bif !v.2.2.1==fb 1 (gy 2 a)then .stop (ar (.panic 131 4,[]))else .go ()
def bnE (a:af)(b:Bool):Option (aq×LHp):=bif b then ar (.ret [.d (.slice aa) a],[])else ar (.panic 131 4,[])
theorem Sd a:∀b:cm,bG (bnN a) (λ_=>bnE a bc) b ()=bnE a (bnK a b)
 |[]=>rfl
 |v::b=>by
  rw[bG];let e:bnN a () v=bif !v.2.2.1==fb 1 _ then .stop _ else .go ():=rfl
  let e2:bnK a (v::b)=(v.2.2.1==fb 1 _&&bnK a b):=rfl;rw[e,e2];cases v.2.2.1==fb 1 _ with|true=>exact Sd a b|false=>rfl
theorem aqe {a b}(n:2<=a.length)(o:b.length<=2147483648)(f:uj b=bc):lp lR hZ HC fu (HE a b 0) KBn=bnE a (bnK a b):=by
 let p:maxLen=9223372036854775807:=by decide
 refine(cg (T:=λm s=>lp lR hZ HC m s KBn) (st:=λi _=>HE a b i) (λ_ _=>True) (by omega) ?_ ?_ trivial).trans (Sd a b)
 ·intro i _ v m _ q g j k c
  let e:bnN a () v=bif !v.2.2.1==fb 1 _ then .stop _ else .go ():=rfl
  let l  :=bt (gv.1 f v (ik g));let h:=aFv a b i m KBn;rw[c,ai,j,aw,if_pos ⟨by decide,by decide,by simp only[aK];omega⟩,aw,aF (by omega:bk v.2.2.1<=9223372036854775807),ai,k]at h;cases d: !v.2.2.1==fb 1 _ with|true=>rw[d,ai]at h e;exact .inr ⟨_,e,h.trans (by kernel_rfl)⟩|false=>rw[d,al]at h e;exact .inl ⟨(),e,trivial,h⟩
 ·intro _ m _ c;rw[aFv,c,al];kernel_rfl
theorem aFw a b:hlp lR hZ HC _ (HE a b 0) KBn=lp lR hZ HC fu (HE a b 0) KBn:=rfl
theorem awg a b:(rO (bnE a b)).isSome=bc:=by cases b<;>rfl
theorem amN {a b}(h:(dY a b==0)=bc):(ir a b).length<=6:=by
 let h:=eq_of_beq h;unfold dY at h;unfold ir;cases c:aC a !=0 with
 |true=>rw[c,ai]at h;rw[h]at c;exact absurd c (by decide)
 |false=>
  rw[c,al]at h;cases d:aC b !=0 with
  |true=>rw[d,ai]at h;rw[h]at d;exact absurd d (by decide)
  |false=>
   rw[d,al]at h;cases f:E2 a b with|true=>exact k7 _|false=>rw[f,al]at h;cases e:bcN a b with|true=>rw[e,ai]at h;exact Cz h|false=>rw[e,al]at h;exact(eL h).2.1
theorem awh {e f l}(h:cA 2 e f l=bc):∃a b,l=[a,b]/\e<=a/\a<=f/\e<=b/\b<=f:=by
 let c:=fi h;let d:=lE h
 match l,c,d with|[a,b],_,d=>let g:=d a (by simp);let i:=d b (by simp);exact⟨a,b,rfl,g.1,g.2,i.1,i.2⟩|[],c,_=>simp only[eO,aK]at c;omega|[_],c,_=>simp only[bs,eO,aK]at c;omega|_::_::_::l,c,_=>simp only[bs,aK]at c;omega
theorem aJp {g i l}(h:cA 4 g i l=bc):∃a b c d,l=[a,b,c,d]/\g<=a/\a<=i/\g<=b/\b<=i/\g<=c/\c<=i/\g<=d/\d<=i:=by
 let e:=fi h;let f:=lE h
 match l,e,f with|[a,b,c,d],_,f=>let j:=f a (by simp);let k:=f b (by simp);let m:=f c (by simp);let n:=f d (by simp);exact⟨a,b,c,d,rfl,j.1,j.2,k.1,k.2,m.1,m.2,n.1,n.2⟩|[],e,_=>simp only[eO,aK]at e;omega|[_],e,_=>simp only[bs,eO,aK]at e;omega|[_,_],e,_=>simp only[bs,eO,aK]at e;omega|[_,_,_],e,_=>simp only[bs,eO,aK]at e;omega|_::_::_::_::_::l,e,_=>simp only[bs,aK]at e;omega
theorem cN {c}(h:aE c=bc) b {d} (e:d.length<=2147483648):(aj c b d).length<=2147483648:=by unfold aj;cases f:c.find? _ with|none=>exact e|some a=>exact(jI h (kq f)).2.2
theorem lh {k}(l:aE k=bc) h w n o:(pG k h w n o).isSome=bc:=by
 let m:=bz l;let p:=cN l [115,116,114,105,100,101,115] (d:=[1,1]) (by decide);let q:=cN l [112,97,100,115] (d:=[0,0,0,0]) (by decide);let r:=cN l [100,105,108,97,116,105,111,110,115] (d:=[1,1]) (by decide);unfold pG
 rw[aF (⟨by omega,p⟩),
  aF (⟨by omega,q⟩),
  aF (⟨by omega,r⟩)]
 simp only[ai];generalize aj k du _=S;generalize aj k cE _=P;generalize aj k dw _=D;refine iU (λs=>iU (λhp=>iU (λt=>?_) λ_=>rfl) λ_=>rfl) λ_=>rfl
 obtain⟨f,g,rfl,L,_,M,_⟩:=awh s;obtain⟨a,b,c,e,rfl,_⟩:=aJp hp;obtain⟨i,j,rfl,_⟩:=awh t;let u:∀v:Int,(if f=0 then a6 else ar v)=ar v:=λv=>if_neg (by omega:¬f=0)
 let x:∀v:Int,(if g=0 then a6 else ar v)=ar v:=λv=>if_neg (by omega:¬g=0)
 let y:idx [a,b,c,e] 0=ar a:=rfl;let z:idx [a,b,c,e] 1=ar b:=rfl;let A:idx [a,b,c,e] 2=ar c:=rfl;let B:idx [a,b,c,e] 3=ar e:=rfl;let C:[a,b,c,e][0]?=ar a:=rfl;let E:[a,b,c,e][1]?=ar b:=rfl;let F:[a,b,c,e][2]?=ar c:=rfl;let G:[a,b,c,e][3]?=ar e:=rfl;let H:idx [i,j] 0=ar i:=rfl;let I:idx [i,j] 1=ar j:=rfl;let J:[i,j][0]?=ar i:=rfl;let K:[i,j][1]?=ar j:=rfl;let e0:idx [f,g] 0=ar f:=rfl;let e1:idx [f,g] 1=ar g:=rfl;let e2:[f,g][0]?=ar f:=rfl;let e3:[f,g][1]?=ar g:=rfl;rw[y,z,A,B,C,E,F,G,H,I,J,K,e0,e1,e2,e3];simp only[aw,u,x];exact iU (λ_=>rfl) λ_=>iU (λ_=>rfl) λ_=>rfl
theorem jM {a}{l:List a}{i}(h:i<l.length):∃v,idx l i=ar v/\v∈l:=by refine⟨l[i],?_,rm h⟩;unfold idx;rw[if_pos (by omega),b9,dv]
def okS :Option (af⊕Int)->Bool
 |some (.inl _)=>bc
 |some (.inr e)=>! e==0
 |none=>a8
theorem ko {c a b}(d:c=bc->okS a=bc)(e:c=a8->okS b=bc):okS (bif c then a else b)=bc:=by cases c with|true=>exact d rfl|false=>exact e rfl
theorem awi {a:bu}{b:cm}{xs:af}(g:aE a=bc)(n:∀v∈b,bk v.2.2.1<=6)(B:2<=b.length):okS (oR a b xs)=bc:=by
 have j:=bz g;unfold oR;obtain⟨w,e1,_⟩:=jM (l:=b) (i:=1) (by omega);rw[show idx b 1=ar w from e1,aw,aF (show a.length<=9223372036854775807 by omega),ai];refine ko (λc=>ko (λd=>ko (λk=>ko (λ_=>rfl) λC=>?_) λ_=>rfl) λ_=>rfl) λ_=>rfl
 have c:=eq_of_beq c;have d:=eq_of_beq d;have k:=bt k;simp only[aK]at c d;obtain⟨o,f1,_⟩:=jM (l:=xs) (i:=1) (by omega);obtain⟨p,f0,_⟩:=jM (l:=xs) (i:=0) (by omega);obtain⟨q,r,_⟩:=jM (l:=w.2.2.1) (i:=0) (by omega);obtain⟨s,g1,_⟩:=jM (l:=w.2.2.1) (i:=1) (by omega);rw[show idx xs 1=ar o from f1,show idx xs 0=ar p from f0,show idx w.2.2.1 0=ar q from r,show idx w.2.2.1 1=ar s from g1];simp only[aw,if_neg (show¬aS a iM 1=0 by omega)];have t:(if (0:Int)<=2/\2<=bd (bk w.2.2.1)/\bd (bk w.2.2.1)<=bd (bk w.2.2.1)then ar (fb 2 (gy (bd (bk w.2.2.1)).toNat w.2.2.1))else a6)=ar (fb 2 w.2.2.1):=by rw[if_pos ⟨by decide,by simp only[aK];omega,DC _⟩,show (bd (bk w.2.2.1)).toNat=bk w.2.2.1 from rfl,yf]
 have e:(if (0:Int)<=0/\(0:Int)<=1/\1<=bd (bk w.2.2.1)then ar (fb 0 (gy 1 w.2.2.1))else a6)=ar (fb 0 (gy 1 w.2.2.1)):=if_pos ⟨by decide,by decide,by simp only[aK];omega⟩;have x:xs.length=4/\(fb 2 w.2.2.1).length=2:=⟨by omega,by rw[km];omega⟩;have y:nq a xs (fb 2 w.2.2.1)=bc:=lh g _ _ _ _;have m:(dp a xs (fb 2 w.2.2.1)==0)=a8->okS (ar (.inr (dp a xs (fb 2 w.2.2.1))))=bc:=λh=>by show (!(dp a xs (fb 2 w.2.2.1)==0))=bc;rw[h]<;>rfl
 refine ko (λ_=>ko (λ_=>ko (λ_=>rfl) λ_=>?_) λ_=>rfl) λ_=>rfl
 rw[t,e];simp only[aw];rw[aF x,y];simp only[ai];refine ko (λ_=>ko (λ_=>rfl) m) λf=>?_
 have f:=uQ f;simp only[aK]at f;obtain⟨u,e2,z⟩:=jM (l:=b) (i:=2) (by omega);have A:=n u z;rw[show idx b 2=ar u from e2,aw,aF (show bk u.2.2.1<=9223372036854775807 by omega),ai];exact ko (λ_=>rfl) λ_=>ko (λ_=>rfl) m
theorem LQ {b a xs}(d:aE b=bc)(f:∀v∈a,bk v.2.2.1<=6)(g:2<=a.length):vI b a xs=bc/\(lQ b a xs=a8->(vJ b a xs==0)=a8):=by
 let h:=awi (xs:=xs) d f g;unfold vI lQ vJ;cases c:oR b a xs with
 |none=>rw[c]at h;cases h
 |some r=>
  rw[c]at h;cases r with|inl l=>exact⟨rfl,λh=>by cases h⟩|inr e=>refine⟨rfl,λ_=>?_⟩;let h:(! e==0)=bc:=h;show (e==0)=a8;cases i:e==0 with|false=>rfl|true=>rw[i]at h;cases h
theorem amO {n:dQ}{b:cm}(k:aE n.2.2.2.2.1=bc)(q:∀v∈b,bk v.2.2.1<=6)(O:b.length<=2147483648)(y:(cS n.2.2.2.2.1).length<=2147483640)(A:(aj n.2.2.2.2.1 [115,104,97,112,101] []).length<=2147483648)
  (B:(n.1==cH)=bc->∃a,te gJ n.2.2.2.2.1=ar a) (C:(bW n.1).1<=(b.length:Int)):VE n b=bc:=by
 obtain⟨d,D,m,o,c,u⟩:=n
 have k:aE c=bc:=k
 have y:(cS c).length<=2147483640:=y
 have A:(aj c zo []).length<=2147483648:=A
 have B:(d==oK)=bc->∃a,te gJ c=ar a:=B
 have C:(bW d).1<=(b.length:Int):=C
 have L:=bz k
 have r:uj b=bc:=gv.2 λv s=>aF (by have:=q v s;omega)
 have p:∀{f:ao},(d==f)=bc->2<=(bW f).1->2<=b.length:=λj t=>by rw[←eq_of_beq j]at t;omega
 have one:∀{f:ao},(d==f)=bc->2<=(bW f).1->∃v,idx b 1=ar v/\bk v.2.2.1<=6:=λj t=>by obtain⟨v,e,s⟩:=jM (l:=b) (i:=1) (p j t);exact⟨v,e,q v s⟩
 unfold VE VD
 rw[show iN (d,D,m,o,c,u) b=iN (d,D,m,o,c,()) b from rfl,oS];simp only[fZ,oq,lF,fH]
 cases M:d==oK with
 |true=>obtain⟨a,P⟩:=B M;rw[ai,P,aF (show c.length<=9223372036854775807 by omega)]<;>rfl
 |false=>
  have Q:1<=b.length:=by have:=uo M;omega
  obtain⟨v,s,E⟩:=jM (l:=b) (i:=0) (by omega);have F:=q v E;rw[al,show idx b 0=ar v from s,aw];simp only[sM,CB,CC,Ai,HF,vQ];rw[k,r,aF (show bk v.2.2.1<=2147483648 by omega),aF (show c.length<=9223372036854775807 by omega)];have G:mvG (d,D,m,o,c,bn) b v.2.2.1=bc:=amK k F Q O y A λj=>one j (by decide +kernel)
  have H:nq c v.2.2.1 (aj c gX [])=bc:=lh k _ _ _ _;rw[G,H];simp only[ai];have x:(d==jT)=bc->vI c b v.2.2.1=bc/\(lQ c b v.2.2.1=a8->(vJ c b v.2.2.1==0)=a8):=λj=>LQ k q (p j (by decide +kernel))
  have N:∀w:(Y3).den,bk w.2.2.1<=6->a7 (bk v.2.2.1<=2147483648/\bk w.2.2.1<=2147483648)=bc:=λw U=>aF ⟨by omega,by omega⟩
  repeat' (first|rfl|exact Aj _ _|(refine iU (λj=>?_) (λ_=>?_)))
  all_goals first
   | (obtain⟨w,e1,e2⟩:=one ‹(d==nO)=bc› (by decide +kernel)
      obtain⟨z,f1,f2⟩:=jM (l:=b) (i:=2) (by
        have j:= ‹(d==nO)=bc›;rw[eq_of_beq j]at C;have V:(bW nO).1=3:=by decide +kernel
        omega)
      rw[e1,aw,N w e2,ai];rw[show idx b 2=ar z from f1];refine iU (λI=>?_) λI=>?_
      ·have:=amN I;have:=q z f2;rw[aw,aF ⟨by omega,by omega⟩,ai];exact Aj _ _
      ·rw[aw,I];rfl)
   | (obtain⟨w,e1,e2⟩:=one ‹_› (by decide +kernel)
      rw[e1,aw,N w e2,ai];exact Aj _ _)
   |exact absurd (p ‹(d==BN)=bc› (by decide +kernel)) (uQ ‹a7 (2<=b.length)=a8›)
   | (have h:=(x ‹(d==jT)=bc›).1
      rw[‹vI c b v.2.2.1=a8›]at h;cases h)
   | (have h:=(x ‹(d==jT)=bc›).2 ‹lQ c b v.2.2.1=a8›
      have g:= ‹(!(vJ c b v.2.2.1==0))=a8›;rw[h]at g;cases g)
   | (have h:= ‹(dp c v.2.2.1 (aj c gX [])==0)=a8›
      have g:= ‹(!(dp c v.2.2.1 (aj c gX [])==0))=a8›;rw[h]at g;cases g)
   | (have h:= ‹(!Int.ofNat (bk v.2.2.1)==4)=a8›
      have J:bd (bk v.2.2.1)=4:=by simpa using h
      simp only[aK]at J;obtain⟨R,f0,_⟩:=jM (l:=v.2.2.1) (i:=0) (by omega);obtain⟨S,f1,_⟩:=jM (l:=v.2.2.1) (i:=1) (by omega);rw[show idx v.2.2.1 0=ar R from f0,aw,show idx v.2.2.1 1=ar S from f1];rfl)
   | (have h:= ‹(!decide (bd (bk v.2.2.1)>=2))=a8›
      have J:2<=bk v.2.2.1:=by
        have K:a7 (bd (bk v.2.2.1)>=2)=bc:=by simpa using h
        have K:=bt K;simp only[aK]at K;omega
      rw[if_pos ⟨by decide,by simp only[aK];omega,DC _⟩,aw,show (bd b.length).toNat=b.length from rfl,yf];have t:rO (lp lR hZ HC fu (HE v.2.2.1 (fb 1 b) 0) KBn)=rO (bnE v.2.2.1 (bnK v.2.2.1 (fb 1 b))):=congrArg rO (aqe J (by rw[km];omega) (gv.2 λz T=>gv.1 r z (List.mem_of_mem_drop T)));refine gp (congrArg Option.isSome (gp (congrArg rO (aFw v.2.2.1 (fb 1 b))) t)) (awg _ _))
structure jj (n:dQ):Prop where
 ins:n.2.2.1.length<=1048576
 shA:aE n.2.2.2.2.1=bc
 shT:nf n.2.2.2.2.1=bc
 ints:∀a∈n.2.2.2.2.1,bk a.2.2.2.2.2.2.1<=1048576
theorem OY {b}(h:∀a∈b,bk a.2.2.2.2.2.2.1<=1048576) name:(aj b name []).length<=1048576:=by unfold aj;cases c:b.find? _ with|none=>exact k7 _|some a=>exact h a (kq c)
theorem vS :∀{b},yM b=0->∀v∈b,aQ v.2.1 0=bc/\aC v.2.2.1=0
 |[],_,v,h=>by cases h
 |w::b,h,v,c=>by
  rw[yM]at h;cases d:aQ w.2.1 0 with
  |false=>rw[d]at h;exact no5 h
  |true=>
   rw[d,cy,al]at h;cases a:aC w.2.2.1 !=0 with
   |true=>rw[a,ai]at h;rw[h]at a;exact absurd a (by decide)
   |false=>
    rw[a,al]at h;rcases kt.1 c with rfl|c
    ·exact⟨d,kK a⟩
    ·exact vS h v c
theorem Se {n vs}(m:jj n):IU n vs=bc:=by
 let ⟨c,x,a,d,b,u⟩:=n;let o:aE b=bc:=m.shA;let y  :=m.shT;let I:a.length<=1048576:=m.ins;let p:=λg=>OY m.ints g
 let q:=bz o;unfold IU;show (decide _&&(aE b&&nf b)&&(Ac c a d b !=0||(! .ofNat _==bd _||(yM vs !=0||s9 c b vs&&(!(hU c b vs==0)||VE _ vs)))))=bc;rw[aF (by omega:a.length<=2147483648),o,y];cases z:Ac c a d b !=0 with
 |true=>rfl
 |false=>
  let r:=nu (kK z);cases A:.ofNat _==bd _ with
  |false=>rfl
  |true=>
   let e2:=eq_of_beq A;simp only[aK]at e2;cases B:yM vs !=0 with
   |true=>rfl
   |false=>
    let C:=vS (kK B);let s  :=λh=>VG h r.attr
    let D:(bW c).1<=vs.length:=by let:=r.least;omega
    let t:∀{j:ao} (k:Nat),(c==j)=bc->k<=(bW j).1->k<=vs.length:=λk E F=>by rw[←eq_of_beq E]at F;omega
    let G:s9 c b vs=bc:=adA (by omega) (by omega) s
     λh=>by let:=uo h;let ⟨v,e,_⟩:=jM (l:=vs) (i:=0) (by omega);exact⟨v,e⟩
     λh=>by let:=t 3 h (by decide +kernel);let ⟨v,e,_⟩:=jM (l:=vs) (i:=1) (by omega);let ⟨w,f,_⟩:=jM (l:=vs) (i:=2) (by omega);exact⟨v,w,e,f⟩
     λh=>by let:=t 2 h (by decide +kernel);let ⟨v,e,_⟩:=jM (l:=vs) (i:=1) (by omega);exact⟨v,e⟩
    let H:VE (c,x,a,d,b,u) vs=bc:=amO o (λv h=>(eL (C v h).2).2.1) (by omega) (zv (p bD) (by decide)) (by let:=p [115,104,97,112,101];exact zv this (by decide)) s D;rw[G,H];simp
structure aqf (n:dQ)(vs:cm):Prop where
 ck:Ac n.1 n.2.2.1 n.2.2.2.1 n.2.2.2.2.1=0
 len:vs.length=n.2.2.1.length
 vals:∀v∈vs,aQ v.2.1 0=bc/\aC v.2.2.1=0
 typ:hU n.1 n.2.2.2.2.1 vs=0
 dm:Ah n vs=0
 cnt:aC (kz n vs)=0
 thn:iT n.2.2.2.2.1 (hO n.1 n.2.2.2.2.1 vs)=bc
theorem awj {n a}(h:pe n a=0):aqf n a:=by
 unfold pe at h;cases b:Ac n.1 n.2.2.1 n.2.2.2.1 n.2.2.2.2.1 !=0 with
 |true=>rw[b,ai]at h;rw[h]at b;exact absurd b (by decide)
 |false=>
  rw[b,al]at h;cases g:.ofNat _==bd n.2.2.1.length with
  |false=>rw[g]at h;exact Cz h
  |true=>
   rw[g,cy,al]at h;let e2:=eq_of_beq g;simp only[aK]at e2;cases c:yM a !=0 with
   |true=>rw[c,ai]at h;rw[h]at c;exact absurd c (by decide)
   |false=>
    rw[c,al]at h;cases d:hU n.1 n.2.2.2.2.1 a==0 with
    |false=>rw[d,al]at h;rw[h]at d;exact absurd d (by decide)
    |true=>
     rw[d,ai]at h;cases e:Ah n a==0 with
     |false=>rw[e,al]at h;rw[h]at e;exact absurd e (by decide)
     |true=>
      rw[e,ai]at h;cases f:aC _ !=0 with|true=>rw[f,ai]at h;rw[h]at f;exact absurd f (by decide)|false=>rw[f,al]at h;cases i:iT n.2.2.2.2.1 _ with|false=>rw[i]at h;exact Cz h|true=>exact⟨kK b,by omega,vS (kK c),eq_of_beq d,eq_of_beq e,kK f,i⟩
theorem adB {n:dQ}{a:cm}(h:pe n a=0):DG n a=(n.2.2.2.1,hO n.1 n.2.2.2.2.1 a,kz n a,()):=by unfold DG;rw[h]<;>rfl
theorem rP {a:Type}{p:a->Bool}{xs:List a}{b:Type}{f:Nat->a->b}{y}{R:Option b}{g:Bool->b}(h:R=match xs.findIdx? p with|some i=>(xs[i]?).bind λx=>ar (f i x)|none=>ar y)(d:∀i x,f i x=g bc)(e:y=g a8):R=ar (g<|xs.any p):=by cases c:xs.findIdx? p with|none=>grind|some i=>let ⟨j,hp,_⟩:=fk.1 c;grind
theorem nv {b a}(h:a.length<=2147483648):app ([]:List b) a=ar a:=by grind [eX,lim,eO]
theorem eM {xs:af}{i}(h:i<xs.length):idx xs i=ar (xs.getD i 0):=by grind [idx]
theorem vT {a xs i}{y:a}(h:i<xs.length):fR xs i y=ar (xs.set i y):=by grind [fR,Nat.blt,Nat.ble_eq_true_of_le]
theorem ny {xs:af}{x}(a:0<=x)(b:x<(xs.length:Int)):idx xs x=ar (xs.getD x.toNat 0):=by grind [idx]
def aqg  :=aU f167
def VH  :=cL (cL (cR (cL (cR aqg))))
def oT :Cfg:=⟨18,5,0,[(2,[0,1,5])],bc⟩
def VI s l  :=bT [.bool] (aB MY f167 5 [(2,[0,1,5])] [.d .str s,.d (.slice .str) l] [] ah)
def OZ s l  :=(VI s l).isSome
def O0 s l  :=(VI s l).getD (dS _)
def amP  :=cC [.str,.slice .str] _ λs l=>(OZ s l,O0 s l)
theorem HG :bq 167 amP:=bh Q4 (by simp only[dg];exact λs l h=>aZ h)
theorem O1 {a} s l (h:VI s l=ar a):OZ s l=bc/\O0 s l=a:=bU h
def VJ (s:ao)(l:List ao)(i:Int):LSt:=⟨az 5 [(0,.d .str s),(1,.d (.slice .str) l),(5,I i)],[],0⟩
def KAm  :=aI 0 (aL MY oT [2] (hlp MY oT) (cR (cR aqg)) (aV prog 0 f167.results.toList ah))
theorem awk (s:ao)(l:List ao):aB MY f167 5 [(2,[0,1,5])] [.d .str s,.d (.slice .str) l] [] ah=(hlp MY oT) VH _ (VJ s l 0) KAm:=(aW [2] oT rfl).trans (by obtain⟨a,h⟩:=aM MY oT;rw[h];kernel_rfl)
theorem aFy s l i n:lp MY oT VH (n+1) (VJ s l i) KAm=bif a7 (i<.ofNat l.length)then (idx l i).bind λa=>bif a==s then ak [B bc]else lp MY oT VH n (VJ s l (i64.wrap (i+1))) KAm else ak [B a8]:=by kernel_rfl
theorem aFz s l:hlp MY oT VH _ (VJ s l 0) KAm=lp MY oT VH fu (VJ s l 0) KAm:=rfl
theorem O2 {s:ao}{l:List (ao)}(a:l.length<=maxLen):VI s l=ar (l.any λw=>w==s):=by unfold VI;have h:=fF (T:=λn s=>lp MY oT VH n s KAm) (xs:=l) (st:=λi=>VJ s l i) a (λi n=>aFy s l i n);have c:=rP (g:=λb=>(aq.ret [B b],([]:LHp))) h (λ_ _=>rfl) rfl;have d:=(awk s l).trans ((aFz s l).trans c);rw[d]<;>rfl
def amQ  :=g88.add 167 amP
theorem VK :amQ.Good:=rE.add HG
def amR  :=g88.add 167 amP
theorem VL :amR.Good:=rE.add HG
def VM s  :=bT [.bool] (aB amQ f169 3 [] [.d .str s] [] ah)
def HH s  :=(VM s).isSome
def HI s  :=(VM s).getD (dS _)
def adC  :=cC [.str] _ λs=>(HH s,HI s)
theorem Ak :bq 169 adC:=bh (bM VK func169 call169 (h2:=rfl)) (by simp only[dg];exact λs h=>aZ h)
theorem xI {a} s (h:VM s=ar a):HH s=bc/\HI s=a:=bU h
def Fg s  :=bT [.bool] (aB amR f170 3 [] [.d .str s] [] ah)
def LR s  :=(Fg s).isSome
def LS s  :=(Fg s).getD (dS _)
def Sf  :=cC [.str] _ λs=>(LR s,LS s)
theorem CD :bq 170 Sf:=bh (bM VL func170 call170 (h2:=rfl)) (by simp only[dg];exact λs h=>aZ h)
theorem Al {a} s (h:Fg s=ar a):LR s=bc/\LS s=a:=bU h
theorem awl (s:ao):aB amQ f169 3 [] [.d .str s] [] ah=bif OZ s [[73,100,101,110,116,105,116,121],[78,101,103],[65,98,115],[78,111,116],[82,101,108,117],[83,113,114,116],[70,108,111,111,114],[69,120,112],[83,105,103,109,111,105,100],[84,97,110,104]]then ak [B (O0 s [[73,100,101,110,116,105,116,121],[78,101,103],[65,98,115],[78,111,116],[82,101,108,117],[83,113,114,116],[70,108,111,111,114],[69,120,112],[83,105,103,109,111,105,100],[84,97,110,104]])]else a6:=by kernel_rfl
theorem amS (s:ao):aB amR f170 3 [] [.d .str s] [] ah=bif OZ s [[65,100,100],[83,117,98],[77,117,108],[68,105,118],[77,97,120],[77,105,110],[65,110,100],[79,114],[88,111,114],[69,113,117,97,108],[76,101,115,115],[71,114,101,97,116,101,114]]then ak [B (O0 s [[65,100,100],[83,117,98],[77,117,108],[68,105,118],[77,97,120],[77,105,110],[65,110,100],[79,114],[88,111,114],[69,113,117,97,108],[76,101,115,115],[71,114,101,97,116,101,114]])]else a6:=by kernel_rfl
theorem xJ (s:ao):VM s=ar (dV s):=by
 unfold VM;obtain⟨a,b⟩:=O1 s ones (O2 (by decide +kernel));have e:=awl s;change aB amQ f169 3 [] [.d .str s] [] ah=bif OZ s ones then ak [B (O0 s ones)]else a6 at e
 rw[e,a,b]<;>rfl
def me :List ao:=[[65,100,100],[83,117,98],[77,117,108],[68,105,118],[77,97,120],[77,105,110],[65,110,100],[79,114],[88,111,114],[69,113,117,97,108],[76,101,115,115],[71,114,101,97,116,101,114]]
def nz a  :=me.any λo=>o==a
theorem Am (s:ao):Fg s=ar (nz s):=by
 unfold Fg;obtain⟨a,b⟩:=O1 s me (O2 (by decide +kernel));have e:=amS s;change aB amR f170 3 [] [.d .str s] [] ah=bif OZ s me then ak [B (O0 s me)]else a6 at e
 rw[e,a,b]<;>rfl
def aqh  :=aU f87
def O3  :=cL (cL (cR (cL (cR aqh))))
def nA :Cfg:=⟨40,6,0,[(2,[1,2,3,6,8])],bc⟩
def VN n a k  :=bT [Y1,.bool] (aB GU f87 6 [(2,[1,2,3,6,8])] [.d Y2 n,.d .str a,.d aa k] [] ah)
def HJ n a k  :=(VN n a k).isSome
def uq n a k  :=(VN n a k).getD (dS _)
def VO  :=cC [Y2,.str,aa] _ λn a k=>(HJ n a k,uq n a k)
theorem vU :bq 87 VO:=bh aa7 (by simp only[dg];exact λn a k h=>aZ h)
theorem CE {a} n name k (h:VN n name k=ar a):HJ n name k=bc/\uq n name k=a:=bU h
def KFn  :=aI 0 (aL GU nA [2] (hlp GU nA) (cR (cR aqh)) (aV prog 0 f87.results.toList ah))
theorem awm n (a:ao) k:aB GU f87 6 [(2,[1,2,3,6,8])] [.d _ n,.d .str a,I k] [] ah=(hlp GU nA) O3 _ ⟨az 6 [(1,.d .str a),(2,I k),(3,.op 0 [] 0),(6,.op 1 [] 0),(8,I 0)],[(0,.box (.d Y2 n)),(1,.box ((eb .str []).pr ((I 0).pr ((I 0).pr ((I 0).pr ((eb .str []).pr (((I 0).pr (b5.pr (b5.pr (.d .unit bn)))).pr (b5.pr (.d .unit bn)))))))))],2⟩ KFn:=(aW [2] nA rfl).trans (by obtain⟨b,h⟩:=aM GU nA;rw[h];kernel_rfl)
def amT (y:(Y2).den)(a:ao)(k i:Int):LSt:=⟨az 6 [(1,.d .str a),(2,I k),(3,.op 0 [] 0),(6,.op 1 [] 0),(8,I i)],[(0,.box (.d _ y)),(1,.box Oa)],2⟩
theorem aFA (y)(a)(k)(i)(n):lp GU nA O3 (n+1) (amT y a k i) KFn=bif a7 (i<.ofNat (bk y.2.2.2.2.1))then (idx y.2.2.2.2.1 i).bind λb=>bif b.1==a then (idx y.2.2.2.2.1 i).bind λc=>bif c.2.1==k then (idx y.2.2.2.2.1 i).bind λe=>ak [.d Y1 e,B bc]else lp GU nA O3 n {fr:=az 6 [(1,.d .str a),(2,I k),(3,.op 0 [] 0),(6,.op 1 [] 0),(8,I (i64.wrap (i+1)))],hp:=[(0,.box (.d Y2 y)),(1,.box ((eb .str []).pr ((I 0).pr ((I 0).pr ((I 0).pr ((eb .str []).pr (((I 0).pr (b5.pr (b5.pr (.d .unit bn)))).pr (b5.pr (.d .unit bn)))))))))],nx:=2} KFn else lp GU nA O3 n {fr:=az 6 [(1,.d .str a),(2,I k),(3,.op 0 [] 0),(6,.op 1 [] 0),(8,I (i64.wrap (i+1)))],hp:=[(0,.box (.d Y2 y)),(1,.box ((eb .str []).pr ((I 0).pr ((I 0).pr ((I 0).pr ((eb fa []).pr (((I 0).pr (b5.pr (b5.pr (eb eR bn)))).pr (b5.pr (eb eR bn)))))))))],nx:=2} KFn else ak [(eb fa []).pr ((I 0).pr ((I 0).pr ((I 0).pr ((eb fa []).pr (((I 0).pr (b5.pr (b5.pr (eb eR bn)))).pr (b5.pr (eb eR bn))))))),B a8]:=by kernel_rfl
theorem aFB y a k:hlp GU nA O3 _ (amT y a k 0) KFn=lp GU nA O3 fu (amT y a k 0) KFn:=rfl
def adD :(Y1).den:=([],0,0,0,[],(0,[],[],()),[],())
theorem CF {y:(Y2).den}{b:ao}{k:Int}(e:y.2.2.2.2.1.length<=maxLen):VN y b k=ar (match y.2.2.2.2.1.find? (ie b k)with|some a=>(a,bc)|none=>(adD,a8)):=by
 unfold VN
 have h:=fF (T:=λn s=>lp GU nA O3 n s KFn) (xs:=y.2.2.2.2.1) (p:=ie b k) (st:=λi=>amT y b k i) (r:=λ_ a=>ak [.d (Y1) a,B bc]) (r0:=λ_=>ak [Oa,B a8]) e (λi n=>by
  rw[aFA];cases a7 (i<bd y.2.2.2.2.1.length)with
  |false=>rfl
  |true=>
   cases idx y.2.2.2.2.1 i with|none=>rfl|some a=>simp only[ai,aw,ie];cases a.1==b with|false=>rfl|true=>cases a.2.1==k<;>rfl)
 have f:=(awm y b k).trans ((aFB y b k).trans h);rw[f];cases c:y.2.2.2.2.1.findIdx? (ie b k)with
 |none=>rw[yd]at c;rw[YT.2 (λx g=>by simp[c x g])]<;>rfl
 |some i=>
  obtain⟨j,hp,m⟩:=fk.1 c;have l:y.2.2.2.2.1.find? (ie b k)=ar y.2.2.2.2.1[i]:=by rw[List.find?_eq_some_iff_getElem];grind
  rw[l];simp only[dv j,aw];rfl
def awo  :=MY.add 87 VO
def awp  :=B4.add 87 VO
def awq  :=MY.add 87 VO
theorem VP :awo.Good:=vx.add vU
theorem VQ :awp.Good:=jQ.add vU
theorem VR :awq.Good:=vx.add vU
def VS n a o  :=bT [aa] (aB awo f53 5 [] [.d Y2 n,.d .str a,.d aa o] [] ah)
def pJ n a o  :=(VS n a o).isSome
def cI n a o  :=(VS n a o).getD (dS _)
def D1  :=cC [Y2,.str,aa] _ λn a o=>(pJ n a o,cI n a o)
theorem mC :bq 53 D1:=bh (bM VP func53 call53 (h2:=rfl)) (by simp only[dg];exact λn a o h=>aZ h)
theorem qk {a} n name o (h:VS n name o=ar a):pJ n name o=bc/\cI n name o=a:=bU h
def VT n a o  :=bT [.slice aa] (aB awp f128 5 [] [.d Y2 n,.d .str a,.d (.slice aa) o] [] ah)
def nR n a o  :=(VT n a o).isSome
def ef n a o  :=(VT n a o).getD (dS _)
def O4  :=cC [Y2,.str,.slice aa] _ λn a o=>(nR n a o,ef n a o)
theorem sN :bq 128 O4:=bh (bM VQ func128 call128 (h2:=rfl)) (by simp only[dg];exact λn a o h=>aZ h)
theorem oU {a} n name o (h:VT n name o=ar a):nR n name o=bc/\ef n name o=a:=bU h
def VU n  :=bT [Y0] (aB awq f88 4 [] [.d Y2 n] [] ah)
def adE n  :=(VU n).isSome
def VV n  :=(VU n).getD (dS _)
def amU  :=cC [Y2] _ λn=>(adE n,VV n)
theorem HK :bq 88 amU:=bh (bM VR func88 call88 (h2:=rfl)) (by simp only[dg];exact λn h=>aZ h)
theorem O5 {a} n (h:VU n=ar a):adE n=bc/\VV n=a:=bU h
theorem awr n (a:ao) o:aB awo f53 5 [] [.d _ n,.d .str a,I o] [] ah=bif HJ n a 2 then bif (uq n a 2).2 then ak [I (uq n a 2).1.2.2.2.1]else ak [I o]else a6:=by kernel_rfl
theorem aws n (a:ao) (o:af):aB awp f128 5 [] [.d _ n,.d .str a,.d (.slice aa) o] [] ah=bif HJ n a 7 then bif (uq n a 7).2 then (app [] (uq n a 7).1.2.2.2.2.2.2.1).bind λb=>ar (.ret [.os 0 0],[(0,.arr 2 aa 0 a8 b)])else (app [] o).bind λb=>ar (.ret [.os 0 0],[(0,.arr 2 aa 0 a8 b)])else a6:=by kernel_rfl
theorem awt n:aB awq f88 4 [] [.d _ n] [] ah=bif HJ n [118,97,108,117,101] 4 then ak [.d Y0 (uq n [118,97,108,117,101] 4).1.2.2.2.2.2.1]else a6:=by kernel_rfl
theorem ql {y}{a:ao}{o:Int}(b:y.2.2.2.2.1.length<=maxLen):VS y a o=ar (aS y.2.2.2.2.1 a o):=by unfold VS;let ⟨c,d⟩:=CE y a 2 (CF b);rw[awr,c,d];unfold aS;cases y.2.2.2.2.1.find? _<;>rfl
theorem oV {y:(Y2).den}{b:ao}{o:af}(d:aE y.2.2.2.2.1=bc)(f:o.length<=2147483648):VT y b o=ar (aj y.2.2.2.2.1 b o):=by unfold VT;have i:=bz d;obtain⟨g,h⟩:=CE y b 7 (CF (by rw[show maxLen=9223372036854775807 from by decide];omega));have c:=cN d b f;rw[aws,g,h];unfold aj at c⊢;cases e:y.2.2.2.2.1.find? (ie b 7)with|none=>rw[e]at c;show bT _ ((app [] o).bind _)=_;rw[nv c]<;>rfl|some a=>rw[e]at c;show bT _ ((app [] a.2.2.2.2.2.2.1).bind _)=_;rw[nv c]<;>rfl
theorem O6 {y}(b:y.2.2.2.2.1.length<=maxLen):VU y=ar (match y.2.2.2.2.1.find? (ie di 4)with|some a=>a.2.2.2.2.2.1|none=>(0,[],[],())):=by unfold VU;let ⟨c,d⟩:=CE y di 4 (CF b);let e:=awt y;rw[show ([118,97,108,117,101]:ao)=di from rfl]at e;rw[e,c,d];cases y.2.2.2.2.1.find? _<;>rfl
end
end Go.Proofs.XRT
namespace Go.Vm
theorem CG {w b m d hp f n o}(ev:Ev w b m hp w b d f)(p:RepA w b d f (.os n 0) [.slice a6 0 0]):
  ∀{q} {c},RepFs w b m hp (q++.nils::o) c->RepFs w b d f (q++.os n 0::o) c
 |[],c,h=>by let ⟨v,g,e,i,j,k⟩:=h;exact⟨v,g,e,by rw[i];exact p,j,k.ev ev⟩
 |a::l,c,h=>by let ⟨v,g,e,i,j,k⟩:=h;exact⟨v,g,e,i.ev ev,j,CG ev p k⟩
theorem FnH.nilG {P O f j Q l1 y a T e}(v:2<=l1.length+(y.length+1))(U:dG a.length a=bc)
  (h:FnH P O f j Q λI k=>I=.ret (l1++.nils::y)/\k=aD a):
  FnH P O f j Q λI k=>I=.ret (l1++.os a.length 0::y)/\k=aD (a++[(a.length,.arr T e 0 a8 [])]):=by
 refine⟨h.1,λW V X z q r A B=>?_⟩
 refine(h.2 W V X z q r A B).mono ?_
 rintro G s ⟨qQ,k,m,w,⟨rfl,rfl⟩,S,Y⟩
 have n  :=Cl U (ep _)
 have p:∀o d,aD a o=ar d->aD (a++[(a.length,.arr T e 0 a8 [])]) o=ar d:=λo d c=>by rw[jf,c]
 have C:aD (a++[(a.length,.arr T e 0 a8 [])]) a.length=ar (.arr T e 0 a8 []):=by rw[jf,n,ye];rfl
 have J:∀o,aD (a++[(a.length,.arr T e 0 a8 [])]) o=a6->aD a o=a6/\o≠a.length:=λo c=>by rw[jf]at c;cases D:aD a o with|some x=>rw[D]at c;cases c|none=>refine⟨rfl,λh=>?_⟩;subst h;rw[D,ye]at c;cases c
 have t:∀o d,aD (a++[(a.length,.arr T e 0 a8 [])]) o=ar d->aD a o=ar d\/o=a.length/\d=.arr T e 0 a8 []:=λo d c=>by
  rw[jf]at c;cases D:aD a o with|some x=>rw[D]at c;exact .inl c|none=>rw[D]at c;cases u:dK a.length o with|false=>rw[u]at c;cases c|true=>rw[u]at c;cases c;exact .inr ⟨(cb u).symm,rfl⟩
 have K:∀o d,aD a o=ar d->o≠a.length:=λo d c h=>by subst h;rw[n]at c;cases c
 obtain⟨g,E,L⟩:∃g:Mu,(∀o,o≠a.length->g o=w o)/\g a.length=Pl.nil a6:=⟨λo=>if o=a.length then Pl.nil a6 else w o,λo h=>if_neg h,if_pos rfl⟩
 have H:∀o b,(g o).blk=ar b->o≠a.length/\(w o).blk=ar b:=λo b h=>by
  by_cases c:o=a.length
  ·rw[c,L]at h;cases h
  ·exact⟨c,by rwa[E o c]at h⟩
 have ev:Ev s m w (aD a) s m g (aD (a++[(a.length,.arr T e 0 a8 [])])):=
  ⟨λ_ h=>h,λ_ _=>rfl,λo d c=>⟨d,p o d c,by rw[E o (K o d c)];exact fo.refl _ _⟩⟩
 have Z:RepA s m g (aD (a++[(a.length,.arr T e 0 a8 [])])) (.os a.length 0) [.slice a6 0 0]:=by simp only[RepA];refine⟨T,e,0,a8,[],C,ep _,.slice a6 0 0,rfl,rfl,λ_=>?_⟩;rw[L];rfl
 refine⟨_,_,m,g,⟨rfl,rfl⟩,⟨S.os,S.tape,S.output,S.grow,S.old,S.imSub,S.imNew,S.imLt,λo b u=>S.own o b (H o b u).2,λo d c=>?_,⟨λo b u=>S.inv.sep o b (H o b u).2,λo R b g1 g2=>S.inv.inj o R b (H o b g1).2 (H R b g2).2,λo c=>?_,λo d c=>?_⟩⟩,?_⟩
 ·obtain⟨M,g1,g2⟩:=S.fob o d c;exact⟨M,p o M g1,by rw[E o (K o M g1)];exact g2⟩
 ·obtain⟨g1,g2⟩:=J o c;rw[E o g2];exact S.inv.dom o g1
 ·rcases t o d c with g1|⟨rfl,rfl⟩
  ·rw[E o (K o d g1)];exact(S.inv.obj o d g1).ev ev λ_ _=>rfl
  ·exact .inl ⟨a6,L,rfl⟩
 ·have key:∀(l:List AV),2<=l.length->gP s m w (aD a) (.ret l) G->∃i:List Value,G=.returned (.tuple i.toArray)/\RepFs s m w (aD a) l i:=λl N h=>by
   match l,N,h with|_::_::_,_,h=>exact h
  have F:∀(l:List AV) (i:List Value),2<=l.length->G=.returned (.tuple i.toArray)->RepFs s m g (aD (a++[(a.length,.arr T e 0 a8 [])])) l i->gP s m g (aD (a++[(a.length,.arr T e 0 a8 [])])) (.ret l) G:=λl i N k v=>by
   match l,N,v with|_::_::_,_,v=>exact⟨i,k,v⟩
  obtain⟨i,k,h3⟩:=key (l1++.nils::y) (by rw[bK,bs];exact v) Y
  exact F (l1++.os a.length 0::y) i (by rw[bK,bs];exact v) k (CG ev Z h3)
theorem FnH.nilO {P g f a i x l1 j b T e}(k:dG b.length b=bc)
  (h:FnH P g f a i λc d=>c=.ret (x::l1++.nils::j)/\d=aD b):
  FnH P g f a i λc d=>c=.ret (x::l1++.os b.length 0::j)/\d=aD (b++[(b.length,.arr T e 0 a8 [])]):=FnH.nilG (by simp only[bs];omega) k h
theorem FnH.nilO1 {P g f a i x j b T e}(k:dG b.length b=bc)
  (h:FnH P g f a i λc d=>c=.ret (.nils::x::j)/\d=aD b):
  FnH P g f a i λc d=>c=.ret (.os b.length 0::x::j)/\d=aD (b++[(b.length,.arr T e 0 a8 [])]):=FnH.nilG (l1:=[]) (by simp only[bs,eO];omega) k h
end Go.Vm
set_option maxRecDepth 100000
set_option maxHeartbeats 4000000
namespace Go.Proofs.XRT
open Go.Vm Go Tryz IntKind
noncomputable section
noncomputable def amV  :=(g90.add 169 adC).add 170 Sf
theorem VW :amV.Good:=(rF.add Ak).add CD
theorem awu (a:ao):aB amV f166 7 [] [.d .str a] [] ah=bif HH a then bif HI a then ak [I 1,I 1,.nils,B bc]else bif a==BM then ak [I 1,I 1,.nils,B bc]else bif LR a then bif LS a then ak [I 2,I 2,.nils,B bc]else bif a==DV then ak [I 2,I 2,.nils,B bc]else bif a==nO then ak [I 3,I 3,.nils,B bc]else bif a==GJ then ar (.ret [I 1,I 1,.os 0 0,B bc],[(0,.arr 228 Y9 0 a8 [([109,105,110],1,a8,bn),([109,97,120],1,a8,bn)])])else bif a==m8 then ar (.ret [I 1,I 1,.os 0 0,B bc],[(0,.arr 228 Y9 0 a8 [([116,111],2,bc,bn)])])else bif a==vk then ar (.ret [I 1,I 1,.os 0 0,B bc],[(0,.arr 228 Y9 0 a8 [([97,120,101,115],7,a8,bn),([107,101,101,112,100,105,109,115],2,a8,bn)])])else bif a==vl then ar (.ret [I 1,I 1,.os 0 0,B bc],[(0,.arr 228 Y9 0 a8 [([97,120,101,115],7,a8,bn),([107,101,101,112,100,105,109,115],2,a8,bn)])])else bif a==Kd then ar (.ret [I 1,I 1,.os 0 0,B bc],[(0,.arr 228 Y9 0 a8 [([97,120,101,115],7,a8,bn),([107,101,101,112,100,105,109,115],2,a8,bn)])])else bif a==qD then ar (aq.ret [I 1,I 1,mq 0 0,B bc],[(0,au.arr 228 Y9 0 a8 [([97,120,105,115],2,a8,bn),([107,101,101,112,100,105,109,115],2,a8,bn)])])else bif a==zg then ar (aq.ret [I 1,I 1,mq 0 0,B bc],[(0,au.arr 228 Y9 0 a8 [([115,104,97,112,101],7,bc,bn)])])else bif a==zh then ar (aq.ret [I 1,I 1,mq 0 0,B bc],[(0,au.arr 228 Y9 0 a8 [([115,104,97,112,101],7,bc,bn)])])else bif a==zi then ar (aq.ret [I 1,I 1,mq 0 0,B bc],[(0,au.arr 228 Y9 0 a8 [([112,101,114,109],7,a8,bn)])])else bif a==vm then ar (aq.ret [I 1,I 20,mq 0 0,B bc],[(0,au.arr 228 Y9 0 a8 [([97,120,105,115],2,bc,bn)])])else bif a==zj then ar (aq.ret [I 1,I 1,mq 0 0,B bc],[(0,au.arr 228 Y9 0 a8 [([115,116,97,114,116,115],7,bc,bn),([101,110,100,115],7,bc,bn),([97,120,101,115],7,a8,bn)])])else bif a==qE then ar (aq.ret [I 2,I 2,mq 0 0,B bc],[(0,au.arr 228 Y9 0 a8 [([97,120,105,115],2,a8,bn)])])else bif a==GK then ar (aq.ret [I 1,I 1,mq 0 0,B bc],[(0,au.arr 228 Y9 0 a8 [([112,97,100,115],7,bc,bn),([118,97,108,117,101],1,a8,bn)])])else bif a==zk then ar (aq.ret [I 1,I 1,mq 0 0,B bc],[(0,au.arr 228 Y9 0 a8 [([97,120,101,115],7,bc,bn)])])else bif a==zl then ar (aq.ret [I 1,I 1,mq 0 0,B bc],[(0,au.arr 228 Y9 0 a8 [([97,120,101,115],7,bc,bn)])])else bif a==Ke then ar (aq.ret [I 1,I 1,mq 0 0,B bc],[(0,au.arr 228 Y9 0 a8 [([97,120,105,115],2,a8,bn)])])else bif a==Kf then ar (aq.ret [I 1,I 1,mq 0 0,B bc],[(0,au.arr 228 Y9 0 a8 [([97,120,105,115],2,a8,bn)])])else bif a==BN then ar (aq.ret [I 2,I 3,mq 0 0,B bc],[(0,au.arr 228 Y9 0 a8 [([116,114,97,110,115,65],2,a8,bn),([116,114,97,110,115,66],2,a8,bn),([97,108,112,104,97],1,a8,bn),([98,101,116,97],1,a8,bn)])])else bif a==jT then ar (aq.ret [I 2,I 3,mq 0 0,B bc],[(0,au.arr 228 Y9 0 a8 [([115,116,114,105,100,101,115],7,a8,bn),([112,97,100,115],7,a8,bn),([100,105,108,97,116,105,111,110,115],7,a8,bn),([103,114,111,117,112],2,a8,bn)])])else bif a==lL then ar (aq.ret [I 1,I 1,mq 0 0,B bc],[(0,au.arr 228 Y9 0 a8 [([107,101,114,110,101,108,95,115,104,97,112,101],7,bc,bn),([115,116,114,105,100,101,115],7,a8,bn),([112,97,100,115],7,a8,bn)])])else bif a==qF then ar (aq.ret [I 1,I 1,mq 0 0,B bc],[(0,au.arr 228 Y9 0 a8 [([107,101,114,110,101,108,95,115,104,97,112,101],7,bc,bn),([115,116,114,105,100,101,115],7,a8,bn),([112,97,100,115],7,a8,bn)])])else bif a==DW then ar (aq.ret [I 5,I 5,mq 0 0,B bc],[(0,au.arr 228 Y9 0 a8 [([101,112,115,105,108,111,110],1,a8,bn)])])else bif a==oK then ar (aq.ret [I 0,I 0,mq 0 0,B bc],[(0,au.arr 228 Y9 0 a8 [([118,97,108,117,101],4,bc,bn)])])else ak [I 0,I 0,b5,B a8]else a6 else a6:=by kernel_rfl
abbrev de  :=(Y9).den
def rQ (w:ao):de:=(fN w,fM (il (dd w++[32]) 0),je (dd w),())
def nB r  :=((cJ r).filter λw=>! w==[]).map rQ
def HL a  :=bif od a then ((bW a).1,(bW a).2.1,nB (bW a).2.2.1,bc)else (0,0,[],a8)
def ofX (v:Int×Int×List de×Bool):Option (aq×LHp):=match v.2.2.1 with|[]=>ar (.ret [I v.1,I v.2.1,.nils,B v.2.2.2],[])|x::o=>ar (.ret [I v.1,I v.2.1,.os 0 0,B v.2.2.2],[(0,.arr 228 _ 0 a8 (x::o))])
def nC :List (ao):=[[71,108,111,98,97,108,65,118,101,114,97,103,101,80,111,111,108],[65,100,100],[83,117,98],[77,117,108],[68,105,118],[77,97,120],[77,105,110],[65,110,100],[79,114],[88,111,114],[69,113,117,97,108],[76,101,115,115],[71,114,101,97,116,101,114],[77,97,116,77,117,108],[87,104,101,114,101],[67,108,105,112],[67,97,115,116],[82,101,100,117,99,101,83,117,109],[82,101,100,117,99,101,77,97,120],[82,101,100,117,99,101,77,101,97,110],[65,114,103,77,97,120],[82,101,115,104,97,112,101],[69,120,112,97,110,100],[84,114,97,110,115,112,111,115,101],[67,111,110,99,97,116],[83,108,105,99,101],[71,97,116,104,101,114],[80,97,100],[83,113,117,101,101,122,101],[85,110,115,113,117,101,101,122,101],[70,108,97,116,116,101,110],[83,111,102,116,109,97,120],[71,101,109,109],[67,111,110,118],[77,97,120,80,111,111,108],[65,118,101,114,97,103,101,80,111,111,108],[66,97,116,99,104,78,111,114,109,97,108,105,122,97,116,105,111,110],[67,111,110,115,116,97,110,116]]
theorem awv :∀a∈nC++ones,aB amV f166 7 [] [.d .str a] [] ah=ofX (HL a):=by
 intro a h;unfold nC ones at h;simp only[Ar,pb,kt,Dp,or_false]at h;rcases h with rfl|rfl|rfl|rfl|rfl|rfl|rfl|rfl|rfl|rfl|rfl|rfl|rfl|rfl|rfl|rfl|rfl|rfl|rfl|rfl|rfl|rfl|rfl|rfl|rfl|rfl|rfl|rfl|rfl|rfl|rfl|rfl|rfl|rfl|rfl|rfl|rfl|rfl|rfl|rfl|rfl|rfl|rfl|rfl|rfl|rfl|rfl|rfl
 all_goals kernel_rfl
theorem aww (a:ao):aB amV f166 7 [] [.d .str a] [] ah=ofX (HL a):=by
 by_cases h:a∈nC++ones
 ·exact awv a h
 ·let f:∀s,s∈nC++ones->(a==s)=a8:=λs b=>by
   grind
  let c:dV a=a8:=by unfold dV;grind
  let e  :=λs b=>f s (List.mem_append_left _ (ahl.1 b))
  let g:nz a=a8:=by
   unfold nz;rw[v7];intro s b;let:∀x∈me,nC.contains x=bc:=by decide +kernel
   grind
  let i:oc a=a6:=by
   unfold oc
   repeat rw[e _ (by decide +kernel),al]
  unfold HL od
  rw[c,i,awu,(xI a (xJ a)).1,(xI a (xJ a)).2,c,(Al a (Am a)).1,(Al a (Am a)).2,g]
  simp only[ai,al]
  repeat rw[e _ (by decide +kernel),al]
  rfl
def ofT :List AV->LHp->Tq
 |[.d .str a],[]=>.leaf (.ret [I (HL a).1,I (HL a).2.1,.os 0 0,B (HL a).2.2.2]) [(0,.arr 228 (Y9) 0 a8 (HL a).2.2.1)]
 |_,_=>.no
theorem awx :bq 166 (ay ofT):=by
 let e:=bM (d:=7) (l:=[]) VW func166 call166;refine aY λf h i j b=>?_
 unfold ofT at b;split at b
 ·rename_i c;cases b;let a:=aww c;unfold ofX at a;cases g:(HL c).2.2.1 with|nil=>rw[g]at a;exact(e.okC a).nilO (l1:=[I (HL c).2.1]) rfl|cons x o=>rw[g]at a;exact e.okC a
 ·cases b
theorem awy x:aB g98 f181 7 [] [.d .str DX,I x] [] ah=bif x==2143289344 then ak [I x,B bc]else ak [I ((i64.wrap (x+2147483648)).tmod 4294967296),B bc]:=by kernel_rfl
def awz :List AV->LHp->Tq
 |[.d .str a,.d zI x],[]=>.br (a==DX) (.br (x==2143289344) (.leaf (.ret [I x,B bc]) []) (.leaf (.ret [I (Int.tmod (i64.wrap (x+2147483648)) 4294967296),B bc]) [])) .no
 |_,_=>.no
theorem amW :bq 181 (ay awz):=by
 have c:bq 181 (aA g98 f181 7 []):=Q5;refine aY λb f g h a=>?_
 unfold awz at a;split at a
 ·obtain⟨d,e⟩:=eN a;obtain rfl:=eq_of_beq d;refine c.okC (gp ?_ e);rw[awy]<;>rfl
 ·cases a
def awA  :=g98.add 181 (ay awz)
theorem VX :awA.Good:=B2.add amW
def VY a x  :=bT [aa,.bool] (aB awA f181 7 [] [.d .str a,.d aa x] [] ah)
def D2 a x  :=(VY a x).isSome
def qI a x  :=(VY a x).getD (dS _)
def aFC  :=cC [.str,aa] _ λa x=>(D2 a x,qI a x)
theorem amX :bq 181 aFC:=bh (bM VX func181 call181 (h2:=rfl)) (by simp only[dg];exact λa x h=>aZ h)
theorem awB {a} op x (h:VY op x=ar a):D2 op x=bc/\qI op x=a:=bU h
theorem awC (a:ao):aB awA f181 7 [] [.d .str a,I 0] [] ah=bif a==DX then ak [I 2147483648,B bc]else bif a==BO then ak [I 0,B bc]else bif a==aab then ak [I 0,B bc]else bif a==aac then ak [I 0,B bc]else bif a==aad then ak [I 0,B bc]else bif a==aae then ak [I 1065353216,B bc]else bif a==aaf then ak [I 1056964608,B bc]else bif a==aag then ak [I 0,B bc]else ak [I 0,B a8]:=by kernel_rfl
def awD  :=(g99.add 115 (fnE xo)).add 181 aFC
theorem VZ :awD.Good:=(B3.add qd).add amX
def D3 a t x  :=bT [aa,aa] (aB awD f120 6 [] [.d .str a,.d aa t,.d aa x] [] ah)
def amY a t x  :=(D3 a t x).isSome
def HM a t x  :=(D3 a t x).getD (dS _)
def awE  :=cC [.str,aa,aa] _ λa t x=>(amY a t x,HM a t x)
theorem Sh :bq 120 awE:=bh (bM VZ func120 call120 (h2:=rfl)) (by simp only[dg];exact λa t x h=>aZ h)
theorem O7 {a} op t x (h:D3 op t x=ar a):amY op t x=bc/\HM op t x=a:=bU h
theorem adF (a:ao) t:aB awD f120 6 [] [.d .str a,I t,I 0] [] ah=bif !aQ t 0 then ak [I 0,I 1]else bif a==aah then ak [I 0,I 0]else bif a==aai then bif t==9 then ak [I 1,I 0]else bif a==DX then bif t==6 then bif t==6 then ak [I 0,I 0]else ak [I 0,I 0]else bif t==7 then bif t==6 then ak [I 0,I 0]else ak [I 0,I 0]else bif a==BO then bif t==6 then ak [I 0,I 0]else bif t==7 then ak [I 0,I 0]else bif t==1 then bif D2 a 0 then bif (qI a 0).2 then ak [I (qI a 0).1,I 0]else ak [I 0,I 1]else a6 else ak [I 0,I 1]else bif t==1 then bif D2 a 0 then bif (qI a 0).2 then ak [I (qI a 0).1,I 0]else ak [I 0,I 1]else a6 else ak [I 0,I 1]else bif a==BO then bif t==6 then ak [I 0,I 0]else bif t==7 then ak [I 0,I 0]else bif t==1 then bif D2 a 0 then bif (qI a 0).2 then ak [I (qI a 0).1,I 0]else ak [I 0,I 1]else a6 else ak [I 0,I 1]else bif t==1 then bif D2 a 0 then bif (qI a 0).2 then ak [I (qI a 0).1,I 0]else ak [I 0,I 1]else a6 else ak [I 0,I 1]else bif a==DX then bif t==6 then bif t==6 then ak [I 0,I 0]else ak [I 0,I 0]else bif t==7 then bif t==6 then ak [I 0,I 0]else ak [I 0,I 0]else bif a==BO then bif t==6 then ak [I 0,I 0]else bif t==7 then ak [I 0,I 0]else bif t==1 then bif D2 a 0 then bif (qI a 0).2 then ak [I (qI a 0).1,I 0]else ak [I 0,I 1]else a6 else ak [I 0,I 1]else bif t==1 then bif D2 a 0 then bif (qI a 0).2 then ak [I (qI a 0).1,I 0]else ak [I 0,I 1]else a6 else ak [I 0,I 1]else bif a==BO then bif t==6 then ak [I 0,I 0]else bif t==7 then ak [I 0,I 0]else bif t==1 then bif D2 a 0 then bif (qI a 0).2 then ak [I (qI a 0).1,I 0]else ak [I 0,I 1]else a6 else ak [I 0,I 1]else bif t==1 then bif D2 a 0 then bif (qI a 0).2 then ak [I (qI a 0).1,I 0]else ak [I 0,I 1]else a6 else ak [I 0,I 1]:=by kernel_rfl
def awF a x y  :=bT [aa,.bool] (aB ajW f182 7 [] [.d .str a,.d aa x,.d aa y] [] ah)
def aFD a x y  :=(awF a x y).isSome
def awG a x y  :=(awF a x y).getD (dS _)
def aFE  :=cC [.str,aa,aa] _ λa x y=>(aFD a x y,awG a x y)
theorem amZ :bq 182 aFE:=bh Q6 (by simp only[dg];exact λa x y h=>aZ h)
def awH a t x y  :=bT [aa,aa,.bool] (aB ajX f183 7 [] [.d .str a,.d aa t,.d aa x,.d aa y] [] ah)
def awI a t x y  :=(awH a t x y).isSome
def O8 a t x y  :=(awH a t x y).getD (dS _)
def aFF  :=cC [.str,aa,aa,aa] _ λa t x y=>(awI a t x y,O8 a t x y)
theorem am0 :bq 183 aFF:=bh Q7 (by simp only[dg];exact λa t x y h=>aZ h)
def awJ  :=((sY.add 115 (fnE xo)).add 182 aFE).add 183 aFF
theorem V0 :awJ.Good:=((sC.add qd).add amZ).add am0
def LU a t x y  :=bT [aa,aa] (aB awJ f121 7 [] [.d .str a,.d aa t,.d aa x,.d aa y] [] ah)
def awK a t x y  :=(LU a t x y).isSome
def adG a t x y  :=(LU a t x y).getD (dS _)
def aFG  :=cC [.str,aa,aa,aa] _ λa t x y=>(awK a t x y,adG a t x y)
theorem am1 :bq 121 aFG:=bh (bM V0 func121 call121 (h2:=rfl)) (by simp only[dg];exact λa t x y h=>aZ h)
theorem adH {a} op t x y (h:LU op t x y=ar a):awK op t x y=bc/\adG op t x y=a:=bU h
theorem awL (a:ao) t:aB awJ f121 7 [] [.d .str a,I t,I 0,I 0] [] ah=bif !aQ t 0 then ak [I 0,I 1]else bif !aQ t 0 then ak [I 0,I 1]else bif t==1 then bif aFD a 0 0 then bif (awG a 0 0).2 then ak [I (awG a 0 0).1,I 0]else ak [I 0,I 1]else a6 else bif t==6 then bif awI a t 0 0 then bif (O8 a t 0 0).2.2 then ak [I (O8 a t 0 0).1,I (O8 a t 0 0).2.1]else ak [I 0,I 1]else a6 else bif t==7 then bif awI a t 0 0 then bif (O8 a t 0 0).2.2 then ak [I (O8 a t 0 0).1,I (O8 a t 0 0).2.1]else ak [I 0,I 1]else a6 else bif a==zl8 then ak [I 0,I 0]else bif a==[79,114]then ak [I 0,I 0]else bif a==zl9 then ak [I 0,I 0]else bif a==tY then ak [I 1,I 0]else ak [I 0,I 1]:=by kernel_rfl
theorem An {t}(h:aQ t 0=bc):t∈[1,6,7,9]:=by unfold aQ at h;grind
theorem aFH :∀a∈ones,∀t∈[(1:Int),6,7,9],D3 a t 0=ar ((HM a t 0).1,(jq a t).2):=by
 intro a h t b;unfold ones at h;simp only[kt,Dp,or_false]at h b;rcases h with rfl|rfl|rfl|rfl|rfl|rfl|rfl|rfl|rfl|rfl
 all_goals (rcases b with rfl|rfl|rfl|rfl)
 all_goals kernel_rfl
theorem aqi (b:ao)(t:Int):D3 b t 0=ar ((HM b t 0).1,(jq b t).2):=by
 have d:∀a:Int×Int,D3 b t 0=ar a->(jq b t).2=a.2->D3 b t 0=ar ((HM b t 0).1,(jq b t).2):=λa q r=>by rw[(O7 b t 0 q).2,r];exact q
 cases e:aQ t 0 with
 |false=>
  refine d (0,1) ?_ ?_
  ·unfold D3;rw[adF,e]<;>rfl
  ·unfold jq;rw[Ot,e]<;>rfl
 |true=>
  by_cases h:b∈ones
  ·exact aFH b h t (An e)
  ·have c:∀s,ones.contains s=bc->(b==s)=a8:=λs v=>by
    grind
   have f:=c [73,100,101,110,116,105,116,121] (by decide +kernel)
   have g:=c [78,101,103] (by decide +kernel)
   have i:=c [65,98,115] (by decide +kernel)
   have j:=c [78,111,116] (by decide +kernel)
   have k:=c [82,101,108,117] (by decide +kernel)
   have l:=c [83,113,114,116] (by decide +kernel)
   have m:=c [70,108,111,111,114] (by decide +kernel)
   have n:=c [69,120,112] (by decide +kernel)
   have o:=c [83,105,103,109,111,105,100] (by decide +kernel)
   have p:=c [84,97,110,104] (by decide +kernel)
   have u:VY b 0=ar (0,a8):=by unfold VY;rw[awC];simp only[f,g,i,j,k,l,m,n,o,p,al];rfl
   obtain⟨f1,f2⟩:=awB b 0 u
   refine d (0,1) ?_ ?_
   ·unfold D3;rw[adF,e,f1,f2];simp only[f,g,i,j,k,l,m,n,o,p,al,cy,ai];cases t==1<;>rfl
   ·unfold jq;rw[Ot];simp only[Cg,rI,Ch,Ci];rw[e];simp only[f,g,i,j,k,l,m,n,o,p,al,cy];cases t==1<;>rfl
theorem aFI :∀a∈me,∀t∈[(1:Int),6,7,9],LU a t 0 0=ar ((adG a t 0 0).1,(oO a t).2):=by
 intro a h t b;unfold me at h;simp only[kt,Dp,or_false]at h b;rcases h with rfl|rfl|rfl|rfl|rfl|rfl|rfl|rfl|rfl|rfl|rfl|rfl
 all_goals (rcases b with rfl|rfl|rfl|rfl)
 all_goals kernel_rfl
theorem aFJ {a:ao}(h:a∈me)(t:Int):LU a t 0 0=ar ((adG a t 0 0).1,(oO a t).2):=by
 cases b:aQ t 0 with
 |false=>
  have c:LU a t 0 0=ar (0,1):=by unfold LU;rw[awL,b]<;>rfl
  have d:(oO a t).2=1:=by unfold oO;rw[Hg,b]<;>rfl
  rw[(adH a t 0 0 c).2,d];exact c
 |true=>exact aFI a h t (An b)
def aqj  :=aU f119
def pK  :=cL (cL (cR (cL (cR (cR (cR (cR (cR aqj))))))))
def fI :Cfg:=⟨51,6,0,[(7,[4,6,7,8])],bc⟩
def lT  :=(g88.add 87 VO).add 169 adC
theorem V1 :lT.Good:=(rE.add vU).add Ak
def V2 y  :=bT [.slice .str,aa] (aB lT f119 6 [(7,[4,6,7,8])] [.d Y2 y] [] ah)
def O9 y  :=(V2 y).isSome
def HN y  :=(V2 y).getD (dS _)
def awM  :=cC [Y2] _ λy=>(O9 y,HN y)
theorem Si :bq 119 awM:=bh (bM V1 func119 call119 (h2:=rfl)) (by simp only[dg];exact λy h=>aZ h)
theorem adI {a} y (h:V2 y=ar a):O9 y=bc/\HN y=a:=bU h
def yN (a:(Y1).den)(f i:Int):LSt:=⟨az 6 [(4,.op 0 [] 0),(6,.nils),(7,I f),(8,I i)],[(0,.box (.d _ a))],1⟩
def Fh  :=aI 0 (aL lT fI [7] (hlp lT fI) (cR (cR (cR (cR (cR (cR aqj)))))) (aV prog 0 f119.results.toList ah))
theorem awN y:aB lT f119 6 [(7,[4,6,7,8])] [.d _ y] [] ah=bif HJ y [116,104,101,110] 3 then bif !(uq y [116,104,101,110] 3).2 then ak [.nils,I 0]else (hlp lT fI) pK _ (yN (uq y [116,104,101,110] 3).1 0 0) Fh else a6:=(aW [7] fI rfl).trans (by obtain⟨a,h⟩:=aM lT fI;rw[h];kernel_rfl)
def vV (a:(Y1).den)(f i:Int)(o:List ao):LSt:=⟨az 6 [(4,.op 0 [] 0),(6,.os 1 0),(7,I f),(8,I i)],[(0,.box (.d _ a)),(1,.arr 9 .str 0 a8 o)],2⟩
theorem awO a f i n:lp lT fI pK (n+1) (yN a f i) Fh=bif a7 (i<=.ofNat (bk a.2.2.2.2.1))then bif a7 (i<.ofNat (bk a.2.2.2.2.1))then (wV a.2.2.2.2.1 i).bind λb=>bif b !=44 then lp lT fI pK n (yN a f (i64.wrap (i+1))) Fh else (if 0<=f/\f<=i/\i<=.ofNat (bk a.2.2.2.2.1)then ar (fb f.toNat (gy i.toNat a.2.2.2.2.1))else a6).bind λc=>bif HH c then bif !HI c then ak [.nils,I 4]else lp lT fI pK n (vV a (i64.wrap (i+1)) (i64.wrap (i+1)) [c]) Fh else a6 else (if 0<=f/\f<=i/\i<=.ofNat (bk a.2.2.2.2.1)then ar (fb f.toNat (gy i.toNat a.2.2.2.2.1))else a6).bind λb=>bif HH b then bif !HI b then ak [.nils,I 4]else lp lT fI pK n (vV a (i64.wrap (i+1)) (i64.wrap (i+1)) [b]) Fh else a6 else ak [.nils,I 0]:=by kernel_rfl
theorem awP a f i v o n:lp lT fI pK (n+1) (vV a f i (v::o)) Fh=bif a7 (i<=.ofNat (bk a.2.2.2.2.1))then bif a7 (i<.ofNat (bk a.2.2.2.2.1))then (wV a.2.2.2.2.1 i).bind λb=>bif b !=44 then lp lT fI pK n (vV a f (i64.wrap (i+1)) (v::o)) Fh else (if 0<=f/\f<=i/\i<=.ofNat (bk a.2.2.2.2.1)then ar (fb f.toNat (gy i.toNat a.2.2.2.2.1))else a6).bind λc=>bif HH c then bif !HI c then ak [.nils,I 4]else (app (v::o) [c]).bind λd=>lp lT fI pK n (vV a (i64.wrap (i+1)) (i64.wrap (i+1)) d) Fh else a6 else (if 0<=f/\f<=i/\i<=.ofNat (bk a.2.2.2.2.1)then ar (fb f.toNat (gy i.toNat a.2.2.2.2.1))else a6).bind λb=>bif HH b then bif !HI b then ak [.nils,I 4]else (app (v::o) [b]).bind λe=>lp lT fI pK n (vV a (i64.wrap (i+1)) (i64.wrap (i+1)) e) Fh else a6 else ar (.ret [.os 0 0,I 0],[(0,.arr 9 .str 0 a8 (v::o))]):=by kernel_rfl
def Pa (a:(Y1).den)(f i:Int):List (ao)->LSt
 |[]=>yN a f i
 |v::o=>vV a f i (v::o)
def adJ :List (ao)->Option (aq×LHp)
 |[]=>ar (.ret [.nils,I 0],[])
 |v::o=>ar (.ret [.os 0 0,I 0],[(0,.arr 9 .str 0 a8 (v::o))])
theorem aqk (a:(Y1).den)(f i:Int)(o:List (ao))(n:Nat):lp lT fI pK (n+1) (Pa a f i o) Fh=
  bif a7 (i<=bd (bk a.2.2.2.2.1))then
   (bif a7 (i<bd (bk a.2.2.2.2.1))then (wV a.2.2.2.2.1 i).bind λv=>bif v !=44 then lp lT fI pK n (Pa a f (i64.wrap (i+1)) o) Fh
    else (if 0<=f/\f<=i/\i<=bd (bk a.2.2.2.2.1)then ar (fb f.toNat (gy i.toNat a.2.2.2.2.1))else a6).bind λp=>bif !dV p then ar (.ret [.nils,I 4],[])else (app o [p]).bind λb=>lp lT fI pK n (Pa a (i64.wrap (i+1)) (i64.wrap (i+1)) b) Fh
   else (if 0<=f/\f<=i/\i<=bd (bk a.2.2.2.2.1)then ar (fb f.toNat (gy i.toNat a.2.2.2.2.1))else a6).bind λp=>bif !dV p then ar (.ret [.nils,I 4],[])else (app o [p]).bind λb=>lp lT fI pK n (Pa a (i64.wrap (i+1)) (i64.wrap (i+1)) b) Fh)
  else adJ o:=by
 have c:=λp=>(xI p (xJ p)).1
 have d:=λp=>(xI p (xJ p)).2
 have e:∀p:ao,app ([]:List (ao)) [p]=ar [p]:=λp=>nv (by simp)
 have g:∀(o:List (ao)) (x:ao) (b:List (ao)),app o [x]=ar b->b=o++[x]:=λo x b h=>by grind [app]
 cases o with
 |nil=>show lp lT fI pK (n+1) (yN a f i) Fh=_;rw[awO];simp only[c,d,e,ai,aw];rfl
 |cons v o=>
  show lp lT fI pK (n+1) (vV a f i (v::o)) Fh=_;rw[awP];simp only[c,d,ai];have j:∀(x:ao) (f i:Int),((app (v::o) [x]).bind λb=>lp lT fI pK n (vV a f i b) Fh)=(app (v::o) [x]).bind λb=>lp lT fI pK n (Pa a f i b) Fh:=λx f i=>by cases h:app (v::o) [x]with|none=>rfl|some b=>rw[g _ _ _ h]<;>rfl
  simp only[←j];rfl
theorem adK :∀{p},(∀c∈p,(c==44)=a8)->cJ p=[p]
 |[],_=>rfl
 |x::p,h=>by rw[cJ,h x (ku ..),al,adK λc a=>h c (m3 _ a)]
theorem adL :∀{p s:ao},(∀c∈p,(c==44)=a8)->cJ (p++44::s)=p::cJ s
 |[],s,_=>by rw[pb,cJ]<;>rfl
 |x::p,s,h=>by rw[Ar,cJ,h x (ku ..),al,adL λc a=>h c (m3 _ a)]
theorem Pb {a:(Y1).den}(r:(bk a.2.2.2.2.1)<=2147483647):∀(s b p:ao) (n:Nat) (o:List (ao)),a.2.2.2.2.1=b++(p++s)->(∀c∈p,(c==44)=a8)->s.length+1<n->o.length<=b.length->
  lp lT fI pK n (Pa a (b.length:Nat) ((b.length+p.length:Nat):Int) o) Fh=bif (cJ (p++s)).all dV then adJ (o++cJ (p++s))else ar (.ret [.nils,I 4],[])
 |s,b,p,n,o,g,hp,l,t=>by
  obtain⟨n,rfl⟩:∃m,n=m+1:=⟨n-1,by omega⟩;have q:bk a.2.2.2.2.1=b.length+(p.length+s.length):=by rw[g,bK,bK]
  have f:(if (0:Int)<=(b.length:Nat)/\((b.length:Nat):Int)<=((b.length+p.length:Nat):Int)/\((b.length+p.length:Nat):Int)<=bd (bk a.2.2.2.2.1)then ar (fb (j4 (b.length:Nat)) (gy (j4 ((b.length+p.length:Nat):Int)) a.2.2.2.2.1))else a6)=ar p:=by rw[if_pos ⟨by omega,by omega,by simp only[aK];omega⟩,b9,b9,g,←gl,List.take_left' (by rw[bK]),List.drop_left]
  have i:app o [p]=ar (o++[p]):=eX (by rw[show lim=4294967296 from rfl,eS];omega);have u:i64.wrap (((b.length+p.length:Nat):Int)+1)=((b.length+p.length+1:Nat):Int):=aH (by omega) (by omega);rw[aqk,aF (show ((b.length+p.length:Nat):Int)<=bd (bk a.2.2.2.2.1) by simp only[aK];omega),ai,f,u];simp only[aw,i];cases s with
  |nil=>rw[cq (show¬((b.length+p.length:Nat):Int)<bd (bk a.2.2.2.2.1) by simp only[aK];simp only[eO]at q;omega),al,eT,adK hp];simp only[py,List.all_nil,Bool.and_true];cases dV p with|false=>rfl|true=>obtain⟨n,rfl⟩:∃m,n=m+1:=⟨n-1,by simp only[eO]at l;omega⟩;rw[cy,al,aqk,cq (show¬((b.length+p.length+1:Nat):Int)<=bd (bk a.2.2.2.2.1) by simp only[aK];simp only[eO]at q;omega)]<;>rfl
  |cons c s=>
   have v:wV a.2.2.2.2.1 ((b.length+p.length:Nat):Int)=ar (c.toNat:Int):=by unfold wV;rw[if_pos (by omega),b9,g,←gl,List.getElem?_append_right (by rw[bK];omega)];simp
   rw[aF (show ((b.length+p.length:Nat):Int)<bd (bk a.2.2.2.2.1) by simp only[aK];simp only[bs]at q;omega),ai,v,aw];cases k:c==44 with
   |true=>obtain rfl:=eq_of_beq k;rw[adL hp,show (((44:UInt8).toNat:Int) !=44)=a8 from rfl,al,py];cases dV p with|false=>rfl|true=>have j:=Pb r s (b++(p++[44])) [] n (o++[p]) (by rw[g];simp) (λ_ h=>by cases h) (by simp only[bs]at l;omega) (by simp;omega);simp only[bK,eO,Nat.add_zero,eS,pb,←Nat.add_assoc]at j;rw[cy,al,gb];refine j.trans ?_;rw[gl]<;>rfl
   |false=>
    have w:((c.toNat:Int) !=44)=bc:=by
     rw[bne_iff_ne];intro e;have:c.toNat=44:=by omega
     rw[show c=44 from UInt8.toNat_inj.1 this]at k;cases k
    rw[w,ai]
    have j:=Pb r s b (p++[c]) n o (by rw[g];simp) (λd x=>by
     rcases q7.1 x with h|h
     ·exact hp d h
     ·rw[ahz.1 h];exact k) (by simp only[bs]at l;omega) t
    simp only[bK,eS,←Nat.add_assoc,gl,Ar,pb]at j;exact j
termination_by s=>s.length
theorem aFK a:hlp lT fI pK _ (yN a 0 0) Fh=lp lT fI pK fu (yN a 0 0) Fh:=rfl
theorem V3 :∀s,cJ s≠[]:=λs h=>by let:=uc s;rw[h]at this;cases this
theorem adM {y:(Y2).den}(d:aE y.2.2.2.2.1=bc):V2 y=ar (bif fY y.2.2.2.2.1 then []else kI y.2.2.2.2.1,bif fY y.2.2.2.2.1 then 4 else 0):=by
 unfold V2;have m:=bz d;obtain⟨j,f⟩:=CE y jd 3 (CF (by rw[show maxLen=9223372036854775807 from by decide];omega));have e:=awN y;rw[show ([116,104,101,110]:ao)=jd from rfl]at e;rw[j,ai]at e;unfold fY kI;cases b:y.2.2.2.2.1.find? (ie jd 3)with
 |none=>
  have c:uq y jd 3=(adD,a8):=by rw[f,b]
  rw[c,show (!((adD,a8):(Y1).den×Bool).2)=bc from rfl,ai]at e;rw[e]<;>rfl
 |some a=>
  have c:uq y jd 3=(a,bc):=by rw[f,b]
  rw[c,show (!((a,bc):(Y1).den×Bool).2)=a8 from rfl,al]at e;have k:bk a.2.2.2.2.1<=2147483647:=by have:=kq b;unfold aE at d;grind
  have g:=Pb k a.2.2.2.2.1 [] [] fu [] rfl (λ_ h=>by cases h) (by rw[show fu=18446744073709551616 from rfl];omega) (ep _);rw[show Pa a (([]:ao).length:Nat) ((([]:ao).length+([]:ao).length:Nat):Int) []=yN a 0 0 from rfl]at g;have l:=e.trans ((aFK a).trans g);rw[l,pb,pb];cases (cJ a.2.2.2.2.1).all dV with|false=>rfl|true=>cases i:cJ a.2.2.2.2.1 with|nil=>exact absurd i (V3 _)|cons v o=>show bT [.slice .str,aa] (adJ (v::o))=ar (cJ a.2.2.2.2.1,(0:Int));rw[i]<;>rfl
def ou :de:=(jd,3,a8,())
def atR (d:List de)(c:bu)(a:(Y1).den):Int:=
 bif d.any λf=>f.1==a.1&&f.2.1 !=a.2.1 then 4 else bif ! d.any λf=>f.1==a.1 then 5 else bif c.any λb=>b.1==a.1 then 4 else bif a.2.1==1 then bif !aQ 1 a.2.2.1 then 4 else 0 else 0
def arL (b:List de):bu->bu->Int
 |_,[]=>0
 |pre,a::r=>bif atR b pre a !=0 then atR b pre a else arL b (pre++[a]) r
def Za (a:bu)(f:de)  :=f.2.2.1&&(a.find? (ie f.1 f.2.1)).isNone
def CH a b  :=bif arL a [] b !=0 then arL a [] b else bif a.any (Za b)then 4 else 0
def xK w  :=fN w++32::dd w==w&&(!(fN w).contains 32&&(!(dd w).contains 32&& ! dd w==[]))
def neW (w:ao)  := ! w==[]
def ur r  :=nB r++[ou]==((cv r).filter neW).map rQ&&((cv r).all (λw=>w==[]||xK w)&&a7 (((cv r).filter neW).map λw=>fN w).Nodup)
def okO (o:Option (Int×Int×ao×Unit))  :=ur (o.getD (1,1,[],())).2.2.1=bc
theorem am2 {c a b}(d:okO a)(e:okO b):okO (bif c then a else b):=by grind
theorem adO a:ur (bW a).2.2.1=bc:=by
 show okO (oc a);unfold oc;repeat' apply am2
 all_goals rfl
theorem LV {w}(h:xK w=bc) b:dL w (b++[32])=(fN w==b):=by
 unfold xK at h;simp only[aX,T2,beq_iff_eq]at h;let ⟨j,a,d,_⟩:=h;let a:32∉fN w:=λf=>by rw[ahl.2 f]at a;cases a
 let d:32∉dd w:=λf=>by rw[ahl.2 f]at d;cases d
 rw[vc,beq_iff_eq];unfold dL;rw[aX,decide_eq_true_eq,beq_iff_eq];generalize fN w=n at*;generalize dd w=k at*;subst j;constructor
 ·rintro⟨_,e⟩
  let hp:b++[32]<+:n++32::k:=⟨_,by rw[←e];exact List.take_append_drop _ _⟩;let ⟨t,i⟩:=hp;rw[gl]at i;rcases List.append_eq_append_iff.1 i with ⟨c,g,l⟩|⟨c,g,l⟩
  ·grind
  ·cases c with|nil=>rw[eT]at g;exact g.symm|cons x c=>grind
 grind
theorem V4 {w}(h:xK w=bc):il w ((fN w).length+1)=il (dd w++[32]) 0:=by unfold xK at h;unfold il;grind
theorem V5 {a:List de}(h:(a.map (·.1)).Nodup):∀f∈a,∀g∈a,f.1=g.1->f=g:=by induction a with|nil=>intro f b;cases b|cons x a c=>grind
theorem adP {r:ao}(h:ur r=bc)(g:bu)(a:(Y1).den):atR (nB r++[ou]) g a=U1 (cv r) g a:=by
 unfold ur at h;simp only[aX,beq_iff_eq,decide_eq_true_eq]at h;obtain⟨p,q,s⟩:=h;rw[p];have o:∀w∈cv r,neW w=bc->xK w=bc:=λw d e=>by have:=gv.1 q w d;unfold neW at e;grind
 have l:∀w,oM a w=bc->neW w=bc:=λw d=>by unfold oM dL at d;cases w with|nil=>simp at d|cons _ _=>rfl
 have i:∀f,f∈((cv r).filter neW).map rQ↔∃w∈cv r,neW w=bc/\rQ w=f:=λf=>by grind
 have t:((((cv r).filter neW).map rQ).map (·.1)).Nodup:=by rw[List.map_map];exact s
 unfold atR U1;cases k:(cv r).find? (oM a)with
 |none=>
  rw[YT]at k;have u:∀f∈((cv r).filter neW).map rQ,(f.1==a.1)=a8:=λf m=>by obtain⟨w,d,e,rfl⟩:=(i f).1 m;have:=k w d;unfold oM at this;rw[LV (o w d e)]at this;exact Bool.eq_false_iff.2 this
  grind
 |some w=>
  have d:=kq k;have hp:=ahd k;have e:=l w hp;have j:=o w d e;have c:=(i (rQ w)).2 ⟨w,d,e,rfl⟩;have b:fN w=a.1:=by unfold oM at hp;rw[LV j]at hp;exact eq_of_beq hp
  have v:fM (il w (bk a.1+1))=(rQ w).2.1:=by rw[←b,V4 j]<;>rfl
  have n:(((cv r).filter neW).map rQ).any (λf=>f.1==a.1)=bc:=tr.2 ⟨_,c,by show (fN w==a.1)=bc;rw[b];simp⟩
  have x:(((cv r).filter neW).map rQ).any (λf=>f.1==a.1&&f.2.1 !=a.2.1)=((rQ w).2.1 !=a.2.1):=by
   rw[vc,tr];constructor
   ·rintro⟨f,m,h⟩
    rw[aX,beq_iff_eq]at h;have:=V5 t f m _ c (h.1.trans b.symm);rw[←this];exact h.2
   ·intro h;exact⟨_,c,by rw[h,Bool.and_true];show (fN w==a.1)=bc;rw[b];simp⟩
  rw[n,x,←v]<;>rfl
theorem LW {r}(h:ur r=bc):∀(l b),arL (nB r++[ou]) b l=U2 (cv r) b l
 |[],_=>rfl
 |a::l,b=>by rw[arL,U2,adP h,LW h l]
theorem V6 {r}(h:ur r=bc) a:CH (nB r++[ou]) a=iS (cv r) a:=by
 unfold CH iS;rw[LW h]
 let c:(nB r++[ou]).any (Za a)=(cv r).any (neO a):=by
  unfold ur at h;simp only[aX,beq_iff_eq]at h;rw[h.1,List.any_map,vc,tr,tr];constructor
  ·rintro⟨w,b,h⟩
   exact⟨w,(List.mem_filter.1 b).1,h⟩
  ·rintro⟨w,b,h⟩
   refine⟨w,List.mem_filter.2 ⟨b,?_⟩,h⟩;cases w with|nil=>cases h|cons _ _=>rfl
 rw[c]
def rR  :=aU f168
def oW  :=cL (cL (cR (cL (cR (cR rR)))))
def awQ  :=cR (cR (cR (cL (cL (cR (cL (cL (cR (cL (cR (cR rR)))))))))))
def adQ  :=cR (cR (cL (cL (cR (cL (cR (cR rR)))))))
def aFL  :=cR (cR (cR (cR (cR (cL (cL (cR (cL (cL (cR (cL (cR (cR rR)))))))))))))
def uv  :=cL (cL (cR (cL (cR (cR (cL (cL (cR (cL (cL (cR (cL (cR (cR rR))))))))))))))
def LX  :=cL (cL (cR (cL (cR (cR (cR (cR (cL (cL (cR (cL (cL (cR (cL (cR (cR rR))))))))))))))))
def rS  :=cL (cL (cR (cL (cR (cR (cR rR))))))
def aO :Cfg:=⟨106,7,1,[(3,[1,2,5]),(8,[1,2,5,6,7,8]),(17,[1,2,5,6,9]),(24,[1,2,10])],bc⟩
def cp  :=(g90.add 87 VO).add 115 (fnE xo)
theorem V7 :cp.Good:=(rF.add vU).add qd
def tg (z:Bool)(y:(Y2).den)(a:List de)(i:Int):LSt:=⟨az 7 [(1,.os 0 1),(2,.op 1 [] 0),(5,I i)],[(0,.arr 228 _ 1 z a),(1,.box (.d _ y))],3⟩
theorem awR y (a:List de):aB cp f168 7 [(3,[1,2,5]),(8,[1,2,5,6,7,8]),(17,[1,2,5,6,9]),(24,[1,2,10])] [.d _ y,.os 0 0] [(0,.arr 228 _ 0 a8 a)] ah=(app a [([116,104,101,110],3,a8,bn)]).bind λb=>(hlp cp aO) oW _ (tg a8 y b 0) (aI 0 (aL cp aO [3,8,17,24] (hlp cp aO) (cR (cR (cR rR))) (aV prog 1 f168.results.toList ah))):=(aW [3,8,17,24] aO rfl).trans (by obtain⟨c,h⟩:=aM cp aO;rw[h];kernel_rfl)
def aFM a  :=aI 0 (aL cp aO [3,8,17,24] a (cR (cR (cR rR))) (aV prog 1 f168.results.toList ah))
def vW  :=aFM (hlp cp aO)
def aFN (a:Hl)(n:Nat)(k:AEx->LSt->Option (aq×LHp))  :=aI 2 (aL cp aO [3,8,17,24] a awQ (aI 1 (aL cp aO [3,8,17,24] a adQ (lJ cp aO [3,8,17,24] a oW n k))))
def KRb n k  :=aFN (hlp cp aO) n k
def KRc (n:Nat)(k:AEx->LSt->Option (aq×LHp))  :=aI 4 (aL cp aO [3,8,17,24] (hlp cp aO) aFL (aI 1 (aL cp aO [3,8,17,24] (hlp cp aO) adQ (lJ cp aO [3,8,17,24] (hlp cp aO) oW n k))))
def M4  :=aI 6 (aL cp aO [3,8,17,24] (hlp cp aO) (cR (cR (cR (cR rR)))) (aV prog 1 f168.results.toList ah))
def uw (z:Bool)(y:(Y2).den)(a:(Y1).den)(c:List de)(i:Int)(b:Bool)(j:Int):LSt:=⟨az 7 [(1,.os 0 1),(2,.op 1 [] 0),(5,I i),(6,.op 2 [] 0),(7,B b),(8,I j)],[(0,.arr 228 _ 1 z c),(1,.box (.d _ y)),(2,.box (.d _ a))],4⟩
def rT (z:Bool)(y:(Y2).den)(a:List de)(j:Int):LSt:=⟨az 7 [(1,.os 0 1),(2,.op 1 [] 0),(10,I j)],[(0,.arr 228 _ 1 z a),(1,.box (.d _ y))],3⟩
def LY (y:(Y2).den)(a:(Y1).den)(b:List de)(i j:Int):LSt:=⟨az 7 [(1,.os 0 1),(2,.op 1 [] 0),(5,I i),(6,.op 2 [] 0),(9,I j)],[(0,.arr 228 _ 1 bc b),(1,.box (.d _ y)),(2,.box (.d _ a))],4⟩
theorem awU y a i n {R} (k:AEx->LSt->Option R):lp cp aO oW (n+1) (tg a8 y a i) k=bif a7 (i<.ofNat (bk y.2.2.2.2.1))then (idx y.2.2.2.2.1 i).bind λb=>(hlp cp aO) uv _ (uw a8 y b a i a8 0) (aI 2 (aL cp aO [3,8,17,24] (hlp cp aO) awQ (aI 1 (aL cp aO [3,8,17,24] (hlp cp aO) adQ (lJ cp aO [3,8,17,24] (hlp cp aO) oW n k)))))else k (.exit 0) ⟨az 7 [(1,.os 0 1),(2,.op 1 [] 0),(5,I i),(17,I i),(18,.op 1 [4] 4),(19,.d _ y.2.2.2.2.1),(20,I (.ofNat (bk y.2.2.2.2.1))),(21,B a8)],[(0,.arr 228 Y9 1 a8 a),(1,.box (.d Y2 y))],3⟩:=by rw[j9 [3,8,17,24]];obtain⟨c,h⟩:=aM cp aO;rw[h];kernel_rfl
theorem aFO y a i n {R} (k:AEx->LSt->Option R):lp cp aO oW (n+1) (tg bc y a i) k=bif a7 (i<.ofNat (bk y.2.2.2.2.1))then (idx y.2.2.2.2.1 i).bind λb=>(hlp cp aO) uv _ (uw bc y b a i a8 0) (aI 2 (aL cp aO [3,8,17,24] (hlp cp aO) awQ (aI 1 (aL cp aO [3,8,17,24] (hlp cp aO) adQ (lJ cp aO [3,8,17,24] (hlp cp aO) oW n k)))))else k (.exit 0) ⟨az 7 [(1,.os 0 1),(2,.op 1 [] 0),(5,I i),(17,I i),(18,.op 1 [4] 4),(19,.d _ y.2.2.2.2.1),(20,I (.ofNat (bk y.2.2.2.2.1))),(21,B a8)],[(0,.arr 228 Y9 1 bc a),(1,.box (.d Y2 y))],3⟩:=by rw[j9 [3,8,17,24]];obtain⟨c,h⟩:=aM cp aO;rw[h];kernel_rfl
theorem awV (y:(Y2).den)(a:(Y1).den)(c:List de) i j b n {R} (k:AEx->LSt->Option R):lp cp aO uv (n+1) (uw a8 y a c i b j) k=bif a7 (j<bd c.length)then (idx c j).bind λg=>(match c[j.toNat]? with|none=>a6|some e=>bif e.1==a.1 then (idx c j).bind λh=>(match c[j.toNat]? with|none=>a6|some f=>bif f.2.1 !=a.2.1 then k .ret ⟨az 7 [(1,.os 0 1),(2,.op 1 [] 0),(4,I 4),(5,I i),(6,.op 2 [] 0),(7,B bc),(8,I j),(29,I j),(30,.os 0 1),(31,I (.ofNat c.length)),(32,B bc),(35,.os 0 1),(36,I j),(37,.oe 0 1 j.toNat),(38,.ip _ e.1),(39,.d _ e.1),(40,.op 2 [0] 0),(41,.d _ a.1),(42,B bc),(43,.os 0 1),(44,I j),(45,.oe 0 1 j.toNat),(46,.ip (aa) f.2.1),(47,I f.2.1),(48,.op 2 [1] 1),(49,I a.2.1),(50,B bc)],[(0,.arr 228 Y9 1 bc c),(0,.arr 228 Y9 1 a8 c),(1,.box (.d Y2 y)),(2,.box (.d Y1 a))],4⟩else lp cp aO uv n (uw bc y a c i bc (i64.wrap (j+1))) k)else lp cp aO uv n (uw bc y a c i b (i64.wrap (j+1))) k)else k (.exit 2) ⟨az 7 [(1,.os 0 1),(2,.op 1 [] 0),(5,I i),(6,.op 2 [] 0),(7,B b),(8,I j),(29,I j),(30,.os 0 1),(31,I (.ofNat c.length)),(32,B a8)],[(0,.arr 228 Y9 1 a8 c),(1,.box (.d Y2 y)),(2,.box (.d Y1 a))],4⟩:=by kernel_rfl
theorem aqm (y:(Y2).den)(a:(Y1).den)(c:List de) i j b n {R} (k:AEx->LSt->Option R):lp cp aO uv (n+1) (uw bc y a c i b j) k=bif a7 (j<bd c.length)then (idx c j).bind λg=>(match c[j.toNat]? with|none=>a6|some e=>bif e.1==a.1 then (idx c j).bind λh=>(match c[j.toNat]? with|none=>a6|some f=>bif f.2.1 !=a.2.1 then k .ret ⟨az 7 [(1,.os 0 1),(2,.op 1 [] 0),(4,I 4),(5,I i),(6,.op 2 [] 0),(7,B bc),(8,I j),(29,I j),(30,.os 0 1),(31,I (.ofNat c.length)),(32,B bc),(35,.os 0 1),(36,I j),(37,.oe 0 1 j.toNat),(38,.ip _ e.1),(39,.d _ e.1),(40,.op 2 [0] 0),(41,.d _ a.1),(42,B bc),(43,.os 0 1),(44,I j),(45,.oe 0 1 j.toNat),(46,.ip (aa) f.2.1),(47,I f.2.1),(48,.op 2 [1] 1),(49,I a.2.1),(50,B bc)],[(0,.arr 228 Y9 1 bc c),(1,.box (.d Y2 y)),(2,.box (.d Y1 a))],4⟩else lp cp aO uv n (uw bc y a c i bc (i64.wrap (j+1))) k)else lp cp aO uv n (uw bc y a c i b (i64.wrap (j+1))) k)else k (.exit 2) ⟨az 7 [(1,.os 0 1),(2,.op 1 [] 0),(5,I i),(6,.op 2 [] 0),(7,B b),(8,I j),(29,I j),(30,.os 0 1),(31,I (.ofNat c.length)),(32,B a8)],[(0,.arr 228 Y9 1 bc c),(1,.box (.d Y2 y)),(2,.box (.d Y1 a))],4⟩:=by kernel_rfl
theorem aqn y a b i j m n:lp cp aO LX (n+1) (LY y a b i j) (KRc m vW)=bif a7 (j<i)then (idx y.2.2.2.2.1 j).bind λc=>bif c.1==a.1 then ar (.ret [I 4],[(0,.arr 228 Y9 1 bc b)])else lp cp aO LX n (LY y a b i (i64.wrap (j+1))) (KRc m vW)else bif a.2.1==1 then bif !aQ 1 a.2.2.1 then ar (.ret [I 4],[(0,.arr 228 Y9 1 bc b)])else lpH cp aO [3,8,17,24] (hlp cp aO) oW m (tg bc y b (i64.wrap (i+1))) vW else lpH cp aO [3,8,17,24] (hlp cp aO) oW m (tg bc y b (i64.wrap (i+1))) vW:=by kernel_rfl
theorem awW (y:(Y2).den)(a:List de) j n:lp cp aO rS (n+1) (rT a8 y a j) M4=bif a7 (j<bd a.length)then (idx a j).bind λe=>(match a[j.toNat]? with|none=>a6|some b=>(idx a j).bind λf=>(match a[j.toNat]? with|none=>a6|some c=>bif HJ y b.1 c.2.1 then (idx a j).bind λg=>(match a[j.toNat]? with|none=>a6|some d=>bif d.2.2.1 then bif !(uq y b.1 c.2.1).2 then ar (.ret [I 4],[(0,.arr 228 Y9 1 bc a)])else lp cp aO rS n (rT bc y a (i64.wrap (j+1))) M4 else lp cp aO rS n (rT bc y a (i64.wrap (j+1))) M4)else a6))else ar (.ret [I 0],[(0,.arr 228 Y9 1 a8 a)]):=by kernel_rfl
theorem aFP (y:(Y2).den)(a:List de) j n:lp cp aO rS (n+1) (rT bc y a j) M4=bif a7 (j<bd a.length)then (idx a j).bind λe=>(match a[j.toNat]? with|none=>a6|some b=>(idx a j).bind λf=>(match a[j.toNat]? with|none=>a6|some c=>bif HJ y b.1 c.2.1 then (idx a j).bind λg=>(match a[j.toNat]? with|none=>a6|some d=>bif d.2.2.1 then bif !(uq y b.1 c.2.1).2 then ar (.ret [I 4],[(0,.arr 228 Y9 1 bc a)])else lp cp aO rS n (rT bc y a (i64.wrap (j+1))) M4 else lp cp aO rS n (rT bc y a (i64.wrap (j+1))) M4)else a6))else ar (.ret [I 0],[(0,.arr 228 Y9 1 bc a)]):=by kernel_rfl
theorem awX c y a (e:List de) i j N b n:aFN c n vW (.exit 2) ⟨az 7 [(1,.os 0 1),(2,.op 1 [] 0),(5,I i),(6,.op 2 [] 0),(7,B b),(8,I j),(29,I j),(30,.os 0 1),(31,I N),(32,B a8)],[(0,.arr 228 _ 1 bc e),(1,.box (.d _ y)),(2,.box (.d _ a))],4⟩=bif !b then ar (.ret [I 5],[(0,.arr 228 Y9 1 bc e)])else c LX _ (LY y a e i 0) (aI 4 (aL cp aO [3,8,17,24] c aFL (aI 1 (aL cp aO [3,8,17,24] c adQ (lJ cp aO [3,8,17,24] c oW n vW))))):=by kernel_rfl
theorem adR a z y (b:List de) i N:aFM a (.exit 0) ⟨az 7 [(1,.os 0 1),(2,.op 1 [] 0),(5,I i),(17,I i),(18,.op 1 [4] 4),(19,.d _ y.2.2.2.2.1),(20,I N),(21,B a8)],[(0,.arr 228 _ 1 z b),(1,.box (.d Y2 y))],3⟩=a rS _ (rT z y b 0) (aI 6 (aL cp aO [3,8,17,24] a (cR (cR (cR (cR rR)))) (aV prog 1 f168.results.toList ah))):=by kernel_rfl
def HO (a:List de):LHp:=[(0,.arr 228 _ 1 bc a)]
theorem CI {b a j}{w:b}(h:idx a j=ar w):a[j.toNat]?=ar w:=by grind [idx]
theorem adS z {y} (c:y.2.2.2.2.1.length<=maxLen) a j n:lp cp aO rS (n+1) (rT z y a j) M4=
  bif a7 (j<.ofNat a.length)then (idx a j).bind λw=>bif Za y.2.2.2.2.1 w then ar (.ret [I 4],HO a)else lp cp aO rS n (rT bc y a (i64.wrap (j+1))) M4 else ar (.ret [I 0],[(0,.arr 228 _ 1 z a)]):=by
 let key:∀w:de,(bif HJ y w.1 w.2.1 then bif w.2.2.1 then (bif !(uq y w.1 w.2.1).2 then ar (.ret [I 4],HO a)else lp cp aO rS n (rT bc y a (i64.wrap (j+1))) M4)else lp cp aO rS n (rT bc y a (i64.wrap (j+1))) M4 else a6)=bif Za y.2.2.2.2.1 w then ar (.ret [I 4],HO a)else lp cp aO rS n (rT bc y a (i64.wrap (j+1))) M4:=λw=>by
  let ⟨g1,g2⟩:=CE y w.1 w.2.1 (CF c);rw[g1,ai];let g3:(uq y w.1 w.2.1).2=(y.2.2.2.2.1.find? (ie w.1 w.2.1)).isSome:=by grind
  rw[g3];unfold Za;grind
 cases z with
 |false=>
  rw[awW];cases a7 (j<.ofNat a.length)with|false=>rfl|true=>rw[ai,ai];cases b:idx a j with|none=>rfl|some w=>simp only[aw,CI b];exact key w
 |true=>
  rw[aFP];cases a7 (j<.ofNat a.length)with|false=>rfl|true=>rw[ai,ai];cases b:idx a j with|none=>rfl|some w=>simp only[aw,CI b];exact key w
theorem awY (z:Bool){y:(Y2).den}(c:y.2.2.2.2.1.length<=maxLen){f:de}{b:List de}(d:(f::b).length<=maxLen):lp cp aO rS fu (rT z y (f::b) 0) M4=ar (.ret [I (bif (f::b).any (Za y.2.2.2.2.1)then 4 else 0)],HO (f::b)):=by
 have key:∀(l:List de) (z:Bool),(l=[]->z=bc)->bG (λ(_:Bool) w=>bif Za y.2.2.2.2.1 w then WI (ar (aq.ret [I 4],HO (f::b)))else .go bc) (λz=>ar (aq.ret [I 0],[(0,.arr 228 (Y9) 1 z (f::b))])) l z=ar (.ret [I (bif l.any (Za y.2.2.2.2.1)then 4 else 0)],HO (f::b)):=by intro l;induction l with|nil=>intro z e;rw[e rfl]<;>rfl|cons w l k=>grind [bG]
 refine(cg (xs:=f::b) (T:=λn s=>lp cp aO rS n s M4) (st:=λ(i:Int) (z:Bool)=>rT z y (f::b) i) (f:=λ(_:Bool) w=>bif Za y.2.2.2.2.1 w then WI (ar (aq.ret [I 4],HO (f::b)))else .go bc) (fin:=λz=>ar (aq.ret [I 0],[(0,.arr 228 (Y9) 1 z (f::b))])) (λ_ _=>True) d ?_ ?_ (a:=z) trivial).trans (key _ z λh=>by cases h)
 ·intro i z w n _ m o p q g;have j:=adS z c (f::b) (i:Int) n;grind
 ·intro z n _ g;have j:=adS z c (f::b) ((f::b).length:Int) n;grind
def zx (a:List de)(c:Int):Option (aq×LHp):=ar (.ret [I c],HO a)
noncomputable def rcR (y:(Y2).den)(a:(Y1).den) fs i m  :=
 bif (y.2.2.2.2.1.take i).any λb=>b.1==a.1 then zx fs 4 else bif a.2.1==1&& !aQ 1 a.2.2.1 then zx fs 4 else lp cp aO oW m (tg bc y fs (i64.wrap (i+1))) vW
theorem aw0 {y} a d {i:Nat} (r:i<=y.2.2.2.2.1.length) (t:y.2.2.2.2.1.length<=maxLen) m:lp cp aO LX fu (LY y a d i 0) (KRc m vW)=rcR y a d i m:=by
 let g:(y.2.2.2.2.1.take i).length=i:=by rw[fl];omega
 let key:∀l:bu,bG (λ_ b=>bif b.1==a.1 then .stop (zx d 4)else .go ()) (λ_=>bif a.2.1==1&& !aQ 1 a.2.2.1 then zx d 4 else lp cp aO oW m _ vW) l ()=bif l.any λb=>b.1==a.1 then zx d 4 else bif a.2.1==1&& !aQ 1 a.2.2.1 then zx d 4 else lp cp aO oW m (tg bc y d (i64.wrap (i+1))) vW:=by intro l;induction l with|nil=>rfl|cons b l u=>grind [bG]
 refine(cg (xs:=y.2.2.2.2.1.take i) (T:=λn s=>lp cp aO LX n s (KRc m vW)) (st:=λj _=>LY y a d i j) (f:=λ_ b=>bif b.1==a.1 then .stop (zx d 4)else .go ()) (fin:=λ_=>bif a.2.1==1&& !aQ 1 a.2.2.1 then zx d 4 else lp cp aO oW m (tg bc y d (i64.wrap (i+1))) vW) (λ_ _=>True) (by omega) ?_ ?_ (a:=()) trivial).trans (key _)
 ·intro j _ b n _ o v _ p h
  rw[g]at o h;let q:idx y.2.2.2.2.1 j=ar b:=by grind [idx]
  let e:=aqn y a d i j m n;rw[show a7 ((j:Int)<(i:Int))=bc from h,ai,q,aw,p]at e;cases c:b.1==a.1 with|true=>rw[c,ai]at e;exact .inr ⟨_,rfl,e⟩|false=>rw[c,al]at e;exact .inl ⟨(),rfl,trivial,e⟩
 ·intro _ n _ h
  rw[g]at h⊢;let e:=aqn y a d i i m n;rw[show a7 ((i:Int)<(i:Int))=a8 from h,al]at e;rw[kU]at e;show lp cp aO LX (n+1) (LY y a d i i) (KRc m vW)=bif a.2.1==1&& !aQ 1 a.2.2.1 then zx d 4 else lp cp aO oW m (tg bc y d (i64.wrap (i+1))) vW
  cases c:a.2.1==1 with|false=>rw[c,al]at e;rw[so,al];exact e|true=>rw[c,ai]at e;rw[gb];cases k:aQ 1 a.2.2.1 with|false=>rw[k,hX,ai]at e;rw[hX,ai];exact e|true=>rw[k,cy,al]at e;rw[cy,al];exact e
theorem aw1 y a b i m:hlp cp aO LX _ (LY y a b i 0) (KRc m vW)=lp cp aO LX fu (LY y a b i 0) (KRc m vW):=rfl
theorem aw2 z y a c i j b n m w (d:idx c j=ar w) (e:a7 (j<.ofNat c.length)=bc):lp cp aO uv (n+1) (uw z y a c i b j) (KRb m vW)=
  bif w.1==a.1 then bif w.2.1 !=a.2.1 then zx c 4 else lp cp aO uv n (uw bc y a c i bc (i64.wrap (j+1))) (KRb m vW)else lp cp aO uv n (uw bc y a c i b (i64.wrap (j+1))) (KRb m vW):=by
 cases z with
 |false=>
  rw[awV,e,ai,d];simp only[aw,CI d];cases w.1==a.1 with|false=>rw[al,al]<;>rfl|true=>cases w.2.1 !=a.2.1 with|false=>rw[al,al]<;>rfl|true=>kernel_rfl
 |true=>
  rw[aqm,e,ai,d];simp only[aw,CI d];cases w.1==a.1 with|false=>rw[al,al]<;>rfl|true=>cases w.2.1 !=a.2.1 with|false=>rw[al,al]<;>rfl|true=>kernel_rfl
theorem aw3 (z:Bool){y:(Y2).den}(a:(Y1).den){f:de}{b:List de}(g:(f::b).length<=maxLen){i:Nat}(k:i<=y.2.2.2.2.1.length)(o:y.2.2.2.2.1.length<=maxLen)(m:Nat):
  lp cp aO uv fu (uw z y a (f::b) (i:Int) a8 0) (KRb m vW)=bif (f::b).any (λw=>w.1==a.1&&w.2.1 !=a.2.1)then zx (f::b) 4 else bif !((f::b).any λw=>w.1==a.1)then zx (f::b) 5 else rcR y a (f::b) i m:=by
 have key:∀(l:List de) (s:Bool×Bool),(l=[]->s.1=bc)->bG (λ(s:Bool×Bool) (w:de)=>bif w.1==a.1 then (bif w.2.1 !=a.2.1 then WI (zx (f::b) 4)else .go (bc,bc))else .go (bc,s.2)) (λs=>bif s.1 then (bif !s.2 then zx (f::b) 5 else rcR y a (f::b) i m)else a6) l s=bif l.any (λw=>w.1==a.1&&w.2.1 !=a.2.1)then zx (f::b) 4 else bif !(s.2||l.any λw=>w.1==a.1)then zx (f::b) 5 else rcR y a (f::b) i m:=by intro l;induction l with|nil=>intro s e;rw[bG,e rfl,ai,List.any_nil,List.any_nil,al,Bool.or_false]|cons w l v=>grind [bG]
 refine(cg (xs:=f::b) (T:=λn s=>lp cp aO uv n s (KRb m vW)) (st:=λ(j:Int) (s:Bool×Bool)=>uw s.1 y a (f::b) (i:Int) s.2 j) (f:=λ(s:Bool×Bool) (w:de)=>bif w.1==a.1 then (bif w.2.1 !=a.2.1 then WI (zx (f::b) 4)else .go (bc,bc))else .go (bc,s.2)) (fin:=λs=>bif s.1 then (bif !s.2 then zx (f::b) 5 else rcR y a (f::b) i m)else a6) (λj s=>j≠0->s.1=bc) g ?_ ?_ (a:=(z,a8)) (λh=>absurd rfl h)).trans (key _ (z,a8) λh=>by cases h)
 ·intro j s w n _ x A p B d;have e:=aw2 s.1 y a (f::b) (i:Int) (j:Int) s.2 n m w p d;grind
 ·intro s n q d
  obtain⟨r,c⟩:=s;have t:r=bc:=q (by simp);subst t;have u:lp cp aO uv (n+1) (uw bc y a (f::b) (i:Int) c ((f::b).length:Int)) (KRb m vW)=bif !c then zx (f::b) 5 else rcR y a (f::b) i m:=by rw[aqm,d,al];refine(awX (hlp cp aO) y a (f::b) (i:Int) _ _ c m).trans ?_;cases c with|false=>rw[hX,ai,ai]<;>rfl|true=>rw[cy,al,al];exact(aw1 y a (f::b) (i:Int) m).trans (aw0 a (f::b) k o m)
  exact u
theorem adT z y a:hlp cp aO rS _ (rT z y a 0) M4=lp cp aO rS fu (rT z y a 0) M4:=rfl
theorem aw4 y a:hlp cp aO oW _ (tg a8 y a 0) vW=lp cp aO oW fu (tg a8 y a 0) vW:=rfl
theorem adU (z:Bool)(y:(Y2).den)(b:List de)(i:Int)(n:Nat):lp cp aO oW (n+1) (tg z y b i) vW=bif a7 (i<bd y.2.2.2.2.1.length)then (idx y.2.2.2.2.1 i).bind λa=>lp cp aO uv fu (uw z y a b i a8 0) (KRb n vW)else lp cp aO rS fu (rT z y b 0) M4:=by
 cases z with
 |false=>rw[awU];cases a7 (i<bd y.2.2.2.2.1.length)with|true=>rw[ai,ai]<;>rfl|false=>rw[al,al];exact(adR (hlp cp aO) a8 y b i _).trans (adT a8 y b)
 |true=>rw[aFO];cases a7 (i<bd y.2.2.2.2.1.length)with|true=>rw[ai,ai]<;>rfl|false=>rw[al,al];exact(adR (hlp cp aO) bc y b i _).trans (adT bc y b)
theorem aw5 {y}(e:y.2.2.2.2.1.length<=maxLen){f b}(h:(f::b).length<=maxLen):lp cp aO oW fu (tg a8 y (f::b) 0) vW=zx (f::b) (CH (f::b) y.2.2.2.2.1):=by
 let key:∀(l c:bu) (z:Bool),bG (λs a=>bif atR (f::b) s.2 a !=0 then .stop (zx (f::b) (atR (f::b) s.2 a))else .go (bc,s.2++[a])) (λ_=>zx _ _) l (z,c)=zx (f::b) (bif arL _ c l !=0 then arL (f::b) c l else bif (f::b).any (Za y.2.2.2.2.1)then 4 else 0):=by intro l;induction l with|nil=>intro c z;rfl|cons a l r=>intro c z;rw[bG,arL];grind
 refine(cg (T:=λn s=>lp cp aO oW n s vW) (st:=λi s=>tg s.1 y _ i) (f:=λs a=>bif atR _ s.2 a !=0 then .stop _ else .go (bc,s.2++[a])) (λi s=>s.2=y.2.2.2.2.1.take i) e ?_ ?_ (a:=(a8,[])) rfl).trans (key _ [] a8)
 ·intro i s a n k m t o p g
  let d:=adU s.1 y (f::b) i n;rw[g,ai,o,aw,aw3 s.1 a h (Nat.le_of_lt m) e n]at d;unfold rcR at d;rw[←k,p]at d;unfold atR;cases j:(f::b).any λw=>w.1==a.1&&w.2.1 !=a.2.1 with|true=>rw[j,ai]at d;exact .inr ⟨_,rfl,d⟩|false=>rw[j,al]at d;cases q:(f::b).any λw=>w.1==a.1 with|false=>rw[q,hX,ai]at d;exact .inr ⟨_,rfl,d⟩|true=>grind [List.take_add_one]
 ·intro s n _ g;show lp cp aO oW (n+1) (tg s.1 y (f::b) y.2.2.2.2.1.length) vW=_;rw[adU,g,al];exact awY s.1 e h
def aw6 :List AV->LHp->Tq
 |[.d Y2 y,.os 0 0],[(0,.arr 228 Y9 0 a8 a)]=>.br (aE y.2.2.2.2.1&&a7 (a.length<=2147483648)) (.leaf (.ret [I (CH (a++[ou]) y.2.2.2.2.1)]) (HO (a++[ou]))) .no
 |_,_=>.no
theorem am3 :bq 168 (ay aw6):=by
 let k:=bM (d:=7) (l:=[(3,[1,2,5]),(8,[1,2,5,6,7,8]),(17,[1,2,5,6,9]),(24,[1,2,10])]) V7 func168 call168;refine aY λi o p q g=>?_
 unfold aw6 at g;split at g
 ·rename_i y a
  let ⟨h,m⟩:=eN g;rw[aX]at h;let s:=bz h.1;let t:=bt h.2;let u:maxLen=9223372036854775807:=by decide
  refine k.okC (gp ?_ m);let b:app a _=ar (a++[ou]):=eX (by rw[show lim=4294967296 from rfl,eS];omega);let e:=awR y a;rw[show ([(([116,104,101,110]:ao),(3:Int),a8,.unit)]:List de)=[ou]from rfl,b,aw]at e;refine e.trans ((aw4 y _).trans ?_);let n:∃f r,a++[ou]=f::r:=by cases a with|nil=>exact⟨ou,[],rfl⟩|cons f r=>exact⟨f,_,rfl⟩
  let ⟨f,r,j⟩:=n;let c:(f::r).length<=maxLen:=by rw[←j,bK,eS];omega
  rw[j];exact aw5 (by omega) c
 ·cases g
def Fi  :=aU f30
def V8  :=cL<|cL<|cR<|cL<|cR Fi
def Pc :Code:=cL (cL (cR (cL (cR (cR (cR (cR Fi)))))))
def fU :Cfg:=⟨48,6,0,[(2,[0,4]),(10,[0,5,6])],bc⟩
def LZ d  :=bT [aa,aa]<|aB xr f30 6 [(2,[0,4]),(10,[0,5,6])] [.d (.slice aa) d] [] ah
def D4 d  :=(LZ d).isSome
def th d  :=(LZ d).getD<|dS _
def am4  :=cC [.slice aa] _ λd=>(D4 d,th d)
theorem HP :bq 30 am4:=bh GS<|by simp only[dg];exact λd h=>aZ h
theorem ux {a} d (h:LZ d=ar a):D4 d=bc/\th d=a:=bU h
def Fj (d:af)(i:Int):LSt:=⟨az 6 [(0,.d (.slice aa) d),(4,I i)],[],0⟩
theorem aw7 (d:af):aB xr f30 6 [(2,[0,4]),(10,[0,5,6])] [.d (.slice aa) d] [] ah=(hlp xr fU) V8 _ (Fj d 0) (aI 0 (aL xr fU [2,10] (hlp xr fU) (cR (cR Fi)) (aV prog 0 f30.results.toList ah))):=(aW [2,10] fU rfl).trans (by obtain⟨a,h⟩:=aM xr fU;rw[h];kernel_rfl)
def aw8 a  :=aI 0<|aL xr fU [2,10] a (cR<|cR Fi)<|aV prog 0 f30.results.toList ah
def am5  :=aw8<|hlp xr fU
def V9  :=aI 2<|aL xr fU [2,10] (hlp xr fU) (cR<|cR<|cR<|cR<|cR Fi)<|aV prog 0 f30.results.toList ah
def CJ (d:af)(p i:Int):LSt:=⟨az 6 [(0,.d (.slice aa) d),(5,I p),(6,I i)],[],0⟩
theorem aw9 d i n {R} (k:AEx->LSt->Option R):lp xr fU V8 (n+1) (Fj d i) k=bif i<.ofNat d.length then (idx d i).bind λa=>bif a<1 then k .ret ⟨az 6 [(0,.d (aa).slice d),(2,I 0),(3,I 4),(4,I i),(7,I i),(8,.d (aa).slice d),(9,I<| .ofNat d.length),(10,B bc),(13,.d (aa).slice d),(14,I i),(15,.ip aa a),(16,I a),(17,B bc)],[],0⟩else lp xr fU V8 n (Fj d<|i64.wrap<|i+1) k else k (.exit 0) ⟨az 6 [(0,.d (aa).slice d),(4,I i),(7,I i),(8,.d (aa).slice d),(9,I<| .ofNat d.length),(10,B a8)],[],0⟩:=by kernel_rfl
theorem axa a (d:af) i:aw8 a (.exit 0) ⟨az 6 [(0,.d (aa).slice d),(4,I i),(7,I i),(8,.d (aa).slice d),(9,I<| .ofNat d.length),(10,B a8)],[],0⟩=bif bd d.length>6 then ak [I 0,I 6]else a Pc _ (CJ d 1 0) (aI 2<|aL xr fU [2,10] a (cR<|cR<|cR<|cR<|cR Fi)<|aV prog 0 f30.results.toList ah):=by kernel_rfl
theorem adV d p i n:lp xr fU Pc (n+1) (CJ d p i) V9=bif i<.ofNat d.length then (idx d i).bind λa=>bif a>65536 then ak [I 0,I 6]else (idx d i).bind λb=>bif i64.wrap (p*b)>65536 then ak [I 0,I 6]else (idx d i).bind λc=>lp xr fU Pc n (CJ d (i64.wrap<|p*c)<|i64.wrap<|i+1) V9 else ak [I p,I 0]:=by kernel_rfl
theorem ov n:∀a:af,a.foldl (· * ·) n=n*cM a
 |[]=>by simp[cM]
 |x::a=>by unfold cM;simp only[List.foldl_cons,Int.one_mul];rw[ov,ov,Int.mul_assoc]
theorem adW x (a:af):cM (x::a)=x*cM a:=by rw[←ov];unfold cM;simp
theorem Wa {a}(h:∀x∈a,1<=x):1<=cM a:=by let:=sB h a.length;grind
def fCt (p v:Int):Nx Int (aq×LHp):=bif v>65536 then .stop (ar (.ret [I 0,I 6],[]))else bif p*v>65536 then .stop (ar (.ret [I 0,I 6],[]))else .go<|p*v
theorem Sj :∀(a:af) (p:Int),(∀x∈a,1<=x)->1<=p->p<=65536->bG fCt (λp=>ar (.ret [I p,I 0],[])) a p=bif a7 (p*cM a>65536)then ar (.ret [I 0,I 6],[])else ar (.ret [I (p*cM a),I 0],[])
 |[],p,_,_,g=>by rw[bG,show cM []=1 from rfl,Int.mul_one,cq (by omega)]<;>rfl
 |v::a,p,e,f,g=>by
  have i:=e v (ku ..);have b:∀x∈a,1<=x:=λx h=>e x (m3 _ h)
  have hp:=Wa b;rw[bG,adW,←Int.mul_assoc];have c:1<=p*v:=by have:=Qb f i (by omega) (by omega);omega
  have d:p*v<=p*v*cM a:=by have:=Int.mul_le_mul_of_nonneg_left hp (show 0<=p*v by omega);omega
  unfold fCt;by_cases j:v>65536
  ·have:v<=p*v:=by have:=Int.mul_le_mul_of_nonneg_right f (show 0<=v by omega);omega
   grind
  ·rw[cq j,al]
   by_cases k:p*v>65536
   ·grind
   ·rw[cq k,al];exact Sj a (p*v) b c (by omega)
theorem axb {d:af}(c:∀x∈d,1<=x)(r:d.length<=6):lp xr fU Pc fu (CJ d 1 0) V9=bif xp d then ar (.ret [I 0,I 6],[])else ar (.ret [I (cM d),I 0],[]):=by
 have t:maxLen=9223372036854775807:=by decide
 refine(cg (xs:=d) (T:=λn s=>lp xr fU Pc n s V9) (st:=λ(i:Int) (p:Int)=>CJ d p i) (f:=fCt) (fin:=λp=>ar (.ret [I p,I 0],[])) (λ(_:Nat) (p:Int)=>1<=p/\p<=65536) (by omega) ?_ ?_ (a:=1) ⟨by decide,by decide⟩).trans ?_
 ·intro i p v n e _ k l m g
  have o:=c v (ik k);have b:=adV d p (i:Int) n;rw[g,ai,l,aw]at b;unfold fCt;by_cases h:v>65536
  ·grind
  ·have q:1<=p*v:=by have:=Qb e.1 o (by omega) (by omega);omega
   have u:p*v<=65536*65536:=Qb e.2 (by omega) (by omega) (by omega);rw[cq h,al,aw,aH (by omega) (by omega)]at b;rw[cq h,al];by_cases j:p*v>65536
   ·grind
   ·rw[cq j,al,aw,aH (by omega) (by omega),m]at b;rw[cq j,al];exact .inl ⟨p*v,rfl,⟨q,by omega⟩,b⟩
 ·intro p n _ g;have b:=adV d p (d.length:Int) n;grind
 ·rw[Sj d 1 c (by decide) (by decide),Int.one_mul]<;>rfl
theorem axc d:hlp xr fU V8 _ (Fj d 0) am5=lp xr fU V8 fu (Fj d 0) am5:=rfl
theorem axd d:hlp xr fU Pc _ (CJ d 1 0) V9=lp xr fU Pc fu (CJ d 1 0) V9:=rfl
theorem rU {d:af}(j:d.length<=maxLen):LZ d=ar (aN d,aC d):=by
 have p:maxLen=9223372036854775807:=by decide
 have k:=λ(i:Int) (n:Nat)=>aw9 d i n am5
 have h:=fF (T:=λn s=>lp xr fU V8 n s am5) (xs:=d) (st:=λi=>Fj d i) j k;have e:=(aw7 d).trans ((axc d).trans h);unfold LZ;rw[e];unfold aN aC;rw[vh];cases b:d.findIdx? (λx=>decide (x<1))with
 |some i=>obtain⟨f,hp,_⟩:=fk.1 b;rw[show d.any (λx=>decide (x<1))=bc from tr.2 ⟨_,rm f,hp⟩];simp only[dv f,aw];show _=_;kernel_rfl
 |none=>
  have g:=yd.1 b;rw[show d.any (λx=>decide (x<1))=a8 by rw[v7];intro x a;rw[g x a];decide,al,al];have l:∀x∈d,1<=x:=λx a=>by have:=uQ (g x a);omega
  have a:=axa (hlp xr fU) d (bd d.length);show bT [aa,aa] (aw8 (hlp xr fU) (.exit 0) _)=_;rw[a];by_cases c:bd d.length>6
  ·rw[aF c]<;>rfl
  ·rw[cq c,al,al,al]
   have m:d.length<=6:=by simp only[aK]at c;omega
   have o:=(axd d).trans (axb l m);refine(congrArg (bT [aa,aa]) o).trans ?_;cases xp d<;>rfl
def aqo  :=aU f67
def Wb  :=cL (cL (cR (cL (cR (cR (cR (cR (cR aqo))))))))
def oX :Cfg:=⟨38,6,0,[(9,[1,3,5])],bc⟩
def zy  :=((GU.add 114 (fnE akc)).add 30 am4).add 115 (fnE xo)
theorem Wc :zy.Good:=((rD.add Rl).add HP).add qd
def Wd t  :=bT [aa] (aB zy f67 6 [(9,[1,3,5])] [.d Y0 t] [] ah)
def We t  :=(Wd t).isSome
def Wf t  :=(Wd t).getD (dS _)
def axe  :=cC [Y0] _ λt=>(We t,Wf t)
theorem Sk :bq 67 axe:=bh (bM Wc func67 call67 (h2:=rfl)) (by simp only[dg];exact λt h=>aZ h)
theorem adX {a} t (h:Wd t=ar a):We t=bc/\Wf t=a:=bU h
def Wg (t:(Y0).den)(c i:Int):LSt:=⟨az 6 [(1,.op 0 [] 0),(3,I c),(5,I i)],[(0,.box (.d _ t))],1⟩
def KTc  :=aI 0 (aL zy oX [9] (hlp zy oX) (cR (cR (cR (cR (cR (cR aqo)))))) (aV prog 0 f67.results.toList ah))
theorem axf t:aB zy f67 6 [(9,[1,3,5])] [.d Y0 t] [] ah=bif !aQ t.1 0 then ak [I 5]else bif D4 t.2.1 then bif (th t.2.1).2 !=0 then ak [I (th t.2.1).2]else bif bd (bk t.2.2.1) !=(th t.2.1).1 then ak [I 4]else (hlp zy oX) Wb _ (Wg t (th t.2.1).1 0) KTc else a6:=(aW [9] oX rfl).trans (by obtain⟨a,h⟩:=aM zy oX;rw[h];kernel_rfl)
theorem aFQ t c i n:lp zy oX Wb (n+1) (Wg t c i) KTc=bif a7 (i<c)then (idx t.2.2.1 i).bind λa=>bif !aQ t.1 a then ak [I 4]else lp zy oX Wb n (Wg t c (i64.wrap (i+1))) KTc else ak [I 0]:=by kernel_rfl
theorem aFR t c:hlp zy oX Wb _ (Wg t c 0) KTc=lp zy oX Wb fu (Wg t c 0) KTc:=rfl
theorem adY {t}(c:t.2.1.length<=maxLen)(d:t.2.2.1.length<=maxLen):Wd t=ar (gz t.1 t.2.1 t.2.2.1):=by
 let ⟨g1,g2⟩:=ux t.2.1 (rU c);let h:=fF (T:=λn s=>lp zy oX Wb n s KTc) d λi n=>aFQ t _ i n
 let f:=rP (g:=λb=>(.ret [I (bif b then 4 else 0)],[])) h (λ_ _=>rfl) rfl;let e:=axf t;rw[g1,g2]at e;unfold Wd gz;rw[e];cases aQ t.1 0 with
 |false=>rfl
 |true=>
  cases k:aC t.2.1 !=0 with
  |true=>rfl
  |false=>
   cases l:.ofNat _ !=aN t.2.1 with
   |true=>rfl
   |false=>
    let j:aN t.2.1=.ofNat (bk t.2.2.1):=by grind
    let a:=aFR t (aN t.2.1);rw[j]at a⊢;refine(congrArg _ (a.trans f)).trans ?_;rfl
def aqp  :=aU f37
def Pd  :=cL (cL (cR (cL (cR (cR aqp)))))
def nD :Cfg:=⟨26,5,0,[(4,[0,1,5])],bc⟩
def Wh a b  :=bT [.bool] (aB qb f37 5 [(4,[0,1,5])] [.d (.slice aa) a,.d (.slice aa) b] [] ah)
def am6 a b  :=(Wh a b).isSome
def am7 a b  :=(Wh a b).getD (dS _)
def axg  :=cC [.slice aa,.slice aa] _ λa b=>(am6 a b,am7 a b)
theorem Sl :bq 37 axg:=bh aba (by simp only[dg];exact λa b h=>aZ h)
theorem adZ {c} a b (h:Wh a b=ar c):am6 a b=bc/\am7 a b=c:=bU h
def Pe (a b:af)(i:Int):LSt:=⟨az 5 [(0,.d (.slice aa) a),(1,.d (.slice aa) b),(5,I i)],[],0⟩
def KSm  :=aI 0 (aL qb nD [4] (hlp qb nD) (cR (cR (cR aqp))) (aV prog 0 f37.results.toList ah))
theorem axh (a b:af):aB qb f37 5 [(4,[0,1,5])] [.d (.slice aa) a,.d (.slice aa) b] [] ah=bif .ofNat a.length !=bd b.length then ak [B a8]else (hlp qb nD) Pd _ (Pe a b 0) KSm:=(aW [4] nD rfl).trans (by obtain⟨c,h⟩:=aM qb nD;rw[h];kernel_rfl)
theorem aqq a b i n:lp qb nD Pd (n+1) (Pe a b i) KSm=bif a7 (i<.ofNat a.length)then (idx a i).bind λc=>(idx b i).bind λd=>bif c !=d then ak [B a8]else lp qb nD Pd n (Pe a b (i64.wrap (i+1))) KSm else ak [B bc]:=by kernel_rfl
theorem aFS a b:hlp qb nD Pd _ (Pe a b 0) KSm=lp qb nD Pd fu (Pe a b 0) KSm:=rfl
theorem ad0 {a b:af}(o:a.length<=maxLen):Wh a b=ar (a7 (a=b)):=by
 have t:maxLen=9223372036854775807:=by decide
 unfold Wh;rw[axh];cases c:bd a.length !=bd b.length with
 |true=>
  have:a.length≠b.length:=λe=>by rw[e]at c;simp at c
  rw[cq (λe=>this (by rw[e]))]<;>rfl
 |false=>
  have g:a.length=b.length:=by grind
  rw[al]
  have h:lp qb nD Pd fu (Pe a b 0) KSm=bif (hW a.length).any (λi=>a.getD i 0 !=b.getD i 0)then ar (.ret [B a8],[])else ar (.ret [B bc],[]):=by
   refine(fq (N:=a.length) (T:=λn s=>lp qb nD Pd n s KSm) (st:=λ(i:Int) (_:Unit)=>Pe a b i) (f:=λ(_:Unit) i=>bif a.getD i 0 !=b.getD i 0 then .stop (ar (.ret [B a8],[]))else .go ()) (fin:=λ_=>ar (.ret [B bc],[])) (λ_ _=>True) o ?_ ?_ (a:=()) trivial).trans ?_
   ·intro i _ n _ p q k;have d:=aqq a b (i:Int) n;rw[k,ai,eM p,eM (show i<b.length by omega),aw,aw,q]at d;cases m:a.getD i 0 !=b.getD i 0 with|true=>rw[m,ai]at d;exact .inr ⟨_,rfl,d⟩|false=>rw[m,al]at d;exact .inl ⟨(),rfl,trivial,d⟩
   ·intro _ n _ k;have d:=aqq a b (a.length:Int) n;grind
   ·have key:∀l:List Nat,bG (λ(_:Unit) i=>bif a.getD i 0 !=b.getD i 0 then .stop (ar (aq.ret [B a8],([]:LHp)))else .go ()) (λ_=>ar (.ret [B bc],[])) l ()=bif l.any (λi=>a.getD i 0 !=b.getD i 0)then ar (.ret [B a8],[])else ar (.ret [B bc],[]):=by
     intro l
     induction l with|nil=>rfl|cons i l u=>grind [bG]
    exact key _
  refine(congrArg (bT [.bool]) ((aFS a b).trans h)).trans ?_;by_cases j:a=b
  ·subst j;rw[show (hW a.length).any (λi=>a.getD i 0 !=a.getD i 0)=a8 by rw[v7];intro i _;simp,aF rfl]<;>rfl
  ·rw[show (hW a.length).any (λi=>a.getD i 0 !=b.getD i 0)=bc from ?_,cq j]
   ·rfl
   ·cases r:(hW a.length).any (λi=>a.getD i 0 !=b.getD i 0)with|true=>rfl|false=>exfalso;rw[v7]at r;refine j (List.ext_getElem g λi v w=>?_);simp_all
def axj  :=(((((g90.add 166 (ay ofT)).add 167 amP).add 168 (ay aw6)).add 119 awM).add 88 amU).add 67 axe
theorem Wi :axj.Good:=(((((rF.add awx).add HG).add am3).add Si).add HK).add Sk
def Wj y  :=bT [aa] (aB axj f116 6 [] [.d Y2 y] [] ah)
def axk y  :=(Wj y).isSome
def am8 y  :=(Wj y).getD (dS _)
def aFT  :=cC [Y2] _ λy=>(axk y,am8 y)
theorem am9 :bq 116 aFT:=bh (bM Wi func116 call116 (h2:=rfl)) (by simp only[dg];exact λy h=>aZ h)
theorem axl {a} y (h:Wj y=ar a):axk y=bc/\am8 y=a:=bU h
theorem axm y:aB axj f116 6 [] [.d Y2 y] [] ah=bif !(HL y.1).2.2.2 then ak [I 5]else bif a7 (.ofNat (bk y.2.2.1)<(HL y.1).1)then ak [I 4]else bif a7 (.ofNat (bk y.2.2.1)>(HL y.1).2.1)then ak [I 4]else bif y.2.2.2.1==[]then ak [I 5]else bif OZ [] y.2.2.1 then bif O0 [] y.2.2.1 then ak [I 5]else bif aE y.2.2.2.2.1&&a7 ((HL y.1).2.2.1.length<=2147483648)then bif CH ((HL y.1).2.2.1++[([116,104,101,110],3,a8,bn)]) y.2.2.2.2.1 !=0 then ak [I (CH ((HL y.1).2.2.1++[([116,104,101,110],3,a8,bn)]) y.2.2.2.2.1)]else bif O9 y then bif (HN y).2==0 then bif y.1==oK then bif adE y then bif We (VV y)then ak [I (Wf (VV y))]else a6 else a6 else ak [I (HN y).2]else ak [I (HN y).2]else a6 else a6 else a6:=by kernel_rfl
def ad1 (o:Option (Int×Int×ao×Unit))  :=(nB (o.getD (1,1,[],())).2.2.1).length<=100
theorem ad2 {c a b}(d:ad1 a)(e:ad1 b):ad1 (bif c then a else b):=by grind
theorem ad3 a:(nB (bW a).2.2.1).length<=100:=by
 repeat' apply ad2
 all_goals (unfold ad1;decide +kernel)
theorem ad4 (l:List ao):l.any λw=>w==[]=l.any λw=>[]==w:=by simp
theorem axn {y:(Y2).den}(k:y.2.2.1.length<=maxLen)(d:aE y.2.2.2.2.1=bc)(h:nf y.2.2.2.2.1=bc):Wj y=ar (Ac y.1 y.2.2.1 y.2.2.2.1 y.2.2.2.2.1):=by
 have A:maxLen=9223372036854775807:=by decide
 have B:=bz d;obtain⟨g1,g2⟩:=O1 [] y.2.2.1 (O2 k);obtain⟨l,m⟩:=adI y (adM d);obtain⟨n,o⟩:=O5 y (O6 (by omega));have e:=axm y;rw[g1,g2,ad4,ai,d,gb,l,ai,m,n,ai,o]at e;unfold Wj;rw[e];unfold Ac;cases i:od y.1 with
 |false=>rw[show HL y.1=(0,0,[],a8) by unfold HL;rw[i];rfl]<;>rfl
 |true=>
  rw[show HL y.1=((bW y.1).1,(bW y.1).2.1,nB (bW y.1).2.2.1,bc) by unfold HL;rw[i];rfl];have p:=ad3 y.1;have q:=V6 (adO y.1) y.2.2.2.2.1;rw[aF (show ((bW y.1).1,(bW y.1).2.1,nB (bW y.1).2.2.1,bc).2.2.1.length<=2147483648 from zv p (by decide)),ai];simp only[cy,al];cases a7 (bd (bk y.2.2.1)<(bW y.1).1)with
  |true=>rfl
  |false=>
   cases a7 (bd (bk y.2.2.1)>(bW y.1).2.1)with
   |true=>rfl
   |false=>
    cases y.2.2.2.1==[]with
    |true=>rfl
    |false=>
     cases y.2.2.1.any λw=>[]==w with
     |true=>rfl
     |false=>
      have r:CH (nB (bW y.1).2.2.1++[([116,104,101,110],3,a8,bn)]) y.2.2.2.2.1=iS (cv (bW y.1).2.2.1) y.2.2.2.2.1:=q;simp only[al];rw[r];cases s:iS (cv (bW y.1).2.2.1) y.2.2.2.2.1 !=0 with
      |true=>rfl
      |false=>
       have j:iS (cv (bW y.1).2.2.1) y.2.2.2.2.1=0:=by simpa using s
       simp only[al];have t:fY y.2.2.2.2.1=bc->kZ y.2.2.2.2.1=a8:=λf=>by unfold fY kI at f;unfold kZ;grind
       cases f:fY y.2.2.2.2.1 with
       |true=>rw[t f]<;>rfl
       |false=>
        have u:bT [aa] (bif y.1==cH then (bif We (match y.2.2.2.2.1.find? (ie di 4)with|some a=>a.2.2.2.2.2.1|none=>(0,[],[],()))then ak [I (Wf (match y.2.2.2.2.1.find? (ie di 4)with|some a=>a.2.2.2.2.2.1|none=>(0,[],[],())))]else a6)else ak [I 0])=ar (oN y.1 y.2.2.2.2.1):=by unfold oN;cases v:y.1==cH with|false=>cases y.2.2.2.2.1.find? (ie di 4)<;>rfl|true=>rw[eq_of_beq v]at j;obtain⟨a,_,_,g⟩:=Ff j (w:=[118,97,108,117,101,32,116,42]) (by decide +kernel) (by decide +kernel);rw[show fN [118,97,108,117,101,32,116,42]=di by decide +kernel,show fM (il (dd [118,97,108,117,101,32,116,42]++[32]) 0)=4 by decide +kernel]at g;rw[g];have c:=kq g;unfold nf at h;have b:=bt (gv.1 h a c);obtain⟨x,z⟩:=adX a.2.2.2.2.2.1 (adY b.1 b.2);show bT [aa] (bif We a.2.2.2.2.2.1 then ak [I (Wf a.2.2.2.2.2.1)]else a6)=_;rw[x,z]<;>rfl
        refine gp u ?_;simp
def aqr  :=aU f171
def Wk  :=cL (cL (cR (cL (cR aqr))))
def oY :Cfg:=⟨19,5,0,[(2,[0,1,5])],bc⟩
def Wl a t  :=bT [.bool] (aB sY f171 5 [(2,[0,1,5])] [.d (.slice Y3) a,.d aa t] [] ah)
def ad5 a t  :=(Wl a t).isSome
def ad6 a t  :=(Wl a t).getD (dS _)
def aFU  :=cC [.slice _,aa] _ λa t=>(ad5 a t,ad6 a t)
theorem ana :bq 171 aFU:=bh Q8 (by simp only[dg];exact λa t h=>aZ h)
theorem ad7 {a} vs t (h:Wl vs t=ar a):ad5 vs t=bc/\ad6 vs t=a:=bU h
def Wm (a:cm)(t i:Int):LSt:=⟨az 5 [(0,.d (.slice _) a),(1,I t),(5,I i)],[],0⟩
def KAl  :=aI 0 (aL sY oY [2] (hlp sY oY) (cR (cR aqr)) (aV prog 0 f171.results.toList ah))
theorem axo (a:cm) t:aB sY f171 5 [(2,[0,1,5])] [.d (.slice _) a,I t] [] ah=(hlp sY oY) Wk _ (Wm a t 0) KAl:=(aW [2] oY rfl).trans (by obtain⟨b,h⟩:=aM sY oY;rw[h];kernel_rfl)
theorem aFV a t i n:lp sY oY Wk (n+1) (Wm a t i) KAl=bif a7 (i<.ofNat a.length)then (idx a i).bind λb=>bif b.2.1 !=t then ak [B a8]else lp sY oY Wk n (Wm a t (i64.wrap (i+1))) KAl else ak [B bc]:=by kernel_rfl
theorem aFW a t:hlp sY oY Wk _ (Wm a t 0) KAl=lp sY oY Wk fu (Wm a t 0) KAl:=rfl
def tF (a:cm)(t:Int)  := ! a.any λv=>v.2.1 !=t
theorem ad8 {a:cm}(c:a.length<=maxLen)(t:Int):Wl a t=ar (tF a t):=by unfold Wl tF;have h:=fF (T:=λn s=>lp sY oY Wk n s KAl) (xs:=a) (st:=λi=>Wm a t i) c (λi n=>aFV a t i n);have d:=rP (g:=λb=>(aq.ret [B !b],([]:LHp))) h (λ_ _=>rfl) rfl;rw[(axo a t).trans ((aFW a t).trans d)]<;>rfl
def anb  :=(((((B4.add 169 adC).add 170 Sf).add 120 awE).add 121 aFG).add 88 amU).add 171 aFU
theorem Wn :anb.Good:=(((((jQ.add Ak).add CD).add Sh).add am1).add HK).add ana
def Wo y a  :=bT [aa] (aB anb f117 8 [] [.d Y2 y,.d (.slice Y3) a] [] ah)
def axp y a  :=(Wo y a).isSome
def anc y a  :=(Wo y a).getD (dS _)
def aFX  :=cC [Y2,.slice _] _ λy a=>(axp y a,anc y a)
theorem ane :bq 117 aFX:=bh (bM Wn func117 call117 (h2:=rfl)) (by simp only[dg];exact λy a h=>aZ h)
theorem axq {a} y vs (h:Wo y vs=ar a):axp y vs=bc/\anc y vs=a:=bU h
theorem ad9 y (b:cm):aB anb f117 8 [] [.d Y2 y,.d (.slice _) b] [] ah=bif y.1==oK then bif adE y then ak [I (VV y).1]else a6 else (idx b 0).bind λa=>bif HH y.1 then bif HI y.1 then bif amY y.1 a.2.1 0 then bif (HM y.1 a.2.1 0).2 !=0 then ak [I 0]else ak [I a.2.1]else a6 else bif LR y.1 then bif LS y.1 then bif awK y.1 a.2.1 0 0 then bif (adG y.1 a.2.1 0 0).2==1 then ak [I 0]else bif ad5 b a.2.1 then bif !ad6 b a.2.1 then ak [I 0]else bif y.1==tY then ak [I 9]else bif y.1==xk then ak [I 9]else bif y.1==xm then ak [I 9]else ak [I a.2.1]else a6 else a6 else bif y.1==nO then bif a.2.1 !=9 then ak [I 0]else (idx b 1).bind λf=>(idx b 2).bind λg=>bif f.2.1 !=g.2.1 then ak [I 0]else (idx b 1).bind λc=>ak [I c.2.1]else bif y.1==m8 then ak [I 1]else bif y.1==vk then bif a.2.1==1 then ak [I a.2.1]else bif a.2.1==6 then ak [I a.2.1]else bif !a.2.1==7 then ak [I 0]else ak [I a.2.1]else bif y.1==vl then bif a.2.1==1 then ak [I a.2.1]else bif a.2.1==6 then ak [I a.2.1]else bif !a.2.1==7 then ak [I 0]else ak [I a.2.1]else bif y.1==qD then bif a.2.1==1 then ak [I 7]else bif a.2.1==6 then ak [I 7]else bif !a.2.1==7 then ak [I 0]else ak [I 7]else bif y.1==zg then ak [I a.2.1]else bif y.1==zh then ak [I a.2.1]else bif y.1==zi then ak [I a.2.1]else bif y.1==zj then ak [I a.2.1]else bif y.1==zk then ak [I a.2.1]else bif y.1==zl then ak [I a.2.1]else bif y.1==Ke then ak [I a.2.1]else bif y.1==vm then bif ad5 b a.2.1 then bif !ad6 b a.2.1 then ak [I 0]else ak [I a.2.1]else a6 else bif y.1==qE then (idx b 1).bind λe=>bif e.2.1 !=6 then (idx b 1).bind λh=>bif h.2.1 !=7 then ak [I 0]else ak [I a.2.1]else ak [I a.2.1]else bif ad5 b 1 then bif !ad6 b 1 then ak [I 0]else ak [I a.2.1]else a6 else a6 else a6:=by kernel_rfl
abbrev ExI  :=Option (aq×LHp)
def nS (t:Int):ExI:=ar (.ret [I t],[])
def Wp :ExI:=ar (.panic 131 4,[])
def p5I :ExI:=ar (.panic 131 5,[])
def Fk (op:ao)  :=op==tY||op==xk||op==xm
def Sm (op:ao)  :=op==zg||op==zh||op==zi||op==zj||op==zk||op==zl||op==Ke
noncomputable def aea op b a t s  :=
 bif dV op then bif !(jq op t).2==0 then Wp else nS t else
 bif nz op then bif Fk op then (bif (oO op t).2==0 then (bif a7 (a.length<=9223372036854775807)then (bif !oP a t then Wp else nS 9)else a6)else Wp)else (bif (oO op t).2 !=1 then (bif a7 (a.length<=9223372036854775807)then (bif !oP a t then Wp else nS t)else a6)else Wp)else
 bif op==nO then bif t==9 then (idx a 1).bind λc=>(idx a 2).bind λd=>bif !c.2.1==d.2.1 then Wp else (idx a 1).bind λe=>nS e.2.1 else Wp else
 bif op==m8 then bif a7 (b.length<=9223372036854775807)then (bif !aQ (aS b [116,111] 0) 0 then p5I else nS (aS b [116,111] 0))else a6 else
 bif op==vk||op==vl then bif s then nS t else bif t==7 then nS t else bif !t==1 then Wp else nS t else
 bif op==qD then bif s then nS 7 else bif t==7 then nS 7 else bif !t==1 then Wp else nS 7 else
 bif Sm op then nS t else
 bif op==vm then bif a7 (a.length<=9223372036854775807)then (bif !oP a t then Wp else nS t)else a6 else
 bif op==qE then (idx a 1).bind λf=>bif f.2.1==6 then nS t else (idx a 1).bind λg=>bif !g.2.1==7 then Wp else nS t
 else bif a7 (a.length<=9223372036854775807)then (bif !oP a 1 then Wp else nS t)else a6
theorem aeb {a}(h:a∈nC++ones)(c:(a==cH)=a8)(b:bu) v (r:cm):aB Vr f104 8 [] [iN (a,[],[],[],b,()) (v::r)] [] ah=aea a b (v::r) v.2.1 (v.2.1==6):=by
 rw[ug];simp only[dW,dF,qf,ki,qg,qh,qi];rw[show idx _ 0=ar v from rfl,aw];generalize v.2.1=t;generalize v::r=d;generalize (t==6)=s;unfold nC ones at h;simp only[Ar,pb,kt,Dp,or_false]at h;rcases h with rfl|rfl|rfl|rfl|rfl|rfl|rfl|rfl|rfl|rfl|rfl|rfl|rfl|rfl|rfl|rfl|rfl|rfl|rfl|rfl|rfl|rfl|rfl|rfl|rfl|rfl|rfl|rfl|rfl|rfl|rfl|rfl|rfl|rfl|rfl|rfl|rfl|rfl|rfl|rfl|rfl|rfl|rfl|rfl|rfl|rfl|rfl|rfl
 all_goals (first|(exact absurd c (by decide))|skip)
 all_goals (cases s<;>kernel_rfl)
noncomputable def anf op a t  :=
 bif dV op then bif (jq op t).2 !=0 then nS 0 else nS t else
 bif nz op then bif (oO op t).2==1 then nS 0 else bif !tF a t then nS 0 else bif Fk op then nS 9 else nS t else
 bif op==nO then bif t !=9 then nS 0 else (idx a 1).bind λe=>(idx a 2).bind λf=>bif e.2.1 !=f.2.1 then nS 0 else (idx a 1).bind λb=>nS b.2.1 else
 bif op==m8 then nS 1 else
 bif op==vk||op==vl then bif t==1 then nS t else bif t==6 then nS t else bif !t==7 then nS 0 else nS t else
 bif op==qD then bif t==1 then nS 7 else bif t==6 then nS 7 else bif !t==7 then nS 0 else nS 7 else
 bif Sm op then nS t else
 bif op==vm then bif !tF a t then nS 0 else nS t else
 bif op==qE then (idx a 1).bind λc=>bif c.2.1 !=6 then (idx a 1).bind λd=>bif d.2.1 !=7 then nS 0 else nS t else nS t
 else bif !tF a 1 then nS 0 else nS t
theorem axr {c:Type} a b (x y:c):(bif a||b then x else y)=bif a then x else bif b then x else y:=by cases a<;>rfl
theorem xL {a}(h:nz a=bc):a∈me:=by unfold nz at h;grind
theorem aFY {y:(Y2).den}(b:(y.1==cH)=a8){v}{r:cm}(a:(v::r).length<=maxLen):aB anb f117 8 [] [.d _ y,.d (.slice _) (v::r)] [] ah=anf y.1 (v::r) v.2.1:=by obtain⟨c,e⟩:=xI y.1 (xJ y.1);obtain⟨f,g⟩:=Al y.1 (Am y.1);obtain⟨h,i⟩:=O7 y.1 v.2.1 0 (aqi y.1 v.2.1);obtain⟨j,k⟩:=ad7 _ v.2.1 (ad8 a v.2.1);obtain⟨l,m⟩:=ad7 _ 1 (ad8 a 1);rw[ad9,show (y.1==oK)=a8 from b,al,show idx _ 0=ar v from rfl,aw,c,e,f,g,h,i,j,k,l,m];unfold anf Fk Sm;simp only[ai,axr,nS];cases n:nz y.1 with|false=>kernel_rfl|true=>let ⟨o,p⟩:=adH y.1 v.2.1 0 0 (aFJ (xL n) v.2.1);grind
theorem axs :∀a∈[[69,113,117,97,108],[76,101,115,115],[71,114,101,97,116,101,114]],∀t∈[1,6,7,9],((oO a t).2==0)= ! (oO a t).2==1:=by
 intro a h t b;simp only[kt,Dp,or_false]at h b;rcases h with rfl|rfl|rfl
 all_goals (rcases b with rfl|rfl|rfl|rfl)
 all_goals kernel_rfl
theorem axt {a:ao}(h:Fk a=bc)(t:Int):((oO a t).2==0)= !((oO a t).2==1):=by
 cases b:aQ t 0 with
 |false=>
  have c:(oO a t).2=1:=by unfold oO;rw[Hg,b]<;>rfl
  rw[c]<;>rfl
 |true=>refine axs a ?_ t (An b);unfold Fk at h;grind
def tpO (a:ao)(p:Int×Int)  :=bif a==m8 then 1 else bif p.2==0 then p.1 else 0
theorem uy {op}(h:(dV op||nz op||op==nO)=bc):(op==m8)=a8:=by cases c:op==m8 with|false=>rfl|true=>rw[eq_of_beq c]at h;exact absurd h (by decide +kernel)
theorem ang {op o a t p}(s:a.length<=maxLen)(h:IT (aea op o a t (t==6))=ar p):bT [aa] (anf op a t)=ar (tpO op p):=by
 let x:maxLen=9223372036854775807:=by decide
 let q:∀u,oP a u=tF a u:=λ_=>rfl
 unfold aea at h;unfold anf tpO;rw[aF (by omega:a.length<=9223372036854775807)]at h;simp only[ai,q]at h;cases c:dV op with
 |true=>rw[uy (by rw[c]<;>rfl),al,ai,bne];rw[c,ai]at h;cases e:(jq op t).2==0 with|true=>rw[e]at h;cases h;rfl|false=>rw[e]at h;cases h;rfl
 |false=>
 rw[c,al]at h;rw[al];cases f:nz op with
 |true=>
  rw[uy (by rw[c,f]<;>rfl),al,ai];rw[f,ai]at h;cases g:Fk op with
  |true=>
   rw[g,ai,axt g]at h;cases e:(oO op t).2==1 with|true=>rw[e]at h;cases h;rfl|false=>rw[e]at h;cases e2:tF a t with|true=>rw[e2]at h;cases h;rfl|false=>rw[e2]at h;cases h;rfl
  |false=>
   rw[g,al,bne]at h;cases e:(oO op t).2==1 with|true=>rw[e]at h;cases h;rfl|false=>rw[e]at h;cases e2:tF a t with|true=>rw[e2]at h;cases h;rfl|false=>rw[e2]at h;cases h;rfl
 |false=>
 rw[f,al]at h;rw[al];cases i:op==nO with
 |true=>
  rw[uy (by rw[c,f,i]<;>rfl),al,ai,bne];rw[i,ai]at h;cases e:t==9 with
  |false=>rw[e]at h;cases h;rfl
  |true=>
   rw[e,ai]at h;rw[cy,al];cases b:idx a 1 with
   |none=>rw[b]at h;cases h
   |some v=>
    cases j:idx a 2 with|none=>rw[b,j]at h;cases h|some w=>rw[b,j]at h;simp only[aw]at h⊢;rw[bne];cases e2:v.2.1==w.2.1 with|true=>rw[e2]at h;cases h;rfl|false=>rw[e2]at h;cases h;rfl
 |false=>
 rw[i,al]at h;rw[al];cases r:op==m8 with
 |true=>rfl
 |false=>
 rw[r,al]at h;rw[al,al];cases k:op==vk||op==vl with
 |true=>
  rw[k,ai]at h;rw[ai];cases e6:t==6 with
  |true=>rw[e6]at h;cases h;cases t==1<;>rfl
  |false=>
   rw[e6,al]at h;cases e7:t==7 with|true=>rw[e7]at h;cases h;cases t==1<;>rfl|false=>rw[e7,al]at h;cases e1:t==1 with|true=>rw[e1]at h;cases h;rfl|false=>rw[e1]at h;cases h;rfl
 |false=>
 rw[k,al]at h;rw[al];cases l:op==qD with
 |true=>
  rw[l,ai]at h;rw[ai];cases e6:t==6 with
  |true=>rw[e6]at h;cases h;cases t==1<;>rfl
  |false=>
   rw[e6,al]at h;cases e7:t==7 with|true=>rw[e7]at h;cases h;cases t==1<;>rfl|false=>rw[e7,al]at h;cases e1:t==1 with|true=>rw[e1]at h;cases h;rfl|false=>rw[e1]at h;cases h;rfl
 |false=>
 rw[l,al]at h;rw[al];cases m:Sm op with
 |true=>rw[m]at h;cases h;rfl
 |false=>
 rw[m,al]at h;rw[al];cases n:op==vm with
 |true=>rw[n,ai]at h;rw[ai];cases e2:tF a t with|true=>rw[e2]at h;cases h;rfl|false=>rw[e2]at h;cases h;rfl
 |false=>
 rw[n,al]at h;rw[al];cases d:op==qE with
 |true=>
  rw[d,ai]at h;rw[ai];cases b:idx a 1 with
  |none=>rw[b]at h;cases h
  |some v=>
   rw[b]at h;simp only[aw]at h⊢;rw[bne,bne];cases e6:v.2.1==6 with|true=>rw[e6]at h;cases h;rfl|false=>rw[e6,al]at h;cases e7:v.2.1==7 with|true=>rw[e7]at h;cases h;rfl|false=>rw[e7]at h;cases h;rfl
 |false=>
 rw[d,al]at h;cases e2:tF a 1 with|true=>rw[e2]at h;cases h;rfl|false=>rw[e2]at h;cases h;rfl
theorem axu {y:(Y2).den}{b:cm}(h:y.1∈nC++ones)(g:y.2.2.2.2.1.length<=maxLen)(d:b.length<=maxLen)(i:s9 y.1 y.2.2.2.2.1 b=bc)(j:(y.1==cH)=bc->y.2.2.2.2.1.find? (ie di 4)=y.2.2.2.2.1.find? gJ):Wo y b=ar (tpO y.1 (hO y.1 y.2.2.2.2.1 b,hU y.1 y.2.2.2.2.1 b)):=by
 obtain⟨p,hp⟩:=Option.isSome_iff_exists.1 i;have e:(hO y.1 y.2.2.2.2.1 b,hU y.1 y.2.2.2.2.1 b)=p:=by unfold hO hU;rw[hp]<;>rfl
 rw[e];unfold Hs at hp;unfold Wo;cases c:y.1==cH with
 |true=>
  have m:maxLen=9223372036854775807:=by decide
  obtain⟨k,l⟩:=O5 y (O6 g);rw[ug]at hp;simp only[dW,dF,qf,ki,qg,qh,qi]at hp;rw[show (y.1==oK)=bc from c,ai,aF (show y.2.2.2.2.1.length<=9223372036854775807 by omega),ai]at hp;rw[ad9,show (y.1==oK)=bc from c,ai,k,ai,l,j c];cases f:te gJ y.2.2.2.2.1 with|none=>rw[f]at hp;cases hp|some a=>rw[f]at hp;cases hp;unfold tpO;rw[eq_of_beq c]<;>rfl
 |false=>cases b with|nil=>rw[ug]at hp;simp only[dW,dF,qf,ki,qg,qh,qi]at hp;rw[show (y.1==oK)=a8 from c]at hp;cases hp|cons v r=>rw[aeb h c]at hp;rw[aFY c d];exact ang d hp
theorem CL :∀{l m:af},l.Nodup->(∀x∈l,x∈m)->∃r,m.Perm (l++r)
 |[],m,_,_=>⟨m,List.Perm.refl _⟩
 |a::l,m,d,b=>by
  let ⟨f,g⟩:=aho.1 d;let ⟨r,h⟩:=CL g λx c=>(List.mem_erase_of_ne (λ(e:x=a)=>f (e▸c))).2 (b x (m3 _ c))
  exact⟨r,(List.perm_cons_erase (b a ku)).trans (h.cons a)⟩
theorem yO {l m:af}(a:l.Nodup)(b:∀x∈l,x∈m)(d:m.length=l.length):m.Perm l:=by let ⟨r,c⟩:=CL a b;let e:=c.length_eq;grind
theorem rV {a v}:dZ a v=bc↔v∈a:=by unfold dZ;simp
theorem Fl {A B}(h:A.Perm B) v:dZ A v=dZ B v:=by rw[vc,rV,rV];exact h.mem_iff
theorem sO a (l:af) v:dZ (a::l) v=(v==a||dZ l v):=rfl
theorem uz {a v}(h:v∉a):dZ a v=a8:=by cases c:dZ a v with|false=>rfl|true=>exact absurd (rV.1 c) h
theorem L0 :∀{l a:af},Hx a l=bc↔l.Nodup/\∀x∈l,x∉a
 |[],a=>⟨λ_=>⟨List.nodup_nil,λ_ h=>by cases h⟩,λ_=>rfl⟩
 |p::r,a=>by
  rw[Hx,aX,L0,aho];let hp:(!dZ a p)=bc↔p∉a:=by rw[T2,←Bool.not_eq_true,rV]
  grind
theorem HQ {N x}:x∈fw N↔0<=x/\x<N:=by
 unfold fw;rw[List.mem_map];constructor
 ·grind
 ·rintro⟨a,b⟩
  exact⟨x.toNat,v8.2 (by omega),by simp only[aK];omega⟩
theorem Fm N:(fw N).Nodup:=List.pairwise_map.2 (List.nodup_range.imp λh e=>h (Int.ofNat.inj e))
theorem anh {P}{N:Nat}(j:N<=6):(cA N 0 100 P&&(bd P.length==N&&(fw N).all λi=>P.any λw=>w==i))=(cA N 0 (i64.wrap (N-1)) P&&Hx [] P):=by
 let w:i64.wrap _=N-1:=aH (by omega) (by omega);rw[w,vc];unfold cA cY;simp only[aX,gv,decide_eq_true_eq,tr,beq_iff_eq,aK];rw[L0];constructor
 ·rintro⟨⟨c,b⟩,d,f⟩
  let hp  :=yO (Fm N) (λx a=>by let ⟨y,g,e⟩:=f x a;exact e▸g) (by rw[jg];omega);refine⟨⟨λx a=>?_,b⟩,hp.nodup_iff.2 (Fm N),λ_ _ h=>by cases h⟩;let:=HQ.1 (hp.mem_iff.1 a);omega
 ·rintro⟨⟨c,b⟩,d,_⟩
  let hp:(fw N).Perm P:=yO d (λx a=>by let:=c x a;exact HQ.2 (by omega)) (by rw[jg];omega);refine⟨⟨λx a=>?_,b⟩,b,λx a=>⟨x,hp.mem_iff.1 a,rfl⟩⟩;let:=c x a;omega
theorem HR A c:∀(a b:af) (i),rJ A c i (a++b)=rJ A c i a++rJ A c (i+a.length) b
 |[],b,i=>rfl
 |x::a,b,i=>by rw[Ar,rJ,rJ,HR,(by rw[bs];omega:i+1+a.length=i+(x::a).length)];grind
theorem sP {A B c}:∀{xs:af} {i},(∀j,i<=j->j<i+xs.length->dZ A j=dZ B j)->rJ A c i xs=rJ B c i xs
 |[],_,_=>rfl
 |x::xs,i,h=>by rw[rJ,rJ,h i (ep _) (by rw[bs];omega),sP λj a b=>h j (by omega) (by rw[bs];omega)]
theorem CM {c:Int}:∀(a:af) (i:Nat),rJ [] c i a=a
 |[],_=>rfl
 |x::a,i=>by rw[rJ,CM a (i+1)]<;>rfl
theorem L1 {A c}{xs:af}{i}(h:∀j:Nat,i<=j->j<i+xs.length->(j:Int)∉A):rJ A c i xs=xs:=(sP λj a b=>uz (h j a b)).trans (CM xs i)
theorem Pf {b:af}{a}(h:a<b.length):b=b.take a++b.getD a 0::b.drop (a+1):=by simp_all
theorem aec :∀{S o:af},S.Pairwise (· > ·)->(∀a∈S,0<=a/\a<o.length)->sqR S o=bif S.all λa=>o.getD a.toNat 0==1 then ar (rJ S 0 0 o)else a6
 |[],o,_,_=>by rw[sqR,CM]<;>rfl
 |a::S,o,m,k=>by
  let ⟨n,p⟩:=List.pairwise_cons.1 m;let ⟨q,t⟩:=k a ku;let l:a.toNat<o.length:=by omega
  rw[sqR,py];cases o.getD a.toNat 0==1 with
  |false=>rfl
  |true=>
   rw[ai,gb];let f:∀b∈S,0<=b/\b<a:=λb c=>⟨(k b (m3 _ c)).1,n b c⟩
   let d:(o.take a.toNat).length=a.toNat:=by rw[fl];omega
   rw[aec (o:=nQ o a.toNat) p λb c=>⟨(f b c).1,by let:=LN l;let:=(f b c).2;omega⟩]
   let e1:S.all λb=>(nQ o a.toNat).getD b.toNat 0==1=S.all λb=>o.getD b.toNat 0==1:=by
    rw[vc];simp only[gv];let:∀b∈S,(nQ o a.toNat).getD b.toNat 0=o.getD b.toNat 0:=λb c=>by let u:=f b c;unfold nQ;rw[kM,kM,List.getElem?_append_left (by omega),List.getElem?_take_of_lt (by omega)]
    exact⟨λh b c=>by rw[←this b c];exact h b c,λh b c=>by rw[this b c];exact h b c⟩
   let e2:rJ S 0 0 (nQ o a.toNat)=rJ (a::S) 0 0 o:=by
    conv=>rhs;rw[Pf l]
    unfold nQ;rw[HR,HR,rJ,d,hM,sO,show (a.toNat==a)=bc by rw[kd q];simp,ahn,cy,al,show ((0:Int)==1)=a8 from rfl,al]
    rw[L1 (A:=S) (xs:=o.drop (a.toNat+1)) λj r _ g=>by let:=f _ g;omega,L1 (A:=a::S) (xs:=o.drop (a.toNat+1)) λj r _ g=>by
     rcases kt.1 g with e|g
     ·omega
     ·let:=f _ g;omega]
    rw[sP (A:=S) (B:=a::S) (xs:=o.take a.toNat) (i:=0) λj _ s=>by rw[d]at s;rw[sO,show (j==a)=a8 by rw[beq_eq_false_iff_ne];omega,IN]]
   rw[e1,e2]
def IV (A:af):Nat->Nat->List Int->af
 |_,0,_=>[]
 |i,n+1,xs=>bif dZ A i then 1::IV A (i+1) n xs else xs.headD 0::IV A (i+1) n xs.tail
theorem sQ {A B}:∀{n i} {a:af},(∀j:Nat,i<=j->dZ A j=dZ B j)->IV A i n a=IV B i n a
 |0,_,_,_=>rfl
 |n+1,i,a,h=>by rw[IV,IV,h i (ep _),sQ λj b=>h j (by omega),sQ λj b=>h j (by omega)]
theorem HS {A:af}:∀{k i n:Nat} {xs:af},(∀j:Nat,i<=j->j<i+k->(j:Int)∉A)->k<=xs.length->IV A i (k+n) xs=xs.take k++IV A (i+k) n (xs.drop k)
 |0,i,n,xs,_,_=>by rw[hM,List.take_zero,List.drop_zero]<;>rfl
 |k+1,i,n,[],_,a=>by cases a
 |k+1,i,n,x::xs,h,a=>by rw[show k+1+n=(k+n)+1 by omega,IV,uz (h i (ep _) (by omega)),al];show x::IV A (i+1) (k+n) xs=_;rw[HS (k:=k) (λj b c=>h j (by omega) (by omega)) (by rw[bs]at a;omega),show i+1+k=i+(k+1) by omega]<;>rfl
theorem aed :∀{S o:af},S.Pairwise (· < ·)->(∀i (h:i<S.length),0<=S[i]/\S[i]<=o.length+i)->usR S o=IV S 0 (o.length+S.length) o
 |[],o,_,_=>by let h:=HS (A:=[]) (k:=o.length) (i:=0) (n:=0) (xs:=o) (λ_ _ _ h=>by cases h) (ep _);rw[yf,IV,eT]at h;exact h.symm
 |a::S,o,r,g=>by
  let ⟨s,t⟩:=List.pairwise_cons.1 r;let ⟨f,l⟩:=g 0 (by rw[bs];omega);let f:0<=a:=f;let l:a<=o.length+0:=l;let m:a.toNat<=o.length:=by omega
  let p:jz o a.toNat 1=o.take a.toNat++1::o.drop a.toNat:=rfl;let c:(jz o a.toNat 1).length=o.length+1:=vM m;let q:(o.take a.toNat).length=a.toNat:=by rw[fl];omega
  rw[usR,aed (o:=jz o a.toNat 1) t λi h=>by let:=g (i+1) (by rw[bs];omega);rw[List.getElem_cons_succ]at this;rw[c];push_cast at this⊢;omega,c];let u:o.length+1+S.length=a.toNat+(o.length-a.toNat+S.length+1):=by omega
  let v:o.length+(a::S).length=a.toNat+(o.length-a.toNat+S.length+1):=by rw[bs];omega
  let b:∀j:Nat,j<=a.toNat->(j:Int)∉S:=λj w d=>by let:=s _ d;omega
  rw[u,v,HS (k:=a.toNat) (xs:=jz o a.toNat 1) (λj _ x=>b j (by omega)) (by omega),HS (k:=a.toNat) (xs:=o) (λj _ x d=>by
   rcases kt.1 d with e|d
   ·omega
   ·exact b j (by omega) d) m]
  let y:(jz o a.toNat 1).take a.toNat=o.take a.toNat:=by rw[p,List.take_append_of_le_length (by omega),List.take_of_length_le (by omega)]
  let z:(jz o a.toNat 1).drop a.toNat=1::o.drop a.toNat:=by rw[p,List.drop_append_of_le_length (by omega),List.drop_of_length_le (by omega),pb]
  rw[y,z,IV,IV,hM,uz (b a.toNat (ep _)),al,sO,show (a.toNat==a)=bc by rw[kd f];simp,ahn,ai];show _++1::IV S (a.toNat+1) _ (o.drop a.toNat)=_;rw[sQ (A:=S) (B:=a::S) (i:=a.toNat+1) λj w=>by rw[sO,show (j==a)=a8 by rw[beq_eq_false_iff_ne];omega,IN]]
def Wq A i n  :=((List.range' i n).map .ofNat).countP λv=>!dZ A v
theorem ani {A}(c:A.Nodup){n:Nat}(d:∀a∈A,0<=a/\a<(n:Int)):Wq A 0 n<=n-A.length:=by
 unfold Wq;rw[←List.range_eq_range'];let ⟨r,b⟩:=CL c λx e=>HQ.2 (d x e)
 let f:=b.length_eq;rw[jg,bK]at f;let g:((hW n).map .ofNat).countP (λv=>!dZ A v)=(A++r).countP λv=>!dZ A v:=b.countP_eq _
 rw[g,List.countP_append,List.countP_eq_zero.2 λa h=>by rw[rV.2 h];decide];grind
def aqu  :=aU f228
def Wr  :=cL (cL (cR (cL (cR aqu))))
def oZ :Cfg:=⟨18,5,0,[(2,[0,1,5])],bc⟩
def Ws l v  :=bT [.bool] (aB lN f228 5 [(2,[0,1,5])] [.d (.slice aa) l,.d aa v] [] ah)
def Wt l v  :=(Ws l v).isSome
def Wu l v  :=(Ws l v).getD (dS _)
def axv  :=cC [.slice aa,aa] _ λl v=>(Wt l v,Wu l v)
theorem Sn :bq 228 axv:=bh Ra (by simp only[dg];exact λl v h=>aZ h)
theorem aee {a} l v (h:Ws l v=ar a):Wt l v=bc/\Wu l v=a:=bU h
def Ww (l:af)(v i:Int):LSt:=⟨az 5 [(0,.d (.slice aa) l),(1,I v),(5,I i)],[],0⟩
def KHs  :=aI 0 (aL lN oZ [2] (hlp lN oZ) (cR (cR aqu)) (aV prog 0 f228.results.toList ah))
theorem axw (l:af) v:aB lN f228 5 [(2,[0,1,5])] [.d (.slice aa) l,I v] [] ah=(hlp lN oZ) Wr _ (Ww l v 0) KHs:=(aW [2] oZ rfl).trans (by obtain⟨a,h⟩:=aM lN oZ;rw[h];kernel_rfl)
theorem aFZ l v i n:lp lN oZ Wr (n+1) (Ww l v i) KHs=bif a7 (i<.ofNat l.length)then (idx l i).bind λa=>bif a==v then ak [B bc]else lp lN oZ Wr n (Ww l v (i64.wrap (i+1))) KHs else ak [B a8]:=by kernel_rfl
theorem aF0 l v:hlp lN oZ Wr _ (Ww l v 0) KHs=lp lN oZ Wr fu (Ww l v 0) KHs:=rfl
theorem aef {l:af}(a:l.length<=maxLen)(v:Int):Ws l v=ar (dZ l v):=by unfold Ws dZ;have h:=fF (T:=λn s=>lp lN oZ Wr n s KHs) (xs:=l) (st:=λi=>Ww l v i) a (λi n=>aFZ l v i n);have c:=rP (g:=λb=>(aq.ret [B b],([]:LHp))) h (λ_ _=>rfl) rfl;rw[(axw l v).trans ((aF0 l v).trans c),show (l.any λw=>v==w)=l.any λw=>w==v by congr 1;funext w;exact BEq.comm]<;>rfl
def aqv  :=aU f228
def Wx  :=cL (cL (cR (cL (cR aqv))))
def o4 :Cfg:=⟨18,5,1,[(2,[0,1,5])],bc⟩
def Wy (l:af)(v i:Int):LSt:=⟨az 5 [(0,.os 0 0),(1,I v),(5,I i)],[(0,.arr 3 aa 0 a8 l)],2⟩
def KHm  :=aI 0 (aL lN o4 [2] (hlp lN o4) (cR (cR aqv)) (aV prog 1 f228.results.toList ah))
theorem axx (l:af) v:aB lN f228 5 [(2,[0,1,5])] [.os 0 0,I v] [(0,.arr 3 aa 0 a8 l)] ah=(hlp lN o4) Wx _ (Wy l v 0) KHm:=(aW [2] o4 rfl).trans (by obtain⟨a,h⟩:=aM lN o4;rw[h];kernel_rfl)
theorem aF1 l v i n:lp lN o4 Wx (n+1) (Wy l v i) KHm=bif a7 (i<.ofNat l.length)then (idx l i).bind λb=>(l[i.toNat]?).bind λa=>bif a==v then ar (.ret [B bc],[(0,.arr 3 aa 0 a8 l)])else lp lN o4 Wx n (Wy l v (i64.wrap (i+1))) KHm else ar (.ret [B a8],[(0,.arr 3 aa 0 a8 l)]):=by kernel_rfl
theorem aF2 l v:hlp lN o4 Wx _ (Wy l v 0) KHm=lp lN o4 Wx fu (Wy l v 0) KHm:=rfl
theorem aF3 l v:l.any λw=>w==v=dZ l v:=by congr 1;funext w;exact BEq.comm
theorem anj {l:af}(c:l.length<=maxLen) v:aB lN f228 5 [(2,[0,1,5])] [.os 0 0,I v] [(0,.arr 3 aa 0 a8 l)] ah=ar (.ret [B (dZ l v)],[(0,.arr 3 aa 0 a8 l)]):=by
 let h:=fF (T:=λn s=>lp lN o4 Wx n s KHm) (p:=λw=>w==v) c λi n=>by
  rw[aF1];cases a7 (i<.ofNat _)with|false=>rw[al,al]|true=>cases d:idx l i with|none=>rfl|some w=>rw[aw,aw,CI d,aw]<;>rfl
 let a:=rP (g:=λb=>(.ret [B b],[(0,.arr 3 aa 0 a8 l)])) h (λ_ _=>rfl) rfl;rw[aF3]at a;exact(axx l v).trans ((aF2 l v).trans a)
def axy :List AV->LHp->Tq
 |[.os 0 0,.d zI v],[(0,.arr 3 zI 0 a8 l)]=>.br (a7 (l.length<=maxLen)) (.leaf (.ret [B (dZ l v)]) [(0,.arr 3 aa 0 a8 l)]) .no
 |_,_=>.no
theorem ank :bq 228 (ay axy):=by
 refine dh sD cZ func228 call228 (depth:=5) (live:=[(2,[0,1,5])]) (by decide +kernel) rfl λb c p h=>?_
 unfold axy at h;split at h
 ·let ⟨a,h⟩:=eN h;cases h;let a:=bt a;exact anj a _
 ·cases h
theorem axz v:aB lN f228 5 [(2,[0,1,5])] [.nils,I v] [] ah=ak [B a8]:=by kernel_rfl
def axA :List AV->LHp->Tq
 |[.nils,.d zI _],[]=>.br (a7 (0<=maxLen)) (.leaf (.ret [B a8]) []) .no
 |_,_=>.no
theorem anl :bq 228 (ay axA):=by
 refine dh sD cZ func228 call228 (depth:=5) (live:=[(2,[0,1,5])]) (by decide +kernel) rfl λa b p h=>?_
 unfold axA at h;split at h
 ·cases h;exact axz _
 ·cases h
def aF4 a h  :=orT (axy a h) (axA a h)
theorem anm :bq 228 (ay aF4):=lK ank anl
def Wz a r  :=bT [aa,.bool] (aB B4 f52 5 [] [.d aa a,.d aa r] [] ah)
def Pg a r  :=(Wz a r).isSome
def rW a r  :=(Wz a r).getD (dS _)
def aeg  :=cC [aa,aa] _ λa r=>(Pg a r,rW a r)
theorem Ao :bq 52 aeg:=bh aa8 (by simp only[dg];exact λa r h=>aZ h)
theorem HT {b} a r (h:Wz a r=ar b):Pg a r=bc/\rW a r=b:=bU h
theorem axB a r:aB B4 f52 5 [] [I a,I r] [] ah=bif a7 (a<i64.wrap (0-r))then ak [I 0,B a8]else bif a7 (a>=r)then ak [I 0,B a8]else bif a7 (a<0)then ak [I (i64.wrap (a+r)),B bc]else ak [I a,B bc]:=by kernel_rfl
theorem HU (a r:Int):Wz a r=ar (bif uf a r then kD a r else 0,uf a r):=by
 unfold Wz uf kD;rw[axB];by_cases b:a<i64.wrap (0-r)
 ·rw[aF b,cq (by omega:¬i64.wrap _<=a)]<;>rfl
 ·rw[cq b,aF (by omega:i64.wrap _<=a)]
  by_cases c:a>=r
  ·rw[aF c,cq (by omega:¬a<r)]<;>rfl
  ·rw[cq c,aF (by omega:a<r)];cases a7 (a<0)<;>rfl
def xM (o:af)(b:Bool):Option (aq×LHp):=match o with|[]=>ar (.ret [.nils,B b],[])|v::o=>ar (.ret [.os 0 0,B b],[(0,.arr 3 aa 0 a8 (v::o))])
theorem Ph o b:bT [.slice aa,.bool] (xM o b)=ar (o,b):=by cases o<;>rfl
def aqw  :=aU f192
def ti  :=cL (cL (cR (cL (cR (cR aqw)))))
def gU :Cfg:=⟨37,6,0,[(3,[0,1,6,7])],bc⟩
def nT  :=(qb.add 228 (ay aF4)).add 52 aeg
theorem WW :nT.Good:=(mL.add anm).add Ao
def W1 l r  :=bT [.slice aa,.bool] (aB nT f192 6 [(3,[0,1,6,7])] [.d (.slice aa) l,.d aa r] [] ah)
def uA l r  :=(W1 l r).isSome
def gM l r  :=(W1 l r).getD (dS _)
def ann  :=cC [.slice aa,aa] _ λl r=>(uA l r,gM l r)
theorem HV :bq 192 ann:=bh (bM WW func192 call192 (h2:=rfl)) (by simp only[dg];exact λl r h=>aZ h)
theorem HW {a} l r (h:W1 l r=ar a):uA l r=bc/\gM l r=a:=bU h
def yP (l:af)(r i:Int):LSt:=⟨az 6 [(0,.d (.slice aa) l),(1,I r),(6,.nils),(7,I i)],[],0⟩
def M5  :=aI 0 (aL nT gU [3] (hlp nT gU) (cR (cR (cR aqw))) (aV prog 0 f192.results.toList ah))
theorem axC (l:af) r:aB nT f192 6 [(3,[0,1,6,7])] [.d (.slice aa) l,I r] [] ah=(hlp nT gU) ti _ (yP l r 0) M5:=(aW [3] gU rfl).trans (by obtain⟨a,h⟩:=aM nT gU;rw[h];kernel_rfl)
def Fo (l:af)(r i:Int)(o:af):LSt:=⟨az 6 [(0,.d (.slice aa) l),(1,I r),(6,.os 0 0),(7,I i)],[(0,.arr 3 aa 0 a8 o)],1⟩
theorem aeh l r i n:lp nT gU ti (n+1) (yP l r i) M5=bif a7 (i<.ofNat l.length)then (idx l i).bind λa=>bif Pg a r then bif !(rW a r).2 then ak [.nils,B a8]else lp nT gU ti n (Fo l r (i64.wrap (i+1)) [(rW a r).1]) M5 else a6 else ak [.nils,B bc]:=by kernel_rfl
theorem aei l r i o n:lp nT gU ti (n+1) (Fo l r i o) M5=bif a7 (i<.ofNat l.length)then (idx l i).bind λa=>bif Pg a r then bif !(rW a r).2 then ak [.nils,B a8]else bif a7 (o.length<=9223372036854775807)then bif dZ o (rW a r).1 then ak [.nils,B a8]else (app o [(rW a r).1]).bind λb=>lp nT gU ti n (Fo l r (i64.wrap (i+1)) b) M5 else a6 else a6 else ar (.ret [.os 0 0,B bc],[(0,.arr 3 aa 0 a8 o)]):=by kernel_rfl
def aqx  :=aU f74
def tj  :=cL (cL (cR (cL (cR (cR (cR aqx))))))
def gV :Cfg:=⟨53,6,0,[(4,[3,4,5,14,15,16])],bc⟩
def nU  :=B4.add 128 O4
theorem W2 :nU.Good:=jQ.add sN
def W3 y a o c b e  :=bT [.slice aa,.bool] (aB nU f74 6 [(4,[3,4,5,14,15,16])] [.d Y2 y,.d .str a,.d (.slice aa) o,.d aa c,.d aa b,.d aa e] [] ah)
def CN y a o c b d  :=(W3 y a o c b d).isSome
def dx y a o c b d  :=(W3 y a o c b d).getD (dS _)
def W4  :=cC [Y2,.str,.slice aa,aa,aa,aa] _ λy a o c b d=>(CN y a o c b d,dx y a o c b d)
theorem vX :bq 74 W4:=bh (bM W2 func74 call74 (h2:=rfl)) (by simp only[dg];exact λy a o c b d h=>aZ h)
theorem uB {a} y name o c lo hi (h:W3 y name o c lo hi=ar a):CN y name o c lo hi=bc/\dx y name o c lo hi=a:=bU h
def yQ (l:af)(c a b i:Int):LSt:=⟨az 6 [(3,I c),(4,I a),(5,I b),(14,.d (.slice aa) l),(15,.nils),(16,I i)],[],0⟩
def M6  :=aI 0 (aL nU gV [4] (hlp nU gV) (cR (cR (cR (cR aqx)))) (aV prog 0 f74.results.toList ah))
theorem axE y (a:ao) (o:af) c lo hi:aB nU f74 6 [(4,[3,4,5,14,15,16])] [.d _ y,.d .str a,.d (.slice aa) o,I c,I lo,I hi] [] ah=bif nR y a o then (hlp nU gV) tj _ (yQ (ef y a o) c lo hi 0) M6 else a6:=(aW [4] gV rfl).trans (by obtain⟨b,h⟩:=aM nU gV;rw[h];kernel_rfl)
def Fp (l:af)(c a b i:Int)(o:af):LSt:=⟨az 6 [(3,I c),(4,I a),(5,I b),(14,.d (.slice aa) l),(15,.os 0 0),(16,I i)],[(0,.arr 3 aa 0 a8 o)],1⟩
theorem aej l c a b i n:lp nU gV tj (n+1) (yQ l c a b i) M6=bif a7 (i<.ofNat l.length)then (idx l i).bind λd=>bif a7 (d<a)then ak [.nils,B a8]else (idx l i).bind λe=>bif a7 (e>b)then ak [.nils,B a8]else (idx l i).bind λf=>lp nU gV tj n (Fp l c a b (i64.wrap (i+1)) [f]) M6 else ak [.nils,B (0==c)]:=by kernel_rfl
theorem aek l c a b i o n:lp nU gV tj (n+1) (Fp l c a b i o) M6=bif a7 (i<.ofNat l.length)then (idx l i).bind λd=>bif a7 (d<a)then ak [.nils,B a8]else (idx l i).bind λe=>bif a7 (e>b)then ak [.nils,B a8]else (idx l i).bind λf=>(app o [f]).bind λg=>lp nU gV tj n (Fp l c a b (i64.wrap (i+1)) g) M6 else ar (.ret [.os 0 0,B (.ofNat o.length==c)],[(0,.arr 3 aa 0 a8 o)]):=by kernel_rfl
def ano (l:af)(r i:Int):List Int->LSt
 |[]=>yP l r i
 |v::o=>Fo l r i (v::o)
theorem gu {a o}{x:a}(h:o.length<=2147483648):app o [x]=ar (o++[x]):=eX (by rw[show lim=4294967296 from rfl,eS];omega)
def yR :Option (aq×LHp):=ar (.ret [.nils,B a8],[])
theorem aF5 (l:af) r i {o:af} (d:o.length<=2147483648) n a (b:idx l i=ar a) (c:a7 (i<.ofNat l.length)=bc):lp nT gU ti (n+1) (ano l r i o) M5=
  bif uf a r&& ! o.any λw=>kD a r==w then lp nT gU ti n (ano l r (i64.wrap (i+1)) (o++[kD a r])) M5 else yR:=by
 let ⟨g1,g2⟩:=HT a r (HU a r)
 cases o with
 |nil=>show lp nT gU ti _ (yP l r i) M5=_;rw[aeh,c,ai,b,aw,g1,ai,g2];cases uf a r with|false=>rw[hX,ai,so,al]<;>rfl|true=>rw[cy,al,gb,ai]<;>rfl
 |cons v o=>
  show lp nT gU ti _ (Fo l r i _) M5=_;rw[aei,c,ai,b,aw,g1,ai,g2];cases uf a r with|false=>rw[hX,ai,so,al]<;>rfl|true=>rw[cy,al,gb,ai,aF (by omega:(v::o).length<=9223372036854775807),ai,gu d,aw,show dZ _ _=(v::o).any λw=>kD a r==w from rfl];cases (v::o).any λw=>kD a r==w with|true=>rw[ai,cy,al]<;>rfl|false=>rw[al,hX,ai]<;>rfl
theorem aF6 l r (o:af) n (a:a7 ((l.length:Nat)<bd l.length)=a8):lp nT gU ti (n+1) (ano l r l.length o) M5=xM o bc:=by cases o with|nil=>show lp nT gU ti _ (yP l r _) M5=_;rw[aeh,a,al]<;>rfl|cons v o=>show lp nT gU ti _ (Fo l r _ _) M5=_;rw[aei,a,al]<;>rfl
theorem axF {l}(e:l.length<=2147483648) r:lp nT gU ti fu (yP l r 0) M5=bif dj r l []then xM (jy l r) bc else yR:=by
 let f:maxLen=9223372036854775807:=by decide
 let key:∀(l o:af),bG (λo a=>bif uf a r&& ! o.any λw=>kD a r==w then .go (o++[kD a r])else .stop yR) (λo=>xM o bc) l o=bif dj r l o then xM (o++l.map λa=>kD a r) bc else yR:=by intro l;induction l with|nil=>intro o;rw[bG,dj,Dr,eT]<;>rfl|cons a l g=>intro o;rw[bG,dj];grind
 refine(cg (T:=λn s=>lp nT gU ti n s M5) (st:=λi o=>ano l r i o) (λi o=>o.length=i) (by omega) ?_ ?_ (a:=[]) rfl).trans (key l [])
 ·intro i o a n c h j d k b;let m:=aF5 l r i (o:=o) (by omega) n a d b;grind
 ·intro o n c b;exact aF6 l r o n b
theorem aF7 l r:hlp nT gU ti _ (yP l r 0) M5=lp nT gU ti fu (yP l r 0) M5:=rfl
theorem HX {l:af}(a:l.length<=2147483648)(r:Int):W1 l r=ar (bif dj r l []then jy l r else [],dj r l []):=by unfold W1;rw[(axC l r).trans ((aF7 l r).trans (axF a r))];cases dj r l []with|true=>exact Ph _ _|false=>rfl
def anp (l:af)(c a b i:Int):List Int->LSt
 |[]=>yQ l c a b i
 |v::o=>Fp l c a b i (v::o)
theorem aF8 (l:af) c b d i {o:af} (g:o.length<=2147483648) n a (e:idx l i=ar a) (f:a7 (i<.ofNat l.length)=bc):lp nU gV tj (n+1) (anp l c b d i o) M6=
  bif a7 (b<=a)&&a7 (a<=d)then lp nU gV tj n (anp l c b d (i64.wrap (i+1)) (o++[a])) M6 else yR:=by
 let e1:a7 (a<b)= !decide (b<=a):=by rw[vc];simp
 let e2:a7 (a>d)= !decide (a<=d):=by rw[vc];simp
 cases o with
 |nil=>
  show lp nU gV tj _ (yQ l c b d i) M6=_;rw[aej,f,ai,e,aw,e1];cases a7 (b<=a)with|false=>rw[hX,ai,so,al]<;>rfl|true=>rw[cy,al,aw,e2,gb];cases a7 (a<=d)with|false=>rw[hX,ai,al]<;>rfl|true=>rw[cy,al,aw,ai]<;>rfl
 |cons v o=>
  show lp nU gV tj _ (Fp l c b d i _) M6=_;rw[aek,f,ai,e,aw,e1];cases a7 (b<=a)with|false=>rw[hX,ai,so,al]<;>rfl|true=>rw[cy,al,aw,e2,gb];cases a7 (a<=d)with|false=>rw[hX,ai,al]<;>rfl|true=>rw[cy,al,aw,gu g,aw,ai]<;>rfl
theorem aF9 l c a b (o:af) n (d:a7 ((l.length:Nat)<bd l.length)=a8):lp nU gV tj (n+1) (anp l c a b l.length o) M6=xM o (.ofNat o.length==c):=by cases o with|nil=>show lp nU gV tj _ (yQ l c a b _) M6=_;rw[aej,d,al]<;>rfl|cons v o=>show lp nU gV tj _ (Fp l c a b _ _) M6=_;rw[aek,d,al]<;>rfl
theorem axG {l}(f:l.length<=2147483648) c lo hi:lp nU gV tj fu (yQ l c lo hi 0) M6=bif cY lo hi l then xM l (.ofNat l.length==c)else yR:=by
 let g:maxLen=9223372036854775807:=by decide
 let key:∀(l o:af),bG (λo a=>bif a7 (lo<=a)&&a7 (a<=hi)then .go (o++[a])else .stop yR) (λo=>xM o (.ofNat o.length==c)) l o=bif cY lo hi l then xM (o++l) (.ofNat (o++l).length==c)else yR:=by intro l;induction l with|nil=>intro o;rw[bG,eT]<;>rfl|cons a l h=>intro o;rw[bG,show cY lo hi _=(decide _&&decide _&&cY lo hi l)from rfl];grind
 refine(cg (T:=λn s=>lp nU gV tj n s M6) (st:=λi o=>anp l c lo hi i o) (fin:=λo=>xM o (.ofNat o.length==c)) (λi o=>o.length=i) (by omega) ?_ ?_ (a:=[]) rfl).trans (key l [])
 ·intro i o a n d j k e m b;let p:=aF8 l c lo hi i (o:=o) (by omega) n a e b;grind
 ·intro o n d b;exact aF9 l c lo hi o n b
theorem aGa l c a b:hlp nU gV tj _ (yQ l c a b 0) M6=lp nU gV tj fu (yQ l c a b 0) M6:=rfl
theorem uC {y}{a:ao}{o:af}(f:aE y.2.2.2.2.1=bc)(g:o.length<=2147483648)(c b d:Int):W3 y a o c b d=ar (bif cY b d (aj y.2.2.2.2.1 a o)then aj y.2.2.2.2.1 a o else [],cA c b d (aj y.2.2.2.2.1 a o)):=by let ⟨g1,g2⟩:=oU y a o (oV f g);let e:=axE y a o c b d;rw[g1,ai,g2]at e;unfold W3;rw[e.trans ((aGa _ c b d).trans (axG (cN f a g) c b d))];unfold cA;cases cY b d _ with|true=>exact Ph _ _|false=>rfl
def aqy  :=aU f175
def vY  :=cL (cL (cR (cL (cR (cR aqy)))))
def iC :Cfg:=⟨50,6,0,[(3,[1,2,7,8])],bc⟩
def pL  :=((qb.add 128 O4).add 53 D1).add 192 ann
theorem W5 :pL.Good:=((mL.add sN).add mC).add HV
def W6 y r  :=bT [.slice aa,.bool,.bool] (aB pL f175 6 [(3,[1,2,7,8])] [.d Y2 y,.d aa r] [] ah)
def W7 y r  :=(W6 y r).isSome
def nV y r  :=(W6 y r).getD (dS _)
def aGb  :=cC [Y2,aa] _ λy r=>(W7 y r,nV y r)
theorem anq :bq 175 aGb:=bh (bM W5 func175 call175 (h2:=rfl)) (by simp only[dg];exact λy r h=>aZ h)
theorem HY {a} y r (h:W6 y r=ar a):W7 y r=bc/\nV y r=a:=bU h
def CO (y:(Y2).den)(r i:Int):LSt:=⟨az 6 [(1,I r),(2,.op 0 [] 0),(7,.nils),(8,I i)],[(0,.box (.d _ y))],1⟩
def Sq  :=aI 0 (aL pL iC [3] (hlp pL iC) (cR (cR (cR aqy))) (aV prog 0 f175.results.toList ah))
theorem axH y r:aB pL f175 6 [(3,[1,2,7,8])] [.d _ y,I r] [] ah=(hlp pL iC) vY _ (CO y r 0) Sq:=(aW [3] iC rfl).trans (by obtain⟨a,h⟩:=aM pL iC;rw[h];kernel_rfl)
def Fq (y:(Y2).den)(r i:Int)(o:af):LSt:=⟨az 6 [(1,I r),(2,.op 0 [] 0),(7,.os 1 0),(8,I i)],[(0,.box (.d _ y)),(1,.arr 2 aa 0 a8 o)],2⟩
theorem ael y r i n:lp pL iC vY (n+1) (CO y r i) Sq=bif a7 (i<r)then lp pL iC vY n (Fq y r (i64.wrap (i+1)) [i]) Sq else bif nR y [97,120,101,115] []then bif y.1==qD then bif pJ y [97,120,105,115] 0 then bif pJ y [107,101,101,112,100,105,109,115] 1 then bif uA [cI y [97,120,105,115] 0] r then bif (gM [cI y [97,120,105,115] 0] r).2 then bif cI y [107,101,101,112,100,105,109,115] 1==0 then ak [.d (aa).slice (gM [cI y [97,120,105,115] 0] r).1,B (cI y [107,101,101,112,100,105,109,115] 1==1),B bc]else ak [.d (aa).slice (gM [cI y [97,120,105,115] 0] r).1,B (cI y [107,101,101,112,100,105,109,115] 1==1),B (cI y [107,101,101,112,100,105,109,115] 1==1)]else ak [.d (aa).slice (gM [cI y [97,120,105,115] 0] r).1,B (cI y [107,101,101,112,100,105,109,115] 1==1),B a8]else a6 else a6 else a6 else bif pJ y [107,101,101,112,100,105,109,115] 1 then bif uA (ef y [97,120,101,115] []) r then bif (gM (ef y [97,120,101,115] []) r).2 then bif cI y [107,101,101,112,100,105,109,115] 1==0 then ak [.d (aa).slice (gM (ef y [97,120,101,115] []) r).1,B (cI y [107,101,101,112,100,105,109,115] 1==1),B bc]else ak [.d (aa).slice (gM (ef y [97,120,101,115] []) r).1,B (cI y [107,101,101,112,100,105,109,115] 1==1),B (cI y [107,101,101,112,100,105,109,115] 1==1)]else ak [.d (aa).slice (gM (ef y [97,120,101,115] []) r).1,B (cI y [107,101,101,112,100,105,109,115] 1==1),B a8]else a6 else a6 else a6:=by kernel_rfl
theorem aem y r i o n:lp pL iC vY (n+1) (Fq y r i o) Sq=bif a7 (i<r)then (app o [i]).bind λa=>lp pL iC vY n (Fq y r (i64.wrap (i+1)) a) Sq else bif nR y [97,120,101,115] o then bif y.1==qD then bif pJ y [97,120,105,115] 0 then bif pJ y [107,101,101,112,100,105,109,115] 1 then bif uA [cI y [97,120,105,115] 0] r then bif (gM [cI y [97,120,105,115] 0] r).2 then bif cI y [107,101,101,112,100,105,109,115] 1==0 then ak [.d (aa).slice (gM [cI y [97,120,105,115] 0] r).1,B (cI y [107,101,101,112,100,105,109,115] 1==1),B bc]else ak [.d (aa).slice (gM [cI y [97,120,105,115] 0] r).1,B (cI y [107,101,101,112,100,105,109,115] 1==1),B (cI y [107,101,101,112,100,105,109,115] 1==1)]else ak [.d (aa).slice (gM [cI y [97,120,105,115] 0] r).1,B (cI y [107,101,101,112,100,105,109,115] 1==1),B a8]else a6 else a6 else a6 else bif pJ y [107,101,101,112,100,105,109,115] 1 then bif uA (ef y [97,120,101,115] o) r then bif (gM (ef y [97,120,101,115] o) r).2 then bif cI y [107,101,101,112,100,105,109,115] 1==0 then ak [.d (aa).slice (gM (ef y [97,120,101,115] o) r).1,B (cI y [107,101,101,112,100,105,109,115] 1==1),B bc]else ak [.d (aa).slice (gM (ef y [97,120,101,115] o) r).1,B (cI y [107,101,101,112,100,105,109,115] 1==1),B (cI y [107,101,101,112,100,105,109,115] 1==1)]else ak [.d (aa).slice (gM (ef y [97,120,101,115] o) r).1,B (cI y [107,101,101,112,100,105,109,115] 1==1),B a8]else a6 else a6 else a6:=by kernel_rfl
def aqz  :=aU f176
def pM  :=cL (cL (cR (cL (cR (cR aqz)))))
def fJ :Cfg:=⟨31,5,0,[(3,[0,1,2,7,8])],bc⟩
def lU  :=qb.add 228 axv
theorem W8 :lU.Good:=mL.add Sn
def W9 d a k  :=bT [.slice aa] (aB lU f176 5 [(3,[0,1,2,7,8])] [.d (.slice aa) d,.d (.slice aa) a,.d .bool k] [] ah)
def Pj d a k  :=(W9 d a k).isSome
def Pk d a k  :=(W9 d a k).getD (dS _)
def axI  :=cC [.slice aa,.slice aa,.bool] _ λd a k=>(Pj d a k,Pk d a k)
theorem Sr :bq 176 axI:=bh (bM W8 func176 call176 (h2:=rfl)) (by simp only[dg];exact λd a k h=>aZ h)
theorem CP {b} d a k (h:W9 d a k=ar b):Pj d a k=bc/\Pk d a k=b:=bU h
def yS (d a:af)(k:Bool)(i:Int):LSt:=⟨az 5 [(0,.d (.slice aa) d),(1,.d (.slice aa) a),(2,B k),(7,.nils),(8,I i)],[],0⟩
def Fs  :=aI 0 (aL lU fJ [3] (hlp lU fJ) (cR (cR (cR aqz))) (aV prog 0 f176.results.toList ah))
theorem axJ (d a:af) k:aB lU f176 5 [(3,[0,1,2,7,8])] [.d (.slice aa) d,.d (.slice aa) a,B k] [] ah=(hlp lU fJ) pM _ (yS d a k 0) Fs:=(aW [3] fJ rfl).trans (by obtain⟨b,h⟩:=aM lU fJ;rw[h];kernel_rfl)
def vZ (d a:af)(k:Bool)(i:Int)(o:af):LSt:=⟨az 5 [(0,.d (.slice aa) d),(1,.d (.slice aa) a),(2,B k),(7,.os 0 0),(8,I i)],[(0,.arr 3 aa 0 a8 o)],1⟩
theorem aen d a k i n:lp lU fJ pM (n+1) (yS d a k i) Fs=bif a7 (i<.ofNat d.length)then bif Wt a i then bif !Wu a i then (idx d i).bind λb=>lp lU fJ pM n (vZ d a k (i64.wrap (i+1)) [b]) Fs else bif k then lp lU fJ pM n (vZ d a k (i64.wrap (i+1)) [1]) Fs else lp lU fJ pM n (yS d a k (i64.wrap (i+1))) Fs else a6 else ak [.nils]:=by kernel_rfl
theorem aeo d a k i o n:lp lU fJ pM (n+1) (vZ d a k i o) Fs=bif a7 (i<.ofNat d.length)then bif Wt a i then bif !Wu a i then (idx d i).bind λc=>(app o [c]).bind λb=>lp lU fJ pM n (vZ d a k (i64.wrap (i+1)) b) Fs else bif k then (app o [1]).bind λb=>lp lU fJ pM n (vZ d a k (i64.wrap (i+1)) b) Fs else lp lU fJ pM n (vZ d a k (i64.wrap (i+1)) o) Fs else a6 else ar (.ret [.os 0 0],[(0,.arr 3 aa 0 a8 o)]):=by kernel_rfl
def aep  :=GV.add 53 D1
theorem Pm :aep.Good:=jR.add mC
def Ft y r  :=bT [aa,.bool] (aB aep f233 5 [] [.d Y2 y,.d aa r] [] ah)
def aeq y r  :=(Ft y r).isSome
def wa y r  :=(Ft y r).getD (dS _)
def aqA  :=cC [Y2,aa] _ λy r=>(aeq y r,wa y r)
theorem aer :bq 233 aqA:=bh (bM Pm func233 call233 (h2:=rfl)) (by simp only[dg];exact λy r h=>aZ h)
theorem anr {a} y r (h:Ft y r=ar a):aeq y r=bc/\wa y r=a:=bU h
theorem ans y r:aB aep f233 5 [] [.d _ y,I r] [] ah=bif pJ y [97,120,105,115] 1 then bif a7 (cI y [97,120,105,115] 1<i64.wrap (0-r))then ak [I 0,B a8]else bif a7 (cI y [97,120,105,115] 1>r)then ak [I 0,B a8]else bif a7 (cI y [97,120,105,115] 1<0)then ak [I (i64.wrap (cI y [97,120,105,115] 1+r)),B bc]else ak [I (cI y [97,120,105,115] 1),B bc]else a6:=by kernel_rfl
def axM  :=gD.add 53 D1
theorem Xa :axM.Good:=sE.add mC
def Xb y a d  :=bT [.slice aa,.bool] (aB axM f229 6 [] [.d Y2 y,.d .str a,.d (.slice aa) d] [] ah)
def ant y a d  :=(Xb y a d).isSome
def jB y a d  :=(Xb y a d).getD (dS _)
def aGc  :=cC [Y2,.str,.slice aa] _ λy a d=>(ant y a d,jB y a d)
theorem anu :bq 229 aGc:=bh (bM Xa func229 call229 (h2:=rfl)) (by simp only[dg];exact λy a d h=>aZ h)
theorem aes {a} y name d (h:Xb y name d=ar a):ant y name d=bc/\jB y name d=a:=bU h
theorem axO y (a:ao) (d:af):aB axM f229 6 [] [.d _ y,.d .str a,.d (.slice aa) d] [] ah=bif pJ y a 0 then bif bd d.length !=2 then ak [.nils,B a8]else bif cI y a 0 !=0 then bif cI y a 0 !=1 then ak [.nils,B a8]else bif cI y a 0==1 then (idx d 1).bind λb=>(idx d 0).bind λc=>ar (.ret [.os 0 0,B bc],[(0,.arr 3 aa 0 a8 [b,c])])else ak [.d (aa).slice d,B bc]else bif cI y a 0==1 then (idx d 1).bind λe=>(idx d 0).bind λb=>ar (.ret [.os 0 0,B bc],[(0,.arr 3 aa 0 a8 [e,b])])else ak [.d (aa).slice d,B bc]else a6:=by kernel_rfl
def aqB  :=aU f136
def xN  :=cL (cL (cR (cL (cR (cR aqB)))))
def iV :Cfg:=⟨26,5,0,[(3,[1,2,6,7])],bc⟩
def qm  :=(DY.add 128 O4).add 192 ann
theorem Xc :qm.Good:=(kV.add sN).add HV
def Xd y r  :=bT [.slice aa,.bool] (aB qm f136 5 [(3,[1,2,6,7])] [.d Y2 y,.d aa r] [] ah)
def axP y r  :=(Xd y r).isSome
def aet y r  :=(Xd y r).getD (dS _)
def aGd  :=cC [Y2,aa] _ λy r=>(axP y r,aet y r)
theorem anv :bq 136 aGd:=bh (bM Xc func136 call136 (h2:=rfl)) (by simp only[dg];exact λy r h=>aZ h)
theorem axQ {a} y r (h:Xd y r=ar a):axP y r=bc/\aet y r=a:=bU h
def CQ (y:(Y2).den)(r i:Int):LSt:=⟨az 5 [(1,I r),(2,.op 0 [] 0),(6,.nils),(7,I i)],[(0,.box (.d _ y))],1⟩
def Xe  :=aI 0 (aL qm iV [3] (hlp qm iV) (cR (cR (cR aqB))) (aV prog 0 f136.results.toList ah))
theorem axR y r:aB qm f136 5 [(3,[1,2,6,7])] [.d _ y,I r] [] ah=(hlp qm iV) xN _ (CQ y r 0) Xe:=(aW [3] iV rfl).trans (by obtain⟨a,h⟩:=aM qm iV;rw[h];kernel_rfl)
def Fu (y:(Y2).den)(r i:Int)(o:af):LSt:=⟨az 5 [(1,I r),(2,.op 0 [] 0),(6,.os 1 0),(7,I i)],[(0,.box (.d _ y)),(1,.arr 2 aa 0 a8 o)],2⟩
theorem aeu y r i n:lp qm iV xN (n+1) (CQ y r i) Xe=bif nR y [115,116,97,114,116,115] []then bif a7 (i<.ofNat (bk (ef y [115,116,97,114,116,115] [])))then lp qm iV xN n (Fu y r (i64.wrap (i+1)) [i]) Xe else bif nR y [97,120,101,115] []then bif uA (ef y [97,120,101,115] []) r then ak [.d (aa).slice (gM (ef y [97,120,101,115] []) r).1,B (gM (ef y [97,120,101,115] []) r).2]else a6 else a6 else a6:=by kernel_rfl
theorem aev y r i o n:lp qm iV xN (n+1) (Fu y r i o) Xe=bif nR y [115,116,97,114,116,115] []then bif a7 (i<.ofNat (bk (ef y [115,116,97,114,116,115] [])))then (app o [i]).bind λa=>lp qm iV xN n (Fu y r (i64.wrap (i+1)) a) Xe else bif nR y [97,120,101,115] o then bif uA (ef y [97,120,101,115] o) r then ak [.d (aa).slice (gM (ef y [97,120,101,115] o) r).1,B (gM (ef y [97,120,101,115] o) r).2]else a6 else a6 else a6:=by kernel_rfl
def Xf a b d  :=bT [aa,aa] (aB DY f137 6 [(4,[8,9,10])] [.d aa a,.d aa b,.d aa d] [] ah)
def axS a b d  :=(Xf a b d).isSome
def Xg a b d  :=(Xf a b d).getD (dS _)
def aGe  :=cC [aa,aa,aa] _ λa b d=>(axS a b d,Xg a b d)
theorem anw :bq 137 aGe:=bh Rc (by simp only[dg];exact λa b d h=>aZ h)
theorem axT {c} a b d (h:Xf a b d=ar c):axS a b d=bc/\Xg a b d=c:=bU h
theorem axU a b d:aB DY f137 6 [(4,[8,9,10])] [I a,I b,I d] [] ah=bif a7 (a<0)then bif a7 (b<0)then ak [I (if (if i64.wrap (a+d)<d then i64.wrap (a+d)else d)>0 then if i64.wrap (a+d)<d then i64.wrap (a+d)else d else 0),I (if (if i64.wrap (b+d)<d then i64.wrap (b+d)else d)>0 then if i64.wrap (b+d)<d then i64.wrap (b+d)else d else 0)]else ak [I (if (if i64.wrap (a+d)<d then i64.wrap (a+d)else d)>0 then if i64.wrap (a+d)<d then i64.wrap (a+d)else d else 0),I (if (if b<d then b else d)>0 then if b<d then b else d else 0)]else bif a7 (b<0)then ak [I (if (if a<d then a else d)>0 then if a<d then a else d else 0),I (if (if i64.wrap (b+d)<d then i64.wrap (b+d)else d)>0 then if i64.wrap (b+d)<d then i64.wrap (b+d)else d else 0)]else ak [I (if (if a<d then a else d)>0 then if a<d then a else d else 0),I (if (if b<d then b else d)>0 then if b<d then b else d else 0)]:=by kernel_rfl
theorem aqC {R S:Type}{T:Nat->S->Option R}{N}(b:N<=2147483648){st:Int->List Int->S}{F:List Int->Option R}
  (h:∀(i:Nat) (o:af) (n:Nat),i<N->o.length=i->i64.wrap (i+1)=(i+1:Nat)->a7 (i<(N:Int))=bc->T (n+1) (st i o)=T n (st (i+1:Nat) (o++[(i:Int)])))
  (c:∀(o:af) (n:Nat),o.length=N->a7 (N<(N:Int))=a8->T (n+1) (st N o)=F o):T fu (st 0 [])=F (fw N):=by
 let d:maxLen=9223372036854775807:=by decide
 let key:∀(l:List Nat) (o:af),bG (λo (i:Nat)=>.go (o++[(i:Int)])) F l o=F (o++l.map .ofNat):=by intro l;induction l with|nil=>intro o;rw[bG,Dr,eT]|cons i l a=>intro o;refine(a _).trans ?_;simp
 refine(fq (λi o=>o.length=i) (by omega) ?_ ?_ rfl).trans (key _ [])
 all_goals grind
def axV (y:(Y2).den)(r i:Int):List Int->LSt
 |[]=>CO y r i
 |v::o=>Fq y r i (v::o)
def oz (y:(Y2).den)(o:af):af:=bif y.1==gS then [aS y.2.2.2.2.1 bE 0]else aj y.2.2.2.2.1 bD o
def ruF (y:(Y2).den)(r:Int)(o:af):Option (aq×LHp):=ar (.ret [.d (.slice aa) (bif dj r (oz y o) []then jy (oz y o) r else []),B (aS y.2.2.2.2.1 bH 1==1),B (dj r (oz y o) []&&(aS y.2.2.2.2.1 bH 1==0||aS y.2.2.2.2.1 bH 1==1))],[])
theorem aGf {y}(f:aE y.2.2.2.2.1=bc){r i}{o:af}(h:o.length<=2147483648)(j:a7 (i<r)=a8) n:lp pL iC vY (n+1) (axV y r i o) Sq=ruF y r o:=by
 let t:maxLen=9223372036854775807:=by decide
 let u:=bz f;let e  :=λc k=>qk y c k (ql (by omega))
 let ⟨p,q⟩:=oU y bD o (oV f h);let g:(oz y o).length<=2147483648:=by unfold oz;cases y.1==gS with|true=>show 1<=2147483648;decide|false=>exact cN f bD h
 let l:=HW _ r (HX g r);let fin:∀b:af,b=oz y o->(bif uA b r then bif (gM b r).2 then (bif aS y.2.2.2.2.1 bH 1==0 then ak [.d (aa).slice (gM b r).1,B (aS y.2.2.2.2.1 bH 1==1),B bc]else ak [.d (aa).slice (gM b r).1,B (aS y.2.2.2.2.1 bH 1==1),B (aS y.2.2.2.2.1 bH 1==1)])else ak [.d (aa).slice (gM b r).1,B (aS y.2.2.2.2.1 bH 1==1),B a8]else a6)=ruF y r o:=λb s=>by subst s;rw[l.1,l.2];unfold ruF;grind
 let a:(bif nR y bD o then bif y.1==gS then (bif pJ y bE 0 then (bif pJ y bH 1 then (bif uA [cI y bE 0] r then (bif (gM [cI y bE 0] r).2 then (bif cI y bH 1==0 then ak [.d (aa).slice (gM [cI y bE 0] r).1,B (cI y bH 1==1),B bc]else ak [.d (aa).slice (gM [cI y bE 0] r).1,B (cI y bH 1==1),B (cI y bH 1==1)])else ak [.d (aa).slice (gM [cI y bE 0] r).1,B (cI y bH 1==1),B _])else a6)else a6)else a6)
   else (bif pJ y bH 1 then (bif uA (ef y bD o) r then (bif (gM (ef y bD o) r).2 then (bif cI y bH 1==0 then ak [.d (aa).slice (gM (ef y bD o) r).1,B (cI y bH 1==1),B bc]else ak [.d (aa).slice (gM (ef y bD o) r).1,B (cI y bH 1==1),B (cI y bH 1==1)])else ak [.d (aa).slice (gM (ef y bD o) r).1,B (cI y bH 1==1),B a8])else a6)else a6)else a6)=ruF y r o:=by
  rw[p,ai,q,(e bE 0).1,(e bE 0).2,(e bH 1).1,(e bH 1).2,ai,ai,ai]
  cases m:y.1==gS with|true=>rw[ai];exact fin _ (by unfold oz;rw[m]<;>rfl)|false=>rw[al];exact fin _ (by unfold oz;rw[m]<;>rfl)
 cases o with|nil=>show lp pL iC vY (n+1) (CO y r i) Sq=_;rw[ael,j,al];exact a|cons v o=>show lp pL iC vY (n+1) (Fq y r i (v::o)) Sq=_;rw[aem,j,al];exact a
theorem aGg y r:hlp pL iC vY _ (CO y r 0) Sq=lp pL iC vY fu (CO y r 0) Sq:=rfl
theorem HZ {y:(Y2).den}(d:aE y.2.2.2.2.1=bc){N:Nat}(e:N<=2147483648):W6 y (N:Int)=ar (bif dj (N:Int) (oz y (fw N)) []then jy (oz y (fw N)) (N:Int)else [],aS y.2.2.2.2.1 bH 1==1,dj (N:Int) (oz y (fw N)) []&&(aS y.2.2.2.2.1 bH 1==0||aS y.2.2.2.2.1 bH 1==1)):=by
 have h:lp pL iC vY fu (axV y (N:Int) 0 []) Sq=ruF y (N:Int) (fw N):=by
  refine aqC (T:=λn s=>lp pL iC vY n s Sq) (N:=N) (st:=λi o=>axV y (N:Int) i o) (F:=λo=>ruF y (N:Int) o) e ?_ ?_
  ·intro i o n f b c a;cases o with|nil=>show lp pL iC vY (n+1) (CO y (N:Int) (i:Int)) Sq=_;rw[ael,a,ai,c]<;>rfl|cons v o=>show lp pL iC vY (n+1) (Fq y (N:Int) (i:Int) (v::o)) Sq=_;rw[aem,a,ai,gu (by rw[b];omega),aw,c]<;>rfl
  ·intro o n b a;exact aGf d (by omega) a n
 unfold W6;rw[(axH y (N:Int)).trans ((aGg y (N:Int)).trans h)]<;>rfl
def aew (d a:af)(k:Bool)(i:Int):List Int->LSt
 |[]=>yS d a k i
 |v::o=>vZ d a k i (v::o)
def Xh :List Int->Option (aq×LHp)
 |[]=>ar (.ret [.nils],[])
 |v::o=>ar (.ret [.os 0 0],[(0,.arr 3 aa 0 a8 (v::o))])
theorem axW (o:af):bT [.slice aa] (Xh o)=ar o:=by cases o<;>rfl
theorem aGh {a}(f:a.length<=maxLen)(d:af) k i {o:af} (b:o.length<=2147483648) n x (c:idx d i=ar x) (e:a7 (i<.ofNat d.length)=bc):lp lU fJ pM (n+1) (aew d a k i o) Fs=
  lp lU fJ pM n (aew d a k (i64.wrap (i+1)) (bif !dZ a i then o++[x]else bif k then o++[1]else o)) Fs:=by
 let ⟨g1,g2⟩:=aee a i (aef f i)
 cases o with
 |nil=>
  show lp lU fJ pM _ (yS d a k i) Fs=_;rw[aen,e,ai,g1,ai,g2];cases dZ a i with|false=>rw[hX,ai,ai,c,aw]<;>rfl|true=>cases k with|true=>rw[ai,ai]<;>rfl|false=>rw[al,al]<;>rfl
 |cons v o=>
  show lp lU fJ pM _ (vZ d a k i _) Fs=_;rw[aeo,e,ai,g1,ai,g2];cases dZ a i with|false=>rw[hX,ai,ai,c,aw,gu b,aw]<;>rfl|true=>cases k with|true=>rw[ai,ai,gu b,aw]<;>rfl|false=>rw[al,al]<;>rfl
theorem aGi d a k:hlp lU fJ pM _ (yS d a k 0) Fs=lp lU fJ pM fu (yS d a k 0) Fs:=rfl
theorem CR {d a:af}(q:d.length<=2147483648)(k:a.length<=maxLen) c:W9 d a (c==1)=ar (rJ a c 0 d):=by
 let r:maxLen=9223372036854775807:=by decide
 let key:∀(l:af) (i:Nat) (o:af),bG (λs x=>(.go (s.1+1,bif !dZ a (s.1:Int)then s.2++[x]else bif c==1 then s.2++[1]else s.2):Nx _ _)) (λs=>Xh s.2) l (i,o)=Xh (o++rJ a c i l):=by intro l;induction l with|nil=>intro i o;rw[bG,rJ,eT]|cons x l m=>intro i o;refine(m _ _).trans ?_;rw[rJ];grind
 let h  :=by
  refine(cg (T:=λn s=>lp lU fJ pM n s Fs) (st:=λi s=>aew d a (c==1) i s.2) (f:=λ(s:Nat×af) x=>.go (s.1+1,bif !dZ a s.1 then s.2++[x]else bif c==1 then s.2++[1]else s.2)) (fin:=λs=>Xh s.2) (λi s=>s.1=i/\s.2.length<=i) (by omega) ?_ ?_ (a:=(0,[])) ⟨rfl,ep _⟩).trans (key d 0 [])
  ·rintro i ⟨e,o⟩ x n ⟨g,j⟩ t u p w b
   have g  :=g;subst g;let j:o.length<=e:=j;let y:=aGh k d (c==1) e (o:=o) (by omega) n x p b;grind
  ·rintro⟨e,o⟩ n _ b
   show lp lU fJ pM (n+1) (aew d a (c==1) d.length o) Fs=Xh o;cases o with|nil=>show lp lU fJ pM (n+1) (yS d a (c==1) d.length) Fs=_;rw[aen,b,al]<;>rfl|cons v o=>show lp lU fJ pM (n+1) (vZ d a (c==1) d.length (v::o)) Fs=_;rw[aeo,b,al]<;>rfl
 unfold W9;rw[(axJ d a (c==1)).trans ((aGi d a (c==1)).trans h)];exact axW _
def aGj (y:(Y2).den)(r i:Int):List Int->LSt
 |[]=>CQ y r i
 |v::o=>Fu y r i (v::o)
def slF (y:(Y2).den)(r:Int)(o:af):Option (aq×LHp):=ar (.ret [.d (.slice aa) (bif dj r (aj y.2.2.2.2.1 bD o) []then jy (aj y.2.2.2.2.1 bD o) r else []),B (dj r (aj y.2.2.2.2.1 bD o) [])],[])
theorem aGk y r:hlp qm iV xN _ (CQ y r 0) Xe=lp qm iV xN fu (CQ y r 0) Xe:=rfl
theorem axX {y:(Y2).den}(b:aE y.2.2.2.2.1=bc)(r:Int):Xd y r=ar (bif dj r (IS y.2.2.2.2.1) []then jy (IS y.2.2.2.2.1) r else [],dj r (IS y.2.2.2.2.1) []):=by
 obtain⟨c,e⟩:=oU y bw [] (oV b (k7 _));have q:(aj y.2.2.2.2.1 bw []).length<=2147483648:=cN b bw (k7 _)
 have h:lp qm iV xN fu (aGj y r 0 []) Xe=slF y r (fw (aj y.2.2.2.2.1 bw []).length):=by
  refine aqC (T:=λn s=>lp qm iV xN n s Xe) (N:=(aj y.2.2.2.2.1 bw []).length) (st:=λi o=>aGj y r i o) (F:=slF y r) q ?_ ?_
  ·intro i o n t f g a;cases o with|nil=>show lp qm iV xN (n+1) (CQ y r (i:Int)) Xe=_;rw[aeu];change (bif nR y bw []then (bif a7 ((i:Int)<bd (bk (ef y bw [])))then _ else _)else a6)=_;rw[c,ai,e,show a7 ((i:Int)<bd (aj y.2.2.2.2.1 bw []).length)=bc from a,ai,g]<;>rfl|cons v o=>show lp qm iV xN (n+1) (Fu y r (i:Int) (v::o)) Xe=_;rw[aev];change (bif nR y bw []then (bif a7 ((i:Int)<bd (bk (ef y bw [])))then _ else _)else a6)=_;rw[c,ai,e,show a7 ((i:Int)<bd (aj y.2.2.2.2.1 bw []).length)=bc from a,ai,gu (by rw[f];omega),aw,g]<;>rfl
  ·intro o n f a
   have j:o.length<=2147483648:=by omega
   obtain⟨k,l⟩:=oU y bD o (oV b j);obtain⟨m,p⟩:=HW (aj y.2.2.2.2.1 bD o) r (HX (cN b bD j) r);cases o with|nil=>show lp qm iV xN (n+1) (CQ y r _) Xe=_;rw[aeu];change (bif nR y bw []then (bif a7 (_<bd (bk (ef y bw [])))then _ else (bif nR y bD []then (bif uA (ef y bD []) r then ak [eb (aa).slice (gM (ef y bD []) r).1,B (gM (ef y bD []) r).2]else a6)else a6))else a6)=_;rw[c,ai,e,show a7 (((aj y.2.2.2.2.1 bw []).length:Int)<bd (aj y.2.2.2.2.1 bw []).length)=a8 from a,al,k,ai,l,m,ai,p]<;>rfl|cons v o=>show lp qm iV xN (n+1) (Fu y r _ (v::o)) Xe=_;rw[aev];change (bif nR y bw []then (bif a7 (_<bd (bk (ef y bw [])))then _ else (bif nR y bD (v::o)then (bif uA (ef y bD (v::o)) r then ak [eb (aa).slice (gM (ef y bD (v::o)) r).1,B (gM (ef y bD (v::o)) r).2]else a6)else a6))else a6)=_;rw[c,ai,e,show a7 (((aj y.2.2.2.2.1 bw []).length:Int)<bd (aj y.2.2.2.2.1 bw []).length)=a8 from a,al,k,ai,l,m,ai,p]<;>rfl
 unfold Xd;rw[(axR y r).trans ((aGk y r).trans h)]<;>rfl
def aex  :=aU f232
def Po  :=cL (cL (cR (cL (cR (cR (cR (cR (cR (cR aex)))))))))
def lj :Cfg:=⟨81,7,0,[(8,[1,6,7,8,10,11])],bc⟩
def uD  :=((GV.add 128 O4).add 136 aGd).add 137 aGe
theorem Xi :uD.Good:=((jR.add sN).add anv).add anw
def Xj y d  :=bT [.slice aa,.bool] (aB uD f232 7 [(8,[1,6,7,8,10,11])] [.d Y2 y,.d (.slice aa) d] [] ah)
def axY y d  :=(Xj y d).isSome
def anx y d  :=(Xj y d).getD (dS _)
def aGl  :=cC [Y2,.slice aa] _ λy d=>(axY y d,anx y d)
theorem anz :bq 232 aGl:=bh (bM Xi func232 call232 (h2:=rfl)) (by simp only[dg];exact λy d h=>aZ h)
theorem axZ {a} y d (h:Xj y d=ar a):axY y d=bc/\anx y d=a:=bU h
theorem ax0 y (d:af):aB uD f232 7 [(8,[1,6,7,8,10,11])] [.d _ y,.d (.slice aa) d] [] ah=bif nR y [115,116,97,114,116,115] []then bif nR y [101,110,100,115] []then bif axP y (.ofNat d.length)then bif !(aet y (.ofNat d.length)).2 then ak [.nils,B a8]else bif .ofNat (bk (ef y [115,116,97,114,116,115] [])) !=bd (bk (ef y [101,110,100,115] []))then ak [.nils,B a8]else bif .ofNat (bk (ef y [115,116,97,114,116,115] [])) !=bd (bk (aet y (.ofNat d.length)).1)then ak [.nils,B a8]else (app [] d).bind λa=>(hlp uD lj) Po _ ⟨az 7 [(1,.d (aa).slice d),(6,.d (aa).slice (ef y [115,116,97,114,116,115] [])),(7,.d (aa).slice (ef y [101,110,100,115] [])),(8,.d (aa).slice (aet y (.ofNat d.length)).1),(10,.os 0 0),(11,I 0)],[(0,.arr 3 aa 0 a8 a)],1⟩ (aI 0 (aL uD lj [8] (hlp uD lj) (cR (cR (cR (cR (cR (cR (cR aex))))))) (aV prog 0 f232.results.toList ah)))else a6 else a6 else a6:=(aW [8] lj rfl).trans (by obtain⟨b,h⟩:=aM uD lj;rw[h];kernel_rfl)
def aey  :=aU f138
def xO  :=cL (cL (cR (cL (cR (cR (cR (cR aey)))))))
def ia :Cfg:=⟨49,6,0,[(6,[1,7,9,10])],bc⟩
def o5  :=DY.add 74 W4
theorem Xk :o5.Good:=kV.add vX
def Xl y d  :=bT [.slice aa,.slice aa,.bool] (aB o5 f138 6 [(6,[1,7,9,10])] [.d Y2 y,.d (.slice aa) d] [] ah)
def ax1 y d  :=(Xl y d).isSome
def anA y d  :=(Xl y d).getD (dS _)
def aGm  :=cC [Y2,.slice aa] _ λy d=>(ax1 y d,anA y d)
theorem anB :bq 138 aGm:=bh (bM Xk func138 call138 (h2:=rfl)) (by simp only[dg];exact λy d h=>aZ h)
theorem ax2 {a} y d (h:Xl y d=ar a):ax1 y d=bc/\anA y d=a:=bU h
theorem ax3 y (d:af):aB o5 f138 6 [(6,[1,7,9,10])] [.d _ y,.d (.slice aa) d] [] ah=bif CN y [112,97,100,115] [] (i64.wrap (.ofNat (2*d.length))) 0 65536 then bif !(dx y [112,97,100,115] [] (i64.wrap (.ofNat (2*d.length))) 0 65536).2 then ak [.nils,.nils,B a8]else (hlp o5 ia) xO _ ⟨az 6 [(1,.d (aa).slice d),(7,.d (aa).slice (dx y [112,97,100,115] [] (i64.wrap (.ofNat (2*d.length))) 0 65536).1),(9,.nils),(10,I 0)],[],0⟩ (aI 0 (aL o5 ia [6] (hlp o5 ia) (cR (cR (cR (cR (cR aey))))) (aV prog 0 f138.results.toList ah)))else a6:=(aW [6] ia rfl).trans (by obtain⟨a,h⟩:=aM o5 ia;rw[h];kernel_rfl)
def Fv  :=aU f231
def xP  :=cL (cL (cR (cL (cR (cR (cR (cR (cR Fv))))))))
def L2  :=cL (cL (cR (cR (cR (cL (cL (cR (cL (cL (cR (cL (cR (cR (cR (cR (cR Fv))))))))))))))))
def df :Cfg:=⟨76,7,0,[(7,[1,6,7,9,10]),(13,[1,6,7,9,10,11,12])],bc⟩
def iD  :=(DY.add 53 D1).add 52 aeg
theorem Xm :iD.Good:=(kV.add mC).add Ao
def Xn y a  :=bT [.slice aa,.bool] (aB iD f231 7 [(7,[1,6,7,9,10]),(13,[1,6,7,9,10,11,12])] [.d Y2 y,.d (.slice Y3) a] [] ah)
def ax4 y a  :=(Xn y a).isSome
def anC y a  :=(Xn y a).getD (dS _)
def aGn  :=cC [Y2,.slice _] _ λy a=>(ax4 y a,anC y a)
theorem anD :bq 231 aGn:=bh (bM Xm func231 call231 (h2:=rfl)) (by simp only[dg];exact λy a h=>aZ h)
theorem ax5 {a} y vs (h:Xn y vs=ar a):ax4 y vs=bc/\anC y vs=a:=bU h
theorem ax6 y (b:cm):aB iD f231 7 [(7,[1,6,7,9,10]),(13,[1,6,7,9,10,11,12])] [.d _ y,.d (.slice _) b] [] ah=(idx b 0).bind λa=>bif pJ y [97,120,105,115] 0 then bif Pg (cI y [97,120,105,115] 0) (.ofNat (bk a.2.2.1))then bif !(rW (cI y [97,120,105,115] 0) (.ofNat (bk a.2.2.1))).2 then ak [.nils,B a8]else (app [] a.2.2.1).bind λc=>(hlp iD df) xP _ ⟨az 7 [(1,.d Y3.slice b),(6,.d (aa).slice a.2.2.1),(7,I (rW (cI y [97,120,105,115] 0) (.ofNat (bk a.2.2.1))).1),(9,.os 0 0),(10,I 1)],[(0,.arr 3 aa 0 a8 c)],1⟩ (aI 0 (aL iD df [7,13] (hlp iD df) (cR (cR (cR (cR (cR (cR Fv)))))) (aV prog 0 f231.results.toList ah)))else a6 else a6:=(aW [7,13] df rfl).trans (by obtain⟨e,h⟩:=aM iD df;rw[h];kernel_rfl)
def aez  :=aU f230
def fK  :=cL (cL (cR (cL (cR (cR (cR (cR (cR (cR aez)))))))))
def bX :Cfg:=⟨88,7,0,[(7,[1,6,7,9,10,11,12])],bc⟩
def eg  :=(DY.add 128 O4).add 30 am4
theorem Xo :eg.Good:=(kV.add sN).add HP
def Xp y d  :=bT [.slice aa,.bool] (aB eg f230 7 [(7,[1,6,7,9,10,11,12])] [.d Y2 y,.d (.slice aa) d] [] ah)
def ax7 y d  :=(Xp y d).isSome
def anE y d  :=(Xp y d).getD (dS _)
def aGo  :=cC [Y2,.slice aa] _ λy d=>(ax7 y d,anE y d)
theorem anF :bq 230 aGo:=bh (bM Xo func230 call230 (h2:=rfl)) (by simp only[dg];exact λy d h=>aZ h)
theorem ax8 {a} y d (h:Xp y d=ar a):ax7 y d=bc/\anE y d=a:=bU h
theorem ax9 y (d:af):aB eg f230 7 [(7,[1,6,7,9,10,11,12])] [.d _ y,.d (.slice aa) d] [] ah=bif nR y [115,104,97,112,101] []then bif D4 d then (hlp eg bX) fK _ ⟨az 7 [(1,.d (aa).slice d),(6,.d (aa).slice (ef y [115,104,97,112,101] [])),(7,I (th d).1),(9,.nils),(10,I (-1)),(11,I 1),(12,I 0)],[],0⟩ (aI 0 (aL eg bX [7] (hlp eg bX) (cR (cR (cR (cR (cR (cR (cR aez))))))) (aV prog 0 f230.results.toList ah)))else a6 else a6:=(aW [7] bX rfl).trans (by obtain⟨a,h⟩:=aM eg bX;rw[h];kernel_rfl)
theorem aya (a b d:Int):Xf a b d=ar (jU a d,jU b d):=by
 unfold Xf;rw[axU];let e:∀k:Int,(if (if k<d then k else d)>0 then if k<d then k else d else 0)=if (if d<k then d else k)>0 then if d<k then d else k else 0:=λk=>by omega
 let c:∀k:Int,(bif decide _ then if (if d<i64.wrap _ then d else i64.wrap _)>0 then if d<i64.wrap _ then d else i64.wrap _ else 0 else if (if d<k then d else k)>0 then if d<k then d else k else 0)=jU k d:=λk=>rfl
 rw[←c,←c];simp only[e];cases a7 (a<0)<;>cases a7 (b<0)<;>rfl
def Xq (d a b c o:af)(i:Int):LSt:=⟨az 7 [(1,.d (.slice aa) d),(6,.d (.slice aa) a),(7,.d (.slice aa) b),(8,.d (.slice aa) c),(10,.os 0 0),(11,I i)],[(0,.arr 3 aa 0 a8 o)],1⟩
noncomputable def KSi  :=aI 0 (aL uD lj [8] (hlp uD lj) (cR (cR (cR (cR (cR (cR (cR aex))))))) (aV prog 0 f232.results.toList ah))
theorem aqD d f g a o i n:lp uD lj Po (n+1) (Xq d f g a o i) KSi=bif a7 (i<.ofNat a.length)then (idx f i).bind λb=>(idx g i).bind λc=>(idx a i).bind λj=>(idx d j).bind λe=>bif axS b c e then bif a7 ((Xg b c e).1>=(Xg b c e).2)then ak [.nils,B a8]else (idx a i).bind λh=>(idx o h).bind λl=>(fR o (j4 h) (i64.wrap ((Xg b c e).2-(Xg b c e).1))).bind λk=>lp uD lj Po n (Xq d f g a k (i64.wrap (i+1))) KSi else a6 else ar (.ret [.os 0 0,B bc],[(0,.arr 3 aa 0 a8 o)]):=by kernel_rfl
def Fw (d p:af)(i:Int):LSt:=⟨az 6 [(1,.d (.slice aa) d),(7,.d (.slice aa) p),(9,.nils),(10,I i)],[],0⟩
def Fx (d p o:af)(i:Int):LSt:=⟨az 6 [(1,.d (.slice aa) d),(7,.d (.slice aa) p),(9,.os 0 0),(10,I i)],[(0,.arr 3 aa 0 a8 o)],1⟩
noncomputable def Zb  :=aI 0 (aL o5 ia [6] (hlp o5 ia) (cR (cR (cR (cR (cR aey))))) (aV prog 0 f138.results.toList ah))
theorem aeA d p i n:lp o5 ia xO (n+1) (Fw d p i) Zb=bif a7 (i<.ofNat d.length)then (idx p i).bind λa=>(idx d i).bind λb=>(idx p (i64.wrap (.ofNat d.length+i))).bind λc=>lp o5 ia xO n (Fx d p [i64.wrap (i64.wrap (a+b)+c)] (i64.wrap (i+1))) Zb else ak [.d (aa).slice p,.nils,B bc]:=by kernel_rfl
theorem aeB d p o i n:lp o5 ia xO (n+1) (Fx d p o i) Zb=bif a7 (i<.ofNat d.length)then (idx p i).bind λa=>(idx d i).bind λb=>(idx p (i64.wrap (.ofNat d.length+i))).bind λc=>(app o [i64.wrap (i64.wrap (a+b)+c)]).bind λe=>lp o5 ia xO n (Fx d p e (i64.wrap (i+1))) Zb else ar (.ret [.d (aa).slice p,.os 0 0,B bc],[(0,.arr 3 aa 0 a8 o)]):=by kernel_rfl
theorem aeC k {r} (a:0<=r):0<=jU k r/\jU k r<=r:=by unfold jU;grind
theorem ayb {d st en ax:af}(p:∀x∈d,1<=x/\x<=65536)(C:st.length=ax.length)(D:en.length=ax.length)(E:ax.length<=2147483648)(q:∀k∈ax,0<=k/\k<(d.length:Int)):
  lp uD lj Po fu (Xq d st en ax d 0) KSi=match slD d st en 0 ax d with|some o=>ar (.ret [.os 0 0,B bc],[(0,.arr 3 aa 0 a8 o)])|none=>yR:=by
 let F:maxLen=9223372036854775807:=by decide
 let key:∀(l:af) (i:Nat) (o:af),bG (λs k=>bif a7 (yJ d st en s.1 k>0)then WD (s.1+1,s.2.set k.toNat (yJ d st en s.1 k))else .stop yR) (λs=>ar (.ret [.os 0 0,B bc],[(0,.arr 3 aa 0 a8 s.2)])) l (i,o)=match slD d st en i l o with|some o=>ar (.ret [.os 0 0,B bc],[(0,.arr 3 aa 0 a8 o)])|none=>yR:=by intro l;induction l with|nil=>intro i o;rfl|cons k l G=>intro i o;rw[bG,slD];grind
 refine(cg (xs:=ax) (T:=λn s=>lp uD lj Po n s KSi) (st:=λi s=>Xq d st en ax s.2 i) (f:=λs k=>bif a7 (yJ d st en s.1 k>0)then WD (s.1+1,s.2.set k.toNat (yJ d st en s.1 k))else .stop yR) (fin:=λs=>ar (.ret [.os 0 0,B bc],[(0,.arr 3 aa 0 a8 s.2)])) (λi s=>s.1=i/\s.2.length=d.length) (by omega) ?_ ?_ (a:=(0,d)) ⟨rfl,rfl⟩).trans (key ax 0 d)
 ·rintro i ⟨b,o⟩ k n ⟨e,g⟩ H r t u h
  have e  :=e;subst e;let g:o.length=d.length:=g;let ⟨j,v⟩:=q k (ik r);let w:d.getD k.toNat 0∈d:=by grind
  let ⟨I,J⟩:=p _ w;let ⟨K,L⟩:=aeC (st.getD b 0) (show 0<=d.getD k.toNat 0 by omega);let ⟨M,N⟩:=aeC (en.getD b 0) (show 0<=d.getD k.toNat 0 by omega);let y:yJ d st en b k=jU (en.getD b 0) (d.getD k.toNat 0)-jU (st.getD b 0) (d.getD k.toNat 0):=aH (by omega) (by omega);let ⟨z,A⟩:=axT (st.getD b 0) (en.getD b 0) (d.getD k.toNat 0) (aya _ _ _);let c:=aqD d st en ax o b n;rw[h,ai,eM (show b<st.length by omega),aw,eM (show b<en.length by omega),aw,t,aw,ny j v,aw,z,ai,A]at c;by_cases m:jU (st.getD b 0) (d.getD k.toNat 0)>=jU (en.getD b 0) (d.getD k.toNat 0)
  ·rw[aF m,ai]at c;refine .inr ⟨_,?_,c⟩;show (bif a7 (yJ d st en b k>0)then WD _ else .stop yR)=_;rw[cq (show¬yJ d st en b k>0 by omega)]<;>rfl
  ·rw[cq m,al,aw,ny j (by omega),aw,vT (by omega),aw,u]at c;refine .inl ⟨(b+1,o.set k.toNat (yJ d st en b k)),?_,⟨rfl,by rw[WB];exact g⟩,c⟩;grind
 ·rintro⟨b,o⟩ n _ h
  let c:=aqD d st en ax o ax.length n;grind
theorem aGp d a b c:hlp uD lj Po _ (Xq d a b c d 0) KSi=lp uD lj Po fu (Xq d a b c d 0) KSi:=rfl
theorem ayc {y}{d:af}(b:aE y.2.2.2.2.1=bc)(g:∀x∈d,1<=x/\x<=65536)(i:d.length<=2147483648):Xj y d=ar ((OA y.2.2.2.2.1 d).getD [],(OA y.2.2.2.2.1 d).isSome):=by
 let ⟨j,k⟩:=oU y bw [] (oV b (k7 _));let ⟨e1,e2⟩:=oU y lD [] (oV b (k7 _));let ⟨l,m⟩:=axQ y (.ofNat d.length) (axX b _);let e:=ax0 y d;rw[show ([115,116,97,114,116,115]:ao)=bw from rfl,show ([101,110,100,115]:ao)=lD from rfl,j,e1,l,ai,ai,ai,k,e2,m]at e;unfold Xj;rw[e];unfold OA;let n:(IS y.2.2.2.2.1).length<=2147483648:=cN b bD (by unfold fw;rw[List.length_map,List.length_range];exact cN b bw (k7 _));cases o:dj (.ofNat d.length) (IS y.2.2.2.2.1) []with
 |false=>rfl
 |true=>
  rw[ai,gb];rw[show (!((jy (IS y.2.2.2.2.1) (.ofNat d.length),bc):af×Bool).2)=a8 from rfl,al];cases c:.ofNat (aj y.2.2.2.2.1 bw []).length==bd (aj y.2.2.2.2.1 lD []).length with|false=>rw[bne,c]<;>rfl|true=>rw[bne,c,cy,al,gb];let a:(jy (IS y.2.2.2.2.1) (.ofNat d.length)).length=(IS y.2.2.2.2.1).length:=gr _ _;cases f:.ofNat (aj y.2.2.2.2.1 bw []).length==bd (IS y.2.2.2.2.1).length with|false=>rw[show (.ofNat (aj y.2.2.2.2.1 bw []).length !=bd (bk ((jy (IS y.2.2.2.2.1) (.ofNat d.length),bc)).1))=bc by rw[bne,a,f];rfl]<;>rfl|true=>let p:=eq_of_beq c;let q:=eq_of_beq f;simp only[aK]at p q;rw[show (.ofNat (aj y.2.2.2.2.1 bw []).length !=bd (bk ((jy (IS y.2.2.2.2.1) (bd d.length),bc)).1))=a8 by rw[bne,a,f];rfl,al,nv i,aw,ai];let r  :=Cx (u4 _) (show ((d.length:Nat):Int)<=4294967296 by omega) o;let h:=ayb (d:=d) (st:=aj y.2.2.2.2.1 bw []) (en:=aj y.2.2.2.2.1 lD []) (ax:=jy (IS y.2.2.2.2.1) (bd d.length)) g (by rw[a];omega) (by rw[a];omega) (by rw[a];omega) r;refine(congrArg (bT [.slice aa,.bool]) ((aGp d _ _ _).trans h)).trans ?_;cases slD d (aj y.2.2.2.2.1 bw []) (aj y.2.2.2.2.1 lD []) 0 (jy (IS y.2.2.2.2.1) (bd d.length)) d<;>rfl
def aGq (d p:af)(i:Int):List Int->LSt
 |[]=>Fw d p i
 |v::o=>Fx d p (v::o) i
def aeD (p:af):List Int->Option (aq×LHp)
 |[]=>ar (.ret [.d (.slice aa) p,.nils,B bc],[])
 |v::o=>ar (.ret [.d (.slice aa) p,.os 0 0,B bc],[(0,.arr 3 aa 0 a8 (v::o))])
theorem ayd (p o:af):bT [.slice aa,.slice aa,.bool] (aeD p o)=ar (p,o,bc):=by cases o<;>rfl
theorem aye {d p}(r:∀x∈d,1<=x/\x<=65536)(hp:∀x∈p,0<=x/\x<=65536)(u:d.length<=65536)(w:p.length=2*d.length):lp o5 ia xO fu (aGq d p 0 []) Zb=aeD p (pdL d p):=by
 let y:maxLen=9223372036854775807:=by decide
 let key:∀(l:List Nat) (o:af),bG (λo i=>WD (o++[OJ d p i])) (aeD p) l o=aeD p (o++l.map (OJ d p)):=by intro l;induction l with|nil=>intro o;rw[bG,Dr,eT]|cons i l t=>intro o;refine(t _).trans ?_;simp
 refine(fq (N:=d.length) (T:=λn s=>lp o5 ia xO n s Zb) (st:=λi o=>aGq d p i o) (f:=λo i=>WD (o++[OJ d p i])) (fin:=aeD p) (λi o=>o.length=i) (by omega) ?_ ?_ (a:=[]) rfl).trans (key _ [])
 ·intro i o n g e k c
  let b:∀{l:af} {j:Nat},j<l.length->l.getD j 0∈l:=λ{l j} h=>by grind
  let z:=hp _ (b (l:=p) (j:=i) (by omega));let A:=hp _ (b (l:=p) (j:=d.length+i) (by omega));let B:=r _ (b (l:=d) (j:=i) e);let C:i64.wrap (p.getD i 0+d.getD i 0)=p.getD i 0+d.getD i 0:=aH (by omega) (by omega);let D:i64.wrap (p.getD i 0+p.getD (d.length+i) 0)=p.getD i 0+p.getD (d.length+i) 0:=aH (by omega) (by omega);let m:i64.wrap (i64.wrap (p.getD i 0+d.getD i 0)+p.getD (d.length+i) 0)=OJ d p i:=by unfold OJ;grind
  let q:i64.wrap (bd d.length+i)=(d.length+i:Nat):=by grind [aH,aK]
  refine .inl ⟨_,rfl,by rw[bK,g];rfl,?_⟩;cases o with|nil=>show lp o5 ia xO (n+1) (Fw d p i) Zb=_;rw[aeA,c,ai,eM (show i<p.length by omega),aw,eM e,aw,q,eM (show d.length+i<p.length by omega),aw,m,k]<;>rfl|cons v o=>show lp o5 ia xO (n+1) (Fx d p (v::o) i) Zb=_;rw[aeB,c,ai,eM (show i<p.length by omega),aw,eM e,aw,q,eM (show d.length+i<p.length by omega),aw,m,gu (by rw[g];omega),aw,k]<;>rfl
 ·intro o n _ c;cases o with|nil=>show lp o5 ia xO (n+1) (Fw d p d.length) Zb=_;rw[aeA,c,al]<;>rfl|cons v o=>show lp o5 ia xO (n+1) (Fx d p (v::o) d.length) Zb=_;rw[aeB,c,al]<;>rfl
theorem aGr d p:hlp o5 ia xO _ (Fw d p 0) Zb=lp o5 ia xO fu (Fw d p 0) Zb:=rfl
theorem ayf {y}{d:af}(f:aE y.2.2.2.2.1=bc)(g:∀x∈d,1<=x/\x<=65536)(h:d.length<=65536):Xl y d=ar (bif cA (.ofNat (2*d.length)) 0 65536 (aj y.2.2.2.2.1 bl [])then (aj y.2.2.2.2.1 bl [],pdL d (aj y.2.2.2.2.1 bl []),bc)else ([],[],a8)):=by
 let i:i64.wrap _=.ofNat (2*d.length):=aH (by simp only[aK];omega) (by simp only[aK];omega);let ⟨j,k⟩:=uB y bl [] (.ofNat (2*d.length)) 0 65536 (uC f (k7 _) _ _ _);let e:=ax3 y d;rw[show ([112,97,100,115]:ao)=bl from rfl,i,j,ai,k]at e;unfold Xl;rw[e];cases c:cA _ 0 65536 _ with
 |false=>rfl
 |true=>
  let a:=c;unfold cA at a;rw[aX]at a;rw[a.1];let b:=eq_of_beq a.2;simp only[aK]at b;let hp  :=λx l=>by let:=gv.1 a.1 x l;simpa using this
  rw[show (!((bif bc then aj y.2.2.2.2.1 bl []else [],bc):af×Bool).2)=a8 from rfl,al];exact(congrArg _ ((aGr d _).trans (aye g hp h (by omega)))).trans (ayd _ _)
def D5 (b:cm)(x:af)(a:Int)(o:af)(i:Int):LSt:=⟨az 7 [(1,.d (.slice _) b),(6,.d (.slice aa) x),(7,I a),(9,.os 0 0),(10,I i)],[(0,.arr 3 aa 0 a8 o)],1⟩
def Pp (b:cm)(x d:af)(a:Int)(o:af)(i k:Int):LSt:=⟨az 7 [(1,.d (.slice _) b),(6,.d (.slice aa) x),(7,I a),(9,.os 0 0),(10,I i),(11,.d (.slice aa) d),(12,I k)],[(0,.arr 3 aa 0 a8 o)],1⟩
noncomputable def IW  :=aI 0 (aL iD df [7,13] (hlp iD df) (cR (cR (cR (cR (cR (cR Fv)))))) (aV prog 0 f231.results.toList ah))
theorem aqE b x a o i n:lp iD df xP (n+1) (D5 b x a o i) IW=bif a7 (i<.ofNat b.length)then (idx b i).bind λc=>bif .ofNat (bk c.2.2.1) !=bd x.length then ak [.nils,B a8]else (hlp iD df) L2 _ ⟨az 7 [(1,.d Y3.slice b),(6,.d (aa).slice x),(7,I a),(9,.os 0 0),(10,I i),(11,.d (aa).slice c.2.2.1),(12,I 0)],[(0,.arr 3 aa 0 a8 o)],1⟩ (aI 2 (aI 1 (aL iD df [7,13] (hlp iD df) (cR (cR (cL (cL (cR (cL (cR (cR (cR (cR (cR Fv))))))))))) (lJ iD df [7,13] (hlp iD df) xP n IW))))else ar (.ret [.os 0 0,B bc],[(0,.arr 3 aa 0 a8 o)]):=by rw[j9 [7,13]];obtain⟨e,h⟩:=aM iD df;rw[h];kernel_rfl
noncomputable def KCk (n:Nat)(k:AEx->LSt->Option (aq×LHp))  :=aI 2 (aI 1 (aL iD df [7,13] (hlp iD df) (cR (cR (cL (cL (cR (cL (cR (cR (cR (cR (cR Fv))))))))))) (lJ iD df [7,13] (hlp iD df) xP n k)))
theorem aqF b x d a o i j m n:lp iD df L2 (n+1) (Pp b x d a o i j) (KCk m IW)=bif a7 (j<.ofNat d.length)then bif j==a then (idx o j).bind λe=>(o[j.toNat]?).bind λc=>(idx d j).bind λf=>(idx o j).bind λh=>(fR o j.toNat (i64.wrap (c+f))).bind λg=>lp iD df L2 n (Pp b x d a g i (i64.wrap (j+1))) (KCk m IW)else (idx d j).bind λe=>(idx x j).bind λc=>bif e !=c then ak [.nils,B a8]else lp iD df L2 n (Pp b x d a o i (i64.wrap (j+1))) (KCk m IW)else lpH iD df [7,13] (hlp iD df) xP m (D5 b x a o (i64.wrap (i+1))) IW:=by kernel_rfl
theorem ayh {x d o:af} g a i (A:d.length=x.length) (w:o.length=x.length) (y:d.length<=maxLen) m:lp iD df L2 fu (Pp g x d a o i 0) (KCk m IW)=match M3 x a 0 d o with|some k=>lp iD df xP m (D5 g x a k (i64.wrap (i+1))) IW|none=>yR:=by
 let key:∀(l:af) (j:Nat) (o:af),bG (λ(s:Nat×af) v=>bif s.1==a then WD (s.1+1,s.2.set s.1 (i64.wrap (s.2.getD s.1 0+v)))else bif v==x.getD s.1 0 then .go (s.1+1,s.2)else .stop yR) (λs=>lp iD df xP m (D5 g x a s.2 (i64.wrap (i+1))) IW) l (j,o)=match M3 x a j l o with|some k=>lp iD df xP m (D5 g x a k (i64.wrap (i+1))) IW|none=>yR:=by intro l;induction l with|nil=>intro j o;rfl|cons v l B=>intro j o;rw[bG,M3];grind
 refine(cg (xs:=d) (T:=λn s=>lp iD df L2 n s (KCk m IW)) (st:=λj s=>Pp g x d a s.2 i j) (f:=λ(s:Nat×af) v=>bif s.1==a then WD (s.1+1,s.2.set s.1 (i64.wrap (s.2.getD s.1 0+v)))else bif v==x.getD s.1 0 then .go (s.1+1,s.2)else .stop yR) (fin:=λs=>lp iD df xP m (D5 g x a s.2 (i64.wrap (i+1))) IW) (λj s=>s.1=j/\s.2.length=x.length) y ?_ ?_ (a:=(0,o)) ⟨rfl,w⟩).trans (key d 0 o)
 ·rintro j ⟨b,o⟩ v n ⟨p,h⟩ C D r t q
  have p  :=p;subst p;let h:o.length=x.length:=h;let e:=aqF g x d a o i b m n;rw[q,ai]at e;cases c:b==a with
  |true=>
   let z:o[((b:Nat):Int).toNat]?=ar (o.getD b 0):=by grind
   rw[c,ai,eM (show b<o.length by omega),aw,z,aw,r,aw,aw,b9,vT (show b<o.length by omega),aw,t]at e;exact .inl ⟨(b+1,o.set b (i64.wrap (o.getD b 0+v))),rfl,⟨rfl,by rw[WB];exact h⟩,e⟩
  |false=>rw[c,al,r,aw,eM (show b<x.length by omega),aw,bne]at e;cases u:v==x.getD b 0 with|true=>rw[u,cy,al,t]at e;exact .inl ⟨(b+1,o),rfl,⟨rfl,h⟩,e⟩|false=>rw[u,hX,ai]at e;exact .inr ⟨_,rfl,e⟩
 ·rintro⟨b,o⟩ n _ q
  let e:=aqF g x d a o i d.length m n;rw[q,al,kU]at e;exact e
theorem ayi b x d a o i m:hlp iD df L2 _ (Pp b x d a o i 0) (KCk m IW)=lp iD df L2 fu (Pp b x d a o i 0) (KCk m IW):=rfl
theorem aeE {d:cm}{x:af} a (k:d.length<=2147483648) (l:x.length<=2147483648):∀(r b) (o:af) (n),d=b++r->r.length<n->o.length=x.length->
  lp iD df xP n (D5 d x a o (b.length:Int)) IW=match coR x a r o with|some f=>ar (.ret [.os 0 0,B bc],[(0,.arr 3 aa 0 a8 f)])|none=>yR
 |[],b,o,n,e,i,g=>by obtain⟨n,rfl⟩:∃h,n=h+1:=⟨n-1,by omega⟩;rw[aqE,cq (show¬b.length<bd d.length by rw[e,eT];simp only[aK];omega),al]<;>rfl
 |v::r,b,o,n,e,i,g=>by
  obtain⟨n,rfl⟩:∃h,n=h+1:=⟨n-1,by omega⟩;let j:d.length=b.length+(r.length+1):=by rw[e,bK,bs]
  let m:idx d b.length=ar v:=by grind [idx]
  rw[aqE,aF (show b.length<bd d.length by simp only[aK];omega),ai,m,aw,bne,coR];cases c:.ofNat (bk v.2.2.1)==bd x.length with
  |false=>rw[hX,ai,al]<;>rfl
  |true=>
   let p:=eq_of_beq c;simp only[aK]at p;rw[cy,al,ai];let t:maxLen=9223372036854775807:=by decide
   let q:i64.wrap (b.length+1)=(b++[v]).length:=by rw[aH (by omega) (by omega),bK,eS];omega
   refine((ayi d x v.2.2.1 a o b.length n).trans (ayh d a b.length (by omega) g (by omega) n)).trans ?_;cases s:M3 x a 0 v.2.2.1 o with|none=>rfl|some f=>rw[aw,q];exact aeE a k l r (b++[v]) f n (by rw[e];simp) (by simp only[bs]at i;omega) ((Af s).trans g)
theorem aGs b x a:hlp iD df xP _ (D5 b x a x 1) IW=lp iD df xP fu (D5 b x a x 1) IW:=rfl
theorem ayj {y v}{r:cm}(d:aE y.2.2.2.2.1=bc)(a:(v::r).length<=2147483648)(b:v.2.2.1.length<=2147483648):Xn y (v::r)=ar ((OM y.2.2.2.2.1 (v::r) v.2.2.1).getD [],(OM y.2.2.2.2.1 (v::r) v.2.2.1).isSome):=by
 let l:maxLen=9223372036854775807:=by decide
 let m:=bz d;let ⟨f,g⟩:=qk y bE 0 (ql (by omega));let ⟨i,j⟩:=HT (aS y.2.2.2.2.1 bE 0) (.ofNat v.2.2.1.length) (HU _ _);let e:=ax6 y (v::r);rw[show idx _ 0=ar v from rfl,aw,show ([97,120,105,115]:ao)=bE from rfl,f,ai,g,i,ai,j]at e;unfold Xn;rw[e];unfold OM;cases c:uf _ _ with|false=>rfl|true=>rw[show (!((bif bc then kD _ _ else 0,bc):Int×Bool).2)=a8 from rfl,al,nv b,aw,ai];let h:=aeE (kD (aS y.2.2.2.2.1 bE 0) (.ofNat v.2.2.1.length)) a b r [v] v.2.2.1 fu rfl (by rw[show fu=18446744073709551616 from rfl];simp only[bs]at a;omega) rfl;let k  :=h;refine(congrArg _ ((aGs _ v.2.2.1 _).trans k)).trans ?_;show bT [.slice aa,.bool] _=ar ((coR v.2.2.1 _ r v.2.2.1).getD [],(coR v.2.2.1 _ r v.2.2.1).isSome);cases coR v.2.2.1 _ r v.2.2.1<;>rfl
def rX (d l:af)(c a p i:Int):LSt:=⟨az 7 [(1,.d (.slice aa) d),(6,.d (.slice aa) l),(7,I c),(9,.nils),(10,I a),(11,I p),(12,I i)],[],0⟩
def fV (d l o:af)(c a p i:Int):LSt:=⟨az 7 [(1,.d (.slice aa) d),(6,.d (.slice aa) l),(7,I c),(9,.os 0 0),(10,I a),(11,I p),(12,I i)],[(0,.arr 3 aa 0 a8 o)],1⟩
noncomputable def mO  :=aI 0 (aL eg bX [7] (hlp eg bX) (cR (cR (cR (cR (cR (cR (cR aez))))))) (aV prog 0 f230.results.toList ah))
theorem xQ d l c a p i n:lp eg bX fK (n+1) (rX d l c a p i) mO=bif a7 (i<.ofNat l.length)then (idx l i).bind λb=>bif b==0 then bif a7 (i<.ofNat d.length)then (idx d i).bind λe=>bif e== -1 then bif a7 (a<0)then bif a7 (i64.wrap (p*1)>65536)then ak [.nils,B a8]else lp eg bX fK n (fV d l [1] c i (i64.wrap (p*1)) (i64.wrap (i+1))) mO else bif a7 (e<1)then ak [.nils,B a8]else bif a7 (e>65536)then ak [.nils,B a8]else bif a7 (i64.wrap (p*e)>65536)then ak [.nils,B a8]else lp eg bX fK n (fV d l [e] c a (i64.wrap (p*e)) (i64.wrap (i+1))) mO else bif a7 (e<1)then ak [.nils,B a8]else bif a7 (e>65536)then ak [.nils,B a8]else bif a7 (i64.wrap (p*e)>65536)then ak [.nils,B a8]else lp eg bX fK n (fV d l [e] c a (i64.wrap (p*e)) (i64.wrap (i+1))) mO else bif b== -1 then bif a7 (a<0)then bif a7 (i64.wrap (p*1)>65536)then ak [.nils,B a8]else lp eg bX fK n (fV d l [1] c i (i64.wrap (p*1)) (i64.wrap (i+1))) mO else bif a7 (b<1)then ak [.nils,B a8]else bif a7 (b>65536)then ak [.nils,B a8]else bif a7 (i64.wrap (p*b)>65536)then ak [.nils,B a8]else lp eg bX fK n (fV d l [b] c a (i64.wrap (p*b)) (i64.wrap (i+1))) mO else bif a7 (b<1)then ak [.nils,B a8]else bif a7 (b>65536)then ak [.nils,B a8]else bif a7 (i64.wrap (p*b)>65536)then ak [.nils,B a8]else lp eg bX fK n (fV d l [b] c a (i64.wrap (p*b)) (i64.wrap (i+1))) mO else bif b== -1 then bif a7 (a<0)then bif a7 (i64.wrap (p*1)>65536)then ak [.nils,B a8]else lp eg bX fK n (fV d l [1] c i (i64.wrap (p*1)) (i64.wrap (i+1))) mO else bif a7 (b<1)then ak [.nils,B a8]else bif a7 (b>65536)then ak [.nils,B a8]else bif a7 (i64.wrap (p*b)>65536)then ak [.nils,B a8]else lp eg bX fK n (fV d l [b] c a (i64.wrap (p*b)) (i64.wrap (i+1))) mO else bif a7 (b<1)then ak [.nils,B a8]else bif a7 (b>65536)then ak [.nils,B a8]else bif a7 (i64.wrap (p*b)>65536)then ak [.nils,B a8]else lp eg bX fK n (fV d l [b] c a (i64.wrap (p*b)) (i64.wrap (i+1))) mO else bif a7 (a>=0)then (if p=0 then a6 else ar (c.tmod p)).bind λf=>bif f==0 then (if p=0 then a6 else ar (i64.wrap (c.tdiv p))).bind λe=>a6 else ak [.nils,B (p==c)]else ak [.nils,B (p==c)]:=by kernel_rfl
theorem xR (d l o)(c a p i)(n):lp eg bX fK (n+1) (fV d l o c a p i) mO=bif a7 (i<bd l.length)then (idx l i).bind λb=>bif b==0 then bif a7 (i<bd d.length)then (idx d i).bind λe=>bif e== -1 then bif a7 (a<0)then bif a7 (i64.wrap (p*1)>65536)then ak [b5,B a8]else (app o [1]).bind λf=>lp eg bX fK n (fV d l f c i (i64.wrap (p*1)) (i64.wrap (i+1))) mO else bif a7 (e<1)then ak [b5,B a8]else bif a7 (e>65536)then ak [b5,B a8]else bif a7 (i64.wrap (p*e)>65536)then ak [b5,B a8]else (app o [e]).bind λg=>lp eg bX fK n (fV d l g c a (i64.wrap (p*e)) (i64.wrap (i+1))) mO else bif a7 (e<1)then ak [b5,B a8]else bif a7 (e>65536)then ak [b5,B a8]else bif a7 (i64.wrap (p*e)>65536)then ak [b5,B a8]else (app o [e]).bind λh=>lp eg bX fK n (fV d l h c a (i64.wrap (p*e)) (i64.wrap (i+1))) mO else bif b== -1 then bif a7 (a<0)then bif a7 (i64.wrap (p*1)>65536)then ak [b5,B a8]else (app o [1]).bind λj=>lp eg bX fK n (fV d l j c i (i64.wrap (p*1)) (i64.wrap (i+1))) mO else bif a7 (b<1)then ak [b5,B a8]else bif a7 (b>65536)then ak [b5,B a8]else bif a7 (i64.wrap (p*b)>65536)then ak [b5,B a8]else (app o [b]).bind λh=>lp eg bX fK n (fV d l h c a (i64.wrap (p*b)) (i64.wrap (i+1))) mO else bif a7 (b<1)then ak [b5,B a8]else bif a7 (b>65536)then ak [b5,B a8]else bif a7 (i64.wrap (p*b)>65536)then ak [b5,B a8]else (app o [b]).bind λf=>lp eg bX fK n (fV d l f c a (i64.wrap (p*b)) (i64.wrap (i+1))) mO else bif b== -1 then bif a7 (a<0)then bif a7 (i64.wrap (p*1)>65536)then ak [b5,B a8]else (app o [1]).bind λk=>lp eg bX fK n (fV d l k c i (i64.wrap (p*1)) (i64.wrap (i+1))) mO else bif a7 (b<1)then ak [b5,B a8]else bif a7 (b>65536)then ak [b5,B a8]else bif a7 (i64.wrap (p*b)>65536)then ak [b5,B a8]else (app o [b]).bind λf=>lp eg bX fK n (fV d l f c a (i64.wrap (p*b)) (i64.wrap (i+1))) mO else bif a7 (b<1)then ak [b5,B a8]else bif a7 (b>65536)then ak [b5,B a8]else bif a7 (i64.wrap (p*b)>65536)then ak [b5,B a8]else (app o [b]).bind λj=>lp eg bX fK n (fV d l j c a (i64.wrap (p*b)) (i64.wrap (i+1))) mO else bif a7 (a>=0)then (if p=0 then a6 else ar (c.tmod p)).bind λm=>bif m==0 then (if p=0 then a6 else ar (i64.wrap (c.tdiv p))).bind λe=>(idx o a).bind λq=>(fR o a.toNat e).bind λk=>ar (aq.ret [mq 0 0,B (c==c)],[(0,au.arr 3 aa 0 a8 k)])else ar (aq.ret [mq 0 0,B (p==c)],[(0,au.arr 3 aa 0 a8 o)])else ar (aq.ret [mq 0 0,B (p==c)],[(0,au.arr 3 aa 0 a8 o)]):=by kernel_rfl
def L3 (d l:af)(c a p i:Int):List Int->LSt
 |[]=>rX d l c a p i
 |v::o=>fV d l (v::o) c a p i
noncomputable def rrG (d l:af)(c i:Int)(n:Nat)(o:af) a p v  :=
 bif a7 (v<1)then yR else bif a7 (v>65536)then yR else bif a7 (i64.wrap (p*v)>65536)then yR else (app o [v]).bind λb=>lp eg bX fK n (L3 d l c a (i64.wrap (p*v)) (i64.wrap (i+1)) b) mO
theorem ayk {b o a}{x:b}(h:app o [x]=ar a):∃v r,a=v::r:=by
 unfold app at h;split at h
 ·cases h;cases o with|nil=>exact⟨_,_,rfl⟩|cons v r=>exact⟨_,_,rfl⟩
 ·cases h
theorem aGt {d l:af}(y:∀x∈d,1<=x) c a p (i:Nat) (o:af) n x (e:idx l i=ar x) (f:a7 (i<bd l.length)=bc):lp eg bX fK (n+1) (L3 d l c a p i o) mO=
  bif x== -1&&a7 (a<0)then rrG d l c i n o i p 1 else bif x==0&&a7 (i<bd d.length)then rrG d l c i n o a p (d.getD i 0)else rrG d l c i n o a p x:=by
 let z:∀(o:af) (v:Int) (A P:Int),((app o [v]).bind λg=>lp eg bX fK n (L3 d l c A P (i64.wrap (i+1)) g) mO)=(app o [v]).bind λg=>lp eg bX fK n (fV d l g c A P (i64.wrap (i+1))) mO:=λo v A P=>by cases h:app o [v]with|none=>rfl|some g=>obtain⟨w,r,rfl⟩:=ayk h;rfl
 let b:∀(A v:Int),(bif a7 (v<1)then ak [b5,B a8]else bif a7 (v>65536)then ak [b5,B a8]else bif a7 (i64.wrap (p*v)>65536)then ak [b5,B a8]else (app o [v]).bind λg=>lp eg bX fK n (fV d l g c A (i64.wrap (p*v)) (i64.wrap (i+1))) mO)=rrG d l c i n o A p v:=λA v=>by unfold rrG;rw[z]<;>rfl
 let one:∀(A:Int),(bif a7 (i64.wrap (p*1)>65536)then ak [b5,B a8]else (app o [1]).bind λg=>lp eg bX fK n (fV d l g c A (i64.wrap (p*1)) (i64.wrap (i+1))) mO)=rrG d l c i n o A p 1:=λA=>by grind
 let s:i<bd d.length->idx d i=ar (d.getD i 0)/\(d.getD i 0== -1)=a8:=λh=>by
  simp only[aK]at h;let t:i<d.length:=by omega
  refine⟨eM t,?_⟩;let:=y (d.getD i 0) (by rw[kM,dv t];exact rm t);grind
 let e0:∀(v A P:Int),lp eg bX fK n (fV d l [v] c A P (i64.wrap (i+1))) mO=(app [] [v]).bind λg=>lp eg bX fK n (fV d l g c A P (i64.wrap (i+1))) mO:=λv A P=>by rfl
 by_cases u:x=0
 ·subst u
  rw[show ((0:Int)== -1)=a8 from rfl,so,al,show ((0:Int)==0)=bc from rfl,gb];by_cases j:i<bd d.length
  ·let ⟨g1,g2⟩:=s j;rw[aF j,ai,←b a (d.getD i 0)];cases o with|nil=>show lp eg bX fK (n+1) (rX d l c a p i) mO=_;rw[xQ,f,ai,e,aw,show ((0:Int)==0)=bc from rfl,ai,aF j,ai,g1,aw,g2,al,←e0]<;>rfl|cons w o=>show lp eg bX fK (n+1) (fV d l (w::o) c a p i) mO=_;rw[xR,f,ai,e,aw,show ((0:Int)==0)=bc from rfl,ai,aF j,ai,g1,aw,g2,al]<;>rfl
  ·rw[cq j,al,←b a 0];cases o with|nil=>show lp eg bX fK (n+1) (rX d l c a p i) mO=_;rw[xQ,f,ai,e,aw,show ((0:Int)==0)=bc from rfl,ai,cq j,al,show ((0:Int)== -1)=a8 from rfl,al,←e0]<;>rfl|cons w o=>show lp eg bX fK (n+1) (fV d l (w::o) c a p i) mO=_;rw[xR,f,ai,e,aw,show ((0:Int)==0)=bc from rfl,ai,cq j,al,show ((0:Int)== -1)=a8 from rfl,al]<;>rfl
 ·let k:(x==0)=a8:=by simpa using u
  rw[k,so,al];cases m:x== -1 with
  |false=>rw[so,al,←b a x];cases o with|nil=>show lp eg bX fK (n+1) (rX d l c a p i) mO=_;rw[xQ,f,ai,e,aw,k,al,m,al,←e0]<;>rfl|cons w o=>show lp eg bX fK (n+1) (fV d l (w::o) c a p i) mO=_;rw[xR,f,ai,e,aw,k,al,m,al]<;>rfl
  |true=>
   rw[gb];cases q:a7 (a<0)with
   |true=>rw[ai,←one i];cases o with|nil=>show lp eg bX fK (n+1) (rX d l c a p i) mO=_;rw[xQ,f,ai,e,aw,k,al,m,ai,q,ai,←e0]<;>rfl|cons w o=>show lp eg bX fK (n+1) (fV d l (w::o) c a p i) mO=_;rw[xR,f,ai,e,aw,k,al,m,ai,q,ai]<;>rfl
   |false=>rw[al,←b a x];cases o with|nil=>show lp eg bX fK (n+1) (rX d l c a p i) mO=_;rw[xQ,f,ai,e,aw,k,al,m,ai,q,al,←e0]<;>rfl|cons w o=>show lp eg bX fK (n+1) (fV d l (w::o) c a p i) mO=_;rw[xR,f,ai,e,aw,k,al,m,ai,q,al]<;>rfl
theorem Pq {d l c}{i:Nat}{n}{o:af}{a p v}(b:o.length<=2147483648):rrG d l c (i:Int) n o a p v=match Hn o a p v with| .go s=>lp eg bX fK n (L3 d l c s.2.1 s.2.2 (i64.wrap ((i:Int)+1)) s.1) mO| .stop _=>yR:=by unfold rrG Hn;rw[gu b,aw];grind
def rrE (d:af)(s:DF):af×Bool:=bif a7 (s.2.1>=0)&&(aN d).tmod s.2.2==0 then (s.1.set s.2.1.toNat (i64.wrap ((aN d).tdiv s.2.2)),bc)else (s.1,s.2.2==aN d)
theorem aGu {d l}{o:af}{a p}(f:a<(o.length:Int))(hp:1<=p) n i (g:a7 (i<.ofNat l.length)=a8):lp eg bX fK (n+1) (L3 d l (aN d) a p i o) mO=xM (rrE d (o,a,p)).1 (rrE d (o,a,p)).2:=by
 let b:¬p=0:=by omega
 unfold rrE;cases o with
 |nil=>show lp eg bX fK _ (rX d l _ a p i) mO=_;rw[xQ,g,al,cq (by simp only[eO]at f;omega:¬a>=0),al,so,al]<;>rfl
 |cons v o=>
  show lp eg bX fK _ (fV d l _ _ a p i) mO=_;rw[xR,g,al];cases c:a7 (a>=0)with
  |false=>rw[al,so,al]<;>rfl
  |true=>
   let c:=bt c;rw[ai,if_neg b,aw,gb];cases h:(aN d).tmod p==0 with
   |false=>rw[al,al]<;>rfl
   |true=>
    rw[ai,ai,if_neg b,aw,ny c f,aw,vT (by omega),aw,beq_self_eq_true _];let ⟨w,r,e⟩:∃w r,(v::o).set a.toNat (i64.wrap ((aN d).tdiv p))=w::r:=by cases e:(v::o).set _ _ with|nil=>let:=congrArg bk e;simp at this|cons w r=>exact⟨_,_,rfl⟩
    rw[e]<;>rfl
theorem aeF {d l:af}(k:∀x∈d,1<=x)(z:l.length<=2147483648):∀(r b o:af) (a p) (n),l=b++r->r.length<n->o.length=b.length->a<(o.length:Int)->1<=p->p<=65536->
  lp eg bX fK n (L3 d l (aN d) a p (b.length:Int) o) mO=match rsR d r (o,a,p)with|some s=>xM (rrE d s).1 (rrE d s).2|none=>yR
 |[],b,o,a,p,n,g,m,i,t,hp,h=>by obtain⟨n,rfl⟩:∃j,n=j+1:=⟨n-1,by omega⟩;exact aGu t hp n _ (cq (by rw[g,eT];simp only[aK];omega))
 |x::r,b,o,a,p,n,g,m,i,t,hp,h=>by
  obtain⟨n,rfl⟩:∃j,n=j+1:=⟨n-1,by omega⟩;let u:l.length=b.length+(r.length+1):=by rw[g,bK,bs]
  let A:idx l b.length=ar x:=by grind [idx]
  let B:i64.wrap (b.length+1)=(b++[x]).length:=by rw[aH (by omega) (by omega),bK,eS];omega
  let f:o.length<=2147483648:=by omega
  let e:lp eg bX fK (n+1) (L3 d l (aN d) a p b.length o) mO=match Ho d (o,a,p) x with| .go s=>lp eg bX fK n (L3 d l (aN d) s.2.1 s.2.2 (i64.wrap (b.length+1)) s.1) mO| .stop _=>yR:=by refine(aGt k (aN d) a p b.length o n x A (aF (by simp only[aK];omega))).trans ?_;rw[Pq f,Pq f,Pq f,←i];unfold Ho;grind
  rw[e,rsR];cases c:Ho d (o,a,p) x with
  |stop q=>rfl
  |go s=>
   have C:RsI (o.length+1) s:=by
    unfold Ho at c;cases v:x== -1&&a7 (a<0)with|true=>rw[v,ai]at c;exact Ae rfl (by show (o.length:Int)<_;omega) hp h c|false=>rw[v,al]at c;cases w:x==0&&a7 (o.length<bd d.length)with|true=>rw[w,ai]at c;exact Ae rfl (by show a<_;omega) hp h c|false=>rw[w,al]at c;exact Ae rfl (by show a<_;omega) hp h c
   let ⟨D,E,F⟩:=s;let ⟨y,G,H,I⟩:=C;rw[B];exact aeF k z r (b++[x]) D E F n (by rw[g];simp) (by simp only[bs]at m;omega) (by rw[bK,eS,←i];exact y) (by rw[y];exact G) H I
theorem aGv d l c:hlp eg bX fK _ (rX d l c (-1) 1 0) mO=lp eg bX fK fu (rX d l c (-1) 1 0) mO:=rfl
def rrV (a:bu)(d:af):af×Bool:=match rsR d (aj a da []) ([],-1,1)with|some s=>rrE d s|none=>([],a8)
theorem ayl {y}{d:af}(a:aE y.2.2.2.2.1=bc)(b:∀x∈d,1<=x)(c:d.length<=maxLen):Xp y d=ar (rrV y.2.2.2.2.1 d):=by let ⟨f,g⟩:=oU y da [] (oV a (k7 _));let ⟨i,j⟩:=ux d (rU c);let k:(aj y.2.2.2.2.1 da []).length<=2147483648:=cN a da (k7 _);let e:=ax9 y d;rw[show ([115,104,97,112,101]:ao)=da from rfl,f,i,ai,ai,g,j]at e;let h:=aeF b k (aj y.2.2.2.2.1 da []) [] [] (-1) 1 fu rfl (by rw[show fu=18446744073709551616 from rfl];omega) rfl (by decide) (by decide) (by decide);let l  :=h;unfold Xp rrV;rw[e];refine(congrArg _ ((aGv d _ _).trans l)).trans ?_;cases rsR d _ _ with|none=>rfl|some s=>exact Ph _ _
theorem aeG {a d}:(rrV a d).2=(OE a d).isSome/\((OE a d).isSome=bc->(rrV a d).1=(OE a d).getD []):=by unfold rrV OE;cases rsR d _ _ with|none=>exact⟨rfl,λh=>by cases h⟩|some s=>unfold rrE yK;grind [Int.tmod_self]
end
end Go.Proofs.XRT
namespace Go.Vm
def zz (L:Nat):AV->Option AV
 | .d t x=>bif t.flat then ar (.d t x)else a6
 | .os o n=>ar (.os (o+L) n)
 | .nils=>ar .nils
 | .pr a b=>(match zz L a,zz L b with|some c,ar e=>ar (.pr c e)|_,_=>a6)
 |_=>a6
def nwL (L:Nat):List AV->Option (List AV)
 |[]=>ar []
 |a::l=>(match zz L a,nwL L l with|some b,ar c=>ar (b::c)|_,_=>a6)
def CS :LHp->Bool
 |[]=>bc
 |(_,.arr _ e _ z _)::r=>e.flat&&(!z&&CS r)
 |_::_=>a8
def L4 (L:Nat):LHp->LHp
 |[]=>[]
 |(o,a)::r=>(o+L,a)::L4 L r
def L5 (L:Nat):aq->Option aq
 | .ret l=>(match nwL L l with|some a=>ar (.ret a)|none=>a6)
 | .panic t n=>ar (.panic t n)
def aGx (a:LHp)(c:aq)(b:LHp):Option (aq×LHp):=bif CS b then (match L5 a.length c with|some d=>ar (d,a++L4 a.length b)|none=>a6)else a6
def Ps ts g  :=abq ts g aGx
theorem L6 :∀(a b) (o),aD (a++b) o=match aD a o with|some x=>ar x|none=>aD b o
 |[],b,o=>by simp only[pb,aD]
 |(n,x)::a,b,o=>by simp only[Ar,aD];cases dK n o with|true=>rfl|false=>exact L6 a b o
theorem Ss L:∀(h) (o),aD (L4 L h) o=if o<L then a6 else aD h (o-L)
 |[],o=>by simp[L4,aD]
 |(n,x)::h,o=>by
  simp only[L4,aD];rw[Ss];by_cases b:o<L
  ·let e:dK _ o=a8:=by
    cases a:dK (n+L) o with|false=>rfl|true=>let:=cb a;omega
   rw[e,if_pos b,if_pos b]
   rfl
  ·rw[if_neg b,if_neg b]
   cases a:dK n _ with
   |true=>
    let:=cb a;let e:dK (n+L) o=bc:=by rw[(by omega:n+L=o)];exact ye o
    rw[e]
   |false=>
    let e:dK _ o=a8:=by cases c:dK (n+L) o with|false=>rfl|true=>let:=cb c;rw[(by omega:o-L=n),ye]at a;cases a
    rw[e]
theorem wb {a c}(d:dG a.length a=bc) o:aD (a++L4 a.length c) o=if o<a.length then aD a o else aD c (o-a.length):=by
 rw[L6,Ss];by_cases b:o<a.length
 ·rw[if_pos b,if_pos b];cases aD a o<;>rfl
 ·rw[if_neg b,if_neg b,Cl d (by omega)]
theorem CT :∀{hp} {o} {b},CS hp=bc->aD hp o=ar b->∃T e m c,b=.arr T e m a8 c/\e.flat=bc
 |[],_,_,_,h=>by cases h
 |(n,.arr T e m z c)::r,o,b,a,h=>by
  simp only[CS,aX]at a;simp only[aD]at h;cases d:dK n o with
  |true=>
   rw[d]at h;cases h;have f  :=by simpa using a.2.1
   subst f;exact⟨T,e,m,c,rfl,a.1⟩
  |false=>rw[d]at h;exact CT a.2.2 h
 |(n,.box v)::r,_,_,a,_=>by cases a
 |(n,.rc v)::r,_,_,a,_=>by cases a
theorem Ap {w l im i s u j L}(p:∀o y,u o=ar y->j (o+L)=ar y/\s (o+L)=i o):∀(a c) (g),zz L a=ar c->RepA w l i u a g->RepA w im s j c g/\c.isAgg=a.isAgg
 | .d t x,c,g,h,f=>by simp only[zz]at h;cases q:t.flat with|false=>rw[q]at h;cases h|true=>rw[q]at h;cases h;exact⟨by exact bm.ofFlat t _ _ q f,rfl⟩
 | .os o n,c,g,h,f=>by cases h;let ⟨T,e,m,z,C,D,E,v,F,j,G⟩:=f;let ⟨g1,g2⟩:=p o _ D;exact⟨⟨T,e,m,z,C,g1,E,v,F,j,λH=>by rw[g2];exact G H⟩,rfl⟩
 | .nils,c,g,h,f=>by cases h;exact⟨by exact f,rfl⟩
 | .pr a b,c,g,h,f=>by
  simp only[zz]at h;cases k:zz L a with|none=>rw[k]at h;cases h|some I=>cases r:zz L b with|none=>rw[k,r]at h;cases h|some J=>rw[k,r]at h;cases h;let ⟨A,B,e,K,M⟩:=f;exact⟨⟨A,B,e,(Ap p a I A k K).1,(Ap p b J B r M).1⟩,rfl⟩
 | .undef,_,_,h,_=>by cases h
 | .ip _ _,_,_,h,_=>by cases h
 | .op _ _ _,_,_,h,_=>by cases h
 | .oe _ _ _,_,_,h,_=>by cases h
 | .ow _ _ _ _,_,_,h,_=>by cases h
 | .emp,_,_,h,_=>by cases h
 | .tup _,_,_,h,_=>by cases h
 | .fn _ _ _,_,_,h,_=>by cases h
 | .nilfn,_,_,h,_=>by cases h
 | .iface _ _,_,_,h,_=>by cases h
 | .nilif,_,_,h,_=>by cases h
 | .nilp,_,_,h,_=>by cases h
 | .ref _,_,_,h,_=>by cases h
theorem H0 {w i im b m n d L}(p:∀o q,n o=ar q->d (o+L)=ar q/\m (o+L)=b o):∀(l c) (f),nwL L l=ar c->RepFs w i b n l f->RepFs w im m d c f/\c.length=l.length
 |[],c,f,h,j=>by cases h;exact⟨j,rfl⟩
 |a::l,c,f,h,j=>by
  simp only[nwL]at h;cases g:zz L a with|none=>rw[g]at h;cases h|some s=>cases k:nwL L l with|none=>rw[g,k]at h;cases h|some t=>rw[g,k]at h;cases h;let ⟨v,r,e,u,d,x⟩:=j;let ⟨y,z⟩:=Ap (im:=im) p a s _ g u;let ⟨A,B⟩:=H0 (im:=im) p l t r k x;exact⟨⟨v,r,e,y,by rw[z];exact d,A⟩,by rw[bs,bs,B]⟩
theorem Xr {w m im g s u x L}(p:∀o y,u o=ar y->x (o+L)=ar y/\s (o+L)=g o){q z e}(h:L5 L q=ar z)(A:gP w m g u q e):gP w im s x z e:=by
 cases q with
 |panic t n=>cases h;exact A
 |ret l=>
  simp only[L5]at h;cases c:nwL L l with
  |none=>rw[c]at h;cases h
  |some f=>
   rw[c]at h;cases h
   match l,f,c,A with
   |[a],f,c,⟨v,e1,i,B⟩=>simp only[nwL]at c;cases r:zz L a with|none=>rw[r]at c;cases c|some C=>rw[r]at c;cases c;let ⟨d,j⟩:=Ap (im:=im) p a C _ r i;exact⟨v,e1,d,by rw[j];exact B⟩
   |[],f,c,⟨k,e1,i⟩=>
    let ⟨d,j⟩:=H0 (im:=im) p [] f k c i
    match f,d,j with|[],d,_=>exact⟨k,e1,d⟩
   |a::b::l,f,c,⟨k,e1,i⟩=>
    let ⟨d,j⟩:=H0 (im:=im) p _ f k c i
    match f,d,j with|_::_::_,d,_=>exact⟨k,e1,d⟩
theorem sR {P K f ts g}(M:FnE.OK P K f g):FnE.OK P K f (Ps ts g):=by
 refine Rk M @λi N D p W O E cX C u e hA z hp j c S Q=>?_
 unfold aGx at hp;cases F:CS D with
 |false=>rw[F]at hp;cases hp
 |true=>
  rw[F,ai]at hp;cases v:L5 _ N with
  |none=>rw[v]at hp;cases hp
  |some R=>
    rw[v]at hp;cases hp;let k  :=λb d=>S.old b d λo h=>by cases h
    let ⟨w,r,L⟩:∃w,(∀o,o<i.length->w o=C o)/\∀o,w (o+i.length)=u o:=⟨λo=>if o<i.length then C o else u (o-i.length),λo h=>if_pos h,λo=>by show (if o+i.length<i.length then C _ else u _)=u o;rw[if_neg (by omega),Nat.add_sub_cancel]⟩;let y:∀o,¬o<i.length->w o=u _:=λo a=>by let:=L (o-i.length);rwa[Nat.sub_add_cancel (by omega)]at this
    let s  :=λo n a=>eV z o n a
    let l:∀o b,(u o).blk=ar b->W.heap.size<=b:=λo b d=>by
     rcases S.own o b d with ⟨_,h⟩|h
     ·cases h
     ·exact h
    let A:Ev W E C _ O E w (aD (i++L4 _ D)):=⟨λ_ h=>h,λb d=>k b (j b d),λo n a=>⟨n,by rw[wb z,if_pos (s o n a)];exact a,by rw[r o (s o n a)];exact fo.refl _ _⟩⟩;let U:∀o n,aD D o=ar n->aD _ (o+i.length)=ar n/\w _=u o:=λo n a=>⟨by rw[wb z,if_neg (by omega),Nat.add_sub_cancel];exact a,L o⟩
    refine⟨E,w,⟨S.os,S.tape,S.output,S.grow,λb d _=>k b d,λ_ h=>h,λ_ h=>.inl h,λb d=>xd (j b d) S.grow,λo b d=>?_,A.fob,λo b d=>?_,λo t b g1 g2=>?_,λo a=>?_,λo n a=>?_⟩,Xr U v Q⟩
    ·by_cases a:o<i.length
     ·rw[r o a]at d;exact .inl ⟨o,d⟩
     ·rw[y o a]at d;exact .inr (l _ _ d)
    ·by_cases a:o<i.length
     ·rw[r o a]at d;exact⟨(c.sep o b d).1,xd (c.sep o b d).2 S.grow⟩
     ·rw[y o a]at d;refine⟨λV=>?_,(S.inv.sep _ b d).2⟩;let:=j b V;let:=l _ _ d;omega
    ·by_cases a:o<i.length
     ·rw[r o a]at g1
      by_cases B:t<i.length
      ·rw[r t B]at g2;exact c.inj o t b g1 g2
      ·rw[y t B]at g2;let:=(c.sep o b g1).2;let:=l _ _ g2;omega
     ·rw[y o a]at g1
      by_cases B:t<i.length
      ·rw[r t B]at g2;let:=(c.sep t b g2).2;let:=l _ _ g1;omega
      ·rw[y t B]at g2;let:=S.inv.inj _ _ b g1 g2;omega
    ·rw[wb z]at a
     by_cases q:o<i.length
     ·rw[if_pos q]at a;rw[r o q];exact c.dom o a
     ·rw[if_neg q]at a;rw[y o q];exact S.inv.dom _ a
    ·rw[wb z]at a
     by_cases q:o<i.length
     ·rw[if_pos q]at a;rw[r o q];exact(c.obj o n a).ev A λb d=>k b (c.sep o b d).2
     ·rw[if_neg q]at a
      rw[y o q];obtain⟨T,e,m,xs,rfl,G⟩:=CT F a;rcases S.inv.obj _ _ a with ⟨X,H,Y⟩|⟨_,Z,I,cells,H,J,h1,h2,h3,h4⟩|⟨hz,_⟩
      ·exact .inl ⟨X,H,Y⟩
      ·exact .inr (.inl ⟨rfl,Z,I,_,H,J,h1,h2,h3,bO.mono (λcs x h=>bm.ofFlat e cs x G h) _ _ h4⟩)
      ·cases hz
def aeH a b f  :=Ps a (Lm a b f)
theorem L7 {E j b d P k n c g f}(m:FnE.OK P k n (aA E j b d))
  (h:dg c f λl r=>r.1=bc->bT g (aB E j b d l [] ah)=ar r.2):FnE.OK P k n (aeH c g f):=by
 refine sR (Ln ?_)
 let key:∀{c:List Ty} {f:FnT _ c} {Q e:List AV->Bool×ProdT g->Prop},dg c f Q->(∀l r,Q l r->e l r)->dg c f e:=by intro c;induction c with|nil=>intro f Q e h i;exact i _ _ h|cons t c o=>intro f Q e h i a;exact o (h a) λl r=>i _ _
 exact key h λl r p q=>G4 m (p q)
end Go.Vm
set_option maxRecDepth 100000
set_option maxHeartbeats 4000000
namespace Go.Proofs.XRT
open Go.Vm Go Tryz IntKind
noncomputable section
def Xs d i  :=bT [aa] (aB aa9 f227 5 [] [.d (.slice aa) d,.d aa i] [] ah)
def anH d i  :=(Xs d i).isSome
def qJ d i  :=(Xs d i).getD (dS _)
def aGy  :=cC [.slice aa,aa] _ λd i=>(anH d i,qJ d i)
theorem anI :bq 227 aGy:=bh Q9 (by simp only[dg];exact λd i h=>aZ h)
theorem aeI {a} d i (h:Xs d i=ar a):anH d i=bc/\qJ d i=a:=bU h
theorem aym (d:af) i:aB aa9 f227 5 [] [.d (.slice aa) d,I i] [] ah=bif a7 (i>=.ofNat d.length)then ak [I 1]else (idx d (i64.wrap (i64.wrap (.ofNat d.length-1)-i))).bind λa=>ak [I a]:=by kernel_rfl
def aeJ  :=aU f173
def xS  :=cL (cL (cR (cL (cR (cR (cR (cR (cR (cR (cR aeJ))))))))))
def ib :Cfg:=⟨76,7,0,[(10,[0,1,8,9,10])],bc⟩
def aGz  :=aeH [.slice aa] _ λd=>(D4 d,th d)
theorem anJ :bq 30 aGz:=L7 GS (by simp only[dg];exact λd h=>aZ h)
def nW  :=(ajZ.add 30 aGz).add 227 aGy
theorem Fy :nW.Good:=(xv.add anJ).add anI
def Xt a b  :=bT [.slice aa,aa] (aB nW f173 7 [(10,[0,1,8,9,10])] [.d (.slice aa) a,.d (.slice aa) b] [] ah)
def Pt a b  :=(Xt a b).isSome
def rY a b  :=(Xt a b).getD (dS _)
def anK  :=cC [.slice aa,.slice aa] _ λa b=>(Pt a b,rY a b)
theorem H2 :bq 173 anK:=bh (bM Fy func173 call173 (h2:=rfl)) (by simp only[dg];exact λa b h=>aZ h)
theorem CU {c} a b (h:Xt a b=ar c):Pt a b=bc/\rY a b=c:=bU h
def xT (a b o:af)(N i:Int):LSt:=⟨az 7 [(0,.d (.slice aa) a),(1,.d (.slice aa) b),(8,I N),(9,.os 0 0),(10,I i)],[(0,.arr 3 aa 0 a8 o)],1⟩
theorem ayn (a b:af):aB nW f173 7 [(10,[0,1,8,9,10])] [.d (.slice aa) a,.d (.slice aa) b] [] ah=bif D4 a then bif (th a).2 !=0 then ak [.nils,I (th a).2]else bif D4 b then bif (th b).2 !=0 then ak [.nils,I (th b).2]else (if (0<=if .ofNat b.length>bd a.length then bd b.length else bd a.length)/\(if bd b.length>bd a.length then bd b.length else bd a.length)<=4294967296 then ar (eo (j4 (if bd b.length>bd a.length then bd b.length else bd a.length)) 0)else a6).bind λc=>(hlp nW ib) xS _ (xT a b c (if bd b.length>bd a.length then bd b.length else bd a.length) 0) (aI 0 (aL nW ib [10] (hlp nW ib) (cR (cR (cR (cR (cR (cR (cR (cR aeJ)))))))) (aV prog 0 f173.results.toList ah)))else a6 else a6:=(aW [10] ib rfl).trans (by obtain⟨e,h⟩:=aM nW ib;rw[h];kernel_rfl)
def aJs a  :=aI 0 (aL nW ib [10] a (cR (cR (cR (cR (cR (cR (cR (cR aeJ)))))))) (aV prog 0 f173.results.toList ah))
def Zc  :=aJs (hlp nW ib)
theorem aqI a b o N i n:lp nW ib xS (n+1) (xT a b o N i) Zc=bif a7 (i<N)then bif anH a i then bif anH b i then bif qJ a i !=qJ b i then bif qJ a i !=1 then bif qJ b i !=1 then ak [.nils,I 4]else (idx o (i64.wrap (i64.wrap (N-1)-i))).bind λc=>(fR o (i64.wrap (i64.wrap (N-1)-i)).toNat (if qJ b i>qJ a i then qJ b i else qJ a i)).bind λe=>lp nW ib xS n (xT a b e N (i64.wrap (i+1))) Zc else (idx o (i64.wrap (i64.wrap (N-1)-i))).bind λd=>(fR o (i64.wrap (i64.wrap (N-1)-i)).toNat (if qJ b i>qJ a i then qJ b i else qJ a i)).bind λc=>lp nW ib xS n (xT a b c N (i64.wrap (i+1))) Zc else (idx o (i64.wrap (i64.wrap (N-1)-i))).bind λf=>(fR o (i64.wrap (i64.wrap (N-1)-i)).toNat (if qJ b i>qJ a i then qJ b i else qJ a i)).bind λd=>lp nW ib xS n (xT a b d N (i64.wrap (i+1))) Zc else a6 else a6 else bif D4 o then bif (th o).2 !=0 then ak [.nils,I (th o).2]else ar (.ret [.os 0 0,I 0],[(0,.arr 3 aa 0 a8 o)])else a6:=by kernel_rfl
def Xu (d:af) i  :=if i<d.length then d.getD (d.length-1-i) 1 else 1
theorem aeK {d:af}{i:Nat}(b:d.length<=maxLen):Xs d (i:Int)=ar (Xu d i):=by
 let c:maxLen=9223372036854775807:=by decide
 unfold Xs Xu;rw[aym];by_cases h:i<d.length
 ·rw[cq (by simp only[aK];omega:¬(i>=bd _)),al,if_pos h]
  let a:i64.wrap (i64.wrap (.ofNat d.length-1)-i)=(d.length-1-i:Nat):=by grind [aK,aH]
  rw[a];let:idx d (d.length-1-i:Nat)=ar (d.getD (d.length-1-i) 1):=by grind [idx]
  rw[this]<;>rfl
 ·rw[aF (by simp only[aK];omega:i>=bd _),if_neg h]<;>rfl
def L8 (x y:Int)  :=if y>x then y else x
def pN (x y:Int)  :=x !=y&&(x !=1&&y !=1)
def bmB a b i  :=L8 (Xu a i) (Xu b i)
def Zd a b i  :=pN (Xu a i) (Xu b i)
def jX (a b:af)  :=max a.length b.length
def bmL (a b:af):af:=((hW (jX a b)).map (bmB a b)).reverse
def Xv (o:af):Option (aq×LHp):=bif aC o !=0 then ar (.ret [.nils,I (aC o)],[])else ar (.ret [.os 0 0,I 0],[(0,.arr 3 aa 0 a8 o)])
theorem aGB a b o N:hlp nW ib xS _ (xT a b o N 0) Zc=lp nW ib xS fu (xT a b o N 0) Zc:=rfl
theorem ayo {a b}(u:a.length<=6)(w:b.length<=6):lp nW ib xS fu (xT a b (eo (jX a b) 0) (jX a b) 0) Zc=bif (hW (jX a b)).any (Zd a b)then ar (.ret [.nils,I 4],[])else Xv (bmL a b):=by
 have E:maxLen=9223372036854775807:=by decide
 have F:jX a b<=6:=Nat.max_le.2 ⟨u,w⟩;have key:∀(l:List Nat) (t:af),bG (λt i=>bif Zd a b i then .stop (ar (aq.ret [.nils,I 4],[]))else .go (bmB a b i::t)) Xv l t=bif l.any (Zd a b)then ar (.ret [.nils,I 4],[])else Xv ((l.map (bmB a b)).reverse++t):=by intro l;induction l with|nil=>intro t;rfl|cons i l G=>grind [bG]
 rw[show eo (jX a b) (0:Int)=eo (jX a b-(0:Int).toNat) 0++[] by simp];refine(fq (N:=jX a b) (T:=λn s=>lp nW ib xS n s Zc) (st:=λi t=>xT a b (eo (jX a b-i.toNat) 0++t) (jX a b) i) (f:=λt i=>bif Zd a b i then .stop (ar (aq.ret [.nils,I 4],[]))else .go (bmB a b i::t)) (fin:=Xv) (λi t=>t.length=i) (by omega) ?_ ?_ (a:=[]) rfl).trans ?_
 ·intro i t n q H x h
  have d:=aqI a b (eo (jX a b-i) 0++t) (jX a b) i n;obtain⟨k,y⟩:∃k,jX a b-i=k+1:=⟨jX a b-i-1,by omega⟩;have j:i64.wrap (i64.wrap (jX a b-1)-i)=(k:Nat):=by grind [aH]
  obtain⟨z,A⟩:=aeI a i (aeK (by omega));obtain⟨B,C⟩:=aeI b i (aeK (by omega));have e:idx (eo (jX a b-i) 0++t) (k:Nat)=ar 0:=by grind [idx]
  have g:∀v:Int,fR (eo (jX a b-i) 0++t) k v=ar (eo k 0++v::t):=λv=>by rw[vT (by rw[bK,mb];omega),y,List.replicate_succ',gl];simp
  rw[show a7 ((i:Int)<(jX a b:Nat))=bc from h,ai,z,B,ai,ai,A,C,j,e,aw,b9,x]at d;simp only[g]at d;have D:eo k 0++L8 (Xu a i) (Xu b i)::t=eo (jX a b-(((i+1:Nat):Int)).toNat) 0++bmB a b i::t:=by rw[b9,show jX a b-(i+1)=k by omega]<;>rfl
  show (∃m,(bif Zd a b i then WI (ar (aq.ret [.nils,I 4],[]))else .go (bmB a b i::t))=.go m/\m.length=i+1/\lp nW ib xS (n+1) (xT a b (eo (jX a b-i) 0++t) (jX a b) (i:Int)) Zc=lp nW ib xS n (xT a b (eo (jX a b-(((i+1:Nat):Int)).toNat) 0++m) (jX a b:Nat) ((i+1:Nat):Int)) Zc)\/∃r,(bif Zd a b i then WI (ar (aq.ret [.nils,I 4],([]:LHp)))else .go (bmB a b i::t))=.stop r/\lp nW ib xS (n+1) (xT a b (eo (jX a b-i) 0++t) (jX a b:Nat) (i:Int)) Zc=r;cases c:Zd a b i with
  |true=>refine .inr ⟨_,rfl,?_⟩;unfold Zd pN at c;grind
  |false=>
   refine .inl ⟨_,rfl,by rw[bs,q],?_⟩;rw[←D];refine d.trans ?_;unfold Zd pN at c;cases o:Xu a i !=Xu b i with|false=>rfl|true=>rw[o,gb]at c;cases p:Xu a i !=1 with|false=>rfl|true=>rw[p,gb]at c;rw[c]<;>rfl
 ·intro t n q h;have d:=aqI a b (eo (jX a b-jX a b) 0++t) (jX a b:Nat) (jX a b:Nat) n;rw[show a7 (((jX a b:Nat):Int)<(jX a b:Nat))=a8 from h,al,Nat.sub_self]at d;show lp nW ib xS (n+1) (xT a b (eo (jX a b-jX a b) 0++t) (jX a b:Nat) (jX a b:Nat)) Zc=Xv t;rw[Nat.sub_self];obtain⟨o,p⟩:=ux (eo 0 0++t) (rU (by rw[bK,mb];omega));rw[o,p]at d;exact d
 ·rw[key,eT]<;>rfl
def uE (N:Nat)(l:af):af:=eo (N-l.length) 1++l
theorem nE {N l}(h:l.length<=N):(uE N l).length=N:=by unfold uE;simp;omega
theorem pO {N l} h {j} hj:(uE N l)[j]'(by rw[nE h];exact hj)=Xu l (N-1-j):=by unfold uE Xu;grind
theorem anL {a b}:bmL a b=MV L8 (uE (jX a b) a) (uE (jX a b) b):=by
 let e:a.length<=jX a b:=Nat.le_max_left _ _;let f:b.length<=jX a b:=Nat.le_max_right _ _;refine List.ext_getElem (by unfold bmL;simp[nE e,nE f]) λj g h=>?_
 let d  :=by unfold bmL at g;simpa using g
 rw[ahq,pO e d,pO f d];let c:((hW (jX a b)).map (bmB a b)).reverse.length=jX a b:=by simp
 show ((hW _).map _).reverse[j]'(by rw[c];exact d)=_;simp[List.getElem_reverse,bmB]
theorem anM {a b}:(hW (jX a b)).any (Zd a b)=(MV pN (uE (jX a b) a) (uE (jX a b) b)).any id:=by
 let d:a.length<=jX a b:=Nat.le_max_left _ _;let e:b.length<=jX a b:=Nat.le_max_right _ _;rw[vc,tr,tr];constructor
 ·rintro⟨i,g,f⟩
  let g:=v8.1 g;refine⟨_,rm (n:=jX a b-1-i) (by rw[List.length_zipWith,nE d,nE e];omega),?_⟩;rw[ahq,pO d (by omega),pO e (by omega),(by omega:jX a b-1-(jX a b-1-i)=i)];exact f
 ·rintro⟨x,f,h⟩
  obtain⟨j,k,rfl⟩:=List.getElem_of_mem f;let c:j<jX a b:=by rw[List.length_zipWith,nE d,nE e]at k;omega
  rw[ahq,pO d c,pO e c]at h;exact⟨_,v8.2 (by omega),h⟩
theorem aeL x y:L8 x y=L8 y x:=by unfold L8;split<;>split<;>omega
theorem Xw x y:pN x y=pN y x:=by unfold pN;grind
theorem St :∀{a b:af},a.length=b.length->(∀x∈a,1<=x)->(∀y∈b,1<=y)->bcR a b=bif (MV pN a b).any id then a6 else ar (MV L8 a b)
 |[],[],_,_,_=>rfl
 |[],_::_,h,_,_=>by cases h
 |_::_,[],h,_,_=>by cases h
 |x::a,y::b,h,g,i=>by
  let j:=St (by simpa using h) (λz c=>g z (m3 _ c)) λz c=>i z (m3 _ c)
  let k:=g x (ku ..);let l:=i y (ku ..);rw[bcR,j,QC,QC,List.any_cons];by_cases d:x=1
  ·subst d;rw[show ((1:Int)==1)=bc from rfl,ai,(by unfold pN;simp:pN 1 y=a8),(by unfold L8;split<;>omega:L8 1 y=y)];grind
  ·rw[(by simpa using d:(x==1)=a8),al]
   by_cases e:y=1
   ·subst e;rw[show ((1:Int) !=1&&(1:Int) !=x)=a8 from rfl,al,(by unfold pN;simp:pN x 1=a8),(by unfold L8;split<;>omega:L8 x 1=x)];grind
   ·by_cases f:y=x
    ·subst f;rw[(by simp:(y !=1&&y !=y)=a8),al,(by unfold pN;simp:pN y y=a8),(by unfold L8;split<;>omega:L8 y y=y)];grind
    ·rw[(by simp[e,f]:(y !=1&&y !=x)=bc),ai,(by unfold pN;simp[d,e,Ne.symm f]:pN x y=bc)]<;>rfl
theorem Su :∀{l:af} {k},l.length=k->(∀x∈l,1<=x)->MV L8 l (eo k 1)=l/\(MV pN l (eo k 1)).any id=a8
 |[],k,h,_=>by exact⟨rfl,rfl⟩
 |x::l,k,h,a=>by
  subst h;let ⟨b,c⟩:=Su rfl λz d=>a z (m3 _ d)
  let e:=a x (ku ..);rw[bs,List.replicate_succ,QC,QC,List.any_cons,b,c,(by unfold L8;split<;>omega:L8 x 1=x),(by unfold pN;simp:pN x 1=a8)];simp
theorem Sv {A B}(h:B.length<=A.length)(c:∀x∈A,1<=x)(d:∀x∈B,1<=x):bcA A B=bif (MV pN (uE A.length A) (uE A.length B)).any id then a6 else ar (MV L8 (uE A.length A) (uE A.length B)):=by
 let e1:uE A.length A=A.take (A.length-B.length)++A.drop (A.length-B.length):=by unfold uE;simp
 let e2:uE _ B=eo (A.length-B.length) 1++B:=rfl;let a:(A.take (A.length-B.length)).length=A.length-B.length:=by rw[fl];omega
 let ⟨e,f⟩:=Su a λx b=>c x (List.mem_of_mem_take b)
 unfold bcA;rw[St (by rw[km];omega) (λx b=>c x (List.mem_of_mem_drop b)) d,e1,e2,List.zipWith_append (by rw[a,mb]),List.zipWith_append (by rw[a,mb]),List.any_append,e,f,IN];grind
theorem Xx {a b}(c:∀x∈a,1<=x)(d:∀x∈b,1<=x):UY a b=bif (hW (jX a b)).any (Zd a b)then a6 else ar (bmL a b):=by
 rw[anM,anL];unfold UY;by_cases h:a.length<b.length
 ·rw[aF (by simp only[aK];omega:.ofNat _<bd _),ai,Sv (by omega) d c,show jX a b=b.length from Nat.max_eq_right (by omega)];rw[List.zipWith_comm_of_comm Xw,List.zipWith_comm_of_comm aeL]
 ·rw[cq (by simp only[aK];omega:¬.ofNat _<bd _),al,Sv (by omega) c d,show jX a b=a.length from Nat.max_eq_left (by omega)]
theorem Sw {a b}(h:E2 a b=bc):a=[]/\b=[]:=by unfold E2 at h;by_cases c:a.length<b.length;all_goals simp_all
def bcX (a b:af):Option (aq×LHp):=bif dY a b==0 then ar (.ret [.os 0 0,I 0],[(0,.arr 3 aa 0 a8 (ir a b))])else ar (.ret [.nils,I (dY a b)],[])
theorem Sx {a b:af}(i:a.length<=maxLen)(j:b.length<=maxLen):aB nW f173 7 [(10,[0,1,8,9,10])] [.d (.slice aa) a,.d (.slice aa) b] [] ah=bcX a b:=by
 let ⟨k,l⟩:=ux a (rU i);let ⟨m,n⟩:=ux b (rU j);let e:=ayn a b;rw[k,m,ai,ai,l,n]at e;rw[e];unfold bcX dY ir;cases o:aC a !=0 with
 |true=>grind
 |false=>
  cases p:aC b !=0 with
  |true=>grind
  |false=>
   let ⟨q,g,_⟩:=eL (by simpa using o:aC a=0);let ⟨r,h,_⟩:=eL (by simpa using p:aC b=0);let c:(if .ofNat b.length>bd a.length then .ofNat b.length else bd a.length)=(jX a b:Nat):=by unfold jX;grind
   let t:jX a b<=6:=Nat.max_le.2 ⟨g,h⟩;rw[al,al,c,if_pos ⟨by omega,by omega⟩,aw,b9,al,al];refine((aGB a b _ _).trans (ayo g h)).trans ?_;let hp:=Xx q r;unfold bcN M0;rw[hp];cases s:(hW _).any _ with
   |true=>cases f:E2 a b with|true=>obtain⟨rfl,rfl⟩:=Sw f;cases s|false=>rfl
   |false=>rw[al];cases f:E2 a b with|true=>obtain⟨rfl,rfl⟩:=Sw f;rfl|false=>simp only[al,Option.isNone_some,Option.getD_some];unfold Xv;grind
theorem CV {a b:af}(d:a.length<=maxLen)(e:b.length<=maxLen):Xt a b=ar (bif dY a b==0 then ir a b else [],dY a b):=by unfold Xt;rw[Sx d e];unfold bcX;cases c:dY a b==0 with|false=>rfl|true=>rw[eq_of_beq c]<;>rfl
def ayp :List AV->LHp->Tq
 |[.d zS a,.d zS b],[]=>.br (a7 (a.length<=maxLen)&&a7 (b.length<=maxLen)) (.leaf (.ret [.os 0 0,I (dY a b)]) [(0,.arr 3 aa 0 a8 (bif dY a b==0 then ir a b else []))]) .no
 |_,_=>.no
theorem anN :bq 173 (ay ayp):=by
 let h:=bM (d:=7) (l:=[(10,[0,1,8,9,10])]) Fy func173 call173;refine aY λi j k m c=>?_
 unfold ayp at c;split at c
 ·rename_i a b;let ⟨f,c⟩:=eN c;rw[aX,decide_eq_true_eq,decide_eq_true_eq]at f;cases c;let e:=Sx f.1 f.2;unfold bcX at e;cases g:dY a b==0 with|true=>rw[g,ai]at e;rw[eq_of_beq g];exact h.okC e|false=>rw[g,al]at e;exact FnH.nilO1 rfl (h.okC e)
 ·cases c
theorem anO {y}(d:y.2.2.2.2.1.length<=maxLen)(r:Int):Ft y r=ar (bif ON (aS y.2.2.2.2.1 bE 1) r then Hv (aS y.2.2.2.2.1 bE 1) r else 0,ON (aS y.2.2.2.2.1 bE 1) r):=by
 let ⟨f,g⟩:=qk y bE 1 (ql d);let e:=ans y r;rw[show ([97,120,105,115]:ao)=bE from rfl,f,ai,g]at e;unfold Ft ON Hv;rw[e];generalize aS y.2.2.2.2.1 bE 1=a;by_cases b:a<i64.wrap (0-r)
 ·rw[aF b,cq (by omega:¬i64.wrap _<=a)]<;>rfl
 ·rw[cq b,aF (by omega:i64.wrap _<=a)]
  by_cases c:a>r
  ·rw[aF c,cq (by omega:¬a<=r)]<;>rfl
  ·rw[cq c,aF (by omega:a<=r)];cases a7 (a<0)<;>rfl
theorem aeM {y}(g:y.2.2.2.2.1.length<=maxLen)(a:ao)(d:af):Xb y a d=ar ((xF y.2.2.2.2.1 a d).getD [],(xF y.2.2.2.2.1 a d).isSome):=by
 let ⟨h,j⟩:=qk y a 0 (ql g);let e:=axO y a d;rw[h,ai,j]at e;unfold Xb xF;rw[e];generalize aS y.2.2.2.2.1 a 0=t;cases c:bd _==2 with
 |false=>rw[bne,c]<;>rfl
 |true=>
  let k:=eq_of_beq c;simp only[aK]at k;let l:idx d 0=ar _:=eM (i:=0) (by omega);let g1:idx d 1=ar _:=eM (i:=1) (by omega);rw[bne,c,cy,al,gb,l,g1];by_cases b:t=0
  ·subst b;rfl
  ·by_cases f:t=1
   ·subst f;rfl
   ·rw[(by simpa using b:(t==0)=a8),(by simpa using f:(t==1)=a8),(by simpa using b:(t !=0)=bc),(by simpa using f:(t !=1)=bc)]<;>rfl
def ayq  :=qb.add 173<|ay ayp
theorem Xy :ayq.Good:=mL.add anN
def Xz a b  :=bT [.slice aa,aa]<|aB ayq f177 6 [] [.d (.slice aa) a,.d (.slice aa) b] [] ah
def anP a b  :=(Xz a b).isSome
def rZ a b  :=(Xz a b).getD<|dS _
def ayr  :=cC [.slice aa,.slice aa] _ λa b=>(anP a b,rZ a b)
theorem Sy :bq 177 ayr:=bh (bM Xy func177 call177 (h2:=rfl))<|by simp only[dg];exact λa b h=>aZ h
theorem aeN {c} a b (h:Xz a b=ar c):anP a b=bc/\rZ a b=c:=bU h
theorem ays (a b:af):aB ayq f177 6 [] [.d (.slice aa) a,.d (.slice aa) b] [] ah=bif bd a.length<2 then ak [.nils,I 4]else bif bd b.length<2 then ak [.nils,I 4]else (idx a<|i64.wrap<| .ofNat a.length-1).bind λh=>(idx b<|i64.wrap<| .ofNat b.length-2).bind λi=>bif h !=i then ak [.nils,I 4]else (if (0:Int)<=0/\0<=i64.wrap (.ofNat a.length-2)/\i64.wrap (.ofNat a.length-2)<=.ofNat a.length then ar (fb 0<|gy (i64.wrap<| .ofNat a.length-2).toNat a)else a6).bind λc=>(if (0:Int)<=0/\0<=i64.wrap (.ofNat b.length-2)/\i64.wrap (.ofNat b.length-2)<=.ofNat b.length then ar (fb 0<|gy (i64.wrap<| .ofNat b.length-2).toNat b)else a6).bind λe=>bif c.length<=9223372036854775807&&e.length<=9223372036854775807 then bif dY c e !=0 then ak [.nils,I<|dY c e]else (idx a<|i64.wrap<| .ofNat a.length-2).bind λj=>(idx b<|i64.wrap<| .ofNat b.length-1).bind λf=>(app (bif dY c e==0 then ir c e else []) [j,f]).bind λg=>ar (.ret [.os 0 0,I 0],[(0,.arr 3 aa 0 a8 g)])else a6:=by kernel_rfl
def ayt  :=(((gD.add 173 anK).add 177 ayr).add 229 aGc).add 37 axg
theorem XA :ayt.Good:=(((sE.add H2).add Sy).add anu).add Sl
def XB y a  :=bT [.slice aa,aa]<|aB ayt f178 7 [] [.d Y2 y,.d (.slice<|Y3) a] [] ah
def ayu y a  :=(XB y a).isSome
def anQ y a  :=(XB y a).getD<|dS _
def aGC  :=cC [Y2,.slice _] _ λy a=>(ayu y a,anQ y a)
theorem anR :bq 178 aGC:=bh (bM XA func178 call178 (h2:=rfl))<|by simp only[dg];exact λy a h=>aZ h
theorem ayv {a} y vs (h:XB y vs=ar a):ayu y vs=bc/\anQ y vs=a:=bU h
theorem ayw y (c:cm):aB ayt f178 7 [] [.d _ y,.d (.slice _) c] [] ah=(idx c 0).bind λa=>bif ant y [116,114,97,110,115,65] a.2.2.1 then (idx c 1).bind λb=>bif ant y [116,114,97,110,115,66] b.2.2.1 then bif !(jB y [116,114,97,110,115,65] a.2.2.1).2 then ak [.nils,I 4]else bif !(jB y [116,114,97,110,115,66] b.2.2.1).2 then ak [.nils,I 4]else bif anP (jB y [116,114,97,110,115,65] a.2.2.1).1 (jB y [116,114,97,110,115,66] b.2.2.1).1 then bif (rZ (jB y [116,114,97,110,115,65] a.2.2.1).1 (jB y [116,114,97,110,115,66] b.2.2.1).1).2 !=0 then ak [.d (aa).slice (rZ (jB y [116,114,97,110,115,65] a.2.2.1).1 (jB y [116,114,97,110,115,66] b.2.2.1).1).1,I (rZ (jB y [116,114,97,110,115,65] a.2.2.1).1 (jB y [116,114,97,110,115,66] b.2.2.1).1).2]else bif bd c.length<3 then ak [.d (aa).slice (rZ (jB y [116,114,97,110,115,65] a.2.2.1).1 (jB y [116,114,97,110,115,66] b.2.2.1).1).1,I (rZ (jB y [116,114,97,110,115,65] a.2.2.1).1 (jB y [116,114,97,110,115,66] b.2.2.1).1).2]else (idx c 2).bind λe=>bif Pt e.2.2.1 (rZ (jB y [116,114,97,110,115,65] a.2.2.1).1 (jB y [116,114,97,110,115,66] b.2.2.1).1).1 then bif (rY e.2.2.1 (rZ (jB y [116,114,97,110,115,65] a.2.2.1).1 (jB y [116,114,97,110,115,66] b.2.2.1).1).1).2 !=0 then ak [.nils,I (rY e.2.2.1 (rZ (jB y [116,114,97,110,115,65] a.2.2.1).1 (jB y [116,114,97,110,115,66] b.2.2.1).1).1).2]else bif am6 (rY e.2.2.1 (rZ (jB y [116,114,97,110,115,65] a.2.2.1).1 (jB y [116,114,97,110,115,66] b.2.2.1).1).1).1 (rZ (jB y [116,114,97,110,115,65] a.2.2.1).1 (jB y [116,114,97,110,115,66] b.2.2.1).1).1 then bif !am7 (rY e.2.2.1 (rZ (jB y [116,114,97,110,115,65] a.2.2.1).1 (jB y [116,114,97,110,115,66] b.2.2.1).1).1).1 (rZ (jB y [116,114,97,110,115,65] a.2.2.1).1 (jB y [116,114,97,110,115,66] b.2.2.1).1).1 then ak [.nils,I 4]else ak [.d (aa).slice (rZ (jB y [116,114,97,110,115,65] a.2.2.1).1 (jB y [116,114,97,110,115,66] b.2.2.1).1).1,I 0]else a6 else a6 else a6 else a6 else a6:=by kernel_rfl
theorem aeO {a b:af}(l:a.length<=2147483648)(m:b.length<=2147483648):Xz a b=ar (bif uh a b==0 then qj a b else [],uh a b):=by
 unfold Xz;rw[ays];unfold uh;by_cases e:2<=a.length
 ·by_cases f:2<=b.length
  ·let c:a7 (bd a.length<2)=a8:=cq<|by simp only[aK];omega
   let d:a7 (bd b.length<2)=a8:=cq<|by simp only[aK];omega
   let h:i64.wrap (bd a.length-2)=(a.length-2:Nat):=by simp only[aK];rw[aH (by omega)<|by omega];omega
   let i:i64.wrap (bd b.length-2)=(b.length-2:Nat):=by simp only[aK];rw[aH (by omega)<|by omega];omega
   let j:i64.wrap (bd a.length-1)=(a.length-1:Nat):=by simp only[aK];rw[aH (by omega)<|by omega];omega
   let k:i64.wrap (bd b.length-1)=(b.length-1:Nat):=by simp only[aK];rw[aH (by omega)<|by omega];omega
   let g1:idx a (a.length-1:Nat)=ar (a.getD (a.length-1) 0):=aP<|by omega
   let g2:idx b (b.length-2:Nat)=ar (b.getD (b.length-2) 0):=aP<|by omega
   let g3:idx a (a.length-2:Nat)=ar (a.getD (a.length-2) 0):=aP<|by omega
   let g4:idx b (b.length-1:Nat)=ar (b.getD (b.length-1) 0):=aP<|by omega
   rw[c,al,d,al,h,i,j,k,g1,aw,g2,aw,aF e,aF f,uu,ai,bne];cases n:a.getD (a.length-1) 0==b.getD (b.length-2) 0 with
   |false=>rfl
   |true=>
    rw[cy,al,ai,if_pos ⟨by omega,by omega,by simp only[aK];omega⟩,aw,if_pos ⟨by omega,by omega,by simp only[aK];omega⟩,aw,b9,b9,List.drop_zero,List.drop_zero,aF<|show (a.take<|a.length-2).length<=9223372036854775807 by rw[fl];omega,aF<|show (b.take<|b.length-2).length<=9223372036854775807 by rw[fl];omega,uu,ai,bne];cases g:dY (a.take<|a.length-2) (b.take<|b.length-2)==0 with
    |false=>rfl
    |true=>
     let o:=nr<|eq_of_beq g
     rw[cy,al,g3,aw,g4,aw,ai,eX<|show (ir (a.take<|a.length-2)<|b.take<|b.length-2).length+[a.getD (a.length-2) 0,b.getD (b.length-1) 0].length<=lim by rw[show lim=4294967296 from rfl];simp only[bs,eO];omega,aw,eq_of_beq g]<;>rfl
  ·let c:a7 (bd a.length<2)=a8:=cq<|by simp only[aK];omega
   let d:a7 (bd b.length<2)=bc:=aF<|by simp only[aK];omega
   rw[c,d,cq f,Bool.and_false]<;>rfl
 ·let c:a7 (bd a.length<2)=bc:=aF<|by simp only[aK];omega
  rw[c,cq e,so]<;>rfl
theorem aeP {a b}(h:uh a b=0):(qj a b).length<=8:=by
 unfold uh at h;unfold qj;let:dY (a.take<|a.length-2) (b.take<|b.length-2)=0:=by grind
 let:=nr this;grind
theorem ayx {y v w}{r:cm}(f:y.2.2.2.2.1.length<=maxLen)(h:r.length<=1)(i:∀u∈r,u.2.2.1.length<=maxLen):XB y (v::w::r)=ar (bif OP y.2.2.2.2.1 (v::w::r)==0 then tc y.2.2.2.2.1 (v::w::r)else [],OP y.2.2.2.2.1<|v::w::r):=by
 let J:maxLen=9223372036854775807:=by decide
 let ⟨j,k⟩:=aes y ek v.2.2.1<|aeM f ek v.2.2.1
 let ⟨l,m⟩:=aes y eu w.2.2.1<|aeM f eu w.2.2.1
 let e:=ayw y<|v::w::r
 rw[show idx (v::w::r) 0=ar v from rfl,aw,show ([116,114,97,110,115,65]:ao)=ek from rfl,show ([116,114,97,110,115,66]:ao)=eu from rfl,j,ai,show idx (v::w::r) 1=ar w from rfl,aw,l,ai,k,m]at e;unfold XB;rw[e];let n:(xF y.2.2.2.2.1 ek v.2.2.1).isSome=xG y.2.2.2.2.1 ek (cD (v::w::r) 0):=rfl;let o:(xF y.2.2.2.2.1 eu w.2.2.1).isSome=xG y.2.2.2.2.1 eu (cD (v::w::r) 1):=rfl;let p:(xF y.2.2.2.2.1 ek v.2.2.1).getD []=fG y.2.2.2.2.1 ek (cD (v::w::r) 0):=rfl;let q:(xF y.2.2.2.2.1 eu w.2.2.1).getD []=fG y.2.2.2.2.1 eu (cD (v::w::r) 1):=rfl;rw[n,o,p,q];unfold OP OO tc;cases s:xG y.2.2.2.2.1 ek (cD (v::w::r) 0)with
 |false=>rfl
 |true=>
  cases t:xG y.2.2.2.2.1 eu (cD (v::w::r) 1)with
  |false=>rfl
  |true=>
   have x:=vK s;have z:=vK t;generalize fG y.2.2.2.2.1 ek (cD (v::w::r) 0)=A at x⊢;generalize fG y.2.2.2.2.1 eu (cD (v::w::r) 1)=C at z⊢;let ⟨B,D⟩:=aeN A C<|aeO (by omega)<|by omega
   rw[cy,al,al,B,ai,D,bne];cases g:uh A C==0 with
   |false=>rw[hX,ai,ai,ai,al,al,g]<;>rfl
   |true=>
    let a:=eq_of_beq g;rw[cy,al];cases r with
    |nil=>rw[show a7 (bd (v::w::([]:cm)).length<3)=bc from rfl,show (bd (v::w::([]:cm)).length==3)=a8 from rfl,ai,ai,ai,ai,ai,al,a]<;>rfl
    |cons u r=>
     cases r with
     |cons _ _=>simp only[bs]at h;omega
     |nil=>
     have E:=aeP a;let ⟨F,G⟩:=CU u.2.2.1 (qj A C)<|CV (i u<|List.mem_singleton_self u)<|by omega
     rw[show a7 (bd (v::w::[u]).length<3)=a8 from rfl,show idx (v::w::[u]) 2=ar u from rfl,show cD (v::w::[u]) 2=u.2.2.1 from rfl,show (bd (v::w::[u]).length==3)=bc from rfl,aw];simp only[ai,al];rw[F,ai,G];generalize qj A C=L at E⊢;cases d:dY u.2.2.1 L==0 with
     |false=>rw[show (dY u.2.2.1 L !=0)=bc by rw[bne,d];rfl,ai,al,al,d]<;>rfl
     |true=>
      let b:=eq_of_beq d;let K:=nr b;let ⟨H,I⟩:=adZ (ir u.2.2.1 L) L<|ad0<|by omega
      rw[b,show ((0:Int) !=0)=a8 from rfl,al,ai,ai,H,ai,I];by_cases c:ir u.2.2.1 L=L
      ·rw[aF c,show (ir u.2.2.1 L==L)=bc by simpa using c]<;>rfl
      ·rw[cq c,show (ir u.2.2.1 L==L)=a8 by simpa using c]<;>rfl
def CW  :=aU f135
def xU  :=cL<|cL<|cR<|cL<|cR<|cR CW
def L9 :Code:=cL (cL (cR (cL (cR (cL (cL (cR (cL (cL (cR (cL (cR (cR CW)))))))))))))
def cW :Cfg:=⟨33,6,0,[(4,[0,1,5]),(8,[0,1,5,6,7])],bc⟩
def XC p r  :=bT [.bool]<|aB gD f135 6 [(4,[0,1,5]),(8,[0,1,5,6,7])] [.d (.slice aa) p,.d aa r] [] ah
def aeQ p r  :=(XC p r).isSome
def aeR p r  :=(XC p r).getD<|dS _
def aGD  :=cC [.slice aa,aa] _ λp r=>(aeQ p r,aeR p r)
theorem anS :bq 135 aGD:=bh Rb<|by simp only[dg];exact λp r h=>aZ h
theorem ayy {a} p r (h:XC p r=ar a):aeQ p r=bc/\aeR p r=a:=bU h
def r4 (p:af)(r i:Int):LSt:=⟨az 6 [(0,.d (.slice aa) p),(1,I r),(5,I i)],[],0⟩
def qn  :=aI 0<|aL gD cW [4,8] (hlp gD cW) (cR<|cR<|cR CW)<|aV prog 0 f135.results.toList ah
theorem ayz (p:af) r:aB gD f135 6 [(4,[0,1,5]),(8,[0,1,5,6,7])] [.d (.slice aa) p,I r] [] ah=bif .ofNat p.length !=r then ak [B a8]else (hlp gD cW) xU _ (r4 p r 0) qn:=(aW [4,8] cW rfl).trans<|by obtain⟨a,h⟩:=aM gD cW;rw[h];kernel_rfl
def yT (p:af)(r i:Int)(f:Bool)(k:Int):LSt:=⟨az 6 [(0,.d (.slice aa) p),(1,I r),(5,I i),(6,B f),(7,I k)],[],0⟩
def Pu (n:Nat)(k:AEx->LSt->Option (aq×LHp))  :=aI 2<|aL gD cW [4,8] (hlp gD cW) (cR<|cR<|cL<|cL<|cR<|cL<|cL<|cR<|cL<|cR<|cR CW)<|aI 1<|aL gD cW [4,8] (hlp gD cW) (cR<|cR<|cL<|cL<|cR<|cL<|cR<|cR CW)<|lJ gD cW [4,8] (hlp gD cW) xU n k
theorem aqJ p r i n:lp gD cW xU (n+1) (r4 p r i) qn=bif i<r then (hlp gD cW) L9 _ (yT p r i a8 0) (aI 2<|aL gD cW [4,8] (hlp gD cW) (cR<|cR<|cL<|cL<|cR<|cL<|cL<|cR<|cL<|cR<|cR CW)<|aI 1<|aL gD cW [4,8] (hlp gD cW) (cR<|cR<|cL<|cL<|cR<|cL<|cR<|cR CW)<|lJ gD cW [4,8] (hlp gD cW) xU n qn)else ak [B bc]:=by rw[j9 [4,8]];obtain⟨a,h⟩:=aM gD cW;rw[h];kernel_rfl
theorem aqK p r i f k m n:lp gD cW L9 (n+1) (yT p r i f k) (Pu m qn)=bif k<r then bif f then lp gD cW L9 n (yT p r i bc<|i64.wrap<|k+1) (Pu m qn)else (idx p k).bind λa=>lp gD cW L9 n (yT p r i (a==i)<|i64.wrap<|k+1) (Pu m qn)else bif !f then ak [B a8]else lpH gD cW [4,8] (hlp gD cW) xU m (r4 p r<|i64.wrap<|i+1) qn:=by kernel_rfl
def H3 (p:af) i  :=p.any λw=>w==i
def noB :Option (aq×LHp):=ar (.ret [B a8],[])
theorem ayA {p}{N:Nat} i (hp:p.length=N) (e:N<=2147483648) m:lp gD cW L9 fu (yT p N i a8 0) (Pu m qn)=bif H3 p i then lp gD cW xU m (r4 p N<|i64.wrap<|i+1) qn else noB:=by
 let g:maxLen=9223372036854775807:=by decide
 let key:∀(l:af) (f:Bool),bG (λf v=>.go<|bif f then bc else v==i) (λf=>bif f then lp gD cW xU m _ qn else noB) l f=bif f||H3 l i then lp gD cW xU m (r4 p N<|i64.wrap<|i+1) qn else noB:=by
  intro l;induction l with|nil=>intro f;cases f<;>rfl|cons v l b=>intro f;refine(b _).trans ?_;rw[show H3 (v::l) i=(v==i||H3 l i)from rfl];cases f with|true=>rw[ai,ahn,ahn]|false=>rw[al,IN]
 refine(cg (T:=λn s=>lp gD cW L9 n s _) (st:=λk f=>yT p N i f k) (λ_ _=>True) (by omega) ?_ ?_ trivial).trans<|key p _
 ·intro k f v n _ h j c d o;let a:=aqK p N i f k m n;rw[aF<|by omega,ai,d]at a;refine .inl ⟨_,rfl,trivial,?_⟩;cases f with|true=>exact a|false=>rw[al,c,aw]at a;exact a
 ·intro f n _ _;let a:=aqK p N i f p.length m n;rw[cq<|by omega,al]at a;refine a.trans ?_;cases f with|false=>rfl|true=>rw[j9]<;>rfl
theorem ayB p r i m:hlp gD cW L9 _ (yT p r i a8 0) (Pu m qn)=lp gD cW L9 fu (yT p r i a8 0) (Pu m qn):=rfl
theorem aGE p r:hlp gD cW xU _ (r4 p r 0) qn=lp gD cW xU fu (r4 p r 0) qn:=rfl
theorem ayC {N:Nat}(p:af)(c:N<=2147483648):XC p (N:Int)=ar (bd p.length==N&&(fw N).all λi=>p.any λw=>w==i):=by
 let f:maxLen=9223372036854775807:=by decide
 unfold XC;rw[ayz,bne];cases g:bd _==N with
 |false=>rfl
 |true=>
  let hp:p.length=N:=by grind
  rw[cy,al,gb]
  let key:∀(l:List Nat),bG (λ_ (i:Nat)=>bif H3 p i then .go ()else .stop noB) (λ_=>ar _) l ()=ar (.ret [B<|(l.map .ofNat).all λi=>H3 p i],[]):=by
   intro l;induction l with|nil=>rfl|cons i l d=>rw[bG,List.map_cons,py,aK];cases H3 p i with|true=>exact d|false=>rfl
  let h  :=by
   refine(fq (N:=N) (T:=λn s=>lp gD cW xU n s qn) (st:=λi _=>r4 p N i) (λ_ _=>True) (by omega) ?_ ?_ trivial).trans<|key _
   ·intro i _ n _ j k b
    let a:=aqJ p N i n;rw[show a7 ((i:Int)<(N:Int))=bc from b,ai]at a;let m:=a.trans<|(ayB p N i n).trans<|ayA i hp c n
    grind
   ·intro _ n _ b;let a:=aqJ p N N n;grind
  let e:=(aGE p N).trans h;refine(congrArg _ e).trans ?_;rfl
def aqL  :=aU f90
def we  :=cL<|cL<|cR<|cL<|cR<|cR aqL
def iE :Cfg:=⟨34,6,0,[(3,[1,2,6,7])],bc⟩
def pP  :=(DY.add 74 W4).add 135 aGD
theorem XD :pP.Good:=(kV.add vX).add anS
def Pv y r  :=bT [.slice aa,.bool]<|aB pP f90 6 [(3,[1,2,6,7])] [.d Y2 y,.d aa r] [] ah
def ayD y r  :=(Pv y r).isSome
def anT y r  :=(Pv y r).getD<|dS _
def aGF  :=cC [Y2,aa] _ λy r=>(ayD y r,anT y r)
theorem anU :bq 90 aGF:=bh (bM XD func90 call90 (h2:=rfl))<|by simp only[dg];exact λy r h=>aZ h
theorem ayE {a} y r (h:Pv y r=ar a):ayD y r=bc/\anT y r=a:=bU h
def CX (y:(Y2).den)(r i:Int):LSt:=⟨az 6 [(1,I r),(2,.op 0 [] 0),(6,.nils),(7,I i)],[(0,.box<| .d _ y)],1⟩
def wg  :=aI 0<|aL pP iE [3] (hlp pP iE) (cR<|cR<|cR aqL)<|aV prog 0 f90.results.toList ah
theorem ayF y r:aB pP f90 6 [(3,[1,2,6,7])] [.d _ y,I r] [] ah=(hlp pP iE) we _ (CX y r<|i64.wrap<|r-1) wg:=(aW [3] iE rfl).trans<|by obtain⟨a,h⟩:=aM pP iE;rw[h];kernel_rfl
def Fz (y:(Y2).den)(r i:Int)(o:af):LSt:=⟨az 6 [(1,I r),(2,.op 0 [] 0),(6,.os 1 0),(7,I i)],[(0,.box<| .d _ y),(1,.arr 2 aa 0 a8 o)],2⟩
theorem aeS y r i n:lp pP iE we (n+1) (CX y r i) wg=bif i>=0 then lp pP iE we n (Fz y r (i64.wrap<|i-1) [i]) wg else bif CN y [112,101,114,109] [] r 0 100 then bif (dx y [112,101,114,109] [] r 0 100).2 then bif aeQ (dx y [112,101,114,109] [] r 0 100).1 r then ak [.d (aa).slice (dx y [112,101,114,109] [] r 0 100).1,B<|aeR (dx y [112,101,114,109] [] r 0 100).1 r]else a6 else ak [.d (aa).slice (dx y [112,101,114,109] [] r 0 100).1,B a8]else a6:=by kernel_rfl
theorem aeT y r i o n:lp pP iE we (n+1) (Fz y r i o) wg=bif i>=0 then (app o [i]).bind λa=>lp pP iE we n (Fz y r (i64.wrap<|i-1) a) wg else bif CN y [112,101,114,109] o r 0 100 then bif (dx y [112,101,114,109] o r 0 100).2 then bif aeQ (dx y [112,101,114,109] o r 0 100).1 r then ak [.d (aa).slice (dx y [112,101,114,109] o r 0 100).1,B<|aeR (dx y [112,101,114,109] o r 0 100).1 r]else a6 else ak [.d (aa).slice (dx y [112,101,114,109] o r 0 100).1,B a8]else a6:=by kernel_rfl
def wh  :=aU f179
def uF :Code:=cL (cL (cR (cL (cR (cR (cL (cR (cR (cR (cR (cR (cL (cR (cL (cR (cR wh))))))))))))))))
def H4 :Code:=cL (cL (cR (cL (cR (cL (cR (cR (cR (cR (cR (cR (cR (cR (cR (cR (cR (cR (cR (cR (cR (cL (cR (cL (cR (cR wh)))))))))))))))))))))))))
def qo :Code:=cL (cL (cR (cL (cR (cR (cR (cR (cL (cR (cR (cR (cR (cR (cR (cR (cR (cR (cR (cR (cR (cR (cR (cR (cR (cR (cL (cR (cL (cR (cR wh))))))))))))))))))))))))))))))
def bR :Cfg:=⟨271,9,0,[(15,[6,10,11,12,13]),(37,[6,20,21,22]),(47,[6,23,24,25,26,27,28])],bc⟩
def dX  :=((((((((((((((GV.add 230 aGo).add 128 O4).add 53 D1).add 173 anK).add 74 W4).add 90 aGF).add 231 aGn).add 232 aGl).add 52 aeg).add 138 aGm).add 192 ann).add 176 axI).add 228 axv).add 233 aqA).add 30 am4
theorem XE :dX.Good:=((((((((((((((jR.add anF).add sN).add mC).add H2).add vX).add anU).add anD).add anz).add Ao).add anB).add HV).add Sr).add Sn).add aer).add HP
def XF y a  :=bT [.slice aa,aa]<|aB dX f179 9 [(15,[6,10,11,12,13]),(37,[6,20,21,22]),(47,[6,23,24,25,26,27,28])] [.d Y2 y,.d (.slice<|Y3) a] [] ah
def ayG y a  :=(XF y a).isSome
def anV y a  :=(XF y a).getD<|dS _
def aGG  :=cC [Y2,.slice _] _ λy a=>(ayG y a,anV y a)
theorem anW :bq 179 aGG:=bh (bM XE func179 call179 (h2:=rfl))<|by simp only[dg];exact λy a h=>aZ h
theorem ayH {a} y vs (h:XF y vs=ar a):ayG y vs=bc/\anV y vs=a:=bU h
def tG (x p:af)(b:Bool)(i:Int):LSt:=⟨az 9 [(6,.d (.slice aa) x),(10,.d (.slice aa) p),(11,B b),(12,.nils),(13,I i)],[],0⟩
def H6 (x a:af)(b:Bool)(i:Int):LSt:=⟨az 9 [(6,.d (.slice aa) x),(20,.d (.slice aa) a),(21,B b),(22,I i)],[],0⟩
def wi (x l a:af)(b:Bool)(k i:Int):LSt:=⟨az 9 [(6,.d (.slice aa) x),(23,.d (.slice aa) l),(24,.d (.slice aa) a),(25,B b),(26,.nils),(27,I k),(28,I i)],[],0⟩
def Pw  :=aI 1<|aL dX bR [15,37,47] (hlp dX bR) (cR<|cR<|cR<|cL<|cR<|cR<|cR<|cR<|cR<|cL<|cR<|cL<|cR<|cR wh)<|aI 0<|aL dX bR [15,37,47] (hlp dX bR) (cR<|cR<|cR wh)<|aV prog 0 f179.results.toList ah
def KMs  :=aI 3<|aL dX bR [15,37,47] (hlp dX bR) (cR<|cR<|cL<|cR<|cR<|cR<|cR<|cR<|cR<|cR<|cR<|cR<|cR<|cR<|cR<|cR<|cR<|cR<|cL<|cR<|cL<|cR<|cR wh)<|aI 0<|aL dX bR [15,37,47] (hlp dX bR) (cR<|cR<|cR wh)<|aV prog 0 f179.results.toList ah
def H5  :=aI 5<|aL dX bR [15,37,47] (hlp dX bR) (cR<|cR<|cR<|cR<|cR<|cL<|cR<|cR<|cR<|cR<|cR<|cR<|cR<|cR<|cR<|cR<|cR<|cR<|cR<|cR<|cR<|cR<|cR<|cL<|cR<|cL<|cR<|cR wh)<|aI 0<|aL dX bR [15,37,47] (hlp dX bR) (cR<|cR<|cR wh)<|aV prog 0 f179.results.toList ah
theorem ayI (y)(c:cm):aB dX f179 9 [(15,[6,10,11,12,13]),(37,[6,20,21,22]),(47,[6,23,24,25,26,27,28])] [.d Y2 y,.d (.slice _) c] [] ah=(idx c 0).bind λa=>bif y.1==zg then bif ax7 y a.2.2.1 then bif !(anE y a.2.2.1).2 then ak [b5,I 4]else ak [eb (aa).slice (anE y a.2.2.1).1,I 0]else a6 else bif y.1==zh then bif nR y [115,104,97,112,101] []then bif CN y [115,104,97,112,101] [] (bd (bk (ef y [115,104,97,112,101] []))) 1 9223372036854775807 then bif !(dx y [115,104,97,112,101] [] (bd (bk (ef y [115,104,97,112,101] []))) 1 9223372036854775807).2 then ak [b5,I 4]else bif Pt a.2.2.1 (dx y [115,104,97,112,101] [] (bd (bk (ef y [115,104,97,112,101] []))) 1 9223372036854775807).1 then ak [eb (aa).slice (rY a.2.2.1 (dx y [115,104,97,112,101] [] (bd (bk (ef y [115,104,97,112,101] []))) 1 9223372036854775807).1).1,I (rY a.2.2.1 (dx y [115,104,97,112,101] [] (bd (bk (ef y [115,104,97,112,101] []))) 1 9223372036854775807).1).2]else a6 else a6 else a6 else bif y.1==zi then bif ayD y (bd (bk a.2.2.1))then (hlp dX bR) uF _ (tG a.2.2.1 (anT y (bd (bk a.2.2.1))).1 (anT y (bd (bk a.2.2.1))).2 0) Pw else a6 else bif y.1==vm then bif ax4 y c then bif !(anC y c).2 then ak [b5,I 4]else ak [eb (aa).slice (anC y c).1,I 0]else a6 else bif y.1==zj then bif axY y a.2.2.1 then bif !(anx y a.2.2.1).2 then ak [b5,I 4]else ak [eb (aa).slice (anx y a.2.2.1).1,I 0]else a6 else bif y.1==qE then bif pJ y [97,120,105,115] 0 then bif Pg (cI y [97,120,105,115] 0) (bd (bk a.2.2.1))then bif !(rW (cI y [97,120,105,115] 0) (bd (bk a.2.2.1))).2 then ak [b5,I 4]else (if (0:Int)<=0/\0<=(rW (cI y [97,120,105,115] 0) (bd (bk a.2.2.1))).1/\(rW (cI y [97,120,105,115] 0) (bd (bk a.2.2.1))).1<=bd (bk a.2.2.1)then ar (fb 0 (gy (j4 (rW (cI y [97,120,105,115] 0) (bd (bk a.2.2.1))).1) a.2.2.1))else a6).bind λf=>(app [] f).bind λg=>(idx c 1).bind λb=>(app g b.2.2.1).bind λi=>(if 0<=i64.wrap ((rW (cI y [97,120,105,115] 0) (bd (bk a.2.2.1))).1+1)/\i64.wrap ((rW (cI y [97,120,105,115] 0) (bd (bk a.2.2.1))).1+1)<=bd (bk a.2.2.1)/\bd (bk a.2.2.1)<=bd (bk a.2.2.1)then ar (fb (i64.wrap ((rW (cI y [97,120,105,115] 0) (bd (bk a.2.2.1))).1+1)).toNat (gy (bd (bk a.2.2.1)).toNat a.2.2.1))else a6).bind λe=>(app i e).bind λj=>ar (aq.ret [mq 0 0,I 0],[(0,au.arr 3 aa 0 a8 j)])else a6 else a6 else bif y.1==GK then bif ax1 y a.2.2.1 then bif !(anA y a.2.2.1).2.2 then ak [b5,I 4]else ak [eb (aa).slice (anA y a.2.2.1).2.1,I 0]else a6 else bif y.1==zk then bif nR y [97,120,101,115] []then bif uA (ef y [97,120,101,115] []) (bd (bk a.2.2.1))then (hlp dX bR) H4 _ (H6 a.2.2.1 (gM (ef y [97,120,101,115] []) (bd (bk a.2.2.1))).1 (gM (ef y [97,120,101,115] []) (bd (bk a.2.2.1))).2 0) KMs else a6 else a6 else bif y.1==zl then bif nR y [97,120,101,115] []then bif uA (ef y [97,120,101,115] []) (i64.wrap (bd (bk a.2.2.1)+bd (bk (ef y [97,120,101,115] []))))then (hlp dX bR) qo _ (wi a.2.2.1 (ef y [97,120,101,115] []) (gM (ef y [97,120,101,115] []) (i64.wrap (bd (bk a.2.2.1)+bd (bk (ef y [97,120,101,115] []))))).1 (gM (ef y [97,120,101,115] []) (i64.wrap (bd (bk a.2.2.1)+bd (bk (ef y [97,120,101,115] []))))).2 0 0) H5 else a6 else a6 else bif aeq y (bd (bk a.2.2.1))then bif !(wa y (bd (bk a.2.2.1))).2 then ak [b5,I 4]else (if (0:Int)<=0/\0<=(wa y (bd (bk a.2.2.1))).1/\(wa y (bd (bk a.2.2.1))).1<=bd (bk a.2.2.1)then ar (fb 0 (gy (j4 (wa y (bd (bk a.2.2.1))).1) a.2.2.1))else a6).bind λb=>bif D4 b then (if 0<=(wa y (bd (bk a.2.2.1))).1/\(wa y (bd (bk a.2.2.1))).1<=bd (bk a.2.2.1)/\bd (bk a.2.2.1)<=bd (bk a.2.2.1)then ar (fb (j4 (wa y (bd (bk a.2.2.1))).1) (gy (bd (bk a.2.2.1)).toNat a.2.2.1))else a6).bind λe=>bif D4 e then ar (aq.ret [mq 0 0,I 0],[(0,au.arr 3 aa 0 a8 [(th b).1,(th e).1])])else a6 else a6 else a6:=(aW [15,37,47] bR rfl).trans<|by obtain⟨k,h⟩:=aM dX bR;rw[h];kernel_rfl
def FA (x p:af)(b:Bool)(i:Int)(o:af):LSt:=⟨az 9 [(6,.d (.slice aa) x),(10,.d (.slice aa) p),(11,B b),(12,.os 0 0),(13,I i)],[(0,.arr 3 aa 0 a8 o)],1⟩
def yU (x l a:af)(b:Bool)(k i:Int)(o:af):LSt:=⟨az 9 [(6,.d (.slice aa) x),(23,.d (.slice aa) l),(24,.d (.slice aa) a),(25,B b),(26,.os 0 0),(27,I k),(28,I i)],[(0,.arr 3 aa 0 a8 o)],1⟩
theorem Px x p b i n:lp dX bR uF (n+1) (tG x p b i) Pw=bif i<.ofNat p.length then bif b then (idx p i).bind λa=>(idx x a).bind λc=>lp dX bR uF n (FA x p b (i64.wrap<|i+1) [c]) Pw else bif !b then ak [.nils,I 4]else ak [.nils,I 0]else bif !b then ak [.nils,I 4]else ak [.nils,I 0]:=by kernel_rfl
theorem aeU x p b i o n:lp dX bR uF (n+1) (FA x p b i o) Pw=bif i<.ofNat p.length then bif b then (idx p i).bind λa=>(idx x a).bind λc=>(app o [c]).bind λd=>lp dX bR uF n (FA x p b (i64.wrap<|i+1) d) Pw else bif !b then ak [.nils,I 4]else ar (.ret [.os 0 0,I 0],[(0,.arr 3 aa 0 a8 o)])else bif !b then ak [.nils,I 4]else ar (.ret [.os 0 0,I 0],[(0,.arr 3 aa 0 a8 o)]):=by kernel_rfl
theorem aqM x a b i n:lp dX bR H4 (n+1) (H6 x a b i) KMs=bif i<.ofNat a.length then bif b then (idx a i).bind λc=>(idx x c).bind λe=>lp dX bR H4 n (H6 x a (e==1)<|i64.wrap<|i+1) KMs else lp dX bR H4 n (H6 x a a8<|i64.wrap<|i+1) KMs else bif Pj x a a8 then bif !b then ak [.nils,I 4]else ak [.d (aa).slice<|Pk x a a8,I 0]else a6:=by kernel_rfl
theorem Py x l a b k i n:lp dX bR qo (n+1) (wi x l a b k i) H5=bif i<i64.wrap (.ofNat x.length+.ofNat l.length)then bif b then bif Wt a i then bif Wu a i then lp dX bR qo n (yU x l a b k (i64.wrap<|i+1) [1]) H5 else (idx x k).bind λc=>lp dX bR qo n (yU x l a b (i64.wrap<|k+1) (i64.wrap<|i+1) [c]) H5 else a6 else bif !b then ak [.nils,I 4]else ak [.nils,I 0]else bif !b then ak [.nils,I 4]else ak [.nils,I 0]:=by kernel_rfl
theorem aeV x l a b k i o n:lp dX bR qo (n+1) (yU x l a b k i o) H5=bif i<i64.wrap (.ofNat x.length+.ofNat l.length)then bif b then bif Wt a i then bif Wu a i then (app o [1]).bind λc=>lp dX bR qo n (yU x l a b k (i64.wrap<|i+1) c) H5 else (idx x k).bind λc=>(app o [c]).bind λd=>lp dX bR qo n (yU x l a b (i64.wrap<|k+1) (i64.wrap<|i+1) d) H5 else a6 else bif !b then ak [.nils,I 4]else ar (.ret [.os 0 0,I 0],[(0,.arr 3 aa 0 a8 o)])else bif !b then ak [.nils,I 4]else ar (.ret [.os 0 0,I 0],[(0,.arr 3 aa 0 a8 o)]):=by kernel_rfl
theorem aGH {R S:Type}{T:Nat->S->Option R}{N}(f:N<=2147483648){st:Int->List Int->S}{F:List Int->Option R}
  (h:∀(r:Nat) (o:af) (n:Nat),r<N->o.length<=N->T (n+1) (st r o)=T n (st (r-1) (o++[(r:Int)])))
  (a:∀(o:af) (n:Nat),o.length=N->T (n+1) (st (-1) o)=F o):T fu (st (N-1) [])=F (fw N).reverse:=by
 let key:∀(r:Nat) (o:af) (n:Nat),o.length+r=N->r<n->T n (st (r-1) o)=F (o++(fw r).reverse):=by
  intro r;induction r with
  |zero=>intro o n b c;obtain⟨n,rfl⟩:∃m,n=m+1:=⟨n-1,by omega⟩;let e:=a o n (by omega);rw[show ((0:Nat):Int)-1= -1 from rfl,e,show (fw 0).reverse=[]from rfl,eT]
  |succ r d=>
   intro o n b c;obtain⟨n,rfl⟩:∃m,n=m+1:=⟨n-1,by omega⟩;rw[(by omega:(r+1:Nat)-1=(r:Int)),h r o n (by omega) (by omega),d _ n (by rw[bK,eS];omega) (by omega)];let e:fw _=fw r++[(r:Int)]:=by unfold fw;rw[List.range_succ,List.map_append]<;>rfl
   grind
 grind [fu,eO]
def ayJ (y:(Y2).den)(r i:Int):List Int->LSt
 |[]=>CX y r i
 |v::o=>Fz y r i (v::o)
def prF (y:(Y2).den)(N:Nat)(o:af):Option (aq×LHp):=
 bif cA N 0 100 (aj y.2.2.2.2.1 dI o)then ar (.ret [.d (.slice aa) (aj y.2.2.2.2.1 dI o),B (bd (aj y.2.2.2.2.1 dI o).length==N&&(fw N).all λi=>(aj y.2.2.2.2.1 dI o).any λw=>w==i)],[])else ar (.ret [.d (.slice aa) (bif cY 0 100 (aj y.2.2.2.2.1 dI o)then aj y.2.2.2.2.1 dI o else []),B a8],[])
theorem aGI {y}(c:aE y.2.2.2.2.1=bc){N:Nat}(e:N<=2147483648)(o:af) n (f:o.length<=2147483648):lp pP iE we (n+1) (ayJ y N (-1) o) wg=prF y N o:=by
 let ⟨g,h⟩:=uB y dI o N 0 100 (uC c f N 0 100)
 let a:(bif CN y dI o N 0 100 then bif (dx y dI o N 0 100).2 then (bif aeQ (dx y dI o N 0 100).1 N then ar (.ret [.d (aa).slice (dx y dI o N 0 100).1,B (aeR (dx y dI o N 0 100).1 N)],[])else a6)else ak [.d (aa).slice (dx y dI o N 0 100).1,B _]else a6)=prF y N o:=by
  rw[g,ai,h];unfold prF;cases b:cA N 0 100 _ with
  |false=>rfl
  |true=>
   let i  :=by unfold cA at b;exact(aX _ _▸b).1
   rw[i,ai,ai];let ⟨j,k⟩:=ayy _ N (ayC (aj y.2.2.2.2.1 dI o) e);grind
 cases o with|nil=>show lp pP iE we (n+1) (CX y N (-1)) wg=_;rw[aeS,show a7 ((-1:Int)>=0)=a8 from rfl,al];exact a|cons v o=>show lp pP iE we (n+1) (Fz y N (-1) (v::o)) wg=_;rw[aeT,show a7 ((-1:Int)>=0)=a8 from rfl,al];exact a
theorem aGJ y r i:hlp pP iE we _ (CX y r i) wg=lp pP iE we fu (CX y r i) wg:=rfl
theorem ayL {y}(b:aE y.2.2.2.2.1=bc) xs (c:xs.length<=6):∃P,Pv y (.ofNat xs.length)=ar (P,Hy y.2.2.2.2.1 xs)/\(Hy y.2.2.2.2.1 xs=bc->P=uk y.2.2.2.2.1 xs.length):=by
 let h  :=by
  refine aGH (T:=λn s=>lp pP iE we n s wg) (N:=xs.length) (st:=λi o=>ayJ y xs.length i o) (F:=prF y xs.length) (by omega) ?_ ?_
  ·intro r o n g d;let a:i64.wrap _=r-1:=aH (by omega) (by omega);cases o with|nil=>show lp pP iE we _ (CX y _ r) wg=_;rw[aeS,aF (by omega),ai,a]<;>rfl|cons v o=>show lp pP iE we _ (Fz y _ r _) wg=_;rw[aeT,aF (by omega),ai,gu (by omega),aw,a]<;>rfl
  ·intro o n d;exact aGI b (by omega) o n (by omega)
 let a:i64.wrap (.ofNat _-1)=xs.length-1:=by simp only[aK];exact aH (by omega) (by omega)
 let e:Pv y _=bT _ (prF y _ (fw _).reverse):=by unfold Pv;rw[ayF,a];exact congrArg _ ((aGJ y _ _).trans h)
 let f:Hy y.2.2.2.2.1 xs=(cA _ 0 100 _&&(bd (uk y.2.2.2.2.1 _).length==xs.length&&(fw _).all λi=>(uk y.2.2.2.2.1 _).any λw=>w==i)):=(anh c).symm;rw[e,f];unfold prF;rw[show aj y.2.2.2.2.1 dI (fw _).reverse=uk y.2.2.2.2.1 _ from rfl];cases cA _ 0 100 _ with|false=>exact⟨_,rfl,λh=>by cases h⟩|true=>exact⟨_,rfl,λ_=>rfl⟩
def XG :List Int->Option (aq×LHp)
 |[]=>ar (.ret [.nils,I 0],[])
 |v::o=>ar (.ret [.os 0 0,I 0],[(0,.arr 3 aa 0 a8 (v::o))])
def erE :Option (aq×LHp):=ar (.ret [.nils,I 4],[])
theorem aeW (o:af):bT [.slice aa,aa] (XG o)=ar (o,0):=by cases o<;>rfl
def aJt (x p:af)(i:Int):List Int->LSt
 |[]=>tG x p bc i
 |v::o=>FA x p bc i (v::o)
theorem aGK {x p}(hp:p.length<=2147483648)(g:∀v∈p,0<=v/\v<x.length):lp dX bR uF fu (tG x p bc 0) Pw=XG (p.map λv=>x.getD v.toNat 0):=by
 let q:maxLen=9223372036854775807:=by decide
 let key:∀(l o:af),bG (λo v=>.go (o++[x.getD v.toNat 0])) XG l o=XG (o++l.map λv=>x.getD v.toNat 0):=by intro l;induction l with|nil=>intro o;rw[bG,Dr,eT]|cons v l h=>intro o;refine(h _).trans ?_;rw[gl]<;>rfl
 refine(cg (xs:=p) (T:=λn s=>lp dX bR uF n s Pw) (st:=λi o=>aJt x p i o) (λi o=>o.length=i) (by omega) ?_ ?_ (a:=[]) rfl).trans (key p [])
 ·intro i o v n c r j d e b;let ⟨k,m⟩:=g v (ik j);let f:=ny k m;refine .inl ⟨_,rfl,by rw[bK,c];rfl,?_⟩;cases o with|nil=>show lp dX bR uF _ (tG x p bc i) Pw=_;rw[Px,b,ai,ai,d,aw,f,aw,e]<;>rfl|cons w o=>show lp dX bR uF _ (FA x p bc i _) Pw=_;rw[aeU,b,ai,ai,d,aw,f,aw,gu (by omega),aw,e]<;>rfl
 ·intro o n c b;cases o with|nil=>show lp dX bR uF _ (tG x p bc _) Pw=_;rw[Px,b,al]<;>rfl|cons w o=>show lp dX bR uF _ (FA x p bc _ _) Pw=_;rw[aeU,b,al]<;>rfl
theorem ayM x p:lp dX bR uF fu (tG x p a8 0) Pw=erE:=by rw[show fu=18446744073709551615+1 from rfl,Px];cases a7 (0<bd _)<;>rfl
theorem ayN x p b:hlp dX bR uF _ (tG x p b 0) Pw=lp dX bR uF fu (tG x p b 0) Pw:=rfl
theorem aeX {x a b}(f:x.length<=2147483648)(u:a.length<=2147483648)(g:∀v∈a,0<=v/\v<x.length):lp dX bR H4 fu (H6 x a b 0) KMs=bif b&&a.all λv=>x.getD v.toNat 0==1 then ar (.ret [.d (.slice aa) (rJ a 0 0 x),I 0],[])else erE:=by
 let w:maxLen=9223372036854775807:=by decide
 let key:∀(l:af) (b:Bool),bG (λb v=>.go (bif b then x.getD v.toNat 0==1 else a8)) (λb=>bif b then ar _ else erE) l b=bif b&&l.all λv=>x.getD v.toNat 0==1 then ar (.ret [.d (.slice aa) (rJ a 0 0 x),I 0],[])else erE:=by intro l;induction l with|nil=>intro b;cases b<;>rfl|cons v l h=>intro b;refine(h _).trans ?_;grind
 refine(cg (xs:=a) (T:=λn s=>lp dX bR H4 n s KMs) (st:=λi b=>H6 x a b i) (λ_ _=>True) (by omega) ?_ ?_ trivial).trans (key a b)
 ·intro i b v n _ y j k m e;let ⟨o,p⟩:=g v (ik j);let q:=ny o p;let c:=aqM x a b i n;rw[e,ai,m,k,aw,q,aw]at c;refine .inl ⟨_,rfl,trivial,c.trans ?_⟩;cases b<;>rfl
 ·intro b n _ e;let c:=aqM x a b a.length n;let ⟨r,t⟩:=CP x a a8 (CR f (by omega) 0);rw[e,al,r,ai,t]at c;refine c.trans ?_;cases b<;>rfl
theorem ayO x a b:hlp dX bR H4 _ (H6 x a b 0) KMs=lp dX bR H4 fu (H6 x a b 0) KMs:=rfl
def anY (x l a:af)(k i:Int):List Int->LSt
 |[]=>wi x l a bc k i
 |v::o=>yU x l a bc k i (v::o)
theorem ayP {x l a}(d:a.length<=maxLen) k i {o:af} (b:o.length<=2147483648) n (c:a7 (i<i64.wrap (.ofNat x.length+.ofNat l.length))=bc):lp dX bR qo (n+1) (anY x l a k i o) H5=
  bif dZ a i then lp dX bR qo n (anY x l a k (i64.wrap (i+1)) (o++[1])) H5 else (idx x k).bind λv=>lp dX bR qo n (anY x l a (i64.wrap (k+1)) (i64.wrap (i+1)) (o++[v])) H5:=by
 let ⟨g1,g2⟩:=aee a i (aef d i)
 cases o with
 |nil=>show lp dX bR qo _ (wi x l a bc k i) H5=_;rw[Py,c,ai,ai,g1,ai,g2]<;>rfl
 |cons w o=>
  show lp dX bR qo _ (yU x l a bc k i _) H5=_;rw[aeV,c,ai,ai,g1,ai,g2,gu b];cases dZ a i with|true=>rfl|false=>cases idx x k with|none=>rfl|some v=>rw[aw,aw,gu b]<;>rfl
theorem XH a i r:Wq a i (r+1)=(bif dZ a i then 0 else 1)+Wq a (i+1) r:=by unfold Wq;grind [List.range'_succ,aK]
theorem ayQ {x l a N}(h:a.length<=maxLen)(y:x.length+l.length=N)(j:N<=2147483648):∀(r i k) (o:af) (n),i+r=N->o.length=i->k+Wq a i r<=x.length->r<n->lp dX bR qo n (anY x l a k i o) H5=XG (o++IV a i r (x.drop k)):=by
 let f:i64.wrap (bd x.length+bd l.length)=N:=by simp only[aK];rw[aH (by omega) (by omega)];omega
 intro r;induction r with
 |zero=>
  intro i k o n p g b q;obtain⟨n,rfl⟩:∃m,n=m+1:=⟨n-1,by omega⟩;let d:a7 (i<i64.wrap (bd x.length+bd l.length))=a8:=by rw[f];exact cq (by omega)
  rw[IV,eT];cases o with|nil=>show lp dX bR qo (n+1) (wi x l a bc k i) H5=_;rw[Py,d,al]<;>rfl|cons w o=>show lp dX bR qo (n+1) (yU x l a bc k i (w::o)) H5=_;rw[aeV,d,al]<;>rfl
 |succ r s=>
  intro i k o n p g b q;obtain⟨n,rfl⟩:∃m,n=m+1:=⟨n-1,by omega⟩;let d:a7 (i<i64.wrap (bd x.length+bd l.length))=bc:=by rw[f];exact aF (by omega)
  let t:i64.wrap (i+1)=(i+1:Nat):=by rw[aH (by omega) (by omega)];omega
  rw[XH]at b;rw[ayP h k i (by omega) n d,IV,t];cases c:dZ a i with
  |true=>rw[c,ai]at b;grind [bK,gl]
  |false=>
   rw[c,al]at b;let u:k<x.length:=by omega
   let v:i64.wrap (k+1)=(k+1:Nat):=by rw[aH (by omega) (by omega)];omega
   let e:x.drop k=x.getD k 0::x.drop (k+1):=by simp_all
   rw[al,al,eM u,aw,v,s (i+1) (k+1) (o++[x.getD k 0]) n (by omega) (by rw[bK,g]<;>rfl) (by omega) (by omega),gl,e]<;>rfl
theorem ayR x l a b:hlp dX bR qo _ (wi x l a b 0 0) H5=lp dX bR qo fu (wi x l a b 0 0) H5:=rfl
theorem ayS x l a:lp dX bR qo fu (wi x l a a8 0 0) H5=erE:=by rw[show fu=18446744073709551615+1 from rfl,Py];cases a7 (0<i64.wrap _)<;>rfl
def cQ :ao:=jT
def iJ :ao:=lL
def iK :ao:=qF
def cz :ao:=BM
def eZ :ao:=gX
def SC :ao:=cE
theorem an0 {nm:ao}{ins:List (ao)}{out:ao}{ag:bu}{v:(Y3).den}{vs:cm}:
  VD (cQ,nm,ins,out,ag,()) (v::vs)=bif vI ag (v::vs) v.2.2.1 then (bif lQ ag (v::vs) v.2.2.1 then ar (0,Cr ag (v::vs) v.2.2.1)else bif !(vJ ag (v::vs) v.2.2.1==0)then ar (vJ ag (v::vs) v.2.2.1,[])else a6)else a6:=by
 have e:aB lR f105 8 [(56,[3,132,133,134])] [iN (cQ,nm,ins,out,ag,()) (v::vs)] [] ah=bif vI ag (v::vs) v.2.2.1 then (bif lQ ag (v::vs) v.2.2.1 then ar (.ret [.d (.slice aa) (Cr ag (v::vs) v.2.2.1)],[])else ar (.panic 131 (vJ ag (v::vs) v.2.2.1),[]))else a6:=(oS cQ nm ins out ag (v::vs)).trans (by kernel_rfl)
 unfold VD
 rw[e,sM,sM,Ai,vQ]<;>rfl
def plP (a:bu)(b:af):Option (Int×af):=
 bif aE a then bif cA 2 1 100 (aj a eZ [])then (bif bd b.length==4 then (bif nq a b (aj a eZ [])then (bif dp a b (aj a eZ [])==0 then
  (bif mj (aj a eZ []) 0 (aj a SC [])then ar (0,[b.getD 0 0,b.getD 1 0,jV a b (aj a eZ []),jW a b (aj a eZ [])])else ar (4,[]))
  else bif !(dp a b (aj a eZ [])==0)then ar (dp a b (aj a eZ []),[])else a6)else a6)else ar (4,[]))else ar (4,[])else a6
theorem SD {a nm ins out ag v}{vs:cm}(b:a=iJ\/a=iK):
  VD (a,nm,ins,out,ag,()) (v::vs)=plP ag v.2.2.1:=by
 let e:aB lR f105 8 _ [iN (a,nm,ins,out,ag,()) _] [] ah=bif aE ag then bif cA 2 1 100 (aj ag eZ [])then (bif bd (bk v.2.2.1)==4 then (bif nq ag v.2.2.1 (aj ag eZ [])then (bif dp ag v.2.2.1 (aj ag eZ [])==0 then
  (bif mj (aj ag eZ []) 0 (aj ag SC [])then ar (.ret [.d (.slice aa) [ec v.2.2.1 0 0,ec v.2.2.1 1 0,jV ag v.2.2.1 (aj ag eZ []),jW ag v.2.2.1 (aj ag eZ [])]],[])else ar (.panic 131 4,[]))
  else ar (.panic 131 (dp ag v.2.2.1 (aj ag eZ [])),[]))else a6)else ar (.panic 131 4,[]))else ar (.panic 131 4,[])else a6:=by
  rcases b with rfl|rfl
  ·exact(oS iJ nm ins out ag _).trans (by kernel_rfl)
  ·exact(oS iK nm ins out ag (v::vs)).trans (by kernel_rfl)
 unfold VD plP
 rw[e]
 simp only[sM,CC,Ai,vQ]
 rfl
theorem ay2 {nm ins out ag v}{vs:cm}:
  VD (cz,nm,ins,out,ag,()) (v::vs)=bif !Int.ofNat (bk v.2.2.1)==4 then ar (4,[])else (idx v.2.2.1 0).bind λa=>(idx v.2.2.1 1).bind λb=>ar (0,[a,b,1,1]):=by
 let e:aB lR f105 8 _ _ [] ah=bif !Int.ofNat (bk v.2.2.1)==4 then ar (.panic 131 4,[])else (idx v.2.2.1 0).bind λa=>(idx v.2.2.1 1).bind λb=>ar (.ret [.os 0 0],[(0,.arr 3 aa 0 a8 [a,b,1,1])]):=(oS cz nm ins out ag (v::vs)).trans (by kernel_rfl)
 unfold VD
 rw[e]
 simp only[sM,CB,HF,vQ]
 rfl
def aqN  :=aU f23
def H7  :=cL (cL (cR (cL (cR (cR aqN)))))
def ll :Cfg:=⟨33,6,0,[(3,[2,4,6,9,10,11])],bc⟩
def an1 :List AV->LHp->Tq
 |[.d Y0 x],[]=>.br (a7 (bk x.2.1<=maxLen/\bk x.2.2.1<=maxLen)) (.leaf (.ret [I (gz x.1 x.2.1 x.2.2.1)]) []) .no
 |_,_=>.no
theorem SE :bq 57 (ay an1):=by
 refine aY λb c d e a=>?_
 unfold an1 at a;split at a
 ·exact QM.ok _ _ _ _ a
 ·cases a
def tm  :=(zp.add 58 ouE).add 57 (ay an1)
theorem XN :tm.Good:=(gq.add awd).add SE
def KBg  :=aI 0 (aL tm ll [3] (hlp tm ll) (cR (cR (cR aqN))) (aV prog 0 f23.results.toList ah))
theorem ay3 (n:dQ)(a:List (Y0).den):aB tm f23 6 [(3,[2,4,6,9,10,11])] [.d Y2 n,.d (.slice _) a] [] ah=(hlp tm ll) H7 _ ⟨az 6 [(2,.op 0 [] 0),(4,.op 1 [] 0),(6,.nils),(9,.d Y0.slice a),(10,I (.ofNat a.length)),(11,I 0)],[(0,.box (.d Y2 n)),(1,.box ((eb .str []).pr ((I 0).pr (b5.pr (.d .unit bn)))))],2⟩ KBg:=(aW [3] ll rfl).trans (by obtain⟨b,h⟩:=aM tm ll;rw[h];kernel_rfl)
end
end Go.Proofs.XRT
