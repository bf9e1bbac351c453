/- mandrelref08.moved over data: told as infer's moved is. -/
import Derived.Test.YtnkhoojomojbpaaGreatDoorC4
import Derived.Test.YtnkhoojomojbpaaGreatDoorC2
import Derived.Test.YtnkhoojomojbpaaGreatDoorC3
open BitVec renaming ofInt→q9
open Bool renaming and_self→uu,eq_iff_iff→vc,false_and→so,false_or→IN,false→a8,not_false→hX,not_true→cy,true_and→gb,true→bc
open Decidable renaming decide→a7
open Eq renaming trans→gp
open Go.FloatKind renaming f32→b8
open Go.Vm.AV renaming d→eb,ip→Zh,nils→b5,op→mm,os→mq
open Go.Vm.Nx renaming go→WD
open Go.Vm.Tq renaming br_no→eN
open Go.Vm.Ty renaming arr→rn,str→fa,unit→eR
open Int renaming eq_ofNat_of_zero_le→q8,le_refl→DC,mul_le_mul→Qb,mul_nonneg→acD,natCast_add→FY,natCast_mul→p4,natCast_nonneg→u4,ofNat→bd,tdiv→P8,tmod→acM,toNat_natCast→b9,toNat_of_nonneg→kd,toNat→j4
open List renaming all_eq_true→gv,any_eq_true→tr,append_assoc→gl,append_nil→eT,drop_eq_nil_of_le→ly,drop→fb,flatMap_cons→w7,flatMap_nil→amL,foldl_cons→zm,getD_eq_getElem?_getD→kM,getD→ec,getElem?_eq_getElem→dv,getElem_mem→rm,length_append→bK,length_cons→bs,length_drop→km,length_map→vb,length_nil→eO,length_range→IJ,length_replicate→mb,length_reverse→Nd,length_set→WB,length_singleton→eS,length_take→fl,length→bk,map_append→Cp,map_cons→ox,map_nil→Dr,map→Sp,mem_cons_of_mem→m3,mem_cons_self→ku,mem_cons→kt,mem_of_find?_eq_some→kq,mem_of_getElem?→ik,mem_range→v8,nil_append→pb,not_mem_nil→Dp,range→hW,replicate→eo,reverse_reverse→ahp,take_length→yf,take→gy
open List.cons renaming inj→ahy
open Nat renaming add_mul→nY,add_zero→y8,ble_eq_true_of_le→sc,div_lt_of_lt_mul→w5,le_mul_of_pos_left→xu,le_mul_of_pos_right→oy,le_refl→ep,le_trans→zv,mod_lt→WU,mul_assoc→yk,mul_comm→vr,mul_le_mul_right→ga,mul_one→Qe,mul_pos→ya,one_mul→x1,sub_self→M7,succ_mul→WN,zero_add→hM,zero_le→k7,zero_mul→TH
open Option renaming none→a6,some→ar
open Option.some renaming inj→hY
open Ordering renaming eq→Eb
open PUnit renaming unit→bn
set_option maxRecDepth 100000
set_option maxHeartbeats 4000000
namespace Go.Proofs.XRT
open Go.Vm Go Tryz IntKind
noncomputable section
theorem wj {K k}{L l:af}{p}(h:rO (bif K then ak [.d (.slice aa) L]else bF)=ar p)(a:k=K)(b:K=bc->l=L):bT [.slice aa,aa] (bif !k then ak [.nils,I 4]else ak [.d (.slice aa) l,I 0])=ar (p.2,p.1):=by subst a;cases k with|false=>cases h;rfl|true=>rw[b rfl];cases h;rfl
def aeY (d:af)  :=d.length<=6/\∀x∈d,1<=x/\x<=65536
theorem ayT {y:(Y2).den}{v}{r:cm}(K:aE y.2.2.2.2.1=bc)(hv:(v::r).length<=2147483648)(hd:∀u∈v::r,aeY u.2.2.1){p}(hp:mvR y (v::r) v.2.2.1=ar p):XF y (v::r)=ar (p.2,p.1):=by
 have hm:maxLen=9223372036854775807:=by decide
 obtain⟨g,nm,L,M,c,u⟩:=y;have K:aE c=bc:=K;have hl:=bz K;obtain⟨d1,d2⟩:=hd v ku;unfold mvR at hp;unfold XF;rw[show aB amz f155 7 [] [iN (g,nm,L,M,c,u) (v::r),.d (.slice aa) v.2.2.1] [] ah=_ from adw g nm L M c (v::r) v.2.2.1]at hp;rw[ayI,show idx (v::r) 0=ar v from rfl,aw];rw[K,aF (show v.2.2.1.length<=2147483648 by omega),aF (show v.2.2.1.length<=6 from d1),aF (show 1<=(v::r).length/\(v::r).length<=2147483648 from⟨by rw[bs];omega,hv⟩),aF (show c.length<=9223372036854775807 by omega)]at hp;show bT _ (bif g==zg then _ else bif g==zh then _ else bif g==zi then _ else bif g==vm then _ else bif g==zj then _ else bif g==qE then _ else bif g==GK then _ else bif g==zk then _ else bif g==zl then _ else _)=_;generalize hy:(g,nm,L,M,c,u)=y;have m:y.2.2.2.2.1=c:=by rw[←hy]
 have D:aE y.2.2.2.2.1=bc:=by rw[m];exact K
 cases c1:g==zg with
 |true=>rw[c1,ai,ai,ai]at hp;rw[ai];obtain⟨g1,g2⟩:=ax8 y v.2.2.1 (ayl D (λx T=>(d2 x T).1) (by omega));rw[g1,ai,g2,m];exact wj hp aeG.1 aeG.2
 |false=>
 rw[c1,al]at hp;rw[al];cases c2:g==zh with
 |true=>
  have hs:(aj c da []).length<=2147483648:=cN K da (k7 _)
  first|rw[c2,ai,ai,ai,show ([115,104,97,112,101]:ao)=da from rfl,aF (show v.2.2.1.length<=2147483648/\(aj c da []).length<=2147483648 from⟨by omega,hs⟩)]at hp|rw[c2,ai,ai,ai,show (zo:ao)=da from rfl,aF (show v.2.2.1.length<=2147483648/\(aj c da []).length<=2147483648 from⟨by omega,hs⟩)]at hp
  first|rw[ai,show ([115,104,97,112,101]:ao)=da from rfl]|rw[ai,show (zo:ao)=da from rfl]
  obtain⟨g1,g2⟩:=oU y da [] (oV D (k7 _));rw[g1,ai,g2,m];obtain⟨k1,k2⟩:=uB y da [] (bd (aj c da []).length) 1 9223372036854775807 (uC D (k7 _) _ _ _);rw[k1,ai,k2,m];cases o:cA (bd (aj c da []).length) 1 9223372036854775807 (aj c da [])with
  |false=>rw[o]at hp;cases hp;rfl
  |true=>
   have E  :=by unfold cA at o;exact(aX _ _▸o).1
   rw[o,ai,ai]at hp;rw[E,ai,cy,al];obtain⟨b1,b2⟩:=CU v.2.2.1 (aj c da []) (CV (by omega) (by omega));rw[b1,ai,b2];cases e:dY v.2.2.1 (aj c da [])==0 with
   |true=>rw[e]at hp;cases hp;rw[eq_of_beq e]<;>rfl
   |false=>
    rw[e,al]at hp;have h4:rO (ar (aq.panic 131 (dY v.2.2.1 (aj c da [])),[]))=ar (dY v.2.2.1 (aj c da []),[]):=by show (bif _ then _ else _)=_;rw[e]<;>rfl
    rw[h4]at hp;cases hp;rfl
 |false=>
 rw[c2,al]at hp;rw[al];cases c3:g==zi with
 |true=>
  rw[c3,ai,ai,ai]at hp;rw[ai];obtain⟨P,e1,e2⟩:=ayL D v.2.2.1 d1;obtain⟨g1,g2⟩:=ayE y (bd v.2.2.1.length) e1;rw[g1,ai,g2];rw[m]at e2⊢;have H  :=ayN v.2.2.1 P;cases F:Hy c v.2.2.1 with
  |false=>rw[F]at hp;cases hp;exact congrArg (bT [.slice aa,aa]) ((H a8).trans (ayM v.2.2.1 P))
  |true=>
   rw[F]at hp;cases hp;have eP:=e2 F;subst eP;have o  :=by unfold Hy at F;exact(aX _ _▸F).1
   have w:i64.wrap (bd v.2.2.1.length-1)=(v.2.2.1.length:Int)-1:=by simp only[aK];exact aH (by omega) (by omega)
   have s:=lE o;rw[w]at s;have U:=fi o;simp only[aK]at U;refine(congrArg (bT [.slice aa,aa]) ((H bc).trans (aGK (p:=uk c v.2.2.1.length) (by omega) λq C=>⟨(s q C).1,by have:=(s q C).2;omega⟩))).trans ?_;exact aeW _
 |false=>
 rw[c3,al]at hp;rw[al];cases c4:g==vm with
 |true=>rw[c4,ai,ai,ai,ai]at hp;rw[ai];obtain⟨g1,g2⟩:=ax5 y (v::r) (ayj D hv (by omega));rw[g1,ai,g2,m];exact wj hp rfl λ_=>rfl
 |false=>
 rw[c4,al]at hp;rw[al];cases c5:g==zj with
 |true=>rw[c5,ai,ai,ai]at hp;rw[ai];obtain⟨g1,g2⟩:=axZ y v.2.2.1 (ayc D d2 (by omega));rw[g1,ai,g2,m];exact wj hp rfl λ_=>rfl
 |false=>
 rw[c5,al]at hp;rw[al];cases c6:g==qE with
 |true=>
  first|rw[c6,ai,ai,show ([97,120,105,115]:ao)=bE from rfl]at hp|rw[c6,ai,ai,show (jG:ao)=bE from rfl]at hp
  first|rw[ai,show ([97,120,105,115]:ao)=bE from rfl]|rw[ai,show (jG:ao)=bE from rfl]
  obtain⟨i1,i2⟩:=qk y bE 0 (ql (by rw[m];omega));rw[i1,ai,i2,m];generalize aS c bE 0=a at hp⊢;obtain⟨V,W⟩:=HT a (bd v.2.2.1.length) (HU a (bd v.2.2.1.length));rw[V,ai,W];cases T:uf a (bd v.2.2.1.length)with
  |false=>rw[T]at hp;cases hp;rfl
  |true=>
   rw[T,ai]at hp;rw[ai,cy,al];obtain⟨O,z1⟩:=Oz (r:=bd v.2.2.1.length) (by simp only[aK];omega) (by simp only[aK];omega) T;generalize kD a (bd v.2.2.1.length)=z at O z1 hp⊢;simp only[aK]at z1;have wz:i64.wrap (z+1)=z+1:=aH (by omega) (by omega);rw[wz,yL O (by omega),aw]at hp;rw[wz,yL O (by omega),aw,nv (by rw[fl];omega),aw];cases X:idx (v::r) 1 with
   |none=>rw[X]at hp;cases hp
   |some w=>
    have hwm:w∈v::r:=by unfold idx at X;rw[if_pos (by decide)]at X;exact ik X
    have hw6:=(hd w hwm).1;rw[X,aw,if_pos ⟨by omega,by simp only[aK];omega,by omega⟩,aw,show (bd v.2.2.1.length).toNat=v.2.2.1.length from rfl,yf,aF (by rw[fl,km];omega),ai]at hp;rw[aw,eX (by rw[show lim=4294967296 from rfl,fl];omega),aw,if_pos ⟨by omega,by simp only[aK];omega,by omega⟩,aw,show (bd v.2.2.1.length).toNat=v.2.2.1.length from rfl,yf,eX (by rw[show lim=4294967296 from rfl,bK,fl,km];omega),aw];cases hp;rfl
 |false=>
 rw[c6,al]at hp;rw[al];cases c7:g==GK with
 |true=>
  rw[c7,ai,ai,ai]at hp;rw[ai];obtain⟨g1,g2⟩:=ax2 y v.2.2.1 (ayf D d2 (by omega));rw[g1,ai,g2,m];refine wj (k:=_) hp ?_ ?_
  ·unfold al6 OL;cases cA (bd (2*v.2.2.1.length)) 0 65536 (aj c bl [])<;>rfl
  ·intro F;unfold al6 OL at F;unfold avz OL;cases o:cA (bd (2*v.2.2.1.length)) 0 65536 (aj c bl [])with|false=>rw[o]at F;cases F|true=>rfl
 |false=>
 rw[c7,al]at hp;rw[al];have Zl:(cS c).length<=2147483648:=cN K bD (k7 _);have Y:aj c bD []=cS c:=rfl;cases c8:g==zk with
 |true=>
  rw[c8,ai,ai,ai]at hp
  first|rw[ai,show ([97,120,101,115]:ao)=bD from rfl]|rw[ai,show (m9:ao)=bD from rfl]
  obtain⟨g1,g2⟩:=oU y bD [] (oV D (k7 _));rw[g1,ai,g2,m,Y];obtain⟨V,W⟩:=HW (cS c) (bd v.2.2.1.length) (HX Zl _);rw[V,ai,W];cases C:a7 ((cS c).length<=2147483640)with
  |false=>rw[C]at hp;cases hp
  |true=>
   rw[C,ai]at hp;have H:∀a b,hlp dX bR H4 (aq×LHp) (H6 v.2.2.1 a b 0) KMs=_:=ayO v.2.2.1;unfold av4 av5 adv at hp;cases G:dj (bd v.2.2.1.length) (cS c) []with
   |false=>rw[G]at hp;cases hp;exact congrArg (bT [.slice aa,aa]) ((H [] a8).trans (aeX (by omega) (k7 _) λ_ h=>by cases h))
   |true=>
    have s:=Cx (r:=bd v.2.2.1.length) (by simp only[aK];omega) (by simp only[aK];omega) G;have Q:=(ns G).1;have I:(jA (jy (cS c) (bd v.2.2.1.length))).reverse.Pairwise (· > ·):=List.pairwise_reverse.2 (vP Q);have f:(jA (jy (cS c) (bd v.2.2.1.length))).reverse.Perm (jy (cS c) (bd v.2.2.1.length)):=(List.reverse_perm _).trans (lg _);have t:(jy (cS c) (bd v.2.2.1.length)).length<=2147483648:=by rw[gr];omega
    rw[G,ai]at hp;generalize jy (cS c) (bd v.2.2.1.length)=A at hp s Q I f t⊢;generalize (jA A).reverse=S at hp I f;rw[aec I λa E=>s a (f.mem_iff.1 E),sP (A:=S) (B:=A) λj _ _=>Fl f j,show S.all λa=>v.2.2.1.getD a.toNat 0==1=A.all λa=>v.2.2.1.getD a.toNat 0==1 from by rw[vc,gv,gv];exact⟨λh a E=>h a (f.mem_iff.2 E),λh a E=>h a (f.mem_iff.1 E)⟩]at hp;refine(congrArg (bT [.slice aa,aa]) ((H A bc).trans (aeX (x:=v.2.2.1) (a:=A) (b:=true) (by omega) t s))).trans ?_;rw[gb];cases J:A.all λa=>v.2.2.1.getD a.toNat 0==1 with|false=>rw[J]at hp;cases hp;rfl|true=>rw[J]at hp;cases hp;rfl
 |false=>
 rw[c8,al]at hp;rw[al];cases c9:g==zl with
 |true=>
  rw[c9,ai,ai,ai]at hp
  first|rw[ai,show ([97,120,101,115]:ao)=bD from rfl]|rw[ai,show (m9:ao)=bD from rfl]
  obtain⟨g1,g2⟩:=oU y bD [] (oV D (k7 _));rw[g1,ai,g2,m,Y];cases C:a7 ((cS c).length<=2147483640)with
  |false=>rw[C]at hp;cases hp
  |true=>
   rw[C,ai]at hp;have C:=bt C;have w:i64.wrap (bd v.2.2.1.length+bd (cS c).length)=bd (v.2.2.1.length+(cS c).length):=by simp only[aK];rw[aH (by omega) (by omega)];omega
   rw[w];obtain⟨V,W⟩:=HW (cS c) (bd (v.2.2.1.length+(cS c).length)) (HX Zl _);rw[V,ai,W];have H:∀a b,hlp dX bR qo (aq×LHp) (wi v.2.2.1 (cS c) a b 0 0) H5=_:=ayR v.2.2.1 (cS c);unfold av1 av2 adu at hp;cases G:dj (bd (v.2.2.1.length+(cS c).length)) (cS c) []with
   |false=>rw[G]at hp;cases hp;exact congrArg (bT [.slice aa,aa]) ((H [] a8).trans (ayS v.2.2.1 (cS c) []))
   |true=>
    have s:=Cx (r:=bd (v.2.2.1.length+(cS c).length)) (by simp only[aK];omega) (by simp only[aK];omega) G;have Q:=(ns G).1;have I:=vP Q;have f:=lg (jy (cS c) (bd (v.2.2.1.length+(cS c).length)));have t:(jy (cS c) (bd (v.2.2.1.length+(cS c).length))).length=(cS c).length:=gr _ _;rw[G,ai]at hp;generalize jy (cS c) (bd (v.2.2.1.length+(cS c).length))=A at hp s Q I f t⊢;generalize jA A=S at hp I f;have hSl:S.length=(cS c).length:=by rw[f.length_eq,t]
    rw[aed I λi hi=>by have Z:=s _ (f.mem_iff.1 (rm hi));refine⟨Z.1,?_⟩;have h5:=OU I (i:=i) (S.length-1-i) (by omega);have h6:=(s _ (f.mem_iff.1 (rm (show i+(S.length-1-i)<S.length by omega)))).2;simp only[aK]at h6;omega,sQ (A:=S) (B:=A) λj _=>Fl f j,hSl]at hp;have hc:=ani Q (n:=v.2.2.1.length+(cS c).length) λa E=>s a E
    have h9:=ayQ (x:=v.2.2.1) (l:=cS c) (a:=A) (N:=v.2.2.1.length+(cS c).length) (by omega) rfl (by omega) (v.2.2.1.length+(cS c).length) 0 0 [] fu (by omega) rfl (by omega) (by rw[show fu=18446744073709551616 from rfl];omega);refine(congrArg (bT [.slice aa,aa]) ((H A bc).trans h9)).trans ?_;cases hp;exact aeW _
 |false=>
 rw[c9,al,ai,ai]at hp;rw[al];obtain⟨f1,f2⟩:=anr y (bd v.2.2.1.length) (anO (by rw[m];omega) _);rw[f1,ai,f2,m];unfold avF avG adl at hp;cases R:ON (aS c bE 1) (bd v.2.2.1.length)with
 |false=>rw[R]at hp;cases hp;rfl
 |true=>
  rw[R]at hp;cases hp;rw[ai,cy,al]
  have hz:0<=Hv (aS c bE 1) (bd v.2.2.1.length)/\Hv (aS c bE 1) (bd v.2.2.1.length)<=(v.2.2.1.length:Int):=by
   unfold ON at R;rw[aX,decide_eq_true_eq,decide_eq_true_eq]at R;simp only[aK]at R⊢;rw[aH (by omega) (by omega)]at R;unfold Hv;by_cases o:aS c bE 1<0
   ·rw[aF o,ai,aH (by omega) (by omega)];omega
   ·rw[cq o,al];omega
  generalize Hv (aS c bE 1) (bd v.2.2.1.length)=z at hz⊢;obtain⟨O,z1⟩:=hz;obtain⟨a1,a2⟩:=ux (v.2.2.1.take z.toNat) (rU (by rw[fl];omega));obtain⟨b1,b2⟩:=ux (v.2.2.1.drop z.toNat) (rU (by rw[km];omega));rw[yL O z1,aw,a1,ai,if_pos ⟨O,by simp only[aK];omega,by omega⟩,aw,show (bd v.2.2.1.length).toNat=v.2.2.1.length from rfl,yf,b1,ai,a2,b2]<;>rfl
def ayU  :=B4.add 74 W4
theorem XI :ayU.Good:=jQ.add vX
def XJ y k d  :=bT [Y5,.bool] (aB ayU f69 7 [(13,[1,2,6,8,10])] [.d Y2 y,.d (.slice aa) k,.d (.slice aa) d] [] ah)
def aeZ y k d  :=(XJ y k d).isSome
def r5 y k d  :=(XJ y k d).getD (dS _)
def ayV  :=cC [Y2,.slice aa,.slice aa] _ λy k d=>(aeZ y k d,r5 y k d)
theorem Sz :bq 69 ayV:=bh (bM XI func69 call69 (h2:=rfl)) (by simp only[dg];exact λy k d h=>aZ h)
theorem ae1 {a} y k d (h:XJ y k d=ar a):aeZ y k d=bc/\r5 y k d=a:=bU h
theorem ayW (y)(k d:af):aB ayU f69 7 [(13,[1,2,6,8,10])] [.d _ y,.d (.slice aa) k,.d (.slice aa) d] [] ah=bif CN y [115,116,114,105,100,101,115] [1,1] 2 1 100 then bif !(dx y [115,116,114,105,100,101,115] [1,1] 2 1 100).2 then ak [(eb (aa).slice k).pr ((eb (aa).slice (dx y [115,116,114,105,100,101,115] [1,1] 2 1 100).1).pr (b5.pr (b5.pr (eb ((rn 2 aa).pair eR) ([0,0],bn))))),B a8]else bif CN y [112,97,100,115] [0,0,0,0] 4 0 100 then bif !(dx y [112,97,100,115] [0,0,0,0] 4 0 100).2 then ak [(eb (aa).slice k).pr ((eb (aa).slice (dx y [115,116,114,105,100,101,115] [1,1] 2 1 100).1).pr ((eb (aa).slice (dx y [112,97,100,115] [0,0,0,0] 4 0 100).1).pr (b5.pr (eb ((rn 2 aa).pair eR) ([0,0],bn))))),B a8]else bif CN y [100,105,108,97,116,105,111,110,115] [1,1] 2 1 100 then bif !(dx y [100,105,108,97,116,105,111,110,115] [1,1] 2 1 100).2 then ak [(eb (aa).slice k).pr ((eb (aa).slice (dx y [115,116,114,105,100,101,115] [1,1] 2 1 100).1).pr ((eb (aa).slice (dx y [112,97,100,115] [0,0,0,0] 4 0 100).1).pr ((eb (aa).slice (dx y [100,105,108,97,116,105,111,110,115] [1,1] 2 1 100).1).pr (eb ((rn 2 aa).pair eR) ([0,0],bn))))),B a8]else (idx d 2).bind λg=>(idx (dx y [112,97,100,115] [0,0,0,0] 4 0 100).1 0).bind λh=>(idx (dx y [112,97,100,115] [0,0,0,0] 4 0 100).1 2).bind λi=>(idx (dx y [100,105,108,97,116,105,111,110,115] [1,1] 2 1 100).1 0).bind λj=>(idx k 0).bind λa=>bif a7 (i64.wrap (i64.wrap (i64.wrap (i64.wrap (g+h)+i)-i64.wrap (j*i64.wrap (a-1)))-1)<0)then ak [(eb (aa).slice k).pr ((eb (aa).slice (dx y [115,116,114,105,100,101,115] [1,1] 2 1 100).1).pr ((eb (aa).slice (dx y [112,97,100,115] [0,0,0,0] 4 0 100).1).pr ((eb (aa).slice (dx y [100,105,108,97,116,105,111,110,115] [1,1] 2 1 100).1).pr (eb ((rn 2 aa).pair eR) ([0,0],bn))))),B a8]else (idx (dx y [115,116,114,105,100,101,115] [1,1] 2 1 100).1 0).bind λb=>(if b=0 then a6 else ar (i64.wrap ((i64.wrap (i64.wrap (i64.wrap (i64.wrap (g+h)+i)-i64.wrap (j*i64.wrap (a-1)))-1)).tdiv b))).bind λl=>(idx d 3).bind λm=>(idx (dx y [112,97,100,115] [0,0,0,0] 4 0 100).1 1).bind λn=>(idx (dx y [112,97,100,115] [0,0,0,0] 4 0 100).1 3).bind λc=>(idx (dx y [100,105,108,97,116,105,111,110,115] [1,1] 2 1 100).1 1).bind λo=>(idx k 1).bind λp=>bif a7 (i64.wrap (i64.wrap (i64.wrap (i64.wrap (m+n)+c)-i64.wrap (o*i64.wrap (p-1)))-1)<0)then ak [(eb (aa).slice k).pr ((eb (aa).slice (dx y [115,116,114,105,100,101,115] [1,1] 2 1 100).1).pr ((eb (aa).slice (dx y [112,97,100,115] [0,0,0,0] 4 0 100).1).pr ((eb (aa).slice (dx y [100,105,108,97,116,105,111,110,115] [1,1] 2 1 100).1).pr (eb ((rn 2 aa).pair eR) ([i64.wrap (l+1),0],bn))))),B a8]else (idx (dx y [115,116,114,105,100,101,115] [1,1] 2 1 100).1 1).bind λe=>(if e=0 then a6 else ar (i64.wrap ((i64.wrap (i64.wrap (i64.wrap (i64.wrap (m+n)+c)-i64.wrap (o*i64.wrap (p-1)))-1)).tdiv e))).bind λf=>ak [(eb (aa).slice k).pr ((eb (aa).slice (dx y [115,116,114,105,100,101,115] [1,1] 2 1 100).1).pr ((eb (aa).slice (dx y [112,97,100,115] [0,0,0,0] 4 0 100).1).pr ((eb (aa).slice (dx y [100,105,108,97,116,105,111,110,115] [1,1] 2 1 100).1).pr (eb ((rn 2 aa).pair eR) ([i64.wrap (l+1),i64.wrap (f+1)],bn))))),B bc]else a6 else a6 else a6:=by kernel_rfl
def anZ  :=(B4.add 53 D1).add 69 ayV
theorem XK :anZ.Good:=(jQ.add mC).add Sz
def CY y a  :=bT [Y5,.bool] (aB anZ f32 7 [] [.d Y2 y,.d (.slice Y3) a] [] ah)
def XL y a  :=(CY y a).isSome
def tk y a  :=(CY y a).getD (dS _)
def ayX  :=cC [Y2,.slice _] _ λy a=>(XL y a,tk y a)
theorem SA :bq 32 ayX:=bh (bM XK func32 call32 (h2:=rfl)) (by simp only[dg];exact λy a h=>aZ h)
theorem ae4 {a} y vs (h:CY y vs=ar a):XL y vs=bc/\tk y vs=a:=bU h
theorem ayY (y)(e:cm):aB anZ f32 7 [] [.d _ y,.d (.slice _) e] [] ah=(idx e 0).bind λa=>(idx e 1).bind λb=>bif pJ y [103,114,111,117,112] 1 then bif bd (bk a.2.2.1) !=4 then ak [b5.pr (b5.pr (b5.pr (b5.pr (eb ((rn 2 aa).pair eR) ([0,0],bn))))),B a8]else bif bd (bk b.2.2.1) !=4 then ak [b5.pr (b5.pr (b5.pr (b5.pr (eb ((rn 2 aa).pair eR) ([0,0],bn))))),B a8]else bif a7 (cI y [103,114,111,117,112] 1<1)then ak [b5.pr (b5.pr (b5.pr (b5.pr (eb ((rn 2 aa).pair eR) ([0,0],bn))))),B a8]else bif a7 (cI y [103,114,111,117,112] 1>65536)then ak [b5.pr (b5.pr (b5.pr (b5.pr (eb ((rn 2 aa).pair eR) ([0,0],bn))))),B a8]else (idx a.2.2.1 1).bind λm=>(if cI y [103,114,111,117,112] 1=0 then a6 else ar (acM m (cI y [103,114,111,117,112] 1))).bind λn=>bif n !=0 then ak [b5.pr (b5.pr (b5.pr (b5.pr (eb ((rn 2 aa).pair eR) ([0,0],bn))))),B a8]else (idx b.2.2.1 0).bind λg=>(if cI y [103,114,111,117,112] 1=0 then a6 else ar (acM g (cI y [103,114,111,117,112] 1))).bind λh=>bif h !=0 then ak [b5.pr (b5.pr (b5.pr (b5.pr (eb ((rn 2 aa).pair eR) ([0,0],bn))))),B a8]else (idx b.2.2.1 1).bind λo=>(idx a.2.2.1 1).bind λp=>(if cI y [103,114,111,117,112] 1=0 then a6 else ar (i64.wrap (P8 p (cI y [103,114,111,117,112] 1)))).bind λq=>bif o !=q then ak [b5.pr (b5.pr (b5.pr (b5.pr (eb ((rn 2 aa).pair eR) ([0,0],bn))))),B a8]else bif bd e.length==3 then (idx e 2).bind λf=>bif bd (bk f.2.2.1) !=1 then ak [b5.pr (b5.pr (b5.pr (b5.pr (eb ((rn 2 aa).pair eR) ([0,0],bn))))),B a8]else (idx e 2).bind λi=>(idx i.2.2.1 0).bind λj=>(idx b.2.2.1 0).bind λr=>bif j !=r then ak [b5.pr (b5.pr (b5.pr (b5.pr (eb ((rn 2 aa).pair eR) ([0,0],bn))))),B a8]else (idx b.2.2.1 2).bind λc=>(idx b.2.2.1 3).bind λk=>bif aeZ y [c,k] a.2.2.1 then ak [eb Y5 (r5 y [c,k] a.2.2.1).1,B (r5 y [c,k] a.2.2.1).2]else a6 else (idx b.2.2.1 2).bind λf=>(idx b.2.2.1 3).bind λl=>bif aeZ y [f,l] a.2.2.1 then ak [eb Y5 (r5 y [f,l] a.2.2.1).1,B (r5 y [f,l] a.2.2.1).2]else a6 else a6:=by kernel_rfl
def ayZ  :=(B4.add 74 W4).add 69 ayV
theorem XM :ayZ.Good:=(jQ.add vX).add Sz
def Pz y d  :=bT [Y5,.bool] (aB ayZ f36 6 [(8,[4,6,8,10])] [.d Y2 y,.d (.slice aa) d] [] ah)
def PA y d  :=(Pz y d).isSome
def o6 y d  :=(Pz y d).getD (dS _)
def ay0  :=cC [Y2,.slice aa] _ λy d=>(PA y d,o6 y d)
theorem SB :bq 36 ay0:=bh (bM XM func36 call36 (h2:=rfl)) (by simp only[dg];exact λy d h=>aZ h)
theorem ae5 {a} y d (h:Pz y d=ar a):PA y d=bc/\o6 y d=a:=bU h
theorem ay1 y (d:af):aB ayZ f36 6 [(8,[4,6,8,10])] [.d _ y,.d (.slice aa) d] [] ah=bif CN y [107,101,114,110,101,108,95,115,104,97,112,101] [] 2 1 100 then bif !(dx y [107,101,114,110,101,108,95,115,104,97,112,101] [] 2 1 100).2 then ak [b5.pr (b5.pr (b5.pr (b5.pr (.d ((rn 2 aa).pair .unit) ([0,0],bn))))),B a8]else bif bd d.length !=4 then ak [b5.pr (b5.pr (b5.pr (b5.pr (.d ((rn 2 aa).pair .unit) ([0,0],bn))))),B a8]else bif aeZ y (dx y [107,101,114,110,101,108,95,115,104,97,112,101] [] 2 1 100).1 d then bif !(r5 y (dx y [107,101,114,110,101,108,95,115,104,97,112,101] [] 2 1 100).1 d).2 then ak [.d Y5 (r5 y (dx y [107,101,114,110,101,108,95,115,104,97,112,101] [] 2 1 100).1 d).1,B a8]else (idx (r5 y (dx y [107,101,114,110,101,108,95,115,104,97,112,101] [] 2 1 100).1 d).1.2.2.1 0).bind λc=>(idx (dx y [107,101,114,110,101,108,95,115,104,97,112,101] [] 2 1 100).1 0).bind λe=>bif a7 (c>=e)then ak [.d Y5 (r5 y (dx y [107,101,114,110,101,108,95,115,104,97,112,101] [] 2 1 100).1 d).1,B a8]else (idx (r5 y (dx y [107,101,114,110,101,108,95,115,104,97,112,101] [] 2 1 100).1 d).1.2.2.1 1).bind λf=>(idx (dx y [107,101,114,110,101,108,95,115,104,97,112,101] [] 2 1 100).1 1).bind λg=>bif a7 (f>=g)then ak [.d Y5 (r5 y (dx y [107,101,114,110,101,108,95,115,104,97,112,101] [] 2 1 100).1 d).1,B a8]else (idx (r5 y (dx y [107,101,114,110,101,108,95,115,104,97,112,101] [] 2 1 100).1 d).1.2.2.1 2).bind λa=>(idx (dx y [107,101,114,110,101,108,95,115,104,97,112,101] [] 2 1 100).1 0).bind λb=>bif a7 (a>=b)then ak [.d Y5 (r5 y (dx y [107,101,114,110,101,108,95,115,104,97,112,101] [] 2 1 100).1 d).1,B a8]else (idx (r5 y (dx y [107,101,114,110,101,108,95,115,104,97,112,101] [] 2 1 100).1 d).1.2.2.1 3).bind λh=>(idx (dx y [107,101,114,110,101,108,95,115,104,97,112,101] [] 2 1 100).1 1).bind λi=>bif a7 (h>=i)then ak [.d Y5 (r5 y (dx y [107,101,114,110,101,108,95,115,104,97,112,101] [] 2 1 100).1 d).1,B a8]else ak [.d Y5 (r5 y (dx y [107,101,114,110,101,108,95,115,104,97,112,101] [] 2 1 100).1 d).1,B bc]else a6 else a6:=by kernel_rfl
def XO (n:dQ):LHp:=[(0,.box (.d Y2 n)),(1,.box ((eb .str []).pr ((I 0).pr (b5.pr (.d .unit bn)))))]
def qy (n:dQ)(a:List (Y0).den)(i:Int):LSt:=⟨az 6 [(2,.op 0 [] 0),(4,.op 1 [] 0),(6,.nils),(9,.d (.slice _) a),(10,I (.ofNat a.length)),(11,I i)],XO n,2⟩
def wk (o:cm)(n:dQ)(a:List (Y0).den)(i:Int):LSt:=⟨az 6 [(2,.op 0 [] 0),(4,.op 1 [] 0),(6,.os 2 0),(9,.d (.slice _) a),(10,I (.ofNat a.length)),(11,I i)],XO n++[(2,.arr 47 _ 0 a8 o)],3⟩
theorem ae6 (x)(b)(i)(n){R}(k:AEx->LSt->Option R):lp tm ll H7 (n+1) (qy x b i) k=bif a7 (i<.ofNat b.length)then (idx b i).bind λa=>bif a7 (bk a.2.1<=9223372036854775807/\bk a.2.2.1<=9223372036854775807)then bif gz a.1 a.2.1 a.2.2.1 !=0 then k .ret {fr:=az 6 [(2,.op 0 [] 0),(4,.op 1 [] 0),(5,I 1),(6,.nils),(8,.op 2 [] 0),(9,.d Y0.slice b),(10,I (.ofNat b.length)),(11,I i),(12,B bc),(13,.ip Y0 a),(14,.d Y0 a),(15,.d Y0 a),(16,I (gz a.1 a.2.1 a.2.2.1)),(17,B bc),(18,(eb .str []).pr ((I 0).pr (b5.pr (.d .unit bn))))],hp:=[(1,.box ((eb .str []).pr ((I 0).pr (b5.pr (.d .unit bn))))),(2,.box (.d Y0 a)),(2,.box ((I 0).pr (b5.pr (b5.pr (eb eR bn))))),(0,au.box (eb Y2 x)),(1,au.box ((eb fa []).pr ((I 0).pr (b5.pr (eb eR bn)))))],nx:=3}else lp tm ll H7 n (wk [([],a.1,a.2.1,())] x b (i64.wrap (i+1))) k else a6 else k (AEx.exit 0) {fr:=az 6 [(2,mm 0 [] 0),(4,mm 1 [] 0),(6,b5),(9,eb Y0.slice b),(10,I (bd b.length)),(11,I i),(12,B a8)],hp:=[(0,au.box (eb Y2 x)),(1,au.box ((eb fa []).pr ((I 0).pr (b5.pr (eb eR bn)))))],nx:=2}:=by kernel_rfl
theorem ae7 (v)(o:cm)(x)(b)(i)(n){R}(k:AEx->LSt->Option R):lp tm ll H7 (n+1) (wk (v::o) x b i) k=bif a7 (i<.ofNat b.length)then (idx b i).bind λa=>bif a7 (bk a.2.1<=9223372036854775807/\bk a.2.2.1<=9223372036854775807)then bif gz a.1 a.2.1 a.2.2.1 !=0 then k .ret {fr:=az 6 [(2,.op 0 [] 0),(4,.op 1 [] 0),(5,I 1),(6,.os 2 0),(8,.op 3 [] 0),(9,.d Y0.slice b),(10,I (.ofNat b.length)),(11,I i),(12,B bc),(13,.ip Y0 a),(14,.d Y0 a),(15,.d Y0 a),(16,I (gz a.1 a.2.1 a.2.2.1)),(17,B bc),(18,(eb fa []).pr ((I 0).pr (b5.pr (eb eR bn))))],hp:=[(1,au.box ((eb fa []).pr ((I 0).pr (b5.pr (eb eR bn))))),(3,au.box (eb Y0 a)),(3,au.box ((I 0).pr (b5.pr (b5.pr (eb eR bn))))),(0,au.box (eb Y2 x)),(1,au.box ((eb fa []).pr ((I 0).pr (b5.pr (eb eR bn))))),(2,au.arr 47 Y3 0 a8 (v::o))],nx:=4}else (app (v::o) [([],a.1,a.2.1,bn)]).bind λc=>lp tm ll H7 n (wk c x b (i64.wrap (i+1))) k else a6 else k (AEx.exit 0) {fr:=az 6 [(2,mm 0 [] 0),(4,mm 1 [] 0),(6,mq 2 0),(9,eb Y0.slice b),(10,I (bd b.length)),(11,I i),(12,B a8)],hp:=[(0,au.box (eb Y2 x)),(1,au.box ((eb fa []).pr ((I 0).pr (b5.pr (eb eR bn))))),(2,au.arr 47 Y3 0 a8 (v::o))],nx:=3}:=by kernel_rfl
theorem ay4 x (a:List (Y0).den) i:KBg (.exit 0) ⟨az 6 [(2,.op 0 [] 0),(4,.op 1 [] 0),(6,.nils),(9,.d (.slice _) a),(10,I (.ofNat a.length)),(11,I i),(12,B a8)],XO x,2⟩=bif IU x []then ak [.d Y3 (DG x []),I (pe x [])]else a6:=by kernel_rfl
theorem ay5 (o:cm) x (a:List (Y0).den) i:KBg (.exit 0) ⟨az 6 [(2,.op 0 [] 0),(4,.op 1 [] 0),(6,.os 2 0),(9,.d (.slice _) a),(10,I (.ofNat a.length)),(11,I i),(12,B a8)],XO x++[(2,.arr 47 _ 0 a8 o)],3⟩=bif IU x o then ak [.d Y3 (DG x o),I (pe x o)]else a6:=by kernel_rfl
def aR (t:(Y0).den):(Y3).den:=([],t.1,t.2.1,())
def pQ (ts:List (Y0).den)  :=ts.all λt=>gz t.1 t.2.1 t.2.2.1==0
def fj (a:List (Y0).den)  :=a.all λt=>decide (bk t.2.1<=2147483648/\bk t.2.2.1<=2147483648)
def Ma (n:dQ)(o:cm):Option (aq×LHp):=bif IU n o then ar (.ret [.d _ (DG n o),I (pe n o)],[])else a6
def aGL (n:dQ)(a:List (Y0).den)(i:Int)(o:cm):LSt:=match o with|[]=>qy n a i|v::o=>wk (v::o) n a i
def bgN (o:cm)(t:(Y0).den):Nx cm (aq×LHp):=bif gz t.1 t.2.1 t.2.2.1 !=0 then .stop (qO 1)else .go (o++[aR t])
theorem SF (n:dQ):∀(a:List (Y0).den) (o:cm),bG bgN (Ma n) a o=bif pQ a then Ma n (o++a.map aR)else qO 1
 |[],o=>by rw[bG,Dr,eT]<;>rfl
 |t::a,o=>by
  have e:bgN o t=bif gz t.1 t.2.1 t.2.2.1 !=0 then .stop (qO 1)else .go (o++[aR t]):=rfl
  have b:pQ (t::a)=((gz t.1 t.2.1 t.2.2.1==0)&&pQ a):=rfl;rw[bG,e,b];cases h:gz t.1 t.2.1 t.2.2.1 !=0 with
  |true=>rw[iu h]<;>rfl
  |false=>
   have c:(gz t.1 t.2.1 t.2.2.1==0)=bc:=by simpa using h
   rw[c,al,gb];show bG bgN _ a _=_;rw[SF n a,gl]<;>rfl
theorem ay6 {n a}(b:fj a=bc)(q:a.length<=2147483648):lp tm ll H7 fu (qy n a 0) KBg=bif pQ a then Ma n (a.map aR)else qO 1:=by
 let r:maxLen=9223372036854775807:=by decide
 refine(cg (T:=λm s=>lp tm ll H7 m s KBg) (st:=λi o=>aGL n a i o) (λi o=>o.length=i) (by omega) ?_ ?_ rfl).trans (SF n a [])
 ·intro i o t m d u l f g c
  let j:=bt (gv.1 b t (ik l));let e:bgN o t=bif gz t.1 t.2.1 t.2.2.1 !=0 then .stop _ else .go _:=rfl
  let k:a7 (bk t.2.1<=9223372036854775807/\bk t.2.2.1<=9223372036854775807)=bc:=aF (by let:=j.1;let:=j.2;omega);cases o with
  |nil=>let b:=ae6 n a i m KBg;rw[c,ai,f,aw,k,ai,g]at b;cases h:gz t.1 t.2.1 t.2.2.1 !=0 with|true=>rw[h,ai]at b e;exact .inr ⟨_,e,b.trans (by kernel_rfl)⟩|false=>rw[h,al]at b e;exact .inl ⟨_,e,by rw[bK,d];rfl,b⟩
  |cons v o=>
   let p:(v::o).length+[aR t].length<=lim:=by rw[d,eS,show lim=4294967296 from rfl];omega
   let ev:([],t.1,t.2.1,.unit)=aR t:=rfl;let b:=ae7 v o n a i m KBg;rw[c,ai,f,aw,k,ai,g,ev,eX p]at b;cases h:gz t.1 t.2.1 t.2.2.1 !=0 with|true=>rw[h,ai]at b e;exact .inr ⟨_,e,b.trans (by kernel_rfl)⟩|false=>rw[h,al,aw]at b;rw[h,al]at e;exact .inl ⟨_,e,by rw[bK,d];rfl,b⟩
 ·intro o m d c;cases o with|nil=>show lp _ _ _ (m+1) (qy n a a.length) _=_;rw[ae6,c,al];exact ay4 n a a.length|cons v o=>show lp _ _ _ (m+1) (wk (v::o) n a a.length) _=_;rw[ae7,c,al];exact ay5 (v::o) n a a.length
theorem aGM n a:hlp tm ll H7 _ (qy n a 0) KBg=lp tm ll H7 fu (qy n a 0) KBg:=rfl
def ic n ts  :=bif pQ ts then pe n (ts.map aR)else 1
def eQ n ts  :=bif pQ ts then DG n (ts.map aR)else ([],0,[],())
def wm n ts  :=fj ts&&(a7 (ts.length<=2147483648)&&(!pQ ts||IU n (ts.map aR)))
def bgF :List AV->LHp->Tq
 |[.d Y2 n,.d (.slice Y0) a],[]=>.br (wm n a) (.leaf (.ret [.d (Y3) (eQ n a),I (ic n a)]) []) .no
 |_,_=>.no
theorem ay7 {n a}(c:wm n a=bc):∃p,aB tm f23 6 [(3,[2,4,6,9,10,11])] [.d Y2 n,.d (.slice _) a] [] ah=ar p/\amI (ar p)=ar (.ret [.d _ (eQ n a),I (ic n a)],[]):=by unfold wm at c;rw[aX,aX]at c;let ⟨g1,g2,g3⟩:=c;let b:=(ay3 n a).trans ((aGM n a).trans (ay6 g1 (bt g2)));unfold eQ ic;cases e:pQ a with|false=>rw[e,al]at b;exact⟨_,b,rfl⟩|true=>rw[e,ai]at b;rw[e]at g3;let g3:IU n _=bc:=g3;unfold Ma at b;rw[g3,ai]at b;exact⟨_,b,rfl⟩
theorem Mb {E c a b R} args hs (k:aq->LHp->Option R):(aA E c a b).run args hs k=aB E c a b args hs k:=rfl
def bgR  :=aA tm f23 6 [(3,[2,4,6,9,10,11])]
theorem ae8 :bq 23 bgR:=bM XN func23 call23
theorem ay8 :bq 23 (ay bgF):=by
 let c:bq 23 (vz [Y3,aa] bgR):=vA ae8;refine aY λb i j k a=>?_
 unfold bgF at a;split at a
 ·let ⟨d,e⟩:=eN a
  let ⟨p,f,g⟩:=ay7 d;refine c.ok _ _ _ _ (gp ?_ (g.trans e));simp only[vz];rw[ae8.eq];let h:bgR.run _ [] _=ar p:=by unfold bgR;rw[Mb];exact f
  rw[h];rfl
 ·cases a
def bgE  :=fC [Y2,.slice Y0] (ay bgF)
theorem ay9 :bq 23 bgE:=cn ay8
def ae9  :=aU f65
def an3  :=cL (cR (cL (cR (cR ae9))))
def nF :Cfg:=⟨46,6,3,[(3,[0,1,2,3,4,7,8,9,14,15,16,17,18,20,21,22,23,24,26,27,28,29,30,32,33,34])],bc⟩
def aGN  :=aU f110
def lV  :=cL (cL (cR aGN))
def dM :Cfg:=⟨80,7,8,[(1,[0,1,2,3,12,13])],bc⟩
def gA  :=g78.add 63 (ay UL)
theorem SG :gA.Good:=vw.add z6
def gR  :=gA.withRound (xi gA [])
theorem SH :gR.Good:=SG.withRound (xj SG cZ [])
def gT F  :=(g82.add 63 (ay UL)).add 110 F
abbrev bN :=Int×Int×Int×Int×af×af×Int×Int×Int×Int×Unit
def afa (v:bN):AV:=.d Y4 v
def hpW (v:bN)(h w:Int):LHp:=[(0,.box (I w)),(1,.box (I h)),(2,.box (afa v))]
def afb :AV:=.fn (.func 110) [] [.op 2 [] 0,.op 1 [] 0,.op 0 [] 0]
theorem aza F (a:ao) (b:af) v h w:aB (gT F) f65 6 [(3,[0,1,2,3,4,7,8,9,14,15,16,17,18,20,21,22,23,24,26,27,28,29,30,32,33,34])] [.d .str a,.d (.slice aa) b,afb] (hpW v h w) ah=(rfp (gT F) nF) an3 _ ⟨az 6 [(0,.d .str a),(1,.d (aa).slice b),(2,.fn (.func 110) [] [.op 2 [] 0,.op 1 [] 0,.op 0 [] 0]),(3,.op 3 [] 0),(4,.op 4 [] 0),(6,I 0),(7,.op 5 [] 0),(8,.op 6 [] 0),(13,.fn (.func 110) [] [.op 2 [] 0,.op 1 [] 0,.op 0 [] 0])],[(6,.box (I 0)),(5,.box (I 0)),(6,.box (I 0)),(5,.box (I 0)),(4,.box (.d (aa).slice b)),(3,.box (.d .str a)),(0,.box (I w)),(1,.box (I h)),(2,.box (.d Y4 v))],7⟩ (aI 0 (aj8 (gT F) nF (rfp (gT F) nF) (cR (cR (cR ae9))) (aV prog 3 f65.results.toList ah))):=(asv nF rfl).trans (by obtain⟨c,h⟩:=asw _ nF;rw[h];kernel_rfl)
def frT (a:ao)(b:af)  :=az 6 [(0,.d .str a),(1,.d (.slice aa) b),(2,afb),(3,.op 3 [] 0),(4,.op 4 [] 0),(6,I 0),(7,.op 5 [] 0),(8,.op 6 [] 0),(13,afb)]
def azc (a:ao)(b:af)(v:bN)(h w:Int):LHp:=[(6,.box (I 0)),(5,.box (I 0)),(6,.box (I 0)),(5,.box (I 0)),(4,.box (.d (.slice aa) b)),(3,.box (.d .str a))]++hpW v h w
def aGO (c:Cfg):Code->Ec
 | .rangeFunc _ d a b=>⟨c.depth,d,a,b,c.n⟩
 |_=>⟨0, #[],.skip,.skip,0⟩
def H8  :=aGO nF an3
def aJv (a:ao)(b:af):List (Nat×AV):=[(0,.d .str a),(1,.d (.slice aa) b),(2,.fn (.func 110) [] [.op 6 [] 0,.op 5 [] 0,.op 4 [] 0]),(3,.op 3 [] 0),(4,.op 2 [] 0),(7,.op 1 [] 0),(8,.op 0 [] 0)]
def SI (a:ao)(b:af)(v:bN)(h w m s:Int):LHp:=[(0,.box (I s)),(1,.box (I m)),(2,.box (.d (.slice aa) b)),(3,.box (.d .str a)),(4,.box (I w)),(5,.box (I h)),(6,.box (afa v)),(7,.rc (.loop H8 (aJv a b) .ready))]
def SJ (a:ao)(b:af)(v:bN)(h w N i m s:Int):LSt:=⟨az 7 [(0,.ref 7),(1,.op 6 [] 0),(2,.op 5 [] 0),(3,.op 4 [] 0),(12,I N),(13,I i)],SI a b v h w m s,16⟩
theorem azd a b v h w m s:aB gR f110 7 [(1,[0,1,2,3,12,13])] [.ref 7,.op 6 [] 0,.op 5 [] 0,.op 4 [] 0] (SI a b v h w m s) ah=(hlp gR dM) lV _ (SJ a b v h w (i64.wrap (v.2.2.1*v.2.2.2.1)) 0 m s) (aI 0 (aV prog 8 f110.results.toList ah)):=(aW [1] dM rfl).trans (by obtain⟨c,h⟩:=aM gR dM;rw[h];kernel_rfl)
theorem Mc a b v h w N i m s n {R} (k:AEx->LSt->Option R):lp gR dM lV (n+1) (SJ a b v h w N i m s) k=bif a7 (i<N)then (idx v.2.2.2.2.1 0).bind λp=>(v.2.2.2.2.1[0]?).bind λe=>(if v.2.2.2.1=0 then a6 else ar (i64.wrap (i.tdiv v.2.2.2.1))).bind λf=>(idx v.2.2.2.2.2.1 0).bind λq=>(v.2.2.2.2.2.1[0]?).bind λg=>(idx v.2.2.2.2.1 1).bind λr=>(v.2.2.2.2.1[1]?).bind λj=>(if v.2.2.2.1=0 then a6 else ar (i.tmod v.2.2.2.1)).bind λl=>(idx v.2.2.2.2.2.1 1).bind λt=>(v.2.2.2.2.2.1[1]?).bind λc=>bif a7 (i64.wrap (i64.wrap (i64.wrap (h*e)-v.2.2.2.2.2.2.1)+i64.wrap (f*g))<0)then lp gR dM lV n (SJ a b v h w N (i64.wrap (i+1)) m s) k else bif a7 (i64.wrap (i64.wrap (i64.wrap (h*e)-v.2.2.2.2.2.2.1)+i64.wrap (f*g))>=v.1)then lp gR dM lV n (SJ a b v h w N (i64.wrap (i+1)) m s) k else bif a7 (i64.wrap (i64.wrap (i64.wrap (w*j)-v.2.2.2.2.2.2.2.1)+i64.wrap (l*c))<0)then lp gR dM lV n (SJ a b v h w N (i64.wrap (i+1)) m s) k else bif a7 (i64.wrap (i64.wrap (i64.wrap (w*j)-v.2.2.2.2.2.2.2.1)+i64.wrap (l*c))>=v.2.1)then lp gR dM lV n (SJ a b v h w N (i64.wrap (i+1)) m s) k else (idx b (i64.wrap (i64.wrap (i64.wrap (i64.wrap (i64.wrap (h*e)-v.2.2.2.2.2.2.1)+i64.wrap (f*g))*v.2.1)+i64.wrap (i64.wrap (i64.wrap (w*j)-v.2.2.2.2.2.2.2.1)+i64.wrap (l*c))))).bind λo=>bif !a==lL then lp gR dM lV n (SJ a b v h w N (i64.wrap (i+1)) (i64.wrap (m+1)) (dO .add s o)) k else bif m==0 then lp gR dM lV n (SJ a b v h w N (i64.wrap (i+1)) (i64.wrap (m+1)) o) k else lp gR dM lV n (SJ a b v h w N (i64.wrap (i+1)) (i64.wrap (m+1)) (oL s o)) k else k (.exit 0) ⟨az 7 [(0,.ref 7),(1,.op 6 [] 0),(2,.op 5 [] 0),(3,.op 4 [] 0),(12,I N),(13,I i),(14,B a8)],[(0,.box (I s)),(1,.box (I m)),(2,.box (.d (aa).slice b)),(3,.box (.d .str a)),(4,.box (I w)),(5,.box (I h)),(6,.box (.d Y4 v)),(7,.rc (.loop H8 [(0,.d .str a),(1,.d (aa).slice b),(2,.fn (.func 110) [] [.op 6 [] 0,.op 5 [] 0,.op 4 [] 0]),(3,.op 3 [] 0),(4,.op 2 [] 0),(7,.op 1 [] 0),(8,.op 0 [] 0)] .ready))],16⟩:=by kernel_rfl
def jr :ao:=lL
def IX (v:bN)(h:Int)(i:Nat)  :=i64.wrap<|i64.wrap (i64.wrap (h*v.2.2.2.2.1.getD 0 0)-v.2.2.2.2.2.2.1)+i64.wrap (i64.wrap ((i:Int).tdiv v.2.2.2.1)*v.2.2.2.2.2.1.getD 0 0)
def IY (v:bN)(w:Int)(i:Nat)  :=i64.wrap<|i64.wrap (i64.wrap (w*v.2.2.2.2.1.getD 1 0)-v.2.2.2.2.2.2.2.1)+i64.wrap ((i:Int).tmod v.2.2.2.1*v.2.2.2.2.2.1.getD 1 0)
def r6 v h w i  := ! IX v h i<0&&(! IX v h i>=v.1&&(! IY v w i<0&& ! IY v w i>=v.2.1))
def qp v h w i  :=i64.wrap<|i64.wrap (IX v h i*v.2.1)+IY v w i
structure r7 (v:bN)(n:Nat):Prop where
 ss:v.2.2.2.2.1.length=2
 ds:v.2.2.2.2.2.1.length=2
 hh:0<=v.1/\v.1<=65536
 ww:0<=v.2.1/\v.2.1<=65536
 kh:0<=v.2.2.1/\v.2.2.1<=65536
 kw:0<=v.2.2.2.1/\v.2.2.2.1<=65536
 bf:v.1*v.2.1<=(n:Int)
theorem Aq {v n}(c:r7 v n){h w i}(b:r6 v h w i=bc):0<=qp v h w i/\qp v h w i<n:=by
 unfold r6 at b;simp only[aX,Bool.not_eq_true',decide_eq_false_iff_not]at b;let ⟨_,_,⟨f,d⟩,⟨a,e⟩,_,_,hp⟩:=c;unfold qp;generalize IX v h i=y at*;generalize v.1=H at*;generalize v.2.1=W at*;let g:0<=y*W:=acD (by omega) a;let j:(y+1)*W<=H*W:=Int.mul_le_mul_of_nonneg_right (by omega) a;let k  :=Qb d e a<|by omega
 let l:(y+1)*W=y*W+W:=by rw[Int.add_mul,Int.one_mul]
 let e1:i64.wrap _=y*W:=aH (by omega)<|by omega
 rw[e1,aH (by omega)<|by omega];omega
def tgN (b:ao)(a:af)(v:bN) h w p i  :=
 bif r6 v h w i then (i64.wrap<|p.1+1,bif !b==jr then dO .add p.2 (a.getD (qp v h w i).toNat 0)else bif p.1==0 then a.getD (qp v h w i).toNat 0 else oL p.2<|a.getD (qp v h w i).toNat 0)else p
def tgF a b v h w  :=(hW (v.2.2.1*v.2.2.2.1).toNat).foldl (tgN a b v h w) (0,0)
noncomputable def XP  :=aA gR f110 7 [(1,[0,1,2,3,12,13])]
theorem an5 :bq 110 XP:=bM SH func110 call110
noncomputable def SK  :=aI 0<|aV prog 8 f110.results.toList ah
theorem aze a b v h w m s:aB gR f110 7 [(1,[0,1,2,3,12,13])] [.ref 7,.op 6 [] 0,.op 5 [] 0,.op 4 [] 0] (SI a b v h w m s) ah=lp gR dM lV fu (SJ a b v h w (i64.wrap<|v.2.2.1*v.2.2.2.1) 0 m s) SK:=(azd a b v h w m s).trans<|by kernel_rfl
theorem afc a b v h w N i m s:SK (.exit 0) ⟨az 7 [(0,.ref 7),(1,.op 6 [] 0),(2,.op 5 [] 0),(3,.op 4 [] 0),(12,I N),(13,I i),(14,B a8)],SI a b v h w m s,16⟩=ar (.ret [],SI a b v h w m s):=by kernel_rfl
theorem an6 {c b v h w}(g:r7 v b.length):
  aB gR f110 7 [(1,[0,1,2,3,12,13])] [.ref 7,.op 6 [] 0,.op 5 [] 0,.op 4 [] 0] (SI c b v h w 0 0) ah=ar (.ret [],SI c b v h w (tgF c b v h w).1 (tgF c b v h w).2):=by
 have Y:maxLen=9223372036854775807:=by decide
 have Z  :=Qb g.kh.2 g.kw.2 g.kw.1 (by omega)
 have G  :=acD g.kh.1 g.kw.1
 have e:i64.wrap (v.2.2.1*v.2.2.2.1)=((v.2.2.1*v.2.2.2.1).toNat:Nat):=by rw[aH (by omega) (by omega)];omega
 rw[aze,e]
 have H:∀(l:List Nat) (p:Int×Int),bG (λp i=>WD (R:=aq×LHp) (tgN c b v h w p i)) (λp=>ar (.ret [],SI c b v h w p.1 p.2)) l p=ar (.ret [],SI c b v h w (l.foldl (tgN c b v h w) p).1 (l.foldl (tgN c b v h w) p).2):=by intro l;induction l with|nil=>intro p;rfl|cons i l I=>intro p;exact I _
 refine(fq (N:=(v.2.2.1*v.2.2.2.1).toNat) (T:=λn s=>lp gR dM lV n s SK) (st:=λi (p:Int×Int)=>SJ c b v h w ((v.2.2.1*v.2.2.2.1).toNat:Nat) i p.1 p.2) (f:=λp i=>WD (tgN c b v h w p i)) (fin:=λp=>ar (.ret [],SI c b v h w p.1 p.2)) (λ_ _=>True) (by omega) ?_ ?_ (a:=(0,0)) trivial).trans (H _ _)
 ·rintro i ⟨m,s⟩ n _ z J o
  refine .inl ⟨_,rfl,trivial,?_⟩;have k:v.2.2.2.1≠0:=λK=>by rw[K,Int.mul_zero]at z;simp at z
  have L:idx v.2.2.2.2.1 0=ar (v.2.2.2.2.1.getD 0 0):=aP (i:=0) (by rw[g.ss];omega);have M:idx v.2.2.2.2.1 1=ar (v.2.2.2.2.1.getD 1 0):=aP (i:=1) (by rw[g.ss];omega);have O:idx v.2.2.2.2.2.1 0=ar (v.2.2.2.2.2.1.getD 0 0):=aP (i:=0) (by rw[g.ds];omega);have P:idx v.2.2.2.2.2.1 1=ar (v.2.2.2.2.2.1.getD 1 0):=aP (i:=1) (by rw[g.ds];omega);have q:∀(l:af) (j:Nat),j<l.length->l[j]?=ar (l.getD j 0):=λl j Q=>by rw[kM,dv Q]<;>rfl
  have r:=q v.2.2.2.2.1 0 (by rw[g.ss];omega);have t:=q v.2.2.2.2.1 1 (by rw[g.ss];omega);have u:=q v.2.2.2.2.2.1 0 (by rw[g.ds];omega);have x:=q v.2.2.2.2.2.1 1 (by rw[g.ds];omega);have A:=Mc c b v h w ((v.2.2.1*v.2.2.2.1).toNat:Nat) i m s n SK;have S:i64.wrap (i64.wrap (i64.wrap (h*v.2.2.2.2.1.getD 0 0)-v.2.2.2.2.2.2.1)+i64.wrap (i64.wrap ((i:Int).tdiv v.2.2.2.1)*v.2.2.2.2.2.1.getD 0 0))=IX v h i:=rfl;have ex:i64.wrap (i64.wrap (i64.wrap (w*v.2.2.2.2.1.getD 1 0)-v.2.2.2.2.2.2.2.1)+i64.wrap ((i:Int).tmod v.2.2.2.1*v.2.2.2.2.2.1.getD 1 0))=IY v w i:=rfl;have U:i64.wrap (i64.wrap (IX v h i*v.2.1)+IY v w i)=qp v h w i:=rfl;have y:a7 (i<(((v.2.2.1*v.2.2.2.1).toNat:Nat):Int))=bc:=o;rw[y,ai,L,aw,r,aw,if_neg k,aw,O,aw,u,aw,M,aw,t,aw,if_neg k,aw,P,aw,x,aw,S,ex,U,J]at A;have V:tgN c b v h w (m,s) i=bif r6 v h w i then (i64.wrap (m+1),bif !c==jr then dO .add s (b.getD (qp v h w i).toNat 0)else bif m==0 then b.getD (qp v h w i).toNat 0 else oL s (b.getD (qp v h w i).toNat 0))else (m,s):=rfl
  have d:r6 v h w i=(!decide (IX v h i<0)&&(!decide (IX v h i>=v.1)&&(!decide (IY v w i<0)&& !decide (IY v w i>=v.2.1)))):=rfl;have W:r6 v h w i=bc->idx b (qp v h w i)=ar (b.getD (qp v h w i).toNat 0):=λB=>Hk (Aq g B).1 (Aq g B).2
  show lp gR dM lV (n+1) (SJ c b v h w ((v.2.2.1*v.2.2.2.1).toNat:Nat) i m s) SK=lp gR dM lV n (SJ c b v h w ((v.2.2.1*v.2.2.2.1).toNat:Nat) (i+1:Nat) (tgN c b v h w (m,s) i).1 (tgN c b v h w (m,s) i).2) SK;refine A.trans ?_;rw[V];cases C:a7 (IX v h i<0)with
  |true=>rw[C]at d;rw[d]<;>rfl
  |false=>
   rw[C]at d;rw[al];cases D:a7 (IX v h i>=v.1)with
   |true=>rw[D]at d;rw[d]<;>rfl
   |false=>
    rw[D]at d;rw[al];cases E:a7 (IY v w i<0)with
    |true=>rw[E]at d;rw[d]<;>rfl
    |false=>
     rw[E]at d;rw[al];cases F:a7 (IY v w i>=v.2.1)with|true=>rw[F]at d;rw[d]<;>rfl|false=>rw[F]at d;have d:r6 v h w i=bc:=d;rw[al,W d,aw,d,ai];have X:lL=jr:=rfl;rw[X];cases !c==jr with|true=>rfl|false=>rw[al,al];cases m==0<;>rfl
 ·rintro⟨m,s⟩ n _ o
  have y:a7 (((v.2.2.1*v.2.2.2.1).toNat:Nat)<(((v.2.2.1*v.2.2.2.1).toNat:Nat):Int))=a8:=o;show lp gR dM lV (n+1) (SJ c b v h w ((v.2.2.1*v.2.2.2.1).toNat:Nat) ((v.2.2.1*v.2.2.2.1).toNat:Nat) m s) SK=_;rw[Mc,y,al];exact afc _ _ _ _ _ _ _ _ _
theorem afd {E}(j:E.Good){d a b c e f g}(h:aB E d a b c e ah=ar (g,f)){R}(k:aq->LHp->Option R):aB E d a b c e k=k g f:=by rw[zV j]at h⊢;cases i:By E d _ b c e with|none=>rw[i]at h;cases h|some p=>rw[i]at h;cases h;rfl
theorem an7 a b {R} (k:aq->LHp->Option R):XP.run a b k=aB gR f110 7 [(1,[0,1,2,3,12,13])] a b k:=rfl
theorem afe {b a v h w}(c:r7 v a.length){R}(k:aq->LHp->Option R):
  XP.run [.ref 7,.op 6 [] 0,.op 5 [] 0,.op 4 [] 0] (SI b a v h w 0 0) k=k (.ret []) (SI b a v h w (tgF b a v h w).1 (tgF b a v h w).2):=
 (an7 _ _ k).trans<|afd SH (an6 c) k
noncomputable def aGP a b  :=oI ⟨frT a b,[],0⟩<|m7 nF H8.assign
noncomputable def XQ (a:ao)(b:af)(v:bN)(h w:Int):LHp:=(7,.rc (.loop H8 (aGP a b) .ready))::azc a b v h w
theorem azf F a b v h w (k:AEx->LSt->Option (aq×LHp)):exC (gT F) nF an3 ⟨frT a b,azc a b v h w,7⟩ k=
  F.run [.ref 7,.op 6 [] 0,.op 5 [] 0,.op 4 [] 0] (SI a b v h w 0 0) (Rh [6,5,4,3,0,1,2,7] (XQ a b v h w) 8 (rfK (frT a b) (XQ a b v h w) 7 k)<|rfP (frT a b) (XQ a b v h w) 7 k):=by kernel_rfl
noncomputable def GK0 F  :=aI 0<|aj8 (gT F) nF (rfp (gT F) nF) (cR<|cR<|cR ae9)<|aV prog 3 f65.results.toList ah
theorem an8 F (a:ao) (b:af) v h w:aB (gT F) f65 6 [(3,[0,1,2,3,4,7,8,9,14,15,16,17,18,20,21,22,23,24,26,27,28,29,30,32,33,34])] [.d .str a,.d (.slice aa) b,afb] (hpW v h w) ah=exC (gT F) nF an3 ⟨frT a b,azc a b v h w,7⟩ (GK0 F):=(aza F a b v h w).trans<|by kernel_rfl
theorem an9 F a b v h w m s:Rh [6,5,4,3,0,1,2,7] (XQ a b v h w) 8 (rfK (frT a b) (XQ a b v h w) 7<|GK0 F) (rfP (frT a b) (XQ a b v h w) 7<|GK0 F) (.ret []) (SI a b v h w m s)=bif a==lL then ar (.ret [I s],[(0,.box<|I w),(1,.box<|I h),(2,.box<| .d Y4 v)])else bif (b8.format.read<|aG .f32<|b8.nearest m).order (b8.format.read<|aG .f32<|b8.nearest m) !=ar .eq then ar (.ret [I<|dO .quo s 2143289344],[(0,.box<|I w),(1,.box<|I h),(2,.box<| .d Y4 v)])else bif lG .f32 (aG .f32<|b8.nearest m)then a6 else ar (.ret [I<|dO .quo s<|i64.wrap<| .ofNat<|aG .f32<|b8.nearest m],[(0,.box<|I w),(1,.box<|I h),(2,.box<| .d Y4 v)]):=by kernel_rfl
def wo m  :=UK<|aG .f32<|b8.nearest m
def H9 a b v h w  :=bif a==jr then (tgF a b v h w).2 else dO .quo (tgF a b v h w).2<|wo (tgF a b v h w).1
theorem aoa {a:ao}{b:af}{v h w}(c:r7 v b.length):
  aB (gT XP) f65 6 [(3,[0,1,2,3,4,7,8,9,14,15,16,17,18,20,21,22,23,24,26,27,28,29,30,32,33,34])] [.d .str a,.d (.slice aa) b,afb] (hpW v h w) ah=ar (.ret [I<|H9 a b v h w],hpW v h w):=by
 rw[an8,azf,afe c,an9]
 unfold H9
 let e:lL=jr:=rfl
 rw[e]
 cases a==jr with|true=>rfl|false=>rw[al,al,kW];unfold wo UK lG;cases (b8.format.read _).isNaN<;>rfl
def zA (v:bN)(n:Nat)  :=(v.2.2.2.2.1.length=2/\v.2.2.2.2.2.1.length=2)&&((0<=v.1/\v.1<=65536)&&((0<=v.2.1/\v.2.1<=65536)&&((0<=v.2.2.1/\v.2.2.1<=65536)&&((0<=v.2.2.2.1/\v.2.2.2.1<=65536)&&v.1*v.2.1<=n))))
theorem sS {v n}(h:zA v n=bc):r7 v n:=by unfold zA at h;simp only[aX,decide_eq_true_eq]at h;exact⟨h.1.1,h.1.2,h.2.1,h.2.2.1,h.2.2.2.1,h.2.2.2.2.1,h.2.2.2.2.2⟩
def azg :List AV->LHp->Tq
 |[.d .str b,.d zS a,.fn (.func 110) [] [.op 2 [] 0,.op 1 [] 0,.op 0 [] 0]],[(0,.box (.d zI w)),(1,.box (.d zI h)),(2,.box (.d Y4 v))]=>
  .br (zA v a.length) (.leaf (.ret [I (H9 b a v h w)]) (hpW v h w)) .no
 |_,_=>.no
theorem aob :bq 65 (ay azg):=by
 let c  :=(nd.add z6).add an5;let d:bq 65 (aA _ f65 6 [(3,[0,1,2,3,4,7,8,9,14,15,16,17,18,20,21,22,23,24,26,27,28,29,30,32,33,34])]):=bM c func65 call65;refine aY λb g h i a=>?_
 unfold azg at a;split at a
 ·let ⟨e,f⟩:=eN a;cases f;exact d.okC<|aoa<|sS e
 ·cases a
noncomputable def aGQ  :=zp.add 25 zt
theorem XR :aGQ.Good:=gq.add kc
theorem azh f g c e b (a:ao):aB aGQ f66 5 [] [dU f g c e b,.d .str a] [] ah=bif aE b then (idx (aj b a [1,1]) 0).bind λh=>(idx (aj b a [1,1]) 1).bind λi=>ak [.d (.arr 2<|aa) [h,i]]else a6:=by kernel_rfl
def CZ  :=aU f26
def zB  :=cL<|cL<|cR<|cL<|cR<|cR CZ
def wq :Code:=cL (cL (cR (cR (cR (cL (cL (cR (cR (cL (cL (cR (cL (cR (cR CZ))))))))))))))
def azi :Code:=cR (cR (cR (cL (cL (cR (cL (cR (cR CZ))))))))
def C0 :Code:=cL (cL (cR (cR (cL (cL (cR (cR (cL (cL (cR (cR (cR (cL (cL (cR (cR (cL (cL (cR (cL (cR (cR CZ))))))))))))))))))))))
def azj :Code:=cR (cR (cR (cL (cL (cR (cR (cR (cL (cL (cR (cR (cL (cL (cR (cL (cR (cR CZ)))))))))))))))))
def bA :Cfg:=⟨56,6,0,[(3,[3,4,5,6,9,15,16]),(7,[3,4,5,6,9,11,15,16,31,32]),(10,[3,4,5,6,9,11,12,15,16,31,32,37,38])],bc⟩
def prL (ag:bu)(a:ao):af:=[(aj ag a [1,1]).getD 0 0,(aj ag a [1,1]).getD 1 0]
def azl :List AV->LHp->Tq
 |[.d Y2 (_,_,_,_,b,_),.d .str a],[]=>.br (aE b&&a7 (2<=(aj b a [1,1]).length)) (.leaf (.ret [.d (.arr 2 aa) (prL b a)]) []) .no
 |_,_=>.no
theorem aoc :bq 66 (ay azl):=by
 let j:=bM (d:=5) (l:=[]) XR func66 call66;refine aY λh p q r b=>?_
 unfold azl at b;split at b
 ·rename_i k m c e f _ a
  let ⟨g,n⟩:=eN b;rw[aX]at g;let s  :=bt g.2;refine j.okC<|(azh k m c e f a).trans<|gp ?_ n
  let o:idx _ 0=ar ((aj f a [1,1]).getD 0 0):=aP (i:=0)<|by omega
  let g1:idx _ 1=ar ((aj f a [1,1]).getD 1 0):=aP (i:=1)<|by omega
  rw[g.1,ai,o,aw,g1,aw]<;>rfl
 ·cases b
def aGR  :=(zp.add 25 zt).add 66<|ay azl
theorem XS :aGR.Good:=(gq.add kc).add aoc
theorem azm g h c e a (b:af) kh kw:aB aGR f27 6 [] [dU g h c e a,.d (.slice aa) b,I kh,I kw] [] ah=bif aE a then (idx b 2).bind λi=>(idx b 3).bind λj=>bif aE a&&2<=(aj a du [1,1]).length then bif aE a&&2<=(aj a dw [1,1]).length then (idx (aj a cE [0,0,0,0]) 0).bind λk=>(idx (aj a cE [0,0,0,0]) 1).bind λl=>(idx b 0).bind λm=>(idx b 1).bind λn=>(idx b 2).bind λo=>(idx b 3).bind λf=>ak [.d Y4 (i,j,kh,kw,[(aj a du [1,1]).getD 0 0,(aj a du [1,1]).getD 1 0],[(aj a dw [1,1]).getD 0 0,(aj a dw [1,1]).getD 1 0],k,l,i64.wrap<|m*n,i64.wrap<|o*f,bn)]else a6 else a6 else a6:=by kernel_rfl
def dz  :=g82.add 65<|ay azg
theorem FB :dz.Good:=nd.add aob
def Md (x:dQ)(t:(Y0).den)(v:bN):LHp:=[(0,.box<| .d Y2 x),(1,.box<| .d _ t),(2,.box<| .d Y4 v)]
def Me (x:dQ)(t:(Y0).den)(v:bN)(a:af)(i:Int):LSt:=⟨az 6 [(3,.d (.slice aa) a),(4,.op 0 [] 0),(5,.op 1 [] 0),(6,.op 2 [] 0),(9,.nils),(15,I v.2.2.2.2.2.2.2.2.1),(16,I i)],Md x t v,3⟩
theorem aff (x:dQ) t v (a:af):aB dz f26 6 [(3,[3,4,5,6,9,15,16]),(7,[3,4,5,6,9,11,15,16,31,32]),(10,[3,4,5,6,9,11,12,15,16,31,32,37,38])] [.d Y2 x,.d _ t,afa v,.d (.slice aa) a] [] ah=(hlp dz bA) zB _ (Me x t v a 0) (aI 0<|aL dz bA [3,7,10] (hlp dz bA) (cR<|cR<|cR CZ)<|aV prog 0 f26.results.toList ah):=(aW [3,7,10] bA rfl).trans<|by obtain⟨b,h⟩:=aM dz bA;rw[h];kernel_rfl
def SL (o:af)(x:dQ)(t:(Y0).den)(v:bN)(a:af)(i:Int):LSt:=⟨az 6 [(3,.d (.slice aa) a),(4,.op 0 [] 0),(5,.op 1 [] 0),(6,.op 2 [] 0),(9,.os 3 0),(15,I v.2.2.2.2.2.2.2.2.1),(16,I i)],Md x t v++[(3,.arr 2 aa 0 a8 o)],4⟩
theorem afg x t v a i n {R} (k:AEx->LSt->Option R):lp dz bA zB (n+1) (Me x t v a i) k=bif i<v.2.2.2.2.2.2.2.2.1 then (if 0<=i64.wrap (i*v.2.2.2.2.2.2.2.2.2.1)/\i64.wrap (i*v.2.2.2.2.2.2.2.2.2.1)<=.ofNat (bk t.2.2.1)/\.ofNat (bk t.2.2.1)<=bd (bk t.2.2.1)then ar (fb (i64.wrap<|i*v.2.2.2.2.2.2.2.2.2.1).toNat<|gy (bd<|bk t.2.2.1).toNat t.2.2.1)else a6).bind λb=>(if (0:Int)<=0/\0<=v.2.2.2.2.2.2.2.2.2.1/\v.2.2.2.2.2.2.2.2.2.1<=.ofNat b.length then ar (fb 0<|gy v.2.2.2.2.2.2.2.2.2.1.toNat b)else a6).bind λc=>(idx a 2).bind λe=>(hlp dz bA) wq _ ⟨az 6 [(3,.d (aa).slice a),(4,.op 0 [] 0),(5,.op 1 [] 0),(6,.op 2 [] 0),(9,.nils),(11,.d (aa).slice c),(15,I v.2.2.2.2.2.2.2.2.1),(16,I i),(31,I e),(32,I 0)],[(0,.box<| .d Y2 x),(1,.box<| .d Y0 t),(2,.box<| .d Y4 v)],3⟩ (aI 2<|aI 1<|aL dz bA [3,7,10] (hlp dz bA) azi<|lJ dz bA [3,7,10] (hlp dz bA) zB n k)else k (.exit 0) ⟨az 6 [(3,.d (aa).slice a),(4,.op 0 [] 0),(5,.op 1 [] 0),(6,.op 2 [] 0),(9,.nils),(15,I v.2.2.2.2.2.2.2.2.1),(16,I i),(17,B a8)],[(0,.box<| .d Y2 x),(1,.box<| .d Y0 t),(2,.box<| .d Y4 v)],3⟩:=by rw[j9 [3,7,10]];obtain⟨f,h⟩:=aM dz bA;rw[h];kernel_rfl
theorem afh a (o:af) x t v ds i n {R} (k:AEx->LSt->Option R):lp dz bA zB (n+1) (SL (a::o) x t v ds i) k=bif i<v.2.2.2.2.2.2.2.2.1 then (if 0<=i64.wrap (i*v.2.2.2.2.2.2.2.2.2.1)/\i64.wrap (i*v.2.2.2.2.2.2.2.2.2.1)<=.ofNat (bk t.2.2.1)/\.ofNat (bk t.2.2.1)<=bd (bk t.2.2.1)then ar (fb (i64.wrap<|i*v.2.2.2.2.2.2.2.2.2.1).toNat<|gy (bd<|bk t.2.2.1).toNat t.2.2.1)else a6).bind λb=>(if (0:Int)<=0/\0<=v.2.2.2.2.2.2.2.2.2.1/\v.2.2.2.2.2.2.2.2.2.1<=.ofNat b.length then ar (fb 0<|gy v.2.2.2.2.2.2.2.2.2.1.toNat b)else a6).bind λc=>(idx ds 2).bind λe=>(hlp dz bA) wq _ ⟨az 6 [(3,.d (aa).slice ds),(4,.op 0 [] 0),(5,.op 1 [] 0),(6,.op 2 [] 0),(9,.os 3 0),(11,.d (aa).slice c),(15,I v.2.2.2.2.2.2.2.2.1),(16,I i),(31,I e),(32,I 0)],[(0,.box<| .d Y2 x),(1,.box<| .d Y0 t),(2,.box<| .d Y4 v),(3,.arr 2 aa 0 a8<|a::o)],4⟩ (aI 2<|aI 1<|aL dz bA [3,7,10] (hlp dz bA) azi<|lJ dz bA [3,7,10] (hlp dz bA) zB n k)else k (.exit 0) ⟨az 6 [(3,.d (aa).slice ds),(4,.op 0 [] 0),(5,.op 1 [] 0),(6,.op 2 [] 0),(9,.os 3 0),(15,I v.2.2.2.2.2.2.2.2.1),(16,I i),(17,B a8)],[(0,.box<| .d Y2 x),(1,.box<| .d Y0 t),(2,.box<| .d Y4 v),(3,.arr 2 aa 0 a8<|a::o)],4⟩:=by rw[j9 [3,7,10]];obtain⟨f,h⟩:=aM dz bA;rw[h];kernel_rfl
def ff :ao:=du
def ez :ao:=dw
def kL (ag:bu)(a:af)(b c:Int):bN:=(a.getD 2 0,a.getD 3 0,b,c,prL ag ff,prL ag ez,(aj ag bl [0,0,0,0]).getD 0 0,(aj ag bl [0,0,0,0]).getD 1 0,i64.wrap (a.getD 0 0*a.getD 1 0),i64.wrap (a.getD 2 0*a.getD 3 0),())
def C1 (a:bu)(b:af)  :=aE a&&(2<=(aj a ff [1,1]).length&&(2<=(aj a ez [1,1]).length&&(2<=(aj a bl [0,0,0,0]).length&&b.length=4)))
def azn :List AV->LHp->Tq
 |[.d Y2 (_,_,_,_,a,_),.d zS b,.d zI c,.d zI e],[]=>.br (C1 a b) (.leaf (.ret [.d (Y4) (kL a b c e)]) []) .no
 |_,_=>.no
theorem aod :bq 27 (ay azn):=by
 have m:=bM (d:=6) (l:=[]) XS func27 call27;refine aY λh B C D c=>?_
 unfold azn at c;split at c
 ·rename_i n o e f b _ a p q
  let ⟨g,r⟩:=eN c;unfold C1 at g;simp only[aX]at g;let ⟨s,t,u,j,k⟩:=g;have j  :=bt j;have k  :=bt k;refine m.okC<|(azm n o e f b a p q).trans<|gp ?_ r
  have e1:du=ff:=rfl;have e2:dw=ez:=rfl;have e3:cE=bl:=rfl;have v:idx a 0=ar (a.getD 0 0):=aP (i:=0)<|by omega
  have w:idx a 1=ar (a.getD 1 0):=aP (i:=1)<|by omega
  have x:idx a 2=ar (a.getD 2 0):=aP (i:=2)<|by omega
  have y:idx a 3=ar (a.getD 3 0):=aP (i:=3)<|by omega
  have z:idx (aj b bl [0,0,0,0]) 0=ar ((aj b bl [0,0,0,0]).getD 0 0):=aP (i:=0)<|by omega
  have A:idx (aj b bl [0,0,0,0]) 1=ar ((aj b bl [0,0,0,0]).getD 1 0):=aP (i:=1)<|by omega
  rw[e1,e2,e3,s,ai,x,aw,y,aw,t,u,uu,ai,ai,z,aw,A,aw,v,aw,w,aw,aw,aw]<;>rfl
 ·cases c
noncomputable def aoe  :=fC [Y2,.slice aa,aa,aa]<|ay azn
theorem Ia :bq 27 aoe:=cn aod
def Mf (o:af)(x:dQ) t v  :=Md x t v++[(3,.arr 2 aa 0 a8 o)]
def SM (a:af)(x:dQ)(t:(Y0).den)(v:bN)(b:af)(i H h:Int):LSt:=⟨az 6 [(3,.d (.slice aa) b),(4,.op 0 [] 0),(5,.op 1 [] 0),(6,.op 2 [] 0),(9,.nils),(11,.d (.slice aa) a),(15,I v.2.2.2.2.2.2.2.2.1),(16,I i),(31,I H),(32,I h)],Md x t v,3⟩
def SN (o a:af)(x:dQ)(t:(Y0).den)(v:bN)(b:af)(i H h:Int):LSt:=⟨az 6 [(3,.d (.slice aa) b),(4,.op 0 [] 0),(5,.op 1 [] 0),(6,.op 2 [] 0),(9,.os 3 0),(11,.d (.slice aa) a),(15,I v.2.2.2.2.2.2.2.2.1),(16,I i),(31,I H),(32,I h)],Mf o x t v,4⟩
def Mg (a:af)(x:dQ)(t:(Y0).den)(v:bN)(b:af)(i H h W w:Int):LSt:=⟨az 6 [(3,.d (.slice aa) b),(4,.op 0 [] 0),(5,.op 1 [] 0),(6,.op 2 [] 0),(9,.nils),(11,.d (.slice aa) a),(12,I h),(15,I v.2.2.2.2.2.2.2.2.1),(16,I i),(31,I H),(32,I h),(37,I W),(38,I w)],Md x t v,3⟩
def C2 (o a:af)(x:dQ)(t:(Y0).den)(v:bN)(b:af)(i H h W w:Int):LSt:=⟨az 6 [(3,.d (.slice aa) b),(4,.op 0 [] 0),(5,.op 1 [] 0),(6,.op 2 [] 0),(9,.os 3 0),(11,.d (.slice aa) a),(12,I h),(15,I v.2.2.2.2.2.2.2.2.1),(16,I i),(31,I H),(32,I h),(37,I W),(38,I w)],Mf o x t v,4⟩
theorem afi b x t v a i H h n {R} (k:AEx->LSt->Option R):lp dz bA wq (n+1) (SM b x t v a i H h) k=bif h<H then (idx a 3).bind λc=>(hlp dz bA) C0 _ (Mg b x t v a i H h c 0) (aI 4<|aI 3<|aL dz bA [3,7,10] (hlp dz bA) azj<|lJ dz bA [3,7,10] (hlp dz bA) wq n k)else k (.exit 2) ⟨az 6 [(3,.d (aa).slice a),(4,.op 0 [] 0),(5,.op 1 [] 0),(6,.op 2 [] 0),(9,.nils),(11,.d (aa).slice b),(15,I v.2.2.2.2.2.2.2.2.1),(16,I i),(31,I H),(32,I h),(33,B a8)],[(0,.box<| .d Y2 x),(1,.box<| .d Y0 t),(2,.box<| .d Y4 v)],3⟩:=by rw[j9 [3,7,10]];obtain⟨e,h⟩:=aM dz bA;rw[h];kernel_rfl
theorem afj a (o b:af) x t v ds i H h n {R} (k:AEx->LSt->Option R):lp dz bA wq (n+1) (SN (a::o) b x t v ds i H h) k=bif h<H then (idx ds 3).bind λc=>(hlp dz bA) C0 _ (C2 (a::o) b x t v ds i H h c 0) (aI 4<|aI 3<|aL dz bA [3,7,10] (hlp dz bA) azj<|lJ dz bA [3,7,10] (hlp dz bA) wq n k)else k (.exit 2) ⟨az 6 [(3,.d (aa).slice ds),(4,.op 0 [] 0),(5,.op 1 [] 0),(6,.op 2 [] 0),(9,.os 3 0),(11,.d (aa).slice b),(15,I v.2.2.2.2.2.2.2.2.1),(16,I i),(31,I H),(32,I h),(33,B a8)],[(0,.box<| .d Y2 x),(1,.box<| .d Y0 t),(2,.box<| .d Y4 v),(3,.arr 2 aa 0 a8<|a::o)],4⟩:=by rw[j9 [3,7,10]];obtain⟨e,h⟩:=aM dz bA;rw[h];kernel_rfl
theorem afk a x t v b i H h W w n {R} (k:AEx->LSt->Option R):lp dz bA C0 (n+1) (Mg a x t v b i H h W w) k=bif w<W then bif zA v a.length then lp dz bA C0 n (C2 [H9 x.1 a v h w] a x t v b i H h W<|i64.wrap<|w+1) k else a6 else k (.exit 4) ⟨az 6 [(3,.d (aa).slice b),(4,.op 0 [] 0),(5,.op 1 [] 0),(6,.op 2 [] 0),(9,.nils),(11,.d (aa).slice a),(12,I h),(15,I v.2.2.2.2.2.2.2.2.1),(16,I i),(31,I H),(32,I h),(37,I W),(38,I w),(39,B a8)],[(0,.box<| .d Y2 x),(1,.box<| .d Y0 t),(2,.box<| .d Y4 v)],3⟩:=by kernel_rfl
theorem afl a (o b:af) x t v ds i H h W w n {R} (k:AEx->LSt->Option R):lp dz bA C0 (n+1) (C2 (a::o) b x t v ds i H h W w) k=bif w<W then bif zA v b.length then (app (a::o) [H9 x.1 b v h w]).bind λc=>lp dz bA C0 n (C2 c b x t v ds i H h W<|i64.wrap<|w+1) k else a6 else k (.exit 4) ⟨az 6 [(3,.d (aa).slice ds),(4,.op 0 [] 0),(5,.op 1 [] 0),(6,.op 2 [] 0),(9,.os 3 0),(11,.d (aa).slice b),(12,I h),(15,I v.2.2.2.2.2.2.2.2.1),(16,I i),(31,I H),(32,I h),(37,I W),(38,I w),(39,B a8)],[(0,.box<| .d Y2 x),(1,.box<| .d Y0 t),(2,.box<| .d Y4 v),(3,.arr 2 aa 0 a8<|a::o)],4⟩:=by kernel_rfl
theorem SO {R}(g:Nat->af)(fin:List Int->Option R):∀(l) (o),bG (λo i=>.go<|o++g i) fin l o=fin (o++l.flatMap g)
 |[],o=>by rw[bG,amL,eT]
 |a::l,o=>by rw[bG];simp only;rw[SO,w7,gl]
def poW (a:ao)(b:af)(v:bN)(W h:Nat):af:=(hW W).flatMap λ(w:Nat)=>[H9 a b v h w]
def poH (a:ao)(b:af)(v:bN)(H W:Nat):af:=(hW H).flatMap (poW a b v W)
theorem PB {g:Nat->af}{k}(b:∀i,(g i).length=k):∀(l:List Nat),(l.flatMap g).length=l.length*k
 |[]=>by simp
 |a::l=>by rw[w7,bK,PB b l,b,bs,WN,Nat.add_comm]
theorem SP a b v W h:(poW a b v W h).length=W:=by rw[poW,PB (k:=1)<|λ_=>rfl,IJ,Qe]
theorem aof a b v H W:(poH a b v H W).length=H*W:=by rw[poH,PB<|SP a b v W,IJ]
def afm (b:af)(x:dQ)(t:(Y0).den)(v:bN)(c:af)(i H h W w:Int)(o:af):LSt:=match o with|[]=>Mg b x t v c i H h W w|a::o=>C2 (a::o) b x t v c i H h W w
def PC (b:af)(x:dQ)(t:(Y0).den)(v:bN)(c:af)(i H h:Int)(o:af):LSt:=match o with|[]=>SM b x t v c i H h|a::o=>SN (a::o) b x t v c i H h
def XT (x:dQ)(t:(Y0).den)(v:bN)(b:af)(i:Int)(o:af):LSt:=match o with|[]=>Me x t v b i|a::o=>SL (a::o) x t v b i
def xPw (b:af)(x:dQ)(t:(Y0).den)(v:bN)(c:af)(i H h W w:Int)(o:af):LSt:=match o with|[]=>⟨az 6 [(3,.d (.slice aa) c),(4,.op 0 [] 0),(5,.op 1 [] 0),(6,.op 2 [] 0),(9,.nils),(11,.d (.slice aa) b),(12,I h),(15,I v.2.2.2.2.2.2.2.2.1),(16,I i),(31,I H),(32,I h),(37,I W),(38,I w),(39,B a8)],Md x t v,3⟩|a::o=>⟨az 6 [(3,.d (.slice aa) c),(4,.op 0 [] 0),(5,.op 1 [] 0),(6,.op 2 [] 0),(9,.os 3 0),(11,.d (.slice aa) b),(12,I h),(15,I v.2.2.2.2.2.2.2.2.1),(16,I i),(31,I H),(32,I h),(37,I W),(38,I w),(39,B a8)],Mf (a::o) x t v,4⟩
theorem azp {R a x t v e i H h}{W d:Nat}{k:AEx->LSt->Option R}(m:h=(d:Int))(j:zA v a.length=bc){o}(q:o.length+W<=2147483648):
  lp dz bA C0 fu (afm a x t v e i H h W 0 o) k=k (.exit 4) (xPw a x t v e i H h W W<|o++poW x.1 a v W d):=by
 let u:maxLen=9223372036854775807:=by decide
 subst m
 refine(fq (T:=λn s=>lp dz bA C0 n s k) (λw f=>f.length=o.length+w) (by omega) ?_ ?_ rfl).trans<|SO _ (λo=>k _ _) _ o
 ·intro w f n g y l b
  refine .inl ⟨_,rfl,by rw[bK,g];rfl,?_⟩;let b:a7 (w<(W:Int))=bc:=b;cases f with
  |nil=>show lp _ _ _ _ (Mg a x t v e i H d W w) _=_;rw[afk,b,ai,j,ai,l]<;>rfl
  |cons c r=>
   let p:(c::r).length+[H9 x.1 a v d w].length<=lim:=by rw[g,eS,show lim=4294967296 from rfl];omega
   show lp _ _ _ _ (C2 _ a x t v e i H d W w) _=_;rw[afl,b,ai,j,ai,eX p,aw,l]<;>rfl
 ·intro f n g b;let b:a7 (W<(W:Int))=a8:=b;cases f with|nil=>show lp _ _ _ _ (Mg a x t v e i H d W W) _=_;rw[afk,b,al]<;>rfl|cons c r=>show lp _ _ _ _ (C2 _ a x t v e i H d W W) _=_;rw[afl,b,al]<;>rfl
noncomputable def KPh {R}(n:Nat)(k:AEx->LSt->Option R)  :=aI 4<|aI 3<|aL dz bA [3,7,10] (hlp dz bA) azj<|lJ dz bA [3,7,10] (hlp dz bA) wq n k
theorem azq {R} a x t v b i H h W w o n (k:AEx->LSt->Option R):KPh n k (.exit 4) (xPw a x t v b i H h W w o)=lp dz bA wq n (PC a x t v b i H (i64.wrap<|h+1) o) k:=by rw[←kU (ids:=[3,7,10])];cases o with|nil=>kernel_rfl|cons c r=>kernel_rfl
theorem azr {R} bf x t v ds i H h W o k:hlp dz bA C0 R (afm bf x t v ds i H h W 0 o) k=lp dz bA C0 fu (afm bf x t v ds i H h W 0 o) k:=rfl
def xPh (b:af)(x:dQ)(t:(Y0).den)(v:bN)(c:af)(i H h:Int)(o:af):LSt:=match o with|[]=>⟨az 6 [(3,.d (.slice aa) c),(4,.op 0 [] 0),(5,.op 1 [] 0),(6,.op 2 [] 0),(9,.nils),(11,.d (.slice aa) b),(15,I v.2.2.2.2.2.2.2.2.1),(16,I i),(31,I H),(32,I h),(33,B a8)],Md x t v,3⟩|a::o=>⟨az 6 [(3,.d (.slice aa) c),(4,.op 0 [] 0),(5,.op 1 [] 0),(6,.op 2 [] 0),(9,.os 3 0),(11,.d (.slice aa) b),(15,I v.2.2.2.2.2.2.2.2.1),(16,I i),(31,I H),(32,I h),(33,B a8)],Mf (a::o) x t v,4⟩
theorem azs {R a x t v}{d:af}{i}{H W:Nat}{k:AEx->LSt->Option R}(m:zA v a.length=bc)(g:idx d 3=ar (W:Int))(w:H<=2147483648){o}(y:o.length+H*W<=2147483648):
  lp dz bA wq fu (PC a x t v d i H 0 o) k=k (.exit 2) (xPh a x t v d i H H<|o++poH x.1 a v H W):=by
 let z:maxLen=9223372036854775807:=by decide
 refine(fq (T:=λn s=>lp dz bA wq n s k) (λh e=>e.length=o.length+h*W) (by omega) ?_ ?_<|by rw[TH,y8]).trans<|SO _ (λo=>k _ _) _ o
 ·intro h e n j p q b
  refine .inl ⟨_,rfl,by rw[bK,j,SP,WN,Nat.add_assoc],?_⟩;let b:a7 (h<(H:Int))=bc:=b;let u  :=ga W p;let f:e.length+W<=2147483648:=by rw[WN]at u;omega
  let l:∀s,s=afm a x t v d i H h W 0 e->hlp dz bA C0 R s (KPh n k)=lp dz bA wq n _ k:=by
   rintro s rfl
   rw[azr,azp rfl m f,azq,q]
  cases e with|nil=>show lp _ _ _ _ (SM a x t v d i H h) _=_;rw[afi,b,ai,g,aw];exact l _ rfl|cons c r=>show lp _ _ _ _ (SN _ a x t v d i H h) _=_;rw[afj,b,ai,g,aw];exact l _ rfl
 ·intro e n j b;let b:a7 (H<(H:Int))=a8:=b;cases e with|nil=>show lp _ _ _ _ (SM a x t v d i H H) _=_;rw[afi,b,al]<;>rfl|cons c r=>show lp _ _ _ _ (SN _ a x t v d i H H) _=_;rw[afj,b,al]<;>rfl
noncomputable def KPo {R}(n:Nat)(k:AEx->LSt->Option R)  :=aI 2<|aI 1<|aL dz bA [3,7,10] (hlp dz bA) azi<|lJ dz bA [3,7,10] (hlp dz bA) zB n k
theorem azt {R} b x t v a i H h o n (k:AEx->LSt->Option R):KPo n k (.exit 2) (xPh b x t v a i H h o)=lp dz bA zB n (XT x t v a (i64.wrap<|i+1) o) k:=by rw[←kU (ids:=[3,7,10])];cases o with|nil=>kernel_rfl|cons c r=>kernel_rfl
theorem azu {R} bf x t v ds i H o k:hlp dz bA wq R (PC bf x t v ds i H 0 o) k=lp dz bA wq fu (PC bf x t v ds i H 0 o) k:=rfl
def xPo (x:dQ)(t:(Y0).den)(v:bN)(b:af)(i:Int)(o:af):LSt:=match o with|[]=>⟨az 6 [(3,.d (.slice aa) b),(4,.op 0 [] 0),(5,.op 1 [] 0),(6,.op 2 [] 0),(9,.nils),(15,I v.2.2.2.2.2.2.2.2.1),(16,I i),(17,B a8)],Md x t v,3⟩|a::o=>⟨az 6 [(3,.d (.slice aa) b),(4,.op 0 [] 0),(5,.op 1 [] 0),(6,.op 2 [] 0),(9,.os 3 0),(15,I v.2.2.2.2.2.2.2.2.1),(16,I i),(17,B a8)],Mf (a::o) x t v,4⟩
def yV (a:af)(b p:Nat):af:=(a.drop (p*b)).take b
def SQ (b:ao)(a:af)(v:bN)(P c H W:Nat):af:=(hW P).flatMap λp=>poH b (yV a c p) v H W
theorem afn {R x t v}{b:af}{P pn H W:Nat}{k:AEx->LSt->Option R}(j:v.2.2.2.2.2.2.2.2.1=(P:Int))(g:v.2.2.2.2.2.2.2.2.2.1=(pn:Int))(F:P*pn<=t.2.2.1.length)(G:t.2.2.1.length<=2147483648)(w:P<=2147483648)(y:zA v pn=bc)(h:idx b 2=ar (H:Int))(z:idx b 3=ar (W:Int))(A:H<=2147483648)(I:P*(H*W)<=2147483648):
  lp dz bA zB fu (XT x t v b 0 []) k=k (.exit 0) (xPo x t v b P<|SQ x.1 t.2.2.1 v P pn H W):=by
 have J:maxLen=9223372036854775807:=by decide
 refine(fq (N:=P) (T:=λn s=>lp dz bA zB n s k) (st:=XT x t v b) (f:=λo p=>WD (R:=R)<|o++poH x.1 (yV t.2.2.1 pn p) v H W) (fin:=λo=>k (.exit 0)<|xPo x t v b P o) (λp e=>e.length=p*(H*W)) (by omega) ?_ ?_ (a:=[])<|by rw[TH]<;>rfl).trans<|(SO (λp=>poH x.1 (yV t.2.2.1 pn p) v H W) (λo=>k (.exit 0)<|xPo x t v b P o) (hW P) []).trans rfl
 ·intro p e n l m B d
  refine .inl ⟨_,rfl,by rw[bK,l,aof,WN],?_⟩;have d:a7 (p<v.2.2.2.2.2.2.2.2.1)=bc:=by rw[j];exact d
  have C:(p+1)*(H*W)<=P*(H*W):=ga _ m;have D:(p+1)*pn<=P*pn:=ga _ m;rw[WN]at C D;have i:e.length+H*W<=2147483648:=by omega
  have q:i64.wrap (p*pn)=(p*pn:Nat):=by rw[←p4];exact aH (by omega)<|by omega
  have E:(yV t.2.2.1 pn p).length=pn:=by rw[yV,fl,km];omega
  have u:∀s,s=PC (yV t.2.2.1 pn p) x t v b p H 0 e->hlp dz bA wq R s (KPo n k)=lp dz bA zB n (XT x t v b (p+1:Nat)<|e++poH x.1 (yV t.2.2.1 pn p) v H W) k:=by
   rintro s rfl
   rw[azu,azs (by rw[E];exact y) z A i,azt,B]
  have e1:(if 0<=((p*pn:Nat):Int)/\(p*pn:Nat)<=bd t.2.2.1.length/\bd t.2.2.1.length<=bd t.2.2.1.length then ar (fb ((p*pn:Nat):Int).toNat<|gy (bd t.2.2.1.length).toNat t.2.2.1)else a6)=ar (t.2.2.1.drop<|p*pn):=by rw[if_pos ⟨by omega,by show (p*pn:Nat)<=((t.2.2.1.length:Nat):Int);omega,DC _⟩,b9,show (bd t.2.2.1.length).toNat=t.2.2.1.length from rfl,yf]
  have e2:(if (0:Int)<=0/\0<=(pn:Int)/\(pn:Int)<=bd (t.2.2.1.drop<|p*pn).length then ar (fb 0<|gy (pn:Int).toNat<|t.2.2.1.drop<|p*pn)else a6)=ar (yV t.2.2.1 pn p):=by rw[if_pos ⟨DC _,by omega,by rw[km];show (pn:Int)<=((t.2.2.1.length-p*pn:Nat):Int);omega⟩,b9]<;>rfl
  cases e with|nil=>show lp _ _ _ (n+1) (Me x t v b (p:Int)) _=_;rw[afg,d,ai,g,q,e1,aw,e2,aw,h,aw];exact u _ rfl|cons c r=>show lp _ _ _ (n+1) (SL (c::r) x t v b (p:Int)) _=_;rw[afh,d,ai,g,q,e1,aw,e2,aw,h,aw];exact u _ rfl
 ·intro e n l d
  have d:a7 ((P:Int)<v.2.2.2.2.2.2.2.2.1)=a8:=by rw[j];exact d
  cases e with|nil=>show lp _ _ _ (n+1) (Me x t v b (P:Int)) _=_;rw[afg,d,al]<;>rfl|cons c r=>show lp _ _ _ (n+1) (SL (c::r) x t v b (P:Int)) _=_;rw[afh,d,al]<;>rfl
noncomputable def KPz  :=aI 0<|aL dz bA [3,7,10] (hlp dz bA) (cR<|cR<|cR CZ)<|aV prog 0 f26.results.toList ah
theorem aGT x t v a i o:fv (.slice aa) (KPz (.exit 0)<|xPo x t v a i o)=ar (.ret [.d (.slice aa) o],[]):=by cases o with|nil=>kernel_rfl|cons c r=>kernel_rfl
theorem afo x t v a:hlp dz bA zB _ (XT x t v a 0 []) KPz=lp dz bA zB fu (XT x t v a 0 []) KPz:=rfl
def mD (n:Nat)(v:bN)(a:af):Bool:=zA v v.2.2.2.2.2.2.2.2.2.1.toNat&&(a7 (0<=v.2.2.2.2.2.2.2.2.2.1)&&(a7 (0<=v.2.2.2.2.2.2.2.2.1/\v.2.2.2.2.2.2.2.2.1<=2147483648)&&(a7 (v.2.2.2.2.2.2.2.2.1.toNat*v.2.2.2.2.2.2.2.2.2.1.toNat<=n/\n<=2147483648)&&(a7 (a.length=4)&&(a7 (0<=a.getD 2 0/\a.getD 2 0<=2147483648)&&(a7 (0<=a.getD 3 0)&&a7 (v.2.2.2.2.2.2.2.2.1.toNat*((a.getD 2 0).toNat*(a.getD 3 0).toNat)<=2147483648)))))))
def aGU :List AV->LHp->Tq
 |[.d Y2 (c,_),.d Y0 (_,_,a,_),.d Y4 v,.d zS b],[]=>.br (mD (bk (α:=Int) a) v b) (dat (.slice aa) (SQ c a v v.2.2.2.2.2.2.2.2.1.toNat v.2.2.2.2.2.2.2.2.2.1.toNat (b.getD 2 0).toNat (b.getD 3 0).toNat)) .no
 |_,_=>.no
theorem aog :bq 26 (ay aGU):=by
 let o:=bM (d:=6) (l:=[(3,[3,4,5,6,9,15,16]),(7,[3,4,5,6,9,11,15,16,31,32]),(10,[3,4,5,6,9,11,12,15,16,31,32,37,38])]) FB func26 call26;refine aY λh B C D c=>?_
 unfold aGU at c;split at c
 ·rename_i j x m n a u v b
  let ⟨e,p⟩:=eN c;unfold mD at e;simp only[aX,decide_eq_true_eq]at e;let ⟨q,r,⟨s,E⟩,⟨w,y⟩,F,⟨z,G⟩,f,g⟩:=e;let g2:idx b 2=ar (((b.getD 2 0).toNat:Nat):Int):=by rw[kd z];exact aP (i:=2)<|by omega
  let g3:idx b 3=ar (((b.getD 3 0).toNat:Nat):Int):=by rw[kd f];exact aP (i:=3)<|by omega
  let A:=(aff (j,x) (m,n,a,u) v b).trans<|(afo _ _ _ _).trans<|afn (k:=KPz) (x:=(j,x)) (t:=(m,n,a,u)) (P:=v.2.2.2.2.2.2.2.2.1.toNat) (pn:=v.2.2.2.2.2.2.2.2.2.1.toNat) (H:=(b.getD 2 0).toNat) (W:=(b.getD 3 0).toNat) (kd s).symm (kd r).symm w y (by omega) q g2 g3 (by omega) g
  refine o.okO (.slice aa)<|gp ?_ p
  refine(congrArg (fv<| .slice aa) A).trans ?_;exact aGT _ _ _ _ _ _
 ·cases c
def bo :List Nat->Nat
 |[]=>1
 |d::r=>d*bo r
def xV :List Nat->Nat->List Nat
 |[],_=>[]
 |_::r,q=>q/bo r::xV r (q % bo r)
def ints (l:List Nat):af:=l.map<|λn:Nat=>n
theorem XU a l:ints (a::l)=(a:Int)::ints l:=rfl
theorem iW l:(ints l).length=l.length:=by simp[ints]
theorem SR :∀(a) (q),(xV a q).length=a.length
 |[],_=>rfl
 |_::r,q=>by simp only[xV,bs,SR r]
theorem SS {a b:af}{y}:(a++y::b)[a.length]?=ar y:=by rw[List.getElem?_append_right<|ep _,M7]<;>rfl
theorem sT {xs zs:af}{y}:idx (xs++y::zs) (.ofNat xs.length)=ar y:=by unfold idx;rw[if_pos<|show (0:Int)<=.ofNat _ from u4 _,show (bd _).toNat=xs.length from rfl,SS]
theorem Ib {xs zs:af}{y v}:fR (xs++y::zs) xs.length v=ar (xs++v::zs):=by unfold fR;rw[show Nat.blt _ (xs++y::zs).length=bc from sc<|by rw[bK,bs];omega,ai,List.set_append_right _ _<|ep _,M7]<;>rfl
theorem xW {a}(h:∀d∈a,1<=d):1<=bo a:=by
 induction a with
 |nil=>exact ep _
 |cons d r b=>
  let c:=h d<|by simp
  let e:=b λx f=>h x<|by simp[f]
  exact ya c e
theorem C3 :∀(b:List Nat) (a:Int),(ints b).foldl (· * ·) a=a*bo b
 |[],a=>by show a=a*(1:Nat);rw[Int.natCast_one,Int.mul_one]
 |d::r,a=>by show (ints r).foldl _ _=a*(d*bo r:Nat);rw[C3,Int.mul_assoc,p4]
theorem ln a:cM (ints a)=bo a:=by unfold cM;rw[C3,Int.one_mul]
theorem Mh :∀{a},(∀x∈a,0<=x)->ints (a.map j4)=a
 |[],_=>rfl
 |x::r,h=>by show ((x.toNat:Nat):Int)::ints _=x::r;rw[Mh λy b=>h y<|by simp[b],kd<|h x<|by simp]
def o7 :List Nat->List Nat
 |[]=>[]
 |_::r=>bo r::o7 r
theorem sU :∀(a b),bo (a++b)=bo a*bo b
 |[],b=>by show bo b=1*bo b;rw[x1]
 |x::r,b=>by show x*bo (r++b)=x*bo r*bo b;rw[sU,yk]
theorem PD {a b}(h:∀x∈a,1<=x):bo b<=bo (a++b):=by rw[sU];exact xu _<|xW h
def Mi (d:af)  :=ints<|o7<|d.map j4
def aqP  :=aU f86
def aoh :Code:=cL (cL (cR (cL (cR (cR (cR (cR aqP)))))))
def r8 :Cfg:=⟨43,6,0,[(7,[0,6,7,22,23])],bc⟩
def aoi (d a:af)(n i:Int):LSt:=⟨az 6 [(0,.d (aa).slice d),(6,.os 0 0),(7,I n),(22,I<| .ofNat d.length),(23,I i)],[(0,.arr 3 aa 0 a8 a)],1⟩
def KSs  :=aI 0<|aL zp r8 [7] (hlp zp r8) (cR<|cR<|cR<|cR<|cR aqP)<|aV prog 0 f86.results.toList ah
theorem azv (d:af):aB zp f86 6 [(7,[0,6,7,22,23])] [.d (.slice aa) d] [] ah=bif d.length<=9223372036854775807 then bif aC d !=0 then ak [.nils,I<|aC d]else (if 0<=bd d.length/\bd d.length<=4294967296 then ar (eo (bd d.length).toNat 0)else a6).bind λa=>(hlp zp r8) aoh _ (aoi d a 1 0) KSs else a6:=(aW [7] r8 rfl).trans<|by obtain⟨b,h⟩:=aM zp r8;rw[h];kernel_rfl
theorem afp d a b i n {R} (k:AEx->LSt->Option R):lp zp r8 aoh (n+1) (aoi d a b i) k=bif i<.ofNat d.length then (idx a<|i64.wrap<|i64.wrap (.ofNat d.length-1)-i).bind λf=>(fR a (i64.wrap<|i64.wrap (.ofNat d.length-1)-i).toNat b).bind λc=>(idx d<|i64.wrap<|i64.wrap (.ofNat d.length-1)-i).bind λe=>lp zp r8 aoh n (aoi d c (i64.wrap<|b*e)<|i64.wrap<|i+1) k else k (.exit 0) ⟨az 6 [(0,.d (aa).slice d),(6,.os 0 0),(7,I b),(22,I<| .ofNat d.length),(23,I i),(24,B a8)],[(0,.arr 3 aa 0 a8 a)],1⟩:=by kernel_rfl
theorem azw (d a:af) n0 i:KSs (.exit 0) ⟨az 6 [(0,.d (aa).slice d),(6,.os 0 0),(7,I n0),(22,I<| .ofNat d.length),(23,I i),(24,B a8)],[(0,.arr 3 aa 0 a8 a)],1⟩=ar (.ret [.os 0 0,I 0],[(0,.arr 3 aa 0 a8 a)]):=by kernel_rfl
theorem azx {D}(l:∀x∈D,1<=x)(m:bo D<=65536)(C:D.length<=6):∀(r) (b a) (n),b.length=r->D=b++a->r<n->
  lp zp r8 aoh n (aoi (ints D) (eo r (0:Int)++ints (o7 a)) (bo a) a.length) KSs=ar (.ret [.os 0 0,I 0],[(0,.arr 3 aa 0 a8 (ints (o7 D)))]):=by
 intro r
 induction r with
 |zero=>intro b a n c e o;obtain⟨n,rfl⟩:∃g,n=g+1:=⟨n-1,by omega⟩;cases b with|cons _ _=>cases c|nil=>simp only[pb]at e;subst e;rw[afp,cq (show¬((D.length:Nat))<bd (ints D).length by rw[iW];exact Int.lt_irrefl _),al];exact azw _ _ _ _
 |succ r p=>
  intro b a n c e o;obtain⟨n,rfl⟩:∃g,n=g+1:=⟨n-1,by omega⟩;rcases List.eq_nil_or_concat b with h|⟨f,d,h⟩
  ·subst h;cases c
  ·subst h
   have i  :=by simp at c;exact c
   have q:D.length=r+1+a.length:=by rw[e];simp[i];omega
   have e2:D=f++d::a:=by rw[e];simp
   have s:i64.wrap (bd (ints D).length-1)=r+a.length:=by rw[iW,aH (by simp only[aK];omega) (by simp only[aK];omega)];simp only[aK];omega
   have t:i64.wrap (i64.wrap (bd (ints D).length-1)-a.length)=bd r:=by rw[s,aH (by omega) (by omega)];simp only[aK];omega
   have u:(a.length:Nat)<bd (ints D).length:=by rw[iW];simp only[aK];omega
   have w:eo (r+1) 0++ints (o7 a)=eo r 0++0::ints (o7 a):=by rw[List.replicate_succ',gl]<;>rfl
   have g1  :=by have:=sT (xs:=eo r 0) (zs:=ints (o7 a)) (y:=0);rw[mb]at this;exact this
   have g2:fR (eo r (0:Int)++0::ints (o7 a)) (bd r).toNat (bo a)=ar (eo r 0++ints (o7 (d::a))):=by have:=Ib (xs:=eo r 0) (zs:=ints (o7 a)) (y:=0) (v:=(bo a:Nat));rw[mb]at this;exact this
   have g3:idx (ints D) (bd r)=ar (d:Int):=by have:=sT (xs:=ints f) (zs:=ints a) (y:=d);rw[iW,i]at this;rw[e2,show ints (f++d::a)=ints f++(d:Int)::ints a by unfold ints;rw[Cp,ox]];exact this
   have j:bo (d::a)<=65536:=by refine zv ?_ m;rw[e2];exact PD λx z=>l x (by rw[e2];simp[z])
   have k:d*bo a<=65536:=j;have A:i64.wrap ((bo a:Nat)*d)=(bo (d::a):Nat):=by rw[←p4,show bo (d::a)=d*bo a from rfl,vr,aH (by omega) (by omega)]
   have B:i64.wrap (a.length+1)=((d::a).length:Nat):=by rw[aH (by omega) (by omega),bs];omega
   rw[afp,aF u,ai,t,w,g1,aw,g2,aw,g3,aw,A,B];exact p f (d::a) n i e2 (by omega)
theorem kv {d}(h:aC d=0):∃D,d=ints D/\D=d.map j4/\(∀x∈D,1<=x)/\bo D<=65536/\D.length<=6:=by
 let ⟨b,f,i,_⟩:=eL h;let c  :=Mh λx a=>by let:=b x a;omega
 refine⟨_,c.symm,rfl,λx a=>?_,?_,by rw[vb];exact f⟩
 ·obtain⟨y,g,rfl⟩:=List.mem_map.1 a;let:=b y g;omega
 ·let e:=ln<|d.map j4
  rw[c]at e;omega
theorem aoj {d:af}(a:d.length<=maxLen):aB zp f86 6 [(7,[0,6,7,22,23])] [.d (.slice aa) d] [] ah=
  bif aC d !=0 then ar (.ret [.nils,I<|aC d],[])else ar (.ret [.os 0 0,I 0],[(0,.arr 3 aa 0 a8<|Mi d)]):=by
 refine(azv d).trans ?_
 rw[aF<|show d.length<=9223372036854775807 from a,ai]
 cases b:aC d !=0 with
 |true=>rfl
 |false=>
  let c  :=by simpa using b
  obtain⟨D,rfl,eD,e,f,g⟩:=kv c;let h:fu=18446744073709551616:=rfl;rw[al,al,if_pos<|(by rw[iW];simp only[aK];omega:0<=bd (ints D).length/\bd (ints D).length<=4294967296),aw];let key:=azx e f g _ D [] fu rfl (by simp)<|by omega
  rw[show o7 _=[]from rfl,show ints []=[]from rfl,eT]at key;unfold Mi;rw[←eD,(by rw[iW];rfl:(bd (ints D).length).toNat=D.length)];exact key
def azy :List AV->LHp->Tq
 |[.d zS d],[]=>.br (a7 (d.length<=maxLen)) (.br (aC d !=0) (.leaf (.ret [.nils,I (aC d)]) []) (.leaf (.ret [.os 0 0,I 0]) [(0,.arr 3 aa 0 a8 (Mi d))])) .no
 |_,_=>.no
theorem aok :bq 86 (ay azy):=by
 let c  :=aa3;refine aY λb f g h a=>?_
 unfold azy at a;split at a
 ·let ⟨d,e⟩:=eN a;exact c.okC<|(aoj<|bt d).trans e
 ·cases a
theorem PE D:(ints D).map j4=D:=by induction D with|nil=>rfl|cons a l b=>rw[XU,ox,b]<;>rfl
theorem XV D:Mi (ints D)=ints (o7 D):=by unfold Mi;rw[PE]
def aqQ  :=aU f61
def afq :Code:=cL (cL (cR (cL (cR (cR (cR (cR (cR (cR aqQ)))))))))
def azz :Code:=cR (cR (cR (cR (cR (cR (cR aqQ))))))
def lq :Cfg:=⟨54,6,0,[(9,[1,10,36,37,38])],bc⟩
def PF  :=UJ.add 86<|ay azy
theorem afr :PF.Good:=vv.add aok
theorem azA (d:af) q:aB PF f61 6 [(9,[1,10,36,37,38])] [.d (.slice aa) d,I q] [] ah=bif d.length<=9223372036854775807 then bif aC d !=0 then ak [.nils,I<|aC d]else bif q<0 then ak [.nils,I 1]else bif q>=aN d then ak [.nils,I 1]else bif d.length<=9223372036854775807 then bif aC d !=0 then (if 0<=bd d.length/\bd d.length<=4294967296 then ar (eo (bd d.length).toNat 0)else a6).bind λa=>(hlp PF lq) afq _ ⟨az 6 [(1,I q),(10,.os 0 0),(36,.nils),(37,I 0),(38,I 0)],[(0,.arr 3 aa 0 a8 a)],1⟩ (aI 0<|aL PF lq [9] (hlp PF lq) azz<|aV prog 0 f61.results.toList ah)else (if 0<=bd d.length/\bd d.length<=4294967296 then ar (eo (bd d.length).toNat 0)else a6).bind λa=>(hlp PF lq) afq _ ⟨az 6 [(1,I q),(10,.os 0 0),(36,.os 1 0),(37,I<| .ofNat (Mi d).length),(38,I 0)],[(0,.arr 3 aa 0 a8 a),(1,.arr 3 aa 0 a8<|Mi d)],2⟩ (aI 0<|aL PF lq [9] (hlp PF lq) azz<|aV prog 0 f61.results.toList ah)else a6 else a6:=(aW [9] lq rfl).trans<|by obtain⟨b,h⟩:=aM PF lq;rw[h];kernel_rfl
def aol (q i:Int)(a S:af):LSt:=⟨az 6 [(1,I q),(10,.os 0 0),(36,.os 1 0),(37,I<| .ofNat S.length),(38,I i)],[(0,.arr 3 aa 0 a8 a),(1,.arr 3 aa 0 a8 S)],2⟩
theorem afs q i a S n {R} (k:AEx->LSt->Option R):lp PF lq afq (n+1) (aol q i a S) k=bif i<.ofNat S.length then (idx S i).bind λf=>(S[i.toNat]?).bind λb=>(if b=0 then a6 else ar<|i64.wrap<|q.tdiv b).bind λc=>(idx a i).bind λg=>(fR a i.toNat c).bind λd=>(if b=0 then a6 else ar<|q.tmod b).bind λe=>lp PF lq afq n (aol e (i64.wrap<|i+1) d S) k else k (.exit 0) ⟨az 6 [(1,I q),(10,.os 0 0),(36,.os 1 0),(37,I<| .ofNat S.length),(38,I i),(39,B a8)],[(0,.arr 3 aa 0 a8 a),(1,.arr 3 aa 0 a8 S)],2⟩:=by kernel_rfl
noncomputable def KCr  :=aI 0<|aL PF lq [9] (hlp PF lq) azz<|aV prog 0 f61.results.toList ah
theorem azB q i l a S:KCr (.exit 0) ⟨az 6 [(1,I q),(10,.os 0 0),(36,.os 1 0),(37,I l),(38,I i),(39,B a8)],(aol q i a S).hp,2⟩=ar (.ret [.os 0 0,I 0],[(0,.arr 3 aa 0 a8 a)]):=by kernel_rfl
def yW  :=aU f24
def uG :Code:=cL (cL (cR (cL (cR (cR (cR (cR (cR (cR (cR (cR yW)))))))))))
def C4 :Code:=cL (cL (cR (cL (cR (cR (cR (cR (cL (cL (cR (cR (cL (cL (cR (cL (cR (cR (cR (cR (cR (cR (cR (cR yW)))))))))))))))))))))))
def aGV :Code:=cR (cR (cR (cR (cR (cL (cL (cR (cR (cL (cL (cR (cL (cR (cR (cR (cR (cR (cR (cR (cR yW))))))))))))))))))))
def aGW :Code:=cR (cR (cR (cL (cL (cR (cL (cR (cR (cR (cR (cR (cR (cR (cR yW))))))))))))))
def aGX :Code:=cL (cR (cR (cR (cR (cL (cL (cR (cR (cL (cL (cR (cL (cR (cR (cR (cR (cL (cL (cR (cR (cL (cL (cR (cL (cR (cR (cR (cR (cR (cR (cR (cR yW))))))))))))))))))))))))))))))))
def aGY :Code:=cR (cR (cR (cL (cL (cR (cL (cR (cR (cR (cR (cL (cL (cR (cR (cL (cL (cR (cL (cR (cR (cR (cR (cR (cR (cR (cR yW))))))))))))))))))))))))))
def bY :Cfg:=⟨164,8,0,[(9,[1,2,7,8,9,11,12,13,16,69,70]),(15,[1,2,7,8,9,11,12,13,16,17,18,20,21,69,70,82,83]),(20,[0,1,2,3,9,21,23,24,25,32,65,77,97,100,108,117,131,132,133,134,135,136,137,138,139,140,141,142,143,144])],bc⟩
theorem afu :∀(c) (a b:af) (q n),(∀x∈c,1<=x)->bo c<=65536->q<bo c->b.length=a.length->a.length+c.length<=6->c.length<n->
  lp PF lq afq n (aol q a.length (a++eo c.length 0) (b++ints (o7 c))) KCr=ar (.ret [.os 0 0,I 0],[(0,.arr 3 aa 0 a8 (a++ints (xV c q)))])
 |[],a,b,q,n,_,_,_,e,j,k=>by obtain⟨n,rfl⟩:∃f,n=f+1:=⟨n-1,by omega⟩;rw[show ints (o7 [])=[]from rfl,show eo ([]:List Nat).length (0:Int)=[]from rfl,eT,eT,afs,cq (show¬((a.length:Nat))<bd b.length by simp only[aK];omega),al,show ints (xV [] q)=[]from rfl,eT];exact azB _ _ _ _ _
 |d::r,a,b,q,n,l,s,t,e,j,k=>by
  obtain⟨n,rfl⟩:∃f,n=f+1:=⟨n-1,by omega⟩;have u:=l d (by simp);have m:∀x∈r,1<=x:=λx v=>l x (by simp[v])
  have o:=xW m;have D:d*bo r<=65536:=s;have g  :=t;have E:bo r<=d*bo r:=xu _ u;have h  :=w5 (by rw[vr];exact g);have w:d<=d*bo r:=oy _ o;simp only[bs]at j k;have key:=afu r (a++[((q/bo r:Nat):Int)]) (b++[((bo r:Nat):Int)]) (q % bo r) n m (by omega) (WU _ o) (by rw[bK,bK,e]<;>rfl) (by rw[bK,eS];omega) (by omega);have y:b++ints (o7 (d::r))=b++((bo r:Nat):Int)::ints (o7 r):=rfl;have A:a++eo (d::r).length 0=a++0::eo r.length 0:=rfl;have g1:idx (b++((bo r:Nat):Int)::ints (o7 r)) (bd a.length)=ar ((bo r:Nat):Int):=by rw[←e];exact sT
  have i:(b++((bo r:Nat):Int)::ints (o7 r))[(bd a.length).toNat]?=ar ((bo r:Nat):Int):=by rw[←e];exact SS
  have g2:idx (a++0::eo r.length 0) (bd a.length)=ar 0:=sT;have g3:fR (a++0::eo r.length 0) (bd a.length).toNat ((q/bo r:Nat):Int)=ar (a++((q/bo r:Nat):Int)::eo r.length 0):=Ib;have B:i64.wrap ((q:Int).tdiv ((bo r:Nat):Int))=((q/bo r:Nat):Int):=by rw[show (q:Int).tdiv ((bo r:Nat):Int)=((q/bo r:Nat):Int)from rfl];clear key;generalize q/bo r=z at h⊢;exact aH (by omega) (by omega)
  have C:i64.wrap (bd a.length+1)=((a.length+1:Nat):Int):=by simp only[aK];rw[aH (by omega) (by omega)];omega
  have p:¬((bo r:Nat):Int)=0:=by omega
  rw[y,A,show ((a.length:Nat):Int)=bd a.length from rfl,afs,aF (show bd a.length<bd (b++((bo r:Nat):Int)::ints (o7 r)).length by rw[bK,bs];simp only[aK];omega),ai,g1,aw,i,aw,if_neg p,aw,g2,aw,B,g3,aw,if_neg p,aw,C,show (q:Int).tmod ((bo r:Nat):Int)=((q % bo r:Nat):Int)from rfl];simp only[gl,List.singleton_append,bK,eS]at key;exact key
theorem aom {d q}(a:aC d=0)(c:q<bo (d.map j4)):aB PF f61 6 [(9,[1,10,36,37,38])] [.d (.slice aa) d,I q] [] ah=ar (.ret [.os 0 0,I 0],[(0,.arr 3 aa 0 a8 (ints (xV (d.map j4) q)))]):=by
 let ⟨_,i,_,e⟩:=eL a;let ⟨D,eD,f,g,h,j⟩:=kv a;rw[←f]at c⊢;let b:aN d=bo D:=by rw[e,eD,ln]
 let k:fu=18446744073709551616:=rfl;rw[azA,aF<|(by omega:d.length<=9223372036854775807),a,cq<|(by omega:¬(q:Int)<0),b,cq<|(by omega:¬q>=((bo D:Nat):Int)),ai,show ((0:Int) !=0)=a8 from rfl,al,al,al,ai,al];rw[if_pos<|(by simp only[aK];omega:0<=bd _/\bd _<=4294967296),aw];let key:=afu D [] [] q fu g h c rfl (by rw[eO];omega)<|by omega
 rw[pb,pb,pb]at key;let e1:eo (bd d.length).toNat (0:Int)=eo _ 0:=by rw[eD,iW]<;>rfl
 let e2:Mi d=ints _:=by rw[eD,XV]
 rw[e1,e2];refine gp ?_ key;kernel_rfl
def azC :List AV->LHp->Tq
 |[.d zS d,.d zI q],[]=>.br (a7 (aC d=0/\0<=q/\q.toNat<bo (d.map j4))) (.leaf (.ret [.d (.slice aa) (ints (xV (d.map j4) q.toNat)),I 0]) []) .no
 |_,_=>.no
theorem aon :bq 61 (ay azC):=by
 let e:=bM (d:=6) (l:=[(9,[1,10,36,37,38])]) afr func61 call61;refine aY λb k m n a=>?_
 unfold azC at a;split at a
 ·let ⟨f,g⟩:=eN a
  let ⟨h,i,j⟩:=bt f;refine e.okBQ [.slice aa,aa]<|gp ?_ g
  let c:=aom h j;rw[kd i]at c;refine(congrArg _ c).trans ?_;rfl
 ·cases a
def kA F  :=((((g80.add 59<|ay Cb).add 27 aoe).add 63<|ay UL).add 61<|ay azC).add 110 F
theorem Mj {F}(a:bq 110 F):(kA F).Good:=((((B0.add mA).add Ia).add z6).add aon).add a
theorem azD F j l c e a x k f (b:af):aB (kA F) f24 8 [(9,[1,2,7,8,9,11,12,13,16,69,70]),(15,[1,2,7,8,9,11,12,13,16,17,18,20,21,69,70,82,83]),(20,[0,1,2,3,9,21,23,24,25,32,65,77,97,100,108,117,131,132,133,134,135,136,137,138,139,140,141,142,143,144])] [dU j l c e a,.d (.slice<|Y0)<|x::k::f,.d (.slice aa) b] [] ah=(idx k.2.1 2).bind λv0=>(idx k.2.1 3).bind λg=>bif C1 a x.2.1 then bif a.length<=9223372036854775807 then (idx k.2.1 1).bind λm=>(idx k.2.1 0).bind λn=>(if aS a iM 1=0 then a6 else ar<|i64.wrap<|P8 n<|aS a iM 1).bind λo=>bif b.length<=9223372036854775807 then (if 0<=aN b/\aN b<=4294967296 then ar (eo (aN b).toNat 0)else a6).bind λi=>(hlp (kA F) bY) uG _ ⟨az 8 [(1,.d Y0.slice<|x::k::f),(2,.d (aa).slice b),(7,.op 0 [] 0),(8,.op 1 [] 0),(9,.op 2 [] 0),(11,I m),(12,I<|i64.wrap<|v0*g),(13,I o),(16,.os 3 0),(69,I<| .ofNat i.length),(70,I 0)],[(0,.box<| .d Y0 x),(1,.box<| .d Y0 k),(2,.box<| .d Y4 (ec x.2.1 2 0,ec x.2.1 3 0,v0,g,[(aj a du [1,1]).getD 0 0,(aj a du [1,1]).getD 1 0],[(aj a dw [1,1]).getD 0 0,(aj a dw [1,1]).getD 1 0],(aj a cE [0,0,0,0]).getD 0 0,(aj a cE [0,0,0,0]).getD 1 0,i64.wrap<|ec x.2.1 0 0*ec x.2.1 1 0,i64.wrap<|ec x.2.1 2 0*ec x.2.1 3 0,bn)),(3,.arr 2 aa 0 a8 i)],4⟩ (aI 0<|aL (kA F) bY [9,15] (hlp (kA F) bY) (cR<|cR<|cR<|cR<|cR<|cR<|cR<|cR<|cR yW)<|aV prog 0 f24.results.toList ah)else a6 else a6 else a6:=(aW [9,15] bY rfl).trans<|by obtain⟨p,h⟩:=aM _ bY;rw[h];kernel_rfl
abbrev cu :=(Y0).den
def afv (x y:cu)(v:bN)(o:af):LHp:=[(0,.box<| .d _ x),(1,.box<| .d _ y),(2,.box<| .d Y4 v),(3,.arr 2 aa 0 a8 o)]
def zC (x y:cu)(c:List cu)(e:af)(v:bN)(a b f N i:Int)(o:af):LSt:=⟨az 8 [(1,.d (.slice _)<|x::y::c),(2,.d (.slice aa) e),(7,.op 0 [] 0),(8,.op 1 [] 0),(9,.op 2 [] 0),(11,I a),(12,I b),(13,I f),(16,.os 3 0),(69,I N),(70,I i)],afv x y v o,4⟩
theorem Ic F x y e c v a b f N i o n {R} (k:AEx->LSt->Option R):lp (kA F) bY uG (n+1) (zC x y e c v a b f N i o) k=bif i<N then bif aC c=0/\0<=i/\i.toNat<bo (Sp j4 c)then (idx (ints<|xV (Sp j4 c) i.toNat) 1).bind λg=>(hlp (kA F) bY) C4 _ ⟨az 8 [(1,.d Y0.slice<|x::y::e),(2,.d (aa).slice c),(7,.op 0 [] 0),(8,.op 1 [] 0),(9,.op 2 [] 0),(11,I a),(12,I b),(13,I f),(16,.os 3 0),(17,I i),(18,.d (aa).slice<|ints<|xV (Sp j4 c) i.toNat),(20,I g),(21,.op 4 [] 0),(69,I N),(70,I i),(82,I a),(83,I 0)],[(0,.box<| .d Y0 x),(1,.box<| .d Y0 y),(2,.box<| .d Y4 v),(3,.arr 2 aa 0 a8 o),(4,.box<|I 0)],5⟩ (aI 2<|aL (kA F) bY [9,15] (hlp (kA F) bY) aGV<|aI 1<|aL (kA F) bY [9,15] (hlp (kA F) bY) aGW<|lJ (kA F) bY [9,15] (hlp (kA F) bY) uG n k)else a6 else k (.exit 0) ⟨az 8 [(1,.d Y0.slice<|x::y::e),(2,.d (aa).slice c),(7,.op 0 [] 0),(8,.op 1 [] 0),(9,.op 2 [] 0),(11,I a),(12,I b),(13,I f),(16,.os 3 0),(69,I N),(70,I i),(71,B a8)],[(0,.box<| .d Y0 x),(1,.box<| .d Y0 y),(2,.box<| .d Y4 v),(3,.arr 2 aa 0 a8 o)],4⟩:=by rw[j9 [9,15]];obtain⟨j,h⟩:=aM _ bY;rw[h];kernel_rfl
def aGZ x y v o s  :=afv x y v o++[(4,.box<|I s)]
def Ie (x y:cu)(e:List cu)(f:af)(v:bN)(a b g N i:Int)(o c:af)(m h s:Int):LSt:=⟨az 8 [(1,.d (.slice _)<|x::y::e),(2,.d (.slice aa) f),(7,.op 0 [] 0),(8,.op 1 [] 0),(9,.op 2 [] 0),(11,I a),(12,I b),(13,I g),(16,.os 3 0),(17,I i),(18,.d (.slice aa) c),(20,I m),(21,.op 4 [] 0),(69,I N),(70,I i),(82,I a),(83,I h)],aGZ x y v o s,5⟩
theorem afw (k)(F)(x y)(l:List cu)(n)(v)(a b j N i)(o c)(m e s)(K:AEx->LSt->Option (aq×LHp)):exQ (kA F) bY k C4 (Ie x y l n v a b j N i o c m e s) K=bif a7 (e<a)then (idx c 0).bind λf=>(idx x.2.1 1).bind λg=>(if j=0 then a6 else ar (i64.wrap (m.tdiv j))).bind λh=>(if 0<=i64.wrap (i64.wrap (i64.wrap (i64.wrap (f*g)+i64.wrap (h*a))+e)*v.2.2.2.2.2.2.2.2.2.1)/\i64.wrap (i64.wrap (i64.wrap (i64.wrap (f*g)+i64.wrap (h*a))+e)*v.2.2.2.2.2.2.2.2.2.1)<=bd (bk x.2.2.1)/\bd (bk x.2.2.1)<=bd (bk x.2.2.1)then ar (fb (i64.wrap (i64.wrap (i64.wrap (i64.wrap (f*g)+i64.wrap (h*a))+e)*v.2.2.2.2.2.2.2.2.2.1)).toNat (gy (bd (bk x.2.2.1)).toNat x.2.2.1))else a6).bind λp=>(if (0:Int)<=0/\0<=v.2.2.2.2.2.2.2.2.2.1/\v.2.2.2.2.2.2.2.2.2.1<=bd p.length then ar (fb 0 (gy v.2.2.2.2.2.2.2.2.2.1.toNat p))else a6).bind λu=>(if 0<=i64.wrap (i64.wrap (i64.wrap (m*a)+e)*b)/\i64.wrap (i64.wrap (i64.wrap (m*a)+e)*b)<=bd (bk y.2.2.1)/\bd (bk y.2.2.1)<=bd (bk y.2.2.1)then ar (fb (i64.wrap (i64.wrap (i64.wrap (m*a)+e)*b)).toNat (gy (bd (bk y.2.2.1)).toNat y.2.2.1))else a6).bind λq=>(if (0:Int)<=0/\0<=b/\b<=bd q.length then ar (fb 0 (gy b.toNat q))else a6).bind λw=>(idx c 2).bind λr=>(idx c 3).bind λt=>k aGX _ {fr:=az 8 [(1,eb Y0.slice (x::y::l)),(2,eb (aa).slice n),(7,mm 0 [] 0),(8,mm 1 [] 0),(9,mm 2 [] 0),(11,I a),(12,I b),(13,I j),(16,mq 3 0),(17,I i),(18,eb (aa).slice c),(20,I m),(21,mm 4 [] 0),(22,I e),(23,mm 5 [] 0),(24,mm 6 [] 0),(69,I N),(70,I i),(82,I a),(83,I e),(84,B bc),(85,I e),(86,mm 0 [2] 2),(87,eb (aa).slice x.2.2.1),(88,eb (aa).slice c),(89,Zh (aa) f),(90,I f),(91,mm 0 [1] 1),(92,eb (aa).slice x.2.1),(93,Zh (aa) g),(94,I g),(95,I (i64.wrap (f*g))),(96,I m),(97,I j),(98,I h),(99,I a),(100,I (i64.wrap (h*a))),(101,I (i64.wrap (i64.wrap (f*g)+i64.wrap (h*a)))),(102,I e),(103,I (i64.wrap (i64.wrap (i64.wrap (f*g)+i64.wrap (h*a))+e))),(104,mm 2 [9] 11),(105,I v.2.2.2.2.2.2.2.2.2.1),(106,I (i64.wrap (i64.wrap (i64.wrap (i64.wrap (f*g)+i64.wrap (h*a))+e)*v.2.2.2.2.2.2.2.2.2.1))),(107,eb (aa).slice p),(108,mm 2 [9] 11),(109,I v.2.2.2.2.2.2.2.2.2.1),(110,eb (aa).slice u),(111,mm 1 [2] 2),(112,eb (aa).slice y.2.2.1),(113,I m),(114,I a),(115,I (i64.wrap (m*a))),(116,I e),(117,I (i64.wrap (i64.wrap (m*a)+e))),(118,I b),(119,I (i64.wrap (i64.wrap (i64.wrap (m*a)+e)*b))),(120,eb (aa).slice q),(121,I b),(122,eb (aa).slice w),(123,eb Y4 v),(124,eb (aa).slice c),(125,Zh (aa) r),(126,I r),(127,eb (aa).slice c),(128,Zh (aa) t),(129,I t),(130,AV.fn (Fn.func 110) [] [mm 7 [] 0,mm 8 [] 0,mm 9 [] 0])],hp:=[(7,au.box (eb Y4 v)),(8,au.box (I r)),(9,au.box (I t)),(6,au.box (eb (aa).slice w)),(6,au.box b5),(5,au.box (eb (aa).slice u)),(5,au.box b5),(0,au.box (eb Y0 x)),(1,au.box (eb Y0 y)),(2,au.box (eb Y4 v)),(3,au.arr 2 (aa) 0 a8 o),(4,au.box (I s))],nx:=10} (aI 4 (aI 3 (aj8 (kA F) bY k aGY K)))else K (AEx.exit 2) {fr:=az 8 [(1,eb Y0.slice (x::y::l)),(2,eb (aa).slice n),(7,mm 0 [] 0),(8,mm 1 [] 0),(9,mm 2 [] 0),(11,I a),(12,I b),(13,I j),(16,mq 3 0),(17,I i),(18,eb (aa).slice c),(20,I m),(21,mm 4 [] 0),(69,I N),(70,I i),(82,I a),(83,I e),(84,B a8)],hp:=[(0,au.box (eb Y0 x)),(1,au.box (eb Y0 y)),(2,au.box (eb Y4 v)),(3,au.arr 2 (aa) 0 a8 o),(4,au.box (I s))],nx:=5}:=by kernel_rfl
def cRf  :=aGX
def frR (x y:cu)(n:List cu)(p:af)(v:bN)(a b j N i:Int)(o c:af)(m e s f g h:Int)(q r t u:af)(k l:Int)  :=az 8 [(1,.d Y0.slice (x::y::n)),(2,.d (aa).slice p),(7,.op 0 [] 0),(8,.op 1 [] 0),(9,.op 2 [] 0),(11,I a),(12,I b),(13,I j),(16,mq 3 0),(17,I i),(18,.d (aa).slice c),(20,I m),(21,mm 4 [] 0),(22,I e),(23,.op 5 [] 0),(24,.op 6 [] 0),(69,I N),(70,I i),(82,I a),(83,I e),(84,B bc),(85,I e),(86,.op 0 [2] 2),(87,.d (aa).slice x.2.2.1),(88,eb (aa).slice c),(89,.ip (aa) f),(90,I f),(91,.op 0 [1] 1),(92,eb (aa).slice x.2.1),(93,.ip (aa) g),(94,I g),(95,I (i64.wrap (f*g))),(96,I m),(97,I j),(98,I h),(99,I a),(100,I (i64.wrap (h*a))),(101,I (i64.wrap (i64.wrap (f*g)+i64.wrap (h*a)))),(102,I e),(103,I (i64.wrap (i64.wrap (i64.wrap (f*g)+i64.wrap (h*a))+e))),(104,.op 2 [9] 11),(105,I v.2.2.2.2.2.2.2.2.2.1),(106,I (i64.wrap (i64.wrap (i64.wrap (i64.wrap (f*g)+i64.wrap (h*a))+e)*v.2.2.2.2.2.2.2.2.2.1))),(107,.d (aa).slice q),(108,.op 2 [9] 11),(109,I v.2.2.2.2.2.2.2.2.2.1),(110,.d (aa).slice r),(111,.op 1 [2] 2),(112,.d (aa).slice y.2.2.1),(113,I m),(114,I a),(115,I (i64.wrap (m*a))),(116,I e),(117,I (i64.wrap (i64.wrap (m*a)+e))),(118,I b),(119,I (i64.wrap (i64.wrap (i64.wrap (m*a)+e)*b))),(120,.d (aa).slice t),(121,I b),(122,eb (aa).slice u),(123,.d Y4 v),(124,.d (aa).slice c),(125,.ip (aa) k),(126,I k),(127,.d (aa).slice c),(128,.ip (aa) l),(129,I l),(130,.fn (.func 110) [] [.op 7 [] 0,.op 8 [] 0,.op 9 [] 0])]
def hpR (x y:cu)(j:List cu)(k:af)(v:bN)(a b l N i:Int)(o c:af)(m n s p q r:Int)(t e u f:af)(g h:Int):LHp:=[(7,.box<| .d ((aa).pair<|(aa).pair<|(aa).pair<|(aa).pair<|(rn 2<|aa).pair<|(rn 2<|aa).pair<|(aa).pair<|(aa).pair<|(aa).pair<|(aa).pair .unit) v),(8,.box<|I g),(9,.box<|I h),(6,.box<| .d (aa).slice f),(6,.box .nils),(5,.box<| .d (aa).slice e),(5,.box .nils),(0,.box<| .d ((aa).pair<|(aa).slice.pair<|(aa).slice.pair .unit) x),(1,.box<| .d ((aa).pair<|(aa).slice.pair<|(aa).slice.pair .unit) y),(2,au.box<|eb ((aa).pair<|(aa).pair<|(aa).pair<|(aa).pair<|(rn 2<|aa).pair<|(rn 2<|aa).pair<|(aa).pair<|(aa).pair<|(aa).pair<|(aa).pair eR) v),(3,au.arr 2 aa 0 a8 o),(4,au.box<|I s)]
def aG0 (x y:cu)(d:List cu)(e:af)(v:bN)(a b f N i:Int)(o c:af)(m g s h j k:Int)(l n p q:af)(r t:Int):LSt:=⟨frR x y d e v a b f N i o c m g s h j k l n p q r t,hpR x y d e v a b f N i o c m g s h j k l n p q r t,10⟩
def Ig  :=aGO bY cRf
def aG1 x y d e v a b f N i o c m g s h j k l n p q r t  :=oI ⟨frR x y d e v a b f N i o c m g s h j k l n p q r t,[],0⟩<|m7 bY Ig.assign
def XW (x y:cu)(d:List cu)(e:af)(v:bN)(a b f N i:Int)(o c:af)(m g s h j k:Int)(l n p q:af)(r t:Int):LHp:=(10,.rc (.loop Ig (aG1 x y d e v a b f N i o c m g s h j k l n p q r t) .ready))::hpR x y d e v a b f N i o c m g s h j k l n p q r t
def aJA (x y:cu)(a:List cu)(b:af) each fc m ch v3  :=[(1,.d (.slice _)<|x::y::a),(2,.d (.slice aa) b),(9,.op 6 [] 0),(21,.op 5 [] 0),(23,.op 4 [] 0),(24,.op 3 [] 0),(97,I fc),(100,I<|i64.wrap<|v3*each),(108,.op 6 [9] 11),(117,I<|i64.wrap<|i64.wrap (m*each)+ch)]
def SU (x y:cu)(b:List cu)(c:af)(v:bN)(a e m f g:Int)(i j:af)(h w s:Int):LHp:=[(0,.box (I w)),(1,.box (I h)),(2,.box (afa v)),(3,.box (.d (.slice aa) j)),(4,.box (.d (.slice aa) i)),(5,.box (I s)),(6,.box (afa v)),(7,.rc (.loop Ig (aJA x y b c a e m f g) .ready))]
theorem azF F x y d e v a b f N i o c m g s q r h t j u l n p {R} (k:AEx->LSt->Option R):exC (kA F) bY cRf (aG0 x y d e v a b f N i o c m g s q r h t j u l n p) k=
  F.run [.ref 7,.op 2 [] 0,.op 1 [] 0,.op 0 [] 0] (SU x y d e v a f m g h j l n p s) (Rh [9,8,7,6,5,4,2,10] (XW x y d e v a b f N i o c m g s q r h t j u l n p) 11 (rfK (frR x y d e v a b f N i o c m g s q r h t j u l n p) (XW x y d e v a b f N i o c m g s q r h t j u l n p) 10 k)<|rfP (frR x y d e v a b f N i o c m g s q r h t j u l n p) (XW x y d e v a b f N i o c m g s q r h t j u l n p) 10 k):=by kernel_rfl
def Ih x y  :=bif (b8.format.read<|fop .mul .f32 (aG .f32 (u32.wrap x).toNat)<|aG .f32 (u32.wrap y).toNat).order (b8.format.read<|fop .mul .f32 (aG .f32 (u32.wrap x).toNat)<|aG .f32 (u32.wrap y).toNat) !=ar .eq then ak [I 2143289344]else bif lG .f32 (fop .mul .f32 (aG .f32 (u32.wrap x).toNat)<|aG .f32 (u32.wrap y).toNat)then a6 else ak [I<|i64.wrap<| .ofNat<|fop .mul .f32 (aG .f32 (u32.wrap x).toNat)<|aG .f32 (u32.wrap y).toNat]
theorem azG x y:aB UJ f63 5 [] [.d .str Uy,I x,I y] [] ah=bif !aQ 1 x then ak [I 0]else bif !aQ 1 y then ak [I 0]else bif (b8.format.read<|aG .f32 (u32.wrap x).toNat).order (b8.format.read<|aG .f32 (u32.wrap x).toNat) !=ar .eq then Ih x y else Ih x y:=by kernel_rfl
theorem aoo x y:aB UJ f63 5 [] [.d .str Uy,I x,I y] [] ah=ar (.ret [I<|dO .mul x y],[]):=by
 rw[azG];let h:=zZ .mul x y;unfold dO cw;cases aQ 1 x with
 |false=>rfl
 |true=>
  cases aQ 1 y with|false=>rfl|true=>cases _ !=ar Eb with|false=>exact h|true=>exact h
def azH :List AV->LHp->Tq
 |[.d .str a,.d zI x,.d zI y],[]=>bif a7 (a=[77,117,108])then .leaf (.ret [I (dO .mul x y)]) []else .no
 |_,_=>.no
theorem aop :bq 63 (ay azH):=by
 let e:=bM (d:=5) (l:=[]) vv func63 call63;refine aY λb g h i a=>?_
 unfold azH at a;split at a
 ·rename_i f x y;cases c:a7 (f=[77,117,108])with|false=>rw[c]at a;cases a|true=>obtain rfl:=bt c;cases a;exact e.okC<|aoo x y
 ·cases a
def aG2 a h  :=orT (azH a h)<|UL a h
theorem aoq :bq 63 (ay aG2):=lK aop z6
def gAm  :=g78.add 63<|ay aG2
theorem Mk :gAm.Good:=vw.add aoq
def Ii  :=gAm.withRound<|xi gAm []
theorem Ml :Ii.Good:=Mk.withRound (xj Mk cZ [])
def Ze (x y:cu)(b:List cu)(c:af)(v:bN)(a d m e g3:Int)(f g:af)(h w N i s:Int):LSt:=⟨az 7 [(0,.ref 7),(1,.op 2 [] 0),(2,.op 1 [] 0),(3,.op 0 [] 0),(12,I N),(13,I i)],SU x y b c v a d m e g3 f g h w s,16⟩
theorem azI x y b c v a d m e g3 f g h w s:aB Ii f110 7 [(1,[0,1,2,3,12,13])] [.ref 7,.op 2 [] 0,.op 1 [] 0,.op 0 [] 0] (SU x y b c v a d m e g3 f g h w s) ah=(hlp Ii dM) lV _ (Ze x y b c v a d m e g3 f g h w (i64.wrap<|v.2.2.1*v.2.2.2.1) 0 s) (aI 0<|aV prog 8 f110.results.toList ah):=(aW [1] dM rfl).trans<|by obtain⟨i,h⟩:=aM Ii dM;rw[h];kernel_rfl
theorem Mm x y e f v a g m j g3 b c h w N i s n {R} (k:AEx->LSt->Option R):lp Ii dM lV (n+1) (Ze x y e f v a g m j g3 b c h w N i s) k=bif i<N then (idx v.2.2.2.2.1 0).bind λA=>(v.2.2.2.2.1[0]?).bind λo=>(if v.2.2.2.1=0 then a6 else ar<|i64.wrap<|i.tdiv v.2.2.2.1).bind λp=>(idx v.2.2.2.2.2.1 0).bind λC=>(v.2.2.2.2.2.1[0]?).bind λq=>(idx v.2.2.2.2.1 1).bind λD=>(v.2.2.2.2.1[1]?).bind λr=>(if v.2.2.2.1=0 then a6 else ar<|i.tmod v.2.2.2.1).bind λt=>(idx v.2.2.2.2.2.1 1).bind λE=>(v.2.2.2.2.2.1[1]?).bind λl=>bif i64.wrap (i64.wrap (i64.wrap (h*o)-v.2.2.2.2.2.2.1)+i64.wrap (p*q))<0 then lp Ii dM lV n (Ze x y e f v a g m j g3 b c h w N (i64.wrap<|i+1) s) k else bif i64.wrap (i64.wrap (i64.wrap (h*o)-v.2.2.2.2.2.2.1)+i64.wrap (p*q))>=v.1 then lp Ii dM lV n (Ze x y e f v a g m j g3 b c h w N (i64.wrap<|i+1) s) k else bif i64.wrap (i64.wrap (i64.wrap (w*r)-v.2.2.2.2.2.2.2.1)+i64.wrap (t*l))<0 then lp Ii dM lV n (Ze x y e f v a g m j g3 b c h w N (i64.wrap<|i+1) s) k else bif i64.wrap (i64.wrap (i64.wrap (w*r)-v.2.2.2.2.2.2.2.1)+i64.wrap (t*l))>=v.2.1 then lp Ii dM lV n (Ze x y e f v a g m j g3 b c h w N (i64.wrap<|i+1) s) k else (idx b<|i64.wrap<|i64.wrap (i64.wrap (i64.wrap (i64.wrap (h*o)-v.2.2.2.2.2.2.1)+i64.wrap (p*q))*v.2.1)+i64.wrap (i64.wrap (i64.wrap (w*r)-v.2.2.2.2.2.2.2.1)+i64.wrap (t*l))).bind λz=>(idx c i).bind λu=>lp Ii dM lV n (Ze x y e f v a g m j g3 b c h w N (i64.wrap (i+1)) (dO .add s (dO .mul z u))) k else k (.exit 0) ⟨az 7 [(0,.ref 7),(1,.op 2 [] 0),(2,.op 1 [] 0),(3,.op 0 [] 0),(12,I N),(13,I i),(14,B a8)],[(0,.box (I w)),(1,.box (I h)),(2,.box (.d Y4 v)),(3,.box (.d (aa).slice c)),(4,.box (.d (aa).slice b)),(5,.box (I s)),(6,.box (.d Y4 v)),(7,.rc (.loop Ig [(1,.d Y0.slice (x::y::e)),(2,.d (aa).slice f),(9,.op 6 [] 0),(21,.op 5 [] 0),(23,.op 4 [] 0),(24,.op 3 [] 0),(97,I g),(100,I (i64.wrap (g3*a))),(108,.op 6 [9] 11),(117,I (i64.wrap (i64.wrap (m*a)+j)))] .ready))],16⟩:=by kernel_rfl
def cvN (a b:af)(v:bN)(h w:Int) s i  :=bif r6 v h w i then dO .add s (dO .mul (a.getD (qp v h w i).toNat 0)<|b.getD i 0)else s
def cvS a b v h w s  :=(hW (v.2.2.1*v.2.2.2.1).toNat).foldl (cvN a b v h w) s
theorem azK x y b c v a d m e g3 f g h w s:aB Ii f110 7 [(1,[0,1,2,3,12,13])] [.ref 7,.op 2 [] 0,.op 1 [] 0,.op 0 [] 0] (SU x y b c v a d m e g3 f g h w s) ah=lp Ii dM lV fu (Ze x y b c v a d m e g3 f g h w (i64.wrap<|v.2.2.1*v.2.2.2.1) 0 s) SK:=(azI x y b c v a d m e g3 f g h w s).trans<|by kernel_rfl
theorem afx x y b c v a d m e g3 f g h w N i s:SK (.exit 0) ⟨az 7 [(0,.ref 7),(1,.op 2 [] 0),(2,.op 1 [] 0),(3,.op 0 [] 0),(12,I N),(13,I i),(14,B a8)],SU x y b c v a d m e g3 f g h w s,16⟩=ar (.ret [],SU x y b c v a d m e g3 f g h w s):=by kernel_rfl
theorem aor {x y o r v b t m u g3 c d h w z}(k:r7 v c.length)(P:(v.2.2.1*v.2.2.2.1).toNat<=d.length):
  aB Ii f110 7 [(1,[0,1,2,3,12,13])] [.ref 7,.op 2 [] 0,.op 1 [] 0,.op 0 [] 0] (SU x y o r v b t m u g3 c d h w z) ah=ar (.ret [],SU x y o r v b t m u g3 c d h w<|cvS c d v h w z):=by
 let hm:maxLen=9223372036854775807:=by decide
 let hb  :=Qb k.kh.2 k.kw.2 k.kw.1 (by omega)
 let Q  :=acD k.kh.1 k.kw.1
 let e:i64.wrap (v.2.2.1*v.2.2.2.1)=((v.2.2.1*v.2.2.2.1).toNat:Nat):=by rw[aH (by omega) (by omega)];omega
 rw[azK,e]
 let S:∀(l:List Nat) (s:Int),bG (λs i=>.go (R:=aq×LHp) (cvN c d v h w s i)) (λs=>ar (.ret [],SU x y o r v b t m u g3 c d h w s)) l s=ar (.ret [],SU x y o r v b t m u g3 c d h w (l.foldl (cvN c d v h w) s)):=by intro l;induction l with|nil=>intro p;rfl|cons i l U=>intro p;exact U _
 refine(fq (N:=(v.2.2.1*v.2.2.2.1).toNat) (T:=λn s=>lp Ii dM lV n s SK) (st:=λi s=>Ze x y o r v b t m u g3 c d h w ((v.2.2.1*v.2.2.2.1).toNat:Nat) i s) (f:=λs i=>.go (cvN c d v h w s i)) (fin:=λs=>ar (.ret [],SU x y o r v b t m u g3 c d h w s)) (λ_ _=>True) (by omega) ?_ ?_ (a:=z) trivial).trans (S _ _)
 ·rintro i s n _ H V B
  refine .inl ⟨_,rfl,trivial,?_⟩;let A:v.2.2.2.1≠0:=λW=>by rw[W,Int.mul_zero]at H;simp at H
  let z:idx v.2.2.2.2.1 0=ar (v.2.2.2.2.1.getD 0 0):=aP (i:=0) (by rw[k.ss];omega);let X:idx v.2.2.2.2.1 1=ar (v.2.2.2.2.1.getD 1 0):=aP (i:=1) (by rw[k.ss];omega);let Y:idx v.2.2.2.2.2.1 0=ar (v.2.2.2.2.2.1.getD 0 0):=aP (i:=0) (by rw[k.ds];omega);let Z:idx v.2.2.2.2.2.1 1=ar (v.2.2.2.2.2.1.getD 1 0):=aP (i:=1) (by rw[k.ds];omega);let q:∀(l:af) (j:Nat),j<l.length->l[j]?=ar (l.getD j 0):=λl j hj=>by rw[kM,dv hj]<;>rfl
  let C:=q v.2.2.2.2.1 0 (by rw[k.ss];omega);let D:=q v.2.2.2.2.1 1 (by rw[k.ss];omega);let E:=q v.2.2.2.2.2.1 0 (by rw[k.ds];omega);let F:=q v.2.2.2.2.2.1 1 (by rw[k.ds];omega);let gw:idx d i=ar (d.getD i 0):=aP (by omega);let I:=Mm x y o r v b t m u g3 c d h w ((v.2.2.1*v.2.2.2.1).toNat:Nat) i s n SK;let ey:i64.wrap (i64.wrap (i64.wrap (h*v.2.2.2.2.1.getD 0 0)-v.2.2.2.2.2.2.1)+i64.wrap (i64.wrap ((i:Int).tdiv v.2.2.2.1)*v.2.2.2.2.2.1.getD 0 0))=IX v h i:=rfl;let ex:i64.wrap (i64.wrap (i64.wrap (w*v.2.2.2.2.1.getD 1 0)-v.2.2.2.2.2.2.2.1)+i64.wrap ((i:Int).tmod v.2.2.2.1*v.2.2.2.2.2.1.getD 1 0))=IY v w i:=rfl;let ea:i64.wrap (i64.wrap (IX v h i*v.2.1)+IY v w i)=qp v h w i:=rfl;let G:a7 (i<(((v.2.2.1*v.2.2.2.1).toNat:Nat):Int))=bc:=B;rw[G,ai,z,aw,C,aw,if_neg A,aw,Y,aw,E,aw,X,aw,D,aw,if_neg A,aw,Z,aw,F,aw,ey,ex,ea,V,gw]at I;let et:cvN c d v h w s i=bif r6 v h w i then dO .add s (dO .mul (c.getD (qp v h w i).toNat 0) (d.getD i 0))else s:=rfl
  let g:r6 v h w i=(! IX v h i<0&&(! IX v h i>=v.1&&(! IY v w i<0&& ! IY v w i>=v.2.1))):=rfl;let nX:r6 v h w i=bc->idx c (qp v h w i)=ar (c.getD (qp v h w i).toNat 0):=λJ=>Hk (Aq k J).1 (Aq k J).2
  show lp Ii dM lV (n+1) (Ze x y o r v b t m u g3 c d h w ((v.2.2.1*v.2.2.2.1).toNat:Nat) i s) SK=lp Ii dM lV n (Ze x y o r v b t m u g3 c d h w ((v.2.2.1*v.2.2.2.1).toNat:Nat) (i+1:Nat) (cvN c d v h w s i)) SK;refine I.trans ?_;rw[et];cases K:a7 (IX v h i<0)with
  |true=>rw[K]at g;rw[g]<;>rfl
  |false=>
   rw[K]at g;rw[al];cases L:a7 (IX v h i>=v.1)with
   |true=>rw[L]at g;rw[g]<;>rfl
   |false=>
    rw[L]at g;rw[al];cases M:a7 (IY v w i<0)with|true=>rw[M]at g;rw[g]<;>rfl|false=>rw[M]at g;rw[al];cases O:a7 (IY v w i>=v.2.1)with|true=>rw[O]at g;rw[g]<;>rfl|false=>rw[O]at g;let g:r6 v h w i=bc:=g;rw[al,nX g,aw,g,ai]<;>rfl
 ·rintro s n _ B
  let G:a7 (((v.2.2.1*v.2.2.2.1).toNat:Nat)<(((v.2.2.1*v.2.2.2.1).toNat:Nat):Int))=a8:=B;show lp Ii dM lV (n+1) (Ze x y o r v b t m u g3 c d h w ((v.2.2.1*v.2.2.2.1).toNat:Nat) ((v.2.2.1*v.2.2.2.1).toNat:Nat) s) SK=_;rw[Mm,G,al];exact afx _ _ _ _ _ _ _ _ _ _ _ _ _ _ _ _ _
noncomputable def gG  :=aA Ii f110 7 [(1,[0,1,2,3,12,13])]
theorem SV :bq 110 gG:=bM Ml func110 call110
theorem aos a b {R} (k:aq->LHp->Option R):gG.run a b k=aB Ii f110 7 [(1,[0,1,2,3,12,13])] a b k:=rfl
theorem afy {x y e f v a g m i g3 b c h w j}(l:r7 v b.length)(d:(v.2.2.1*v.2.2.2.1).toNat<=c.length){R}(k:aq->LHp->Option R):
  gG.run [.ref 7,.op 2 [] 0,.op 1 [] 0,.op 0 [] 0] (SU x y e f v a g m i g3 b c h w j) k=k (.ret []) (SU x y e f v a g m i g3 b c h w<|cvS b c v h w j):=
 (aos _ _ k).trans<|afd Ml (aor l d) k
theorem SW {E a b c n s R}{k:AEx->LSt->Option R}:lp E a c (n+1) s k=exC E a c s (lJ E a b (hlp E a) c n k):=by rw[←kU,←zW]<;>rfl
noncomputable def NXc (F:FnE)(n:Nat)(k:AEx->LSt->Option (aq×LHp))  :=lJ (kA F) bY [9,15] (hlp (kA F) bY) C4 n k
noncomputable def KRf (F:FnE)(K:AEx->LSt->Option (aq×LHp))  :=aI 4<|aI 3<|aj8 (kA F) bY (rfp (kA F) bY) aGY K
theorem aot F x y d e v a b f N i o c m g s r t h u j w l p q z n k:Rh [9,8,7,6,5,4,2,10] (XW x y d e v a b f N i o c m g s r t h u j w l p q) 11 (rfK (frR x y d e v a b f N i o c m g s r t h u j w l p q) (XW x y d e v a b f N i o c m g s r t h u j w l p q) 10<|KRf F<|NXc F n k) (rfP (frR x y d e v a b f N i o c m g s r t h u j w l p q) (XW x y d e v a b f N i o c m g s r t h u j w l p q) 10<|KRf F<|NXc F n k) (.ret []) (SU x y d e v a f m g h j l p q z)=lp (kA F) bY C4 n (Ie x y d e v a b f N i o c m (i64.wrap<|g+1) z) k:=by kernel_rfl
theorem slP {x:af}{n}(h:n<=x.length):(if 0<=((n:Nat):Int)/\(n:Nat)<=bd x.length/\.ofNat x.length<=bd x.length then ar (fb ((n:Nat):Int).toNat<|gy (bd x.length).toNat x)else a6)=ar (x.drop n):=by rw[if_pos ⟨by omega,by simp only[aK];omega,DC _⟩,b9];show ar (fb n<|gy x.length x)=_;rw[yf]
theorem slQ {x:af}{m}(h:m<=x.length):(if (0:Int)<=0/\0<=((m:Nat):Int)/\(m:Nat)<=bd x.length then ar (fb 0<|gy ((m:Nat):Int).toNat x)else a6)=ar (x.take m):=by rw[if_pos ⟨by omega,by omega,by simp only[aK];omega⟩,b9]<;>rfl
theorem XX {x y:cu}{j l v}{a g N i:Int}{o c:af}{m f s r t u w z:Int}{p q d b n:Nat}{k:AEx->LSt->Option (aq×LHp)}(C:a7 (f<a)=bc)(D:idx c 0=ar r)(E:idx x.2.1 1=ar t)(F:(if g=0 then a6 else ar (i64.wrap (m.tdiv g)))=ar u)(h:v.2.2.2.2.2.2.2.2.2.1=(d:Int))(A:i64.wrap (i64.wrap (i64.wrap (i64.wrap (r*t)+i64.wrap (u*a))+f)*d)=(p:Nat))(hp:p+d<=x.2.2.1.length)(B:i64.wrap (i64.wrap (i64.wrap (m*a)+f)*b)=(q:Nat))(P:q+b<=y.2.2.1.length)(G:idx c 2=ar w)(H:idx c 3=ar z)(I:r7 v d)(J:(v.2.2.1*v.2.2.2.1).toNat=b):
  lp (kA gG) bY C4 (n+1) (Ie x y j l v a b g N i o c m f s) k=lp (kA gG) bY C4 n (Ie x y j l v a b g N i o c m (i64.wrap (f+1)) (cvS ((x.2.2.1.drop p).take d) ((y.2.2.1.drop q).take b) v w z s)) k:=by
 rw[SW,←G1]
 refine(afw _ gG x y j l v a b g N i o c m f s _).trans ?_
 let K:d<=(x.2.2.1.drop p).length:=by rw[km];omega
 let L:b<=(y.2.2.1.drop q).length:=by rw[km];omega
 let M:((x.2.2.1.drop p).take d).length=d:=by rw[fl];omega
 let O:((y.2.2.1.drop q).take b).length=b:=by rw[fl];omega
 rw[C,ai,D,aw,E,aw,F,aw,h,A,slP<|by omega,aw,slQ K,aw,B,slP<|by omega,aw,slQ L,aw,G,aw,H,aw]
 let e:=azF gG x y j l v a b g N i o c m f s r t u (x.2.2.1.drop p) ((x.2.2.1.drop p).take d) (y.2.2.1.drop q) ((y.2.2.1.drop q).take b) w z<|KRf gG<|NXc gG n k
 rw[afy (by rw[M];exact I)<|by rw[O,J];exact ep _,aot]at e
 refine gp ?_ e
 unfold aG0 frR hpR rfp KRf cRf
 rw[h,A,B]<;>rfl
def C5 (x y:cu)(e:List cu)(f:af)(v:bN)(a b g N i:Int)(o c:af)(m h s:Int):LSt:=⟨az 8 [(1,.d (.slice _)<|x::y::e),(2,.d (.slice aa) f),(7,.op 0 [] 0),(8,.op 1 [] 0),(9,.op 2 [] 0),(11,I a),(12,I b),(13,I g),(16,.os 3 0),(17,I i),(18,.d (.slice aa) c),(20,I m),(21,.op 4 [] 0),(69,I N),(70,I i),(82,I a),(83,I h),(84,B a8)],aGZ x y v o s,5⟩
theorem aou {x y e f v a b g N i o c m d s n}{k:AEx->LSt->Option (aq×LHp)}(h:a7 (d<a)=a8):
  lp (kA gG) bY C4 (n+1) (Ie x y e f v a b g N i o c m d s) k=k (.exit 2) (C5 x y e f v a b g N i o c m d s):=by
 refine(afw _ gG x y e f v a b g N i o c m d s<|NXc gG n k).trans ?_
 rw[h,al]<;>rfl
def cvC (d e:af)(v:bN)(a b:Int) px pn q0 kn E s  :=(hW E).foldl (λs c=>cvS ((d.drop<|(px+c)*pn).take pn) ((e.drop<|(q0+c)*kn).take kn) v a b s) s
theorem afz {x y:cu}{w A v N i}{o c:af}{B C}{m q d b E h g:Nat}{k:AEx->LSt->Option (aq×LHp)}(K:idx c 0=ar (m:Int))(L:idx x.2.1 1=ar (q:Int))(M:1<=d)(F:v.2.2.2.2.2.2.2.2.2.1=(h:Int))(O:idx c 2=ar B)(P:idx c 3=ar C)(Q:r7 v h)(S:(v.2.2.1*v.2.2.2.1).toNat=g)
  (I:m*q+b/d*E+E<=2147483648) (J:(m*q+b/d*E+E)*h<=x.2.2.1.length) (b3:x.2.2.1.length<=2147483648) (U:b*E+E<=2147483648) (V:(b*E+E)*g<=y.2.2.1.length) (b6:y.2.2.1.length<=2147483648) (b7:b<=2147483648):
  lp (kA gG) bY C4 fu (Ie x y w A v E g d N i o c b 0 0) k=k (.exit 2) (C5 x y w A v E g d N i o c b E<|cvC x.2.2.1 y.2.2.1 v B C (m*q+b/d*E) h (b*E) g E 0):=by
 have hm:maxLen=9223372036854775807:=by decide
 have W:∀(l:List Nat) (s:Int),bG (λs e=>WD (R:=aq×LHp) (cvS ((x.2.2.1.drop ((m*q+b/d*E+e)*h)).take h) ((y.2.2.1.drop ((b*E+e)*g)).take g) v B C s)) (λs=>k (.exit 2) (C5 x y w A v E g d N i o c b E s)) l s=k (.exit 2) (C5 x y w A v E g d N i o c b E (l.foldl (λs e=>cvS ((x.2.2.1.drop ((m*q+b/d*E+e)*h)).take h) ((y.2.2.1.drop ((b*E+e)*g)).take g) v B C s) s)):=by intro l;induction l with|nil=>intro p;rfl|cons i l X=>intro p;exact X _
 refine(fq (N:=E) (T:=λn s=>lp (kA gG) bY C4 n s k) (st:=λe s=>Ie x y w A v E g d N i o c b e s) (f:=λs e=>WD (cvS ((x.2.2.1.drop ((m*q+b/d*E+e)*h)).take h) ((y.2.2.1.drop ((b*E+e)*g)).take g) v B C s)) (fin:=λs=>k (.exit 2) (C5 x y w A v E g d N i o c b E s)) (λ_ _=>True) (by omega) ?_ ?_ (a:=0) trivial).trans (W _ _)
 ·intro e s n _ hi Y D
  refine .inl ⟨_,rfl,trivial,?_⟩;have D:a7 (e<(E:Int))=bc:=D;have Z:b/d<=b:=Nat.div_le_self _ _;have w3:i64.wrap (((b:Nat):Int).tdiv ((d:Nat):Int))=((b/d:Nat):Int):=by rw[show ((b:Nat):Int).tdiv ((d:Nat):Int)=((b/d:Nat):Int)from(Int.ofNat_tdiv _ _).symm];generalize b/d=z at Z⊢;exact aH (by omega) (by omega)
  have h3:(if ((d:Nat):Int)=0 then a6 else ar (i64.wrap (((b:Nat):Int).tdiv ((d:Nat):Int))))=ar ((b/d:Nat):Int):=by rw[if_neg (by omega),w3]
  have r:(m*q+b/d*E+e+1)*h<=(m*q+b/d*E+E)*h:=ga _ (by omega);have t:(b*E+e+1)*g<=(b*E+E)*g:=ga _ (by omega);rw[WN]at r t;have hA:i64.wrap (i64.wrap (i64.wrap (i64.wrap (((m:Nat):Int)*((q:Nat):Int))+i64.wrap (((b/d:Nat):Int)*((E:Nat):Int)))+((e:Nat):Int))*(h:Int))=(((m*q+b/d*E+e)*h:Nat):Int):=by rw[←p4,←p4];generalize m*q=j at I J r⊢;generalize b/d*E=u at I J r⊢;have G:i64.wrap ((j:Nat):Int)=((j:Nat):Int):=aH (by omega) (by omega);have u2:i64.wrap ((u:Nat):Int)=((u:Nat):Int):=aH (by omega) (by omega);have u3:i64.wrap ((j+u:Nat):Int)=((j+u:Nat):Int):=aH (by omega) (by omega);have H:i64.wrap ((j+u+e:Nat):Int)=((j+u+e:Nat):Int):=aH (by omega) (by omega);rw[G,u2,←FY,u3,←FY,H,←p4];generalize (j+u+e)*h=z3 at r⊢;exact aH (by omega) (by omega)
  have hB:i64.wrap (i64.wrap (i64.wrap (((b:Nat):Int)*((E:Nat):Int))+((e:Nat):Int))*(g:Int))=(((b*E+e)*g:Nat):Int):=by rw[←p4];generalize b*E=j at U V t⊢;have G:i64.wrap ((j:Nat):Int)=((j:Nat):Int):=aH (by omega) (by omega);have H:i64.wrap ((j+e:Nat):Int)=((j+e:Nat):Int):=aH (by omega) (by omega);rw[G,←FY,H,←p4];generalize (j+e)*g=z3 at t⊢;exact aH (by omega) (by omega)
  refine(XX D K L h3 F hA (by omega) hB (by omega) O P Q S).trans ?_;rw[Y]
 ·intro s n _ D;exact aou D
noncomputable def KC1 (F:FnE)(n:Nat)(k:AEx->LSt->Option (aq×LHp))  :=aI 2<|aL (kA F) bY [9,15] (hlp (kA F) bY) aGV<|aI 1<|aL (kA F) bY [9,15] (hlp (kA F) bY) aGW<|lJ (kA F) bY [9,15] (hlp (kA F) bY) uG n k
theorem azM F x y e v a d f N i o c m h s n (k:AEx->LSt->Option (aq×LHp)):KC1 F n k (.exit 2) (C5 x y [] e v a d f N i o c m h s)=
  (idx o i).bind λ_=>(fR o i.toNat s).bind λg=>lp (kA F) bY uG n (zC x y [] e v a d f N (i64.wrap<|i+1) g) k:=
 gp (b:=(idx o i).bind λ_=>(fR o i.toNat s).bind λg=>lpH (kA F) bY [9,15] (hlp (kA F) bY) uG n (zC x y [] e v a d f N (i64.wrap<|i+1) g) k) (by kernel_rfl)<|by simp only[kU]
theorem azN F x y e f v a d g N i o c m j s n (k:AEx->LSt->Option (aq×LHp)):KC1 F n k (.exit 2) (C5 x y [e] f v a d g N i o c m j s)=
  (idx e.2.2.1 m).bind λb=>(idx o i).bind λ_=>(fR o i.toNat<|dO .add s b).bind λh=>lp (kA F) bY uG n (zC x y [e] f v a d g N (i64.wrap<|i+1) h) k:=
 gp (b:=(idx e.2.2.1 m).bind λb=>(idx o i).bind λ_=>(fR o i.toNat<|dO .add s b).bind λh=>lpH (kA F) bY [9,15] (hlp (kA F) bY) uG n (zC x y [e] f v a d g N (i64.wrap<|i+1) h) k) (by kernel_rfl)<|by simp only[kU]
theorem afA F x y d e v a b f N i o c m k:hlp (kA F) bY C4 (aq×LHp) (Ie x y d e v a b f N i o c m 0 0) k=lp (kA F) bY C4 fu (Ie x y d e v a b f N i o c m 0 0) k:=rfl
noncomputable def KCz F  :=aI 0<|aL (kA F) bY [9,15] (hlp (kA F) bY) (cR<|cR<|cR<|cR<|cR<|cR<|cR<|cR<|cR yW)<|aV prog 0 f24.results.toList ah
theorem aqR F (x y:cu) (ts:List cu) (a:af) v each kern fc N i o:fv (.slice aa) (KCz F (.exit 0) ⟨az 8 [(1,.d (.slice _)<|x::y::ts),(2,.d (.slice aa) a),(7,.op 0 [] 0),(8,.op 1 [] 0),(9,.op 2 [] 0),(11,I each),(12,I kern),(13,I fc),(16,.os 3 0),(69,I N),(70,I i),(71,B a8)],afv x y v o,4⟩)=ar (.ret [.d (.slice aa) o],[]):=by kernel_rfl
def sV (a:af) i j  :=(xV (a.map j4) i).getD j 0
def cvP d e a b c E f g i  :=sV a i 0*b+sV a i 1/c*E+E<=2147483648/\(sV a i 0*b+sV a i 1/c*E+E)*f<=d/\sV a i 1*E+E<=2147483648/\(sV a i 1*E+E)*g<=e/\sV a i 1<=2147483648
instance (xn yn:Nat) (ds:af) (X1 Pr E pn kn i:Nat):Decidable (cvP xn yn ds X1 Pr E pn kn i):=by unfold cvP;infer_instance
def xX b c v a d e E f g i  :=cvC b c v (sV a i 2) (sV a i 3) (sV a i 0*d+sV a i 1/e*E) f (sV a i 1*E) g E 0
def xC0 (x y:cu)(c:List cu)(e:af)(v:bN)(a b f N i:Int)(o:af):LSt:=⟨az 8 [(1,.d (.slice _)<|x::y::c),(2,.d (.slice aa) e),(7,.op 0 [] 0),(8,.op 1 [] 0),(9,.op 2 [] 0),(11,I a),(12,I b),(13,I f),(16,.os 3 0),(69,I N),(70,I i),(71,B a8)],afv x y v o,4⟩
theorem oA {b}(c:b.length=4)(i j:Nat)(d:j<4):idx (ints<|xV (b.map j4) i) j=ar ((sV b i j:Nat):Int):=by
 let a:(xV (b.map j4) i).length=4:=by rw[SR,vb];exact c
 let e:=aP<|by rw[iW,a];exact d
 rw[e];unfold sV ints;rw[kM,kM,List.getElem?_map];rw[dv<|by omega]<;>rfl
theorem FC {x y:cu}{b v}{d Pr E c kn N:Nat}{k:AEx->LSt->Option (aq×LHp)}(z:aC b=0)(A:bo (b.map j4)=N)(B:N<=65536)(h:b.length=4)(C:idx x.2.1 1=ar (d:Int))(j:1<=Pr)(m:v.2.2.2.2.2.2.2.2.2.1=(c:Int))(D:r7 v c)(F:(v.2.2.1*v.2.2.2.1).toNat=kn)(G:x.2.2.1.length<=2147483648)(H:y.2.2.1.length<=2147483648)(I:∀i,i<N->cvP x.2.2.1.length y.2.2.1.length b d Pr E c kn i){o}(J:o.length=N):
  lp (kA gG) bY uG fu (zC x y [] b v E kn Pr N 0 o) k=k (.exit 0) (xC0 x y [] b v E kn Pr N N<|(hW N).foldl (λo i=>o.set i<|xX x.2.2.1 y.2.2.1 v b d Pr E c kn i) o):=by
 let X:maxLen=9223372036854775807:=by decide
 let K:∀(l:List Nat) (o:af),bG (λo i=>.go (o.set i (xX x.2.2.1 y.2.2.1 v b d Pr E c kn i))) (λo=>k (.exit 0) (xC0 x y [] b v E kn Pr N N o)) l o=k (.exit 0) (xC0 x y [] b v E kn Pr N N (l.foldl (λo i=>o.set i (xX x.2.2.1 y.2.2.1 v b d Pr E c kn i)) o)):=by intro l;induction l with|nil=>intro p;rfl|cons i l L=>intro p;exact L _
 refine(fq (N:=N) (T:=λn s=>lp (kA gG) bY uG n s k) (st:=λi o=>zC x y [] b v E kn Pr N i o) (f:=λo i=>.go (o.set i (xX x.2.2.1 y.2.2.1 v b d Pr E c kn i))) (fin:=λo=>k (.exit 0) (xC0 x y [] b v E kn Pr N N o)) (λ_ o=>o.length=N) (by omega) ?_ ?_ (a:=o) J).trans (K _ _)
 ·intro i o n r t M e
  refine .inl ⟨_,rfl,by rw[WB];exact r,?_⟩;let e:a7 (i<(N:Int))=bc:=e;let ⟨O,P,Q,R,S⟩:=I i t;let U:a7 (aC b=0/\0<=(i:Int)/\(i:Int).toNat<bo (Sp j4 b))=bc:=aF ⟨z,by omega,by rw[A,b9];exact t⟩;let V:idx o i=ar (o.getD i 0):=aP (by omega);let W:fR o (i:Int).toNat (xX x.2.2.1 y.2.2.1 v b d Pr E c kn i)=ar (o.set i (xX x.2.2.1 y.2.2.1 v b d Pr E c kn i)):=by rw[b9];unfold fR;rw[show Nat.blt i o.length=bc from sc (by omega)]<;>rfl
  let u:=Ic gG x y [] b v E kn Pr N i o n k;rw[e,ai,U,ai,b9,show idx (ints (xV (Sp j4 b) i)) 1=ar ((sV b i 1:Nat):Int)from oA h i 1 (by omega),aw]at u;let w:=(afA gG x y [] b v E kn Pr N i o (ints (xV (Sp j4 b) i)) (sV b i 1:Nat) (KC1 gG n k)).trans (afz (k:=KC1 gG n k) (oA h i 0 (by omega)) C j m (oA h i 2 (by omega)) (oA h i 3 (by omega)) D F O P G Q R H S);rw[azM,V,aw]at w;let q:=u.trans w;refine q.trans ?_;let g:=W;unfold xX at g;rw[g,aw,M]<;>rfl
 ·intro o n r e;let e:a7 (N<(N:Int))=a8:=e;show lp (kA gG) bY uG (n+1) (zC x y [] b v E kn Pr N N o) k=_;rw[Ic,e,al]<;>rfl
def tH (b c d:af)(v:bN) a e f E g h i  :=dO .add (xX b c v a e f E g h i)<|d.getD (sV a i 1) 0
theorem C6 {x y c:cu}{b v}{e Pr E d kn N:Nat}{k:AEx->LSt->Option (aq×LHp)}(A:aC b=0)(B:bo (b.map j4)=N)(C:N<=65536)(j:b.length=4)(D:idx x.2.1 1=ar (e:Int))(m:1<=Pr)(q:v.2.2.2.2.2.2.2.2.2.1=(d:Int))(F:r7 v d)(G:(v.2.2.1*v.2.2.2.1).toNat=kn)(H:x.2.2.1.length<=2147483648)(I:y.2.2.1.length<=2147483648)(J:∀i,i<N->cvP x.2.2.1.length y.2.2.1.length b e Pr E d kn i/\sV b i 1<c.2.2.1.length){o}(K:o.length=N):
  lp (kA gG) bY uG fu (zC x y [c] b v E kn Pr N 0 o) k=k (.exit 0) (xC0 x y [c] b v E kn Pr N N<|(hW N).foldl (λo i=>o.set i<|tH x.2.2.1 y.2.2.1 c.2.2.1 v b e Pr E d kn i) o):=by
 let hm:maxLen=9223372036854775807:=by decide
 let L:∀(l:List Nat) (o:af),bG (λo i=>WD (R:=aq×LHp) (o.set i (tH x.2.2.1 y.2.2.1 c.2.2.1 v b e Pr E d kn i))) (λo=>k (.exit 0) (xC0 x y [c] b v E kn Pr N N o)) l o=k (.exit 0) (xC0 x y [c] b v E kn Pr N N (l.foldl (λo i=>o.set i (tH x.2.2.1 y.2.2.1 c.2.2.1 v b e Pr E d kn i)) o)):=by intro l;induction l with|nil=>intro p;rfl|cons i l M=>intro p;exact M _
 refine(fq (N:=N) (T:=λn s=>lp (kA gG) bY uG n s k) (st:=λi o=>zC x y [c] b v E kn Pr N i o) (f:=λo i=>WD (o.set i (tH x.2.2.1 y.2.2.1 c.2.2.1 v b e Pr E d kn i))) (fin:=λo=>k (.exit 0) (xC0 x y [c] b v E kn Pr N N o)) (λ_ o=>o.length=N) (by omega) ?_ ?_ (a:=o) K).trans (L _ _)
 ·intro i o n t u O g
  refine .inl ⟨_,rfl,by rw[WB];exact t,?_⟩;let g:a7 (i<(N:Int))=bc:=g;let ⟨⟨P,Q,S,U,V⟩,W⟩:=J i u;let X  :=aP W;let Y:a7 (aC b=0/\0<=(i:Int)/\(i:Int).toNat<bo (Sp j4 b))=bc:=aF ⟨A,by omega,by rw[B,b9];exact u⟩;let Z:idx o i=ar (o.getD i 0):=aP (by omega);let gs:fR o (i:Int).toNat (tH x.2.2.1 y.2.2.1 c.2.2.1 v b e Pr E d kn i)=ar (o.set i (tH x.2.2.1 y.2.2.1 c.2.2.1 v b e Pr E d kn i)):=by rw[b9];unfold fR;rw[show Nat.blt i o.length=bc from sc (by omega)]<;>rfl
  let w:=Ic gG x y [c] b v E kn Pr N i o n k;rw[g,ai,Y,ai,b9,show idx (ints (xV (Sp j4 b) i)) 1=ar ((sV b i 1:Nat):Int)from oA j i 1 (by omega),aw]at w;let z:=(afA gG x y [c] b v E kn Pr N i o (ints (xV (Sp j4 b) i)) (sV b i 1:Nat) (KC1 gG n k)).trans (afz (k:=KC1 gG n k) (oA j i 0 (by omega)) D m q (oA j i 2 (by omega)) (oA j i 3 (by omega)) F G P Q H S U I V);rw[azN,X,aw,Z,aw]at z;let r:=w.trans z;refine r.trans ?_;let h:=gs;unfold tH xX at h;rw[h,aw,O]<;>rfl
 ·intro o n t g;let g:a7 (N<(N:Int))=a8:=g;show lp (kA gG) bY uG (n+1) (zC x y [c] b v E kn Pr N N o) k=_;rw[Ic,g,al]<;>rfl
def oB :ao:=iM
def Ij (b:bu)(c a:af)  :=kL b c (a.getD 2 0)<|a.getD 3 0
def Mn (a:af)  :=(a.getD 1 0).toNat
def FD (a:bu)(b:af)  :=i64.wrap<|(b.getD 0 0).tdiv<|aS a oB 1
def Mo (a:af)  :=(a.getD 2 0*a.getD 3 0).toNat
def qK (a:af)  :=bo<|a.map j4
def ml a c b d e f  :=
 C1 a c&&((a.length<=9223372036854775807/\b.length=4/\d.length=4/\aC d=0)&&((aS a oB 1≠0/\1<=FD a b/\0<=b.getD 1 0/\0<=c.getD 1 0/\0<=(Ij a c b).2.2.2.2.2.2.2.2.2.1)&&(zA (Ij a c b) (Ij a c b).2.2.2.2.2.2.2.2.2.1.toNat&&(e<=2147483648/\f<=2147483648))))
def SX (b:bu)(c a d:af) xn yn  :=decide<|∀i,i<qK d->cvP xn yn d (c.getD 1 0).toNat (FD b a).toNat (Mn a) (Ij b c a).2.2.2.2.2.2.2.2.2.1.toNat (Mo a) i
theorem Ik {op nm ins out e}{x y:cu}{ts:List cu}{c}(g:ml e x.2.1 y.2.1 c x.2.2.1.length y.2.2.1.length=bc):
  aB (kA gG) f24 8 [(9,[1,2,7,8,9,11,12,13,16,69,70]),(15,[1,2,7,8,9,11,12,13,16,17,18,20,21,69,70,82,83]),(20,[0,1,2,3,9,21,23,24,25,32,65,77,97,100,108,117,131,132,133,134,135,136,137,138,139,140,141,142,143,144])] [dU op nm ins out e,.d (.slice _)<|x::y::ts,.d (.slice aa) c] [] ah=lp (kA gG) bY uG fu (zC x y ts c (Ij e x.2.1 y.2.1) (Mn y.2.1) (Mo y.2.1) (FD e y.2.1).toNat (qK c) 0<|eo (qK c) 0) (KCz gG):=by
 unfold ml at g
 simp only[aX,decide_eq_true_eq]at g
 let ⟨o,⟨p,M,N,l⟩,⟨q,r,s,O,t⟩,h,u,v⟩:=g
 let f:=sS h
 let w:idx y.2.1 0=ar (y.2.1.getD 0 0):=aP (i:=0)<|by omega
 let z:idx y.2.1 1=ar (y.2.1.getD 1 0):=aP (i:=1)<|by omega
 let A:idx y.2.1 2=ar (y.2.1.getD 2 0):=aP (i:=2)<|by omega
 let B:idx y.2.1 3=ar (y.2.1.getD 3 0):=aP (i:=3)<|by omega
 let C:iM=oB:=rfl
 let ⟨_,_,_,E⟩:=eL l
 let ⟨D,eD,m,P,F,Q⟩:=kv l
 let j:aN c=(qK c:Nat):=by
  unfold qK;rw[E,←m]
  conv=>lhs;rw[eD]
  exact ln D
 let R:qK c<=65536:=by unfold qK;rw[←m];exact F
 let key:∀a b:Int,0<=a->a<=65536->0<=b->b<=65536->i64.wrap (a*b)=((a*b).toNat:Nat):=λa b G H n I=>by
  let S  :=Qb H I n<|by omega
  let J  :=acD G n;rw[aH (by omega)<|by omega];omega
 let K:i64.wrap (y.2.1.getD 2 0*y.2.1.getD 3 0)=Mo y.2.1:=key _ _ f.kh.1 f.kh.2 f.kw.1 f.kw.2
 let L  :=(kd s).symm
 let k  :=(kd<|Int.le_trans (by decide) r).symm
 refine(azD gG op nm ins out e x y ts c).trans ?_
 rw[A,aw,B,aw,o,ai,aF p,ai,z,aw,w,aw,C,if_neg q,aw,aF<|show c.length<=9223372036854775807 by omega,ai,j,if_pos<|show 0<=((qK c:Nat):Int)/\((qK c:Nat):Int)<=4294967296 by omega,aw,b9,mb,K,L,show i64.wrap ((y.2.1.getD 0 0).tdiv<|aS e oB 1)=((FD e y.2.1).toNat:Int)from k]<;>rfl
def SY c d a b e f g  :=decide<|∀i,i<qK b->cvP e f b (d.getD 1 0).toNat (FD c a).toNat (Mn a) (Ij c d a).2.2.2.2.2.2.2.2.2.1.toNat (Mo a) i/\sV b i 1<g
def PG b c e a f d  :=(hW<|qK d).foldl (λ(o:af) i=>o.set i<|xX e f (Ij b c a) d (c.getD 1 0).toNat (FD b a).toNat (Mn a) (Ij b c a).2.2.2.2.2.2.2.2.2.1.toNat (Mo a) i)<|eo (qK d) 0
def PH b c e a f g d  :=(hW<|qK d).foldl (λ(o:af) i=>o.set i<|tH e f g (Ij b c a) d (c.getD 1 0).toNat (FD b a).toNat (Mn a) (Ij b c a).2.2.2.2.2.2.2.2.2.1.toNat (Mo a) i)<|eo (qK d) 0
def aG4 :List AV->LHp->Tq
 |[.d Y2 (_,_,_,_,a,_),.d (.slice Y0) [x,y],.d zS c],[]=>.br (ml a x.2.1 y.2.1 c (bk x.2.2.1) (bk y.2.2.1)&&SX a x.2.1 y.2.1 c (bk x.2.2.1) (bk y.2.2.1)) (dat (.slice aa) (PG a x.2.1 x.2.2.1 y.2.1 y.2.2.1 c)) .no
 |[.d Y2 (_,_,_,_,a,_),.d (.slice Y0) [x,y,b],.d zS c],[]=>.br (ml a x.2.1 y.2.1 c (bk x.2.2.1) (bk y.2.2.1)&&SY a x.2.1 y.2.1 c (bk x.2.2.1) (bk y.2.2.1) (bk b.2.2.1)) (dat (.slice aa) (PH a x.2.1 x.2.2.1 y.2.1 y.2.2.1 b.2.2.1 c)) .no
 |_,_=>.no
theorem SZ :bq 24 (ay aG4):=by
 let C:bq 24 (aA _ f24 8 [(9,[1,2,7,8,9,11,12,13,16,69,70]),(15,[1,2,7,8,9,11,12,13,16,17,18,20,21,69,70,82,83]),(20,[0,1,2,3,9,21,23,24,25,32,65,77,97,100,108,117,131,132,133,134,135,136,137,138,139,140,141,142,143,144])]):=kT (Mj SV) cZ func24 call24 (by decide +kernel) rfl;refine aY λF O P Q j=>?_
 unfold aG4 at j;split at j
 ·rename_i op nm ins out n u x y c
  let ⟨l,p⟩:=eN j;rw[aX]at l;let ⟨a,q⟩:=l;let r:=Ik (op:=op) (nm:=nm) (ins:=ins) (out:=out) (ts:=[]) a;unfold ml at a;simp only[aX,decide_eq_true_eq]at a;let ⟨d,⟨G,H,s,m⟩,⟨I,J,K,t,e⟩,f,g,h⟩:=a;let ⟨D,eD,v,L,w,M⟩:=kv m;let z:qK c<=65536:=by unfold qK;rw[←v];exact w
  let A  :=by unfold C1 at d;simp only[aX,decide_eq_true_eq]at d;exact d.2.2.2.2
  let g2  :=(aP (xs:=x.2.1) (i:=1)<|by omega).trans<|congrArg ar (kd t).symm
  let B:=r.trans<|FC (k:=KCz gG) (N:=qK c) (kn:=Mo y.2.1) (E:=Mn y.2.1) (Pr:=(FD n y.2.1).toNat) (o:=eo (qK c) 0) m rfl z s g2 (by omega) (kd e).symm (sS f) rfl g h (bt q) mb
  refine C.okO (.slice aa)<|gp ?_ p
  refine(congrArg (fv<| .slice aa) B).trans ?_;exact aqR _ _ _ _ _ _ _ _ _ _ _ _
 ·rename_i op nm ins out n u x y b c
  let ⟨l,p⟩:=eN j;rw[aX]at l;let ⟨a,q⟩:=l;let r:=Ik (op:=op) (nm:=nm) (ins:=ins) (out:=out) (ts:=[b]) a;unfold ml at a;simp only[aX,decide_eq_true_eq]at a;let ⟨d,⟨G,H,s,m⟩,⟨I,J,K,t,e⟩,f,g,h⟩:=a;let ⟨D,eD,v,L,w,M⟩:=kv m;let z:qK c<=65536:=by unfold qK;rw[←v];exact w
  let A  :=by unfold C1 at d;simp only[aX,decide_eq_true_eq]at d;exact d.2.2.2.2
  let g2  :=(aP (xs:=x.2.1) (i:=1)<|by omega).trans<|congrArg ar (kd t).symm
  let B:=r.trans<|C6 (k:=KCz gG) (N:=qK c) (kn:=Mo y.2.1) (E:=Mn y.2.1) (Pr:=(FD n y.2.1).toNat) (o:=eo (qK c) 0) m rfl z s g2 (by omega) (kd e).symm (sS f) rfl g h (bt q) mb
  refine C.okO (.slice aa)<|gp ?_ p
  refine(congrArg (fv<| .slice aa) B).trans ?_;exact aqR _ _ _ _ _ _ _ _ _ _ _ _
 ·cases j
def afB :List AV->LHp->Tq
 |[.d Y2 n,.d Y0 t,.d Y4 v,.d zS a],[]=>.br (mD (bk t.2.2.1) v a) (dat (.slice aa) (SQ n.1 t.2.2.1 v v.2.2.2.2.2.2.2.2.1.toNat v.2.2.2.2.2.2.2.2.2.1.toNat (a.getD 2 0).toNat (a.getD 3 0).toNat)) .no
 |_,_=>.no
theorem afC :bq 26 (ay afB):=by
 refine aY λb c d e a=>?_
 unfold afB at a;split at a
 ·exact aog.ok _ _ _ _ a
 ·cases a
def wu (a:bu)(d:List cu)(c:af):Bool:=match d with|[x,y]=>ml a x.2.1 y.2.1 c x.2.2.1.length y.2.2.1.length&&SX a x.2.1 y.2.1 c x.2.2.1.length y.2.2.1.length|[x,y,b]=>ml a x.2.1 y.2.1 c x.2.2.1.length y.2.2.1.length&&SY a x.2.1 y.2.1 c x.2.2.1.length y.2.2.1.length b.2.2.1.length|_=>a8
def yX (a:bu)(d:List cu)(c:af):af:=match d with|[x,y]=>PG a x.2.1 x.2.2.1 y.2.1 y.2.2.1 c|[x,y,b]=>PH a x.2.1 x.2.2.1 y.2.1 y.2.2.1 b.2.2.1 c|_=>[]
def afD :List AV->LHp->Tq
 |[.d Y2 n,.d (.slice Y0) a,.d zS b],[]=>.br (wu n.2.2.2.2.1 a b) (dat (.slice aa) (yX n.2.2.2.2.1 a b)) .no
 |_,_=>.no
theorem afE :bq 24 (ay afD):=by
 refine aY λc e f g a=>?_
 unfold afD at a;split at a
 ·rename_i n d h
  match d,a with|[x,y],a=>exact SZ.ok _ _ _ _ a|[x,y,b],a=>exact SZ.ok _ _ _ _ a|[],a=>cases a|[_],a=>cases a|_::_::_::_::_,a=>cases a
 ·cases a
noncomputable def gDo :Env:=((((g82.add 23 bgE).add 25 zt).add 27 aoe).add 26 (ay afB)).add 24 (ay afD)
theorem afF :gDo.Good:=((((nd.add ay9).add kc).add Ia).add afC).add afE
theorem xY (e g:ao)(a:List (ao))(b:ao)(c:bu)(x:cu)(f:List cu):aB gDo f11 7 [] [dU e g a b c,.d (.slice (Y0)) (x::f)] [] ah=bif wm (e,g,a,b,c,bn) (x::f)then bif ic (e,g,a,b,c,bn) (x::f) !=0 then ak [(I 0).pr (b5.pr (b5.pr (eb eR bn))),I (ic (e,g,a,b,c,bn) (x::f))]else bif e==jT then bif wu c (x::f) (eQ (e,g,a,b,c,bn) (x::f)).2.2.1 then ak [(I (eQ (e,g,a,b,c,bn) (x::f)).2.1).pr ((eb (aa).slice (eQ (e,g,a,b,c,bn) (x::f)).2.2.1).pr ((eb (aa).slice (yX c (x::f) (eQ (e,g,a,b,c,bn) (x::f)).2.2.1)).pr (eb eR bn))),I 0]else a6 else bif e==lL then bif aE c then (idx (aj c gX []) 0).bind λj=>(idx (aj c gX []) 1).bind λh=>bif C1 c x.2.1 then bif mD (bk x.2.2.1) (kL c x.2.1 j h) (eQ (e,g,a,b,c,bn) (x::f)).2.2.1 then ak [(I (eQ (e,g,a,b,c,bn) (x::f)).2.1).pr ((eb (aa).slice (eQ (e,g,a,b,c,bn) (x::f)).2.2.1).pr ((eb (aa).slice (SQ e x.2.2.1 (kL c x.2.1 j h) (i64.wrap (ec x.2.1 0 0*ec x.2.1 1 0)).toNat (i64.wrap (ec x.2.1 2 0*ec x.2.1 3 0)).toNat (j4 (ec (eQ (e,g,a,b,c,bn) (x::f)).2.2.1 2 0)) (j4 (ec (eQ (e,g,a,b,c,bn) (x::f)).2.2.1 3 0)))).pr (eb eR bn))),I 0]else a6 else a6 else a6 else bif e==qF then bif aE c then (idx (aj c gX []) 0).bind λh=>(idx (aj c gX []) 1).bind λi=>bif C1 c x.2.1 then bif mD (bk x.2.2.1) (kL c x.2.1 h i) (eQ (e,g,a,b,c,bn) (x::f)).2.2.1 then ak [(I (eQ (e,g,a,b,c,bn) (x::f)).2.1).pr ((eb (aa).slice (eQ (e,g,a,b,c,bn) (x::f)).2.2.1).pr ((eb (aa).slice (SQ e x.2.2.1 (kL c x.2.1 h i) (i64.wrap (ec x.2.1 0 0*ec x.2.1 1 0)).toNat (i64.wrap (ec x.2.1 2 0*ec x.2.1 3 0)).toNat (j4 (ec (eQ (e,g,a,b,c,bn) (x::f)).2.2.1 2 0)) (j4 (ec (eQ (e,g,a,b,c,bn) (x::f)).2.2.1 3 0)))).pr (eb eR bn))),I 0]else a6 else a6 else a6 else bif e==BM then (idx x.2.1 2).bind λh=>(idx x.2.1 3).bind λi=>bif C1 c x.2.1 then bif mD (bk x.2.2.1) (kL c x.2.1 h i) (eQ (e,g,a,b,c,bn) (x::f)).2.2.1 then ak [(I (eQ (e,g,a,b,c,bn) (x::f)).2.1).pr ((eb (aa).slice (eQ (e,g,a,b,c,bn) (x::f)).2.2.1).pr ((eb (aa).slice (SQ e x.2.2.1 (kL c x.2.1 h i) (i64.wrap (ec x.2.1 0 0*ec x.2.1 1 0)).toNat (i64.wrap (ec x.2.1 2 0*ec x.2.1 3 0)).toNat (j4 (ec (eQ (e,g,a,b,c,bn) (x::f)).2.2.1 2 0)) (j4 (ec (eQ (e,g,a,b,c,bn) (x::f)).2.2.1 3 0)))).pr (eb eR bn))),I 0]else a6 else a6 else ak [(I 0).pr (b5.pr (b5.pr (eb eR bn))),I 5]else a6:=by kernel_rfl
def Mp (r:Option (aq×LHp)):Option (cu×Int):=match r with|some (.ret [.d ((.pair (.int .i64) (.pair (.slice (.int .i64)) (.pair (.slice (.int .i64)) .unit)))) t,.d (.int .i64) e],[])=>ar (t,e)|_=>a6
theorem XY {r:Option (aq×LHp)}{p:cu×Int}(h:Mp r=ar p):r=ar (.ret [.d (Y0) p.1,I p.2],[]):=by
 unfold Mp at h;split at h
 ·cases h;rfl
 ·cases h
def Mq (n:dQ)(a:List cu)  :=Mp<|jH [Y0,aa]<|aB gDo f11 7 [] [.d Y2 n,.d (.slice _) a] [] ah
def doG n a  :=(Mq n a).isSome
def doV n a  :=((Mq n a).getD ((0,[],[],()),0)).1
def doC n a  :=((Mq n a).getD ((0,[],[],()),0)).2
def doF :List AV->LHp->Tq
 |[.d Y2 n,.d (.slice Y0) a],[]=>.br (doG n a) (.leaf (.ret [.d (Y0) (doV n a),I (doC n a)]) []) .no
 |_,_=>.no
theorem azP :bq 11 (ay doF):=by
 let f:=bM (d:=7) (l:=[]) afF func11 call11;refine aY λc i j k a=>?_
 unfold doF at a;split at a
 ·rename_i n g
  let ⟨b,h⟩:=eN a;refine f.okBQ [Y0,aa]<|gp ?_ h
  unfold doG at b;unfold doV doC;cases e:Mq n g with|none=>rw[e]at b;cases b|some p=>exact XY e
 ·cases a
def doE  :=fC [Y2,.slice<|Y0]<|ay doF
theorem azQ :bq 11 doE:=cn azP
theorem o8 g:∀(n) (o),n<=o.length->(hW n).foldl (λ(o:af) i=>o.set i<|g i) o=(hW n).map g++o.drop n
 |0,o,_=>rfl
 |n+1,o,h=>by
  let a:((hW n).map g).length=n:=by rw[vb,IJ]
  rw[List.range_succ,List.foldl_append,o8 g n o<|by omega,Cp,List.drop_eq_getElem_cons];show (Sp g _++o[n]::fb _ o).set n _=_;rw[List.set_append,a,if_neg<|Nat.lt_irrefl n,M7,gl]<;>rfl
theorem Mr b c e a f d:PG b c e a f d=(hW<|qK d).map λi=>xX e f (Ij b c a) d (c.getD 1 0).toNat (FD b a).toNat (Mn a) (Ij b c a).2.2.2.2.2.2.2.2.2.1.toNat (Mo a) i:=by unfold PG;rw[o8 _ _ _<|by rw[mb];exact ep _,ly<|by rw[mb];exact ep _,eT]
theorem Ms b c e a f g d:PH b c e a f g d=(hW<|qK d).map λi=>tH e f g (Ij b c a) d (c.getD 1 0).toNat (FD b a).toNat (Mn a) (Ij b c a).2.2.2.2.2.2.2.2.2.1.toNat (Mo a) i:=by unfold PH;rw[o8 _ _ _<|by rw[mb];exact ep _,ly<|by rw[mb];exact ep _,eT]
structure IZ (xs:List Int)(A B C D:Nat):Prop where
 eq:xs=[(A:Int),(B:Int),(C:Int),(D:Int)]
 a:1<=A
 b:1<=B
 c:1<=C
 d:1<=D
 p:A*(B*(C*D))<=65536
theorem Il {c}(h:aC c=0)(d:c.length=4):∃A B C D,IZ c A B C D:=by
 let ⟨L,e,_,a,b,_⟩:=kv h;let f  :=by rw[e,iW]at d;exact d
 match L,f,e,a,b with|[A,B,C,D],_,e,a,b=>simp only[bo,Qe]at b;exact⟨A,B,C,D,e,a A<|by simp,a B<|by simp,a C<|by simp,a D<|by simp,b⟩
theorem As {a b}(h:1<=b):a<=a*b:=oy a h
theorem Au {a b}(h:1<=b):a<=b*a:=xu a h
structure aJD (A B C D:Nat):Prop where
 a:A<=65536
 b:B<=65536
 c:C<=65536
 d:D<=65536
 ab:A*B<=65536
 cd:C*D<=65536
 bcd:B*(C*D)<=65536
theorem IZ.bnd {g:af}{A B C D}(h:IZ g A B C D):aJD A B C D:=by let p:=h.p;let f  :=ya h.c h.d;let e  :=ya h.b f;let e1:A<=A*(B*(C*D)):=As e;let e2:B*(C*D)<=A*(B*(C*D)):=Au h.a;let e3:B<=B*(C*D):=As f;let e4:C*D<=B*(C*D):=Au h.b;let e5:C<=C*D:=As h.d;let e6:D<=C*D:=Au h.c;let e7:A*B<=A*B*(C*D):=As f;rw[yk]at e7;exact⟨by omega,by omega,by omega,by omega,by omega,by omega,by omega⟩
theorem IZ.cnt {a:af}{A B C D}(h:IZ a A B C D):bo (a.map j4)=A*(B*(C*D)):=by rw[h.eq];simp only[ox,Dr,b9,bo,Qe]
theorem Mt {a b:Nat}(h:a*b<=65536):i64.wrap (a*b)=(a*b:Nat):=by let e  :=(p4 a b).symm;rw[e,aH (by omega)<|by omega]
theorem Im {a f g}(b:aE a=bc)(h:dp a f g=0):
  cA 2 1 100 (aj a du [1,1])=bc/\cA 4 0 100 (aj a cE [0,0,0,0])=bc/\cA 2 1 100 (aj a dw [1,1])=bc:=by
 let e:=bz b
 let i:=cN b [115,116,114,105,100,101,115] (d:=[1,1])<|by decide
 let j:=cN b [112,97,100,115] (d:=[0,0,0,0])<|by decide
 let k:=cN b [100,105,108,97,116,105,111,110,115] (d:=[1,1])<|by decide
 unfold dp LG pG at h
 rw[aF<|⟨by omega,i⟩,
  aF<|⟨by omega,j⟩,
  aF<|⟨by omega,k⟩]at h
 cases c:cA 2 1 100 _ with
 |false=>rw[c]at h;exact Cz h
 |true=>
  cases hp:cA 4 0 100 _ with|false=>rw[c,hp]at h;exact Cz h|true=>cases l:cA 2 1 100 _ with|false=>rw[c,hp,l]at h;exact Cz h|true=>exact⟨rfl,rfl,rfl⟩
theorem S0 {a b}(c:aE a=bc)(d:2<=(aj a ff [1,1]).length)(e:2<=(aj a ez [1,1]).length)(f:2<=(aj a bl [0,0,0,0]).length)(g:b.length=4):C1 a b=bc:=by unfold C1;rw[c,aF d,aF e,aF f,aF g]<;>rfl
theorem afG {a b d}(c:aE a=bc)(e:b.length=4)(h:dp a b d=0):C1 a b=bc:=by let ⟨f,g,i⟩:=Im c h;let e1:=fi f;let e2:=fi g;let e3:=fi i;simp only[aK]at e1 e2 e3;exact S0 c (by unfold ff;omega) (by unfold ez;omega) (by unfold bl;omega) e
theorem Mv {h}{a:af}{A B C D}(e:IZ a A B C D){f g}(i:0<=f/\f<=65536)(j:0<=g/\g<=65536):zA (kL h a f g) (C*D)=bc:=by
 let b:=e.bnd;let e2:a.getD 2 0=C:=by rw[e.eq]<;>rfl
 let e3:a.getD 3 0=D:=by rw[e.eq]<;>rfl
 let k:=b.c;let l:=b.d;unfold zA kL;rw[e2,e3,aF<|⟨rfl,rfl⟩,aF<|(by omega:0<=(C:Int)/\(C:Int)<=65536),aF<|(by omega:0<=(D:Int)/\(D:Int)<=65536),aF i,aF j,aF<|(by exact DC _:C*D<=((C*D:Nat):Int))]<;>rfl
theorem lr {ag}{a:af}{A B C D}(c:IZ a A B C D) d e:(kL ag a d e).2.2.2.2.2.2.2.2.1=(A*B:Nat)/\(kL ag a d e).2.2.2.2.2.2.2.2.2.1=(C*D:Nat):=by let b:=c.bnd;rw[c.eq];exact⟨Mt b.ab,Mt b.cd⟩
theorem pR {ag}{f a:af}{A B C D H W n}(e:IZ f A B C D)(d:IZ a A B H W)(g:n=A*(B*(C*D))){kh kw}(h:0<=kh/\kh<=65536)(i:0<=kw/\kw<=65536):mD n (kL ag f kh kw) a=bc:=by
 let b:=e.bnd;let c:=d.bnd;let ⟨j,k⟩:=lr (ag:=ag) e kh kw;let q:=e.p;let r:=d.p;let e2:a.getD 2 0=H:=by rw[d.eq]<;>rfl
 let e3:a.getD 3 0=W:=by rw[d.eq]<;>rfl
 let l:=b.ab;let m:=c.c;unfold mD
 rw[j,k,e2,e3,b9,b9,b9,b9,Mv e h i,aF<|u4 _,aF<|(by omega:0<=((A*B:Nat):Int)/\((A*B:Nat):Int)<=2147483648),
  aF<|(by rw[g,yk];omega:A*B*(C*D)<=n/\n<=2147483648),aF<|(by rw[d.eq]<;>rfl:a.length=4),aF<|(by omega:0<=(H:Int)/\(H:Int)<=2147483648),aF<|u4 W,
  aF<|(by rw[yk];omega:A*B*(H*W)<=2147483648)]
 rfl
structure Cvd (ag:bu)(vs:cm)(xs:List Int)(w:(Y3).den)(k0 k1 k2 k3:Int):Prop where
 i1:idx vs 1=ar w
 xl:xs.length=4
 ks:w.2.2.1=[k0,k1,k2,k3]
 g1:1<=aS ag iM 1
 g2:aS ag iM 1<=65536
 xg:(xs.getD 1 0).tmod (aS ag iM 1)=0
 kg:k0.tmod (aS ag iM 1)=0
 k1e:k1=i64.wrap ((xs.getD 1 0).tdiv (aS ag iM 1))
 third:vs.length<3\/∃u,idx vs 2=ar u/\u.2.2.1=[k0]
 wnd:dp ag xs [k2,k3]=0
 out:Cr ag vs xs=[xs.getD 0 0,k0,jV ag xs [k2,k3],jW ag xs [k2,k3]]
theorem r9 {e:Type}{l:List e}(h:l.length=4):∃a b c d,l=[a,b,c,d]:=by
 match l,h with|[a,b,c,d],_=>exact⟨a,b,c,d,rfl⟩
theorem S1 {b k p}(I:aE b=bc)(h:lQ b k p=bc):∃w f g c d,Cvd b k p w f g c d:=by
 let J:=bz I
 let a:∃l,oR b k p=ar (.inl l)/\Cr b k p=l:=by
  unfold lQ at h;unfold Cr;cases K:oR b k p with|none=>rw[K]at h;cases h|some r=>cases r with|inl l=>exact⟨l,rfl,rfl⟩|inr e=>rw[K]at h;cases h
 let ⟨l,a,t⟩:=a;unfold oR at a;cases e1:idx k 1 with
 |none=>rw[e1]at a;cases a
 |some w=>
  rw[e1,aw,aF<|show b.length<=9223372036854775807 by omega,ai]at a;cases z:bd p.length==4 with
  |false=>rw[z]at a;cases a
  |true=>
   rw[z,ai]at a;cases A:bd (bk w.2.2.1)==4 with
   |false=>rw[A]at a;cases a
   |true=>
    rw[A,ai]at a;let M:=eq_of_beq z;let N:=eq_of_beq A;simp only[aK]at M N;obtain⟨j,i,m,n,rfl⟩:=r9 (l:=p)<|by omega
    let ⟨f,g,c,d,L⟩:=r9 (l:=w.2.2.1)<|by omega
    cases B:a7 (aS b iM 1>=1)with
    |false=>rw[B]at a;cases a
    |true=>
     let g1:=bt B;rw[B,ai]at a;cases C:a7 (aS b iM 1<=65536)with
     |false=>rw[C]at a;cases a
     |true=>
      let g2:=bt C;let q:∀v:Int,(if aS b iM 1=0 then a6 else ar v)=ar v:=λv=>if_neg<|show¬aS b iM 1=0 by omega
      let O:idx [j,i,m,n] 0=ar j:=rfl;let P:idx [j,i,m,n] 1=ar i:=rfl;let Q:idx [f,g,c,d] 0=ar f:=rfl;let R:idx [f,g,c,d] 1=ar g:=rfl;let S:(if (0:Int)<=2/\2<=bd (bk [f,g,c,d])/\bd (bk [f,g,c,d])<=bd (bk [f,g,c,d])then ar (fb 2<|gy (bd<|bk [f,g,c,d]).toNat [f,g,c,d])else a6)=ar [c,d]:=rfl;let D:(if (0:Int)<=0/\(0:Int)<=1/\1<=bd (bk [f,g,c,d])then ar (fb 0<|gy 1 [f,g,c,d])else a6)=ar [f]:=rfl;rw[C,cy,al,L,S,D,O,P,Q,R]at a;simp only[aw,q]at a;let T:nq b [j,i,m,n] [c,d]=bc:=lh I _ _ _ _;rw[T,aF<|show [j,i,m,n].length=4/\[c,d].length=2 from⟨rfl,rfl⟩]at a;simp only[ai]at a;cases E:acM i (aS b iM 1)==0 with
      |false=>rw[E]at a;cases a
      |true=>
       rw[E,ai]at a;cases F:acM f (aS b iM 1)==0 with
       |false=>rw[F]at a;cases a
       |true=>
        rw[F,ai]at a;cases G:g==i64.wrap (P8 i<|aS b iM 1)with
        |false=>rw[G]at a;cases a
        |true=>
         rw[G,cy,al]at a
         let fin:(k.length<3\/∃u,idx k 2=ar u/\u.2.2.1=[f])->(bif dp b [j,i,m,n] [c,d]==0 then ar (.inl [j,f,jV b [j,i,m,n] [c,d],jW b [j,i,m,n] [c,d]])else ar<| .inr<|dp b [j,i,m,n] [c,d])=ar (Sum.inl l)->Cvd b k [j,i,m,n] w f g c d:=λU o=>by
          cases H:dp b [j,i,m,n] [c,d]==0 with
          |false=>rw[H]at o;cases o
          |true=>
           rw[H,ai]at o;injection o with o
           injection o with o
           exact⟨e1,rfl,L,g1,g2,eq_of_beq E,eq_of_beq F,eq_of_beq G,U,eq_of_beq H,t.trans o.symm⟩
         refine⟨w,f,g,c,d,?_⟩;cases x:a7 (bd k.length<3)with
         |true=>rw[x,ai]at a;let x:=bt x;simp only[aK]at x;exact fin (.inl<|by omega) a
         |false=>
          rw[x,al]at a;cases e2:idx k 2 with
          |none=>rw[e2]at a;cases a
          |some u=>
           rw[e2,aw]at a;cases y:a7 (bk u.2.2.1<=9223372036854775807)with|false=>rw[y]at a;cases a|true=>rw[y,ai]at a;cases s:u.2.2.1==[f]with|false=>rw[s]at a;cases a|true=>rw[s,cy,al]at a;exact fin (.inr ⟨u,e2,eq_of_beq s⟩) a
def zD (a:bu)(c b:af):(Y5).den:=(b,aj a ff [1,1],aj a bl [0,0,0,0],aj a ez [1,1],([jV a c b,jW a c b],()))
theorem FE {c:Type}{l:List c}(h:l.length=2):∃a b,l=[a,b]:=by
 match l,h with|[a,b],_=>exact⟨a,b,rfl⟩
theorem wv {c a b l}(h:cA c a b l=bc):cY a b l=bc:=by exact(aX _ _▸h).1
theorem PI {y}(i:aE y.2.2.2.2.1=bc){xs ks:af}(Q:xs.length=4)(T:ks.length=2):∃W,XJ y ks xs=ar (W,dp y.2.2.2.2.1 xs ks==0)/\(dp y.2.2.2.2.1 xs ks=0->W=zD y.2.2.2.2.1 xs ks)/\(dp y.2.2.2.2.1 xs ks=0\/dp y.2.2.2.2.1 xs ks=4):=by
 let r:=bz i;let s:=cN i ff (d:=[1,1]) (by decide);let t:=cN i bl (d:=[0,0,0,0]) (by decide);let u:=cN i ez (d:=[1,1]) (by decide);let ⟨v,x⟩:=uB y ff [1,1] 2 1 100 (uC i (by decide) 2 1 100);let ⟨A,B⟩:=uB y bl [0,0,0,0] 4 0 100 (uC i (by decide) 4 0 100);let ⟨C,E⟩:=uB y ez [1,1] 2 1 100 (uC i (by decide) 2 1 100);obtain⟨a,b,h,w,rfl⟩:=r9 Q;obtain⟨k,m,rfl⟩:=FE T;let e:=ayW y [k,m] [a,b,h,w]
 first|rw[show ([115,116,114,105,100,101,115]:ao)=ff from rfl,show ([112,97,100,115]:ao)=bl from rfl,show ([100,105,108,97,116,105,111,110,115]:ao)=ez from rfl,v,ai,x,A,ai,B,C,ai,E]at e|rw[rfl,rfl,rfl,v,ai,x,A,ai,B,C,ai,E]at e
 let F:pG y.2.2.2.2.1 ([a,b,h,w].getD 2 0) ([a,b,h,w].getD 3 0) ([k,m].getD 0 0) ([k,m].getD 1 0)=pG y.2.2.2.2.1 h w k m:=rfl;let f:=Eq.refl (pG y.2.2.2.2.1 h w k m)
 conv at f=>rhs;unfold pG
 first|rw[rfl,rfl,rfl,aF (⟨by omega,s⟩),aF (⟨by omega,t⟩),aF (⟨by omega,u⟩)]at f|rw[show (du:ao)=ff from rfl,show (cE:ao)=bl from rfl,show (dw:ao)=ez from rfl,aF (⟨by omega,s⟩),aF (⟨by omega,t⟩),aF (⟨by omega,u⟩)]at f
 unfold zD XJ dp jV jW LG;rw[F,e];clear e F;generalize y.2.2.2.2.1=n at*;cases o:cA 2 1 100 (aj n ff [1,1])with
 |false=>rw[o]at f;rw[f];exact⟨_,rfl,λh=>Cz h,.inr rfl⟩
 |true=>
  cases hp:cA 4 0 100 (aj n bl [0,0,0,0])with
  |false=>rw[o,hp]at f;rw[f];exact⟨_,rfl,λh=>Cz h,.inr rfl⟩
  |true=>
   cases p:cA 2 1 100 (aj n ez [1,1])with
   |false=>rw[o,hp,p]at f;rw[f];exact⟨_,rfl,λh=>Cz h,.inr rfl⟩
   |true=>
    rw[o,hp,p]at f;have G:=fi o;have H:=fi hp;have I:=fi p;simp only[aK]at G H I;have q:=lE o;rw[wv o,wv hp,wv p];generalize aj n ff [1,1]=S at f G q⊢;generalize aj n bl [0,0,0,0]=P at f H⊢;generalize aj n ez [1,1]=D at f I⊢;generalize pG n h w k m=R at f⊢;obtain⟨J,K,rfl⟩:=FE (l:=S) (by omega);obtain⟨U,V,X,Y,rfl⟩:=r9 (l:=P) (by omega);obtain⟨Z,r1,rfl⟩:=FE (l:=D) (by omega);have L:¬J=0:=by have:=(q J (by simp)).1;omega
    have M:¬K=0:=by have:=(q K (by simp)).1;omega
    have j:∀(a b:Int),idx [a,b] 0=ar a/\idx [a,b] 1=ar b/\[a,b][0]?=ar a/\[a,b][1]?=ar b:=λ_ _=>⟨rfl,rfl,rfl,rfl⟩
    have g:∀(a b c d:Int),idx [a,b,c,d] 0=ar a/\idx [a,b,c,d] 1=ar b/\idx [a,b,c,d] 2=ar c/\idx [a,b,c,d] 3=ar d/\[a,b,c,d][0]?=ar a/\[a,b,c,d][1]?=ar b/\[a,b,c,d][2]?=ar c/\[a,b,c,d][3]?=ar d:=λ_ _ _ _=>⟨rfl,rfl,rfl,rfl,rfl,rfl,rfl,rfl⟩
    have lt:∀z:Int,a7 (z<0)= !decide (z>=0):=λz=>by rw[vc];simp
    simp only[ai,(j _ _).1,(j _ _).2.1,(j _ _).2.2.1,(j _ _).2.2.2,(g _ _ _ _).1,(g _ _ _ _).2.1,(g _ _ _ _).2.2.1,(g _ _ _ _).2.2.2.1,(g _ _ _ _).2.2.2.2.1,(g _ _ _ _).2.2.2.2.2.1,(g _ _ _ _).2.2.2.2.2.2.1,(g _ _ _ _).2.2.2.2.2.2.2,aw,if_neg L,if_neg M]at f;simp only[ai,cy,al,(j _ _).1,(j _ _).2.1,(g _ _ _ _).1,(g _ _ _ _).2.1,(g _ _ _ _).2.2.1,(g _ _ _ _).2.2.2.1,aw,if_neg L,if_neg M,lt];generalize i64.wrap (i64.wrap (i64.wrap (i64.wrap (h+U)+X)-i64.wrap (Z*i64.wrap (k-1)))-1)=u0 at f⊢;generalize i64.wrap (i64.wrap (i64.wrap (i64.wrap (w+V)+Y)-i64.wrap (r1*i64.wrap (m-1)))-1)=u1 at f⊢;cases N:a7 (u0>=0)with|false=>rw[N]at f;rw[f];exact⟨_,rfl,λh=>Cz h,.inr rfl⟩|true=>rw[N]at f;cases O:a7 (u1>=0)with|false=>rw[O]at f;rw[f];exact⟨_,rfl,λh=>Cz h,.inr rfl⟩|true=>rw[O]at f;rw[f];exact⟨_,rfl,λ_=>rfl,.inl rfl⟩
def iX :ao:=iM
theorem afH {y}(O:aE y.2.2.2.2.1=bc) v w {r:cm} (hr:r.length<=1) (hd:∀u∈r,u.2.2.1.length<=maxLen):∃W,CY y (v::w::r)=ar (W,lQ y.2.2.2.2.1 (v::w::r) v.2.2.1)/\(lQ y.2.2.2.2.1 (v::w::r) v.2.2.1=bc->W=zD y.2.2.2.2.1 v.2.2.1 (w.2.2.1.drop 2)/\oR y.2.2.2.2.1 (v::w::r) v.2.2.1=ar (.inl [v.2.2.1.getD 0 0,w.2.2.1.getD 0 0,jV y.2.2.2.2.1 v.2.2.1 (w.2.2.1.drop 2),jW y.2.2.2.2.1 v.2.2.1 (w.2.2.1.drop 2)]))/\(lQ y.2.2.2.2.1 (v::w::r) v.2.2.1=a8->oR y.2.2.2.2.1 (v::w::r) v.2.2.1=ar (.inr 4)):=by
 have hm:maxLen=9223372036854775807:=by decide
 have V:=bz O;obtain⟨g1,g2⟩:=qk y iX 1 (ql (by omega));have e:=ayY y (v::w::r)
 first|rw[show idx (v::w::r) 0=ar v from rfl,aw,show idx (v::w::r) 1=ar w from rfl,aw,show ([103,114,111,117,112]:ao)=iX from rfl,g1,ai,g2]at e|rw[show idx (v::w::r) 0=ar v from rfl,aw,show idx (v::w::r) 1=ar w from rfl,aw,show (iM:ao)=iX from rfl,g1,ai,g2]at e
 have a:=Eq.refl (oR y.2.2.2.2.1 (v::w::r) v.2.2.1)
 conv at a=>rhs;unfold oR
 first|rw[show idx (v::w::r) 1=ar w from rfl,aw,show ([103,114,111,117,112]:ao)=iX from rfl,aF (show y.2.2.2.2.1.length<=9223372036854775807 by omega),ai]at a|rw[show idx (v::w::r) 1=ar w from rfl,aw,show (iM:ao)=iX from rfl,aF (show y.2.2.2.2.1.length<=9223372036854775807 by omega),ai]at a
 have o:∀{W:(Y5).den},oR y.2.2.2.2.1 (v::w::r) v.2.2.1=ar (.inr 4)->CY y (v::w::r)=ar (W,a8)->∃W,CY y (v::w::r)=ar (W,lQ y.2.2.2.2.1 (v::w::r) v.2.2.1)/\(lQ y.2.2.2.2.1 (v::w::r) v.2.2.1=bc->W=zD y.2.2.2.2.1 v.2.2.1 (w.2.2.1.drop 2)/\oR y.2.2.2.2.1 (v::w::r) v.2.2.1=ar (.inl [v.2.2.1.getD 0 0,w.2.2.1.getD 0 0,jV y.2.2.2.2.1 v.2.2.1 (w.2.2.1.drop 2),jW y.2.2.2.2.1 v.2.2.1 (w.2.2.1.drop 2)]))/\(lQ y.2.2.2.2.1 (v::w::r) v.2.2.1=a8->oR y.2.2.2.2.1 (v::w::r) v.2.2.1=ar (.inr 4)):=λ{W} s t=>by
  have P:lQ y.2.2.2.2.1 (v::w::r) v.2.2.1=a8:=by unfold lQ;rw[s]<;>rfl
  rw[P];exact⟨W,t,λh=>(by cases h),λ_=>s⟩
 have eC:∀{R},aB anZ f32 7 [] [.d Y2 y,.d (.slice Y3) (v::w::r)] [] ah=R->CY y (v::w::r)=bT [Y5,.bool] R:=λh=>by unfold CY;rw[h]
 replace e:=eC e;clear eC;obtain⟨x,z,xs,A⟩:=v;obtain⟨B,C,ks,D⟩:=w;simp only[]at e a o⊢;cases E:bd xs.length==4 with
 |false=>rw[E]at a;rw[bne,E]at e;exact o a (e.trans rfl)
 |true=>
 rw[E,ai]at a;rw[bne,E,cy,al]at e;cases F:bd ks.length==4 with
 |false=>rw[F]at a;rw[bne,F]at e;exact o a (e.trans rfl)
 |true=>
 rw[F,ai]at a;rw[bne,F,cy,al]at e;have X:=eq_of_beq E;have Y:=eq_of_beq F;simp only[aK]at X Y;obtain⟨g,i,k,m,rfl⟩:=r9 (l:=xs) (by omega);obtain⟨j,n,c,f,rfl⟩:=r9 (l:=ks) (by omega);clear X Y E F;cases J:a7 (aS y.2.2.2.2.1 iX 1>=1)with
 |false=>rw[J]at a;rw[show a7 (aS y.2.2.2.2.1 iX 1<1)=bc from aF (by have:=uQ J;omega)]at e;exact o a (e.trans rfl)
 |true=>
 have z1:=bt J;rw[J,ai]at a;rw[show a7 (aS y.2.2.2.2.1 iX 1<1)=a8 from cq (by omega),al]at e;cases K:a7 (aS y.2.2.2.2.1 iX 1<=65536)with
 |false=>rw[K]at a;rw[show a7 (aS y.2.2.2.2.1 iX 1>65536)=bc from aF (by have:=uQ K;omega)]at e;exact o a (e.trans rfl)
 |true=>
 have z2:=bt K;rw[show a7 (aS y.2.2.2.2.1 iX 1>65536)=a8 from cq (by omega),al]at e;have q:∀u:Int,(if aS y.2.2.2.2.1 iX 1=0 then a6 else ar u)=ar u:=λu=>if_neg (show¬aS y.2.2.2.2.1 iX 1=0 by omega)
 have a0:idx [g,i,k,m] 0=ar g:=rfl;have Z:idx [g,i,k,m] 1=ar i:=rfl;have a2:idx [j,n,c,f] 0=ar j:=rfl;have a3:idx [j,n,c,f] 1=ar n:=rfl;have a4:idx [j,n,c,f] 2=ar c:=rfl;have a5:idx [j,n,c,f] 3=ar f:=rfl;have Nb:(if (0:Int)<=2/\2<=bd (bk [j,n,c,f])/\bd (bk [j,n,c,f])<=bd (bk [j,n,c,f])then ar (fb 2 (gy (bd (bk [j,n,c,f])).toNat [j,n,c,f]))else a6)=ar [c,f]:=rfl;have Q:(if (0:Int)<=0/\(0:Int)<=1/\1<=bd (bk [j,n,c,f])then ar (fb 0 (gy 1 [j,n,c,f]))else a6)=ar [j]:=rfl;have hw:nq y.2.2.2.2.1 [g,i,k,m] [c,f]=bc:=lh O _ _ _ _;rw[K,cy,al,Nb,Q,a0,Z,a2,a3]at a;simp only[aw,q]at a;rw[hw,aF (show [g,i,k,m].length=4/\[c,f].length=2 from⟨rfl,rfl⟩)]at a;simp only[ai]at a;rw[Z,a2,a3,a4,a5]at e;simp only[aw,q,bne]at e;cases S:acM i (aS y.2.2.2.2.1 iX 1)==0 with
 |false=>rw[S]at a e;exact o a (e.trans rfl)
 |true=>
 rw[S,ai]at a;rw[S,cy,al]at e;cases T:acM j (aS y.2.2.2.2.1 iX 1)==0 with
 |false=>rw[T]at a e;exact o a (e.trans rfl)
 |true=>
 rw[T,ai]at a;rw[T,cy,al]at e;cases U:n==i64.wrap (P8 i (aS y.2.2.2.2.1 iX 1))with
 |false=>rw[U]at a e;exact o a (e.trans rfl)
 |true=>
 rw[U,cy,al]at a;rw[U,cy,al]at e;obtain⟨W,w1,w2,w3⟩:=PI O (xs:=[g,i,k,m]) (ks:=[c,f]) rfl rfl;obtain⟨u1,u2⟩:=ae1 y [c,f] [g,i,k,m] w1;rw[u1,ai,u2]at e
 have fin:oR y.2.2.2.2.1 ((x,z,[g,i,k,m],A)::(B,C,[j,n,c,f],D)::r) [g,i,k,m]=(bif dp y.2.2.2.2.1 [g,i,k,m] [c,f]==0 then ar (.inl [g,j,jV y.2.2.2.2.1 [g,i,k,m] [c,f],jW y.2.2.2.2.1 [g,i,k,m] [c,f]])else ar (.inr (dp y.2.2.2.2.1 [g,i,k,m] [c,f])))->CY y ((x,z,[g,i,k,m],A)::(B,C,[j,n,c,f],D)::r)=ar (W,dp y.2.2.2.2.1 [g,i,k,m] [c,f]==0)->_:=λs t=>by
  cases G:dp y.2.2.2.2.1 [g,i,k,m] [c,f]==0 with
  |false=>
   rw[G]at s t
   have h4:dp y.2.2.2.2.1 [g,i,k,m] [c,f]=4:=by
    rcases w3 with h|h
    ·rw[h]at G;cases G
    ·exact h
   rw[al,h4]at s;exact o s t
  |true=>
   rw[G,ai]at s;rw[G]at t;have P:lQ y.2.2.2.2.1 ((x,z,[g,i,k,m],A)::(B,C,[j,n,c,f],D)::r) [g,i,k,m]=bc:=by unfold lQ;rw[s]<;>rfl
   rw[P];exact⟨W,t,λ_=>⟨w2 (eq_of_beq G),s⟩,λh=>by cases h⟩
 cases r with
 |nil=>exact fin a (e.trans rfl)
 |cons u r=>
  cases r with
  |cons _ _=>simp only[bs]at hr;omega
  |nil=>
   have hu:=hd u (List.mem_singleton_self u);obtain⟨L,M,p,N⟩:=u;have a:oR y.2.2.2.2.1 ((x,z,[g,i,k,m],A)::(B,C,[j,n,c,f],D)::[(L,M,p,N)]) [g,i,k,m]=bif a7 (p.length<=9223372036854775807)then (bif !p==[j]then ar (.inr 4)else (bif dp y.2.2.2.2.1 [g,i,k,m] [c,f]==0 then ar (.inl [g,j,jV y.2.2.2.2.1 [g,i,k,m] [c,f],jW y.2.2.2.2.1 [g,i,k,m] [c,f]])else ar (.inr (dp y.2.2.2.2.1 [g,i,k,m] [c,f]))))else a6:=a
   rw[aF (show p.length<=9223372036854775807 from by have:p.length<=maxLen:=hu;omega),ai]at a;rw[show idx ((x,z,[g,i,k,m],A)::(B,C,[j,n,c,f],D)::[(L,M,p,N)]) 2=ar (L,M,p,N)from rfl,show (bd ((x,z,[g,i,k,m],A)::(B,C,[j,n,c,f],D)::[(L,M,p,N)]:cm).length==3)=bc from rfl,ai,aw]at e;cases p with
   |nil=>exact o (a.trans rfl) (e.trans rfl)
   |cons b p=>
    cases p with|cons b2 H=>rw[show (bd (b::b2::H).length==1)=a8 by rw[beq_eq_false_iff_ne];simp only[bs,aK];omega]at e;rw[show (b::b2::H==[j])=a8 by rw[beq_eq_false_iff_ne];simp]at a;exact o a (e.trans rfl)|nil=>rw[show (bd [b].length==1)=bc from rfl,cy,al,aw,show idx [b] 0=ar b from rfl,aw]at e;cases I:b==j with|false=>rw[I]at e;refine o (a.trans ?_) (e.trans rfl);rw[show ([b]==[j])=a8 by rw[beq_eq_false_iff_ne]at I⊢;intro h;injection h with h;exact I h]<;>rfl|true=>rw[I]at e;rw[show ([b]==[j])=bc by rw[eq_of_beq I];simp,cy,al]at a;exact fin a (e.trans rfl)
def plK ag xs  :=cA 2 1 100 (aj ag bZ [])&&(bd xs.length==4&&(dp ag xs (aj ag bZ [])==0&&mj (aj ag bZ []) 0 (aj ag kJ [])))
theorem FF b {ka kb} (c:1<=ka) (d:1<=kb):mj [ka,kb] 0 (aj b bl [0,0,0,0])=mj [ka,kb] 0 (aj b kJ []):=by unfold aj;rw[show bl=kJ from rfl];cases b.find? _ with|some a=>rfl|none=>show (0<ka&&(0<kb&&(0<ka&&(0<kb&&bc))))=bc;grind
theorem afI {y}(j:aE y.2.2.2.2.1=bc)(xs:af):∃W,Pz y xs=ar (W,plK y.2.2.2.2.1 xs)/\(plK y.2.2.2.2.1 xs=bc->W=zD y.2.2.2.2.1 xs (aj y.2.2.2.2.1 bZ [])):=by
 let ⟨n,o⟩:=uB y bZ [] 2 1 100<|uC j (by decide) 2 1 100
 let e:=ay1 y xs
 first|rw[show ([107,101,114,110,101,108,95,115,104,97,112,101]:ao)=bZ from rfl,n,ai,o]at e|rw[rfl,n,ai,o]at e
 unfold Pz plK;rw[e];clear e;cases k:cA 2 1 100 (aj y.2.2.2.2.1 bZ [])with
 |false=>exact⟨_,rfl,λh=>by cases h⟩
 |true=>
  rw[wv k,ai,cy,al,bne];cases s:bd xs.length==4 with
  |false=>exact⟨_,rfl,λh=>by cases h⟩
  |true=>
   let t:=eq_of_beq s;let u:=fi k;simp only[aK]at t u;let ⟨W,v,w,H⟩:=PI j (xs:=xs) (ks:=aj y.2.2.2.2.1 bZ []) (by omega)<|by omega
   let ⟨x,z⟩:=ae1 y (aj y.2.2.2.2.1 bZ []) xs v;rw[cy,al,x,ai,z];cases p:dp y.2.2.2.2.1 xs (aj y.2.2.2.2.1 bZ [])==0 with
   |false=>exact⟨_,rfl,λh=>by cases h⟩
   |true=>
    have A:=w<|eq_of_beq p
    subst A;let ⟨ka,kb,q⟩:=FE (l:=aj y.2.2.2.2.1 bZ [])<|by omega
    have m:=lE k;rw[q]at m;have B:=(m ka<|by simp).1;have C:=(m kb<|by simp).1;let ⟨_,D,_⟩:=Im j<|eq_of_beq p
    have E:=fi D;simp only[aK]at E;let ⟨c,d,f,g,hp⟩:=r9 (l:=aj y.2.2.2.2.1 bl [0,0,0,0])<|by unfold bl;omega
    have i:=FF y.2.2.2.2.1 B C;rw[hp]at i;have F:∀a b:Int,a7 (a>=b)= !decide (a<b):=λa b=>by rw[vc];simp
    have G:(zD y.2.2.2.2.1 xs<|aj y.2.2.2.2.1 bZ []).2.2.1=[c,d,f,g]:=hp;rw[cy,al,gb,gb,gb];show∃W,bT [Y5,.bool] ((idx (zD y.2.2.2.2.1 xs<|aj y.2.2.2.2.1 bZ []).2.2.1 0).bind _)=_/\_;rw[G];generalize zD y.2.2.2.2.1 xs (aj y.2.2.2.2.1 bZ [])=r;rw[q,←i,show idx [c,d,f,g] 0=ar c from rfl,show idx [c,d,f,g] 1=ar d from rfl,show idx [c,d,f,g] 2=ar f from rfl,show idx [c,d,f,g] 3=ar g from rfl,show idx [ka,kb] 0=ar ka from rfl,show idx [ka,kb] 1=ar kb from rfl];simp only[aw,F];show∃W,_=ar (W,a7 (c<ka)&&(a7 (d<kb)&&(a7 (f<ka)&&(a7 (g<kb)&&bc))))/\(_->W=r);refine⟨r,?_,λ_=>rfl⟩;cases a7 (c<ka)with
    |false=>rfl
    |true=>
     cases a7 (d<kb)with|false=>rfl|true=>cases a7 (f<ka)with|false=>rfl|true=>cases a7 (g<kb)<;>rfl
def azR  :=((((((((((((GV.add 169 adC).add 170 Sf).add 88 amU).add 173 anK).add 52 aeg).add 53 D1).add 175 aGb).add 176 axI).add 177 ayr).add 178 aGC).add 32 ayX).add 36 ay0).add 179 aGG
theorem XZ :azR.Good:=((((((((((((jR.add Ak).add CD).add HK).add H2).add Ao).add mC).add anq).add Sr).add Sy).add anR).add SA).add SB).add anW
def X0 y a  :=bT [.slice aa,aa]<|aB azR f118 8 [(45,[1,6,18,19])] [.d Y2 y,.d (.slice<|Y3) a] [] ah
def X2 y a  :=(X0 y a).isSome
def qL y a  :=(X0 y a).getD<|dS _
def aG5  :=cC [Y2,.slice _] _ λy a=>(X2 y a,qL y a)
theorem aov :bq 118 aG5:=bh (bM XZ func118 call118 (h2:=rfl))<|by simp only[dg];exact λy a h=>aZ h
theorem azS {b}(y a)(h:X0 y a=ar b):X2 y a=bc/\qL y a=b:=bU h
theorem azT (y:(Y2).den)(b:cm):aB azR f118 8 [(45,[1,6,18,19])] [.d (Y2) y,.d (.slice (Y3)) b] [] ah=bif y.1==oK then bif adE y then ak [eb (aa).slice (VV y).2.1,I 0]else a6 else (idx b 0).bind λa=>bif HH y.1 then bif HI y.1 then ak [eb (aa).slice a.2.2.1,I 0]else bif y.1==GJ then ak [eb (aa).slice a.2.2.1,I 0]else bif y.1==m8 then ak [eb (aa).slice a.2.2.1,I 0]else bif LR y.1 then bif LS y.1 then (idx b 1).bind λq=>bif Pt a.2.2.1 q.2.2.1 then ak [eb (aa).slice (rY a.2.2.1 q.2.2.1).1,I (rY a.2.2.1 q.2.2.1).2]else a6 else bif y.1==nO then (idx b 1).bind λl=>bif Pt a.2.2.1 l.2.2.1 then bif (rY a.2.2.1 l.2.2.1).2 !=0 then ak [b5,I (rY a.2.2.1 l.2.2.1).2]else (idx b 2).bind λh=>bif Pt (rY a.2.2.1 l.2.2.1).1 h.2.2.1 then ak [eb (aa).slice (rY (rY a.2.2.1 l.2.2.1).1 h.2.2.1).1,I (rY (rY a.2.2.1 l.2.2.1).1 h.2.2.1).2]else a6 else a6 else bif y.1==Kf then bif pJ y [97,120,105,115] (-1)then bif Pg (cI y [97,120,105,115] (-1)) (bd (bk a.2.2.1))then bif !(rW (cI y [97,120,105,115] (-1)) (bd (bk a.2.2.1))).2 then ak [b5,I 4]else ak [eb (aa).slice a.2.2.1,I 0]else a6 else a6 else bif y.1==vk then bif W7 y (bd (bk a.2.2.1))then bif Pj a.2.2.1 (nV y (bd (bk a.2.2.1))).1 (nV y (bd (bk a.2.2.1))).2.1 then bif !(nV y (bd (bk a.2.2.1))).2.2 then ak [b5,I 4]else ak [eb (aa).slice (Pk a.2.2.1 (nV y (bd (bk a.2.2.1))).1 (nV y (bd (bk a.2.2.1))).2.1),I 0]else a6 else a6 else bif y.1==vl then bif W7 y (bd (bk a.2.2.1))then bif Pj a.2.2.1 (nV y (bd (bk a.2.2.1))).1 (nV y (bd (bk a.2.2.1))).2.1 then bif !(nV y (bd (bk a.2.2.1))).2.2 then ak [b5,I 4]else ak [eb (aa).slice (Pk a.2.2.1 (nV y (bd (bk a.2.2.1))).1 (nV y (bd (bk a.2.2.1))).2.1),I 0]else a6 else a6 else bif y.1==Kd then bif W7 y (bd (bk a.2.2.1))then bif Pj a.2.2.1 (nV y (bd (bk a.2.2.1))).1 (nV y (bd (bk a.2.2.1))).2.1 then bif !(nV y (bd (bk a.2.2.1))).2.2 then ak [b5,I 4]else ak [eb (aa).slice (Pk a.2.2.1 (nV y (bd (bk a.2.2.1))).1 (nV y (bd (bk a.2.2.1))).2.1),I 0]else a6 else a6 else bif y.1==qD then bif W7 y (bd (bk a.2.2.1))then bif Pj a.2.2.1 (nV y (bd (bk a.2.2.1))).1 (nV y (bd (bk a.2.2.1))).2.1 then bif !(nV y (bd (bk a.2.2.1))).2.2 then ak [b5,I 4]else ak [eb (aa).slice (Pk a.2.2.1 (nV y (bd (bk a.2.2.1))).1 (nV y (bd (bk a.2.2.1))).2.1),I 0]else a6 else a6 else bif y.1==DV then (idx b 1).bind λr=>bif anP a.2.2.1 r.2.2.1 then ak [eb (aa).slice (rZ a.2.2.1 r.2.2.1).1,I (rZ a.2.2.1 r.2.2.1).2]else a6 else bif y.1==BN then bif ayu y b then ak [eb (aa).slice (anQ y b).1,I (anQ y b).2]else a6 else bif y.1==jT then bif XL y b then bif !(tk y b).2 then ak [b5,I 4]else (idx a.2.2.1 0).bind λB=>(idx b 1).bind λi=>(idx i.2.2.1 0).bind λc=>(idx (tk y b).1.2.2.2.2.1 0).bind λj=>((tk y b).1.2.2.2.2.1[0]?).bind λf=>(idx (tk y b).1.2.2.2.2.1 1).bind λe=>((tk y b).1.2.2.2.2.1[1]?).bind λk=>ar (aq.ret [mq 0 0,I 0],[(0,au.arr 3 (aa) 0 a8 [B,c,f,k])])else a6 else bif y.1==lL then bif PA y a.2.2.1 then bif !(o6 y a.2.2.1).2 then ak [b5,I 4]else (idx a.2.2.1 0).bind λi=>(idx a.2.2.1 1).bind λc=>(idx (o6 y a.2.2.1).1.2.2.2.2.1 0).bind λj=>((o6 y a.2.2.1).1.2.2.2.2.1[0]?).bind λf=>(idx (o6 y a.2.2.1).1.2.2.2.2.1 1).bind λe=>((o6 y a.2.2.1).1.2.2.2.2.1[1]?).bind λk=>ar (aq.ret [mq 0 0,I 0],[(0,au.arr 3 (aa) 0 a8 [i,c,f,k])])else a6 else bif y.1==qF then bif PA y a.2.2.1 then bif !(o6 y a.2.2.1).2 then ak [b5,I 4]else (idx a.2.2.1 0).bind λc=>(idx a.2.2.1 1).bind λj=>(idx (o6 y a.2.2.1).1.2.2.2.2.1 0).bind λf=>((o6 y a.2.2.1).1.2.2.2.2.1[0]?).bind λe=>(idx (o6 y a.2.2.1).1.2.2.2.2.1 1).bind λk=>((o6 y a.2.2.1).1.2.2.2.2.1[1]?).bind λg=>ar (aq.ret [mq 0 0,I 0],[(0,au.arr 3 (aa) 0 a8 [c,j,e,g])])else a6 else bif y.1==BM then bif bd (bk a.2.2.1) !=4 then ak [b5,I 4]else (idx a.2.2.1 0).bind λc=>(idx a.2.2.1 1).bind λj=>ar (aq.ret [mq 0 0,I 0],[(0,au.arr 3 (aa) 0 a8 [c,j,1,1])])else bif y.1==DW then bif a7 (bd (bk a.2.2.1)>=2)then (idx b 1).bind λj=>bif bd (bk j.2.2.1)==1 then (idx b 1).bind λe=>(idx e.2.2.1 0).bind λk=>(idx a.2.2.1 1).bind λg=>bif k==g then (idx b 2).bind λs=>bif bd (bk s.2.2.1)==1 then (idx b 2).bind λt=>(idx t.2.2.1 0).bind λm=>(idx a.2.2.1 1).bind λn=>bif m==n then (idx b 3).bind λu=>bif bd (bk u.2.2.1)==1 then (idx b 3).bind λv=>(idx v.2.2.1 0).bind λo=>(idx a.2.2.1 1).bind λp=>bif o==p then (idx b 4).bind λw=>bif bd (bk w.2.2.1)==1 then (idx b 4).bind λx=>(idx x.2.2.1 0).bind λz=>(idx a.2.2.1 1).bind λA=>bif !z==A then ak [b5,I 4]else ak [eb (aa).slice a.2.2.1,I 0]else ak [b5,I 4]else bif !o==p then ak [b5,I 4]else ak [eb (aa).slice a.2.2.1,I 0]else ak [b5,I 4]else bif !m==n then ak [b5,I 4]else ak [eb (aa).slice a.2.2.1,I 0]else ak [b5,I 4]else bif !k==g then ak [b5,I 4]else ak [eb (aa).slice a.2.2.1,I 0]else ak [b5,I 4]else bif !decide (bd (bk a.2.2.1)>=2)then ak [b5,I 4]else ak [eb (aa).slice a.2.2.1,I 0]else bif ayG y b then ak [eb (aa).slice (anV y b).1,I (anV y b).2]else a6 else a6 else a6:=by kernel_rfl
theorem PJ {op:ao}(h:(dV op||(op==GJ||op==m8))=bc)(e:bu)(f:ao)(a:List (ao))(b:ao)(v:(Y3).den)(r:cm):aB lR f105 8 [(56,[3,132,133,134])] [iN (op,f,a,b,e,()) (v::r)] [] ah=ar (.ret [.d (.slice aa) v.2.2.1],[]):=by
 rw[oS];simp only[fZ,oq,lF,fH];rw[show idx (v::r) 0=ar v from rfl,aw]
 have c:op∈ones++[[67,108,105,112],[67,97,115,116]]:=by
  rw[Bool.or_eq_true,Bool.or_eq_true]at h;rcases h with h|h|h
  ·unfold dV at h;grind
  all_goals grind
 clear h;generalize v::r=i;generalize g:v.2.2.1=d;clear g;unfold ones at c;simp only[List.cons_append,pb,kt,Dp,or_false]at c;rcases c with rfl|rfl|rfl|rfl|rfl|rfl|rfl|rfl|rfl|rfl|rfl|rfl
 all_goals rfl
def X3 (c:Int)(l:af):Option (aq×LHp):=bif c==0 then ar (.ret [.d (.slice aa) l],[])else ar (.panic 131 c,[])
theorem Mw c l:rO (X3 c l)=ar (c,bif c==0 then l else []):=by unfold X3;cases h:c==0 with|true=>rw[eq_of_beq h]<;>rfl|false=>show (bif Nat.beq 131 131&& ! c==0 then _ else _)=_;rw[h]<;>rfl
theorem azU {d}(h:nz d=bc)(e:bu)(f:ao)(a:List<|ao)(b:ao) v w (r:cm):aB lR f105 8 [(56,[3,132,133,134])] [iN (d,f,a,b,e,())<|v::w::r] [] ah=bif bk v.2.2.1<=2147483648/\bk w.2.2.1<=2147483648 then X3 (dY v.2.2.1 w.2.2.1) (ir v.2.2.1 w.2.2.1)else a6:=by
 have c:=xL h;unfold me at c;simp only[kt,Dp,or_false]at c;rcases c with rfl|rfl|rfl|rfl|rfl|rfl|rfl|rfl|rfl|rfl|rfl|rfl
 all_goals (show _=_;kernel_rfl)
theorem o9 {a}(h:dV a=a8):∀x∈ones,(a==x)=a8:=by intro x b;cases c:a==x with|false=>rfl|true=>let:dV a=bc:=tr.2 ⟨x,b,by rw[eq_of_beq c];simp⟩;grind
theorem mf {a}(h:nz a=a8):∀x∈me,(a==x)=a8:=by intro x b;cases c:a==x with|false=>rfl|true=>let:nz a=bc:=tr.2 ⟨x,b,by rw[eq_of_beq c];simp⟩;grind
structure azV (y:(Y2).den)(vs:cm):Prop where
 shA:aE y.2.2.2.2.1=bc
 len:vs.length<=2147483648
 dim:∀u∈vs,aeY u.2.2.1
 lo:(bW y.1).1<=(vs.length:Int)
 hi:(vs.length:Int)<=(bW y.1).2.1
 val:(y.1==cH)=bc->y.2.2.2.2.1.find? (ie di 4)=y.2.2.2.2.1.find? gJ
theorem Io {vs:cm}(h:2<=vs.length):∃v w r,vs=v::w::r:=by
 match vs,h with|v::w::r,_=>exact⟨v,w,r,rfl⟩
theorem C7 {c l p}(h:rO (X3 c l)=ar p):bT [.slice aa,aa] (ak [.d (.slice aa)<|bif c==0 then l else [],I c])=ar (p.2,p.1):=by rw[Mw]at h;cases h;rfl
theorem X4 {a b}(h:(dY a b==0)=bc):(ir a b).length<=6:=nr<|eq_of_beq h
theorem aow (a b:Int):([a]==[b])=(a==b):=by simp
theorem afJ {a}(b:aE a=bc){c d}:nq a c d=bc:=lh b _ _ _ _
theorem S3 {y:(Y2).den}(n:aE y.2.2.2.2.1=bc){c:bu}(s:y.2.2.2.2.1=c){a:af}{p:Int×af}
  (hp:rO (bif cA 2 1 100 (aj c bZ [])then (bif bd a.length==4 then (bif bc then (bif dp c a (aj c bZ [])==0 then (bif mj (aj c bZ []) 0 (aj c kJ [])then ak [.d (aa).slice [a.getD 0 0,a.getD 1 0,jV c a<|aj c bZ [],jW c a<|aj c bZ []]]else bF)else ar (.panic 131<|dp c a<|aj c bZ [],[]))else a6)else bF)else bF)=ar p):
  bT [.slice aa,aa] (bif PA y a then (bif !(o6 y a).2 then ak [.nils,I 4]else (idx a 0).bind λg=>(idx a 1).bind λi=>(idx (o6 y a).1.2.2.2.2.1 0).bind λ_=>((o6 y a).1.2.2.2.2.1[0]?).bind λj=>(idx (o6 y a).1.2.2.2.2.1 1).bind λ_=>((o6 y a).1.2.2.2.2.1[1]?).bind λt=>ar (.ret [.os 0 0,I 0],[(0,.arr 3 (aa) 0 a8 [g,i,j,t])]))else a6)=ar (p.2,p.1):=by
 subst s
 let ⟨W,e1,e2⟩:=afI n a
 let ⟨g1,g2⟩:=ae5 y a e1
 rw[g1,ai,g2]
 generalize b:plK y.2.2.2.2.1 a=k at e2⊢
 unfold plK at b
 let u:∀(o:a.length=4) (q:(aj y.2.2.2.2.1 bZ []).length=2),dp y.2.2.2.2.1 a _=0\/dp y.2.2.2.2.1 a _=4:=λo q=>by let ⟨_,_,_,h⟩:=PI n o q;exact h
 cases e:cA 2 1 100 _ with
 |false=>rw[e]at b hp;subst b;cases hp;rfl
 |true=>
 rw[e,gb]at b
 rw[e,ai]at hp
 cases f:bd _==4 with
 |false=>rw[f]at b hp;subst b;cases hp;rfl
 |true=>
 rw[f,gb]at b
 rw[f,ai,ai]at hp
 let v:=fi e
 let w:=eq_of_beq f
 simp only[aK]at v w
 cases m:dp y.2.2.2.2.1 a (aj y.2.2.2.2.1 bZ [])==0 with
 |false=>
  rcases u (by omega) (by omega)with h|h
  ·grind
  ·rw[m]at b hp;rw[al,h]at hp;subst b;cases hp;rfl
 |true=>
 rw[m,gb]at b
 rw[m,ai]at hp
 cases r:mj _ 0 _ with
 |false=>rw[r]at b hp;subst b;cases hp;rfl
 |true=>
  rw[r]at b hp;subst b;have x:=e2 rfl;subst x;cases hp;obtain⟨z,A,B,C,rfl⟩:=r9 (l:=a)<|by omega
  rfl
theorem aox {y:(Y2).den}(m:aE y.2.2.2.2.1=bc){a:bu}(o:y.2.2.2.2.1=a){v w:(Y3).den}{r:cm}(q:r.length<=1)(s:∀u∈r,u.2.2.1.length<=maxLen){p:Int×af}
  (hp:rO (bif vI a (v::w::r) v.2.2.1 then (bif lQ a (v::w::r) v.2.2.1 then ak [.d (aa).slice<|Cr a (v::w::r) v.2.2.1]else ar (.panic 131<|vJ a (v::w::r) v.2.2.1,[]))else a6)=ar p):
  bT [.slice aa,aa] (bif XL y (v::w::r)then (bif !(tk y<|v::w::r).2 then ak [.nils,I 4]else (idx v.2.2.1 0).bind λt=>(idx (v::w::r) 1).bind λe=>(idx e.2.2.1 0).bind λf=>(idx (tk y<|v::w::r).1.2.2.2.2.1 0).bind λ_=>((tk y<|v::w::r).1.2.2.2.2.1[0]?).bind λg=>(idx (tk y<|v::w::r).1.2.2.2.2.1 1).bind λ_=>((tk y<|v::w::r).1.2.2.2.2.1[1]?).bind λx=>ar (.ret [.os 0 0,I 0],[(0,.arr 3 (aa) 0 a8 [t,f,g,x])]))else a6)=ar (p.2,p.1):=by
 subst o
 let ⟨W,e1,e2,e3⟩:=afH m v w q s
 let ⟨g1,g2⟩:=ae4 y (v::w::r) e1
 rw[g1,ai,g2]
 cases b:lQ y.2.2.2.2.1 (v::w::r) v.2.2.1 with
 |false=>
  let c:=e3 b;let z:vJ y.2.2.2.2.1 (v::w::r) v.2.2.1=4:=by unfold vJ;rw[c]<;>rfl
  let h:vI y.2.2.2.2.1 (v::w::r) v.2.2.1=bc:=by unfold vI;rw[c]<;>rfl
  rw[b,z,h]at hp;cases hp;rfl
 |true=>
  let ⟨A,c⟩:=e2 b;let B:Cr y.2.2.2.2.1 (v::w::r) v.2.2.1=[v.2.2.1.getD 0 0,w.2.2.1.getD 0 0,jV y.2.2.2.2.1 v.2.2.1<|w.2.2.1.drop 2,jW y.2.2.2.2.1 v.2.2.1<|w.2.2.1.drop 2]:=by unfold Cr;rw[c]<;>rfl
  let h:vI y.2.2.2.2.1 (v::w::r) v.2.2.1=bc:=by unfold vI;rw[c]<;>rfl
  let ⟨n,C,D,E,F,i⟩:=S1 m b;have j:n=w:=by let G:=i.i1;grind [idx,hY]
  subst j;rw[b,h,B]at hp;cases hp;subst A;let ⟨H,J,K,L,k⟩:=r9 i.xl;have l:=i.ks;obtain⟨M,N,O,P⟩:=v;obtain⟨Q,R,S,T⟩:=n;have k  :=k;have l  :=l;subst k;subst l;rfl
theorem azW :∀a∈me,2<=(bW a).1:=by intro a h;unfold me at h;simp only[kt,Dp,or_false]at h;rcases h with rfl|rfl|rfl|rfl|rfl|rfl|rfl|rfl|rfl|rfl|rfl|rfl<;>decide +kernel
theorem X5 {a}(h:nz a=bc):2<=(bW a).1:=azW a<|xL h
theorem aoy {c:af}(h:2<=c.length):∃a b r,c=a::b::r:=by
 match c,h with|a::b::r,_=>exact⟨a,b,r,rfl⟩
theorem aoz {r q}(h:rO r=ar q):q.2=bif q.1==0 then q.2 else []:=by unfold rO at h;grind
theorem azX {y vs}(h:azV y vs){p}(hp:VD y vs=ar p):X0 y vs=ar (p.2,p.1):=by
 have hm:maxLen=9223372036854775807:=by decide
 obtain⟨F,R,j,lo,hi,hval⟩:=h;have hal:=bz F;have P:=F;have e:=azT y vs;unfold VD at hp;unfold X0;rw[e];clear e;obtain⟨i,B,k,m,n,u,hy0⟩:∃i B k m n u,y=(i,B,k,m,n,u):=⟨_,_,_,_,_,_,rfl⟩;rw[hy0]at hp;have V:(i,B,k,m,n,u)=y:=hy0.symm;have G:y.2.2.2.2.1=n:=by rw[←V]
 have yo:y.1=i:=by rw[←V]
 rw[G]at hal;rw[yo]at lo hi⊢;rw[G]at F;have hN:iN (i,B,k,m,n,u) vs=iN (i,B,k,m,n,()) vs:=rfl;rw[hN]at hp;cases c0:i==oK with
 |true=>rw[oS]at hp;simp only[fZ,oq,lF,fH]at hp;rw[c0,ai,aF (show n.length<=9223372036854775807 by omega),ai]at hp;rw[ai];obtain⟨v1,v2⟩:=O5 y (O6 (by rw[G];omega));rw[v1,ai,v2,hval (by rw[yo];exact c0),G];cases f:List.find? gJ n with|none=>rw[f]at hp;cases hp|some a=>rw[f]at hp;cases hp;rfl
 |false=>
 rw[al];cases vs with
 |nil=>rw[oS]at hp;simp only[fZ,oq,lF,fH]at hp;rw[c0]at hp;cases hp
 |cons v r=>
 obtain⟨d1,d2⟩:=j v ku;obtain⟨o1,o2⟩:=xI i (xJ i);obtain⟨t1,t2⟩:=Al i (Am i);rw[show idx (v::r) 0=ar v from rfl,aw,o1,ai,o2];cases S:dV i with
 |true=>rw[PJ (by rw[S]<;>rfl)]at hp;cases hp;rfl
 |false=>
 rw[al];cases c2:i==GJ with
 |true=>rw[PJ (by rw[c2];simp)]at hp;cases hp;rfl
 |false=>
 rw[al];cases c3:i==m8 with
 |true=>rw[PJ (by rw[c3];simp)]at hp;cases hp;rfl
 |false=>
 rw[al,t1,ai,t2];cases J:nz i with
 |true=>
  have h2:2<=(v::r).length:=by have:=X5 J;omega
  obtain⟨v',w,T,H⟩:=Io h2;obtain⟨Zk,YV⟩:=ahy H;subst Zk;subst YV;obtain⟨W,X⟩:=j w (by simp);rw[azU J,aF ⟨by omega,by omega⟩,ai]at hp;rw[ai,show idx (v::w::T) 1=ar w from rfl,aw];obtain⟨b1,b2⟩:=CU v.2.2.1 w.2.2.1 (CV (by omega) (by omega));rw[b1,ai,b2];exact C7 hp
 |false=>
 rw[al];rw[oS]at hp;simp only[fZ,oq,lF,fH]at hp;rw[c0,al,show idx (v::r) 0=ar v from rfl,aw,o9 S [73,100,101,110,116,105,116,121] (by simp[ones]),al,o9 S [78,101,103] (by simp[ones]),al,o9 S [65,98,115] (by simp[ones]),al,o9 S [78,111,116] (by simp[ones]),al,o9 S [82,101,108,117] (by simp[ones]),al,o9 S [83,113,114,116] (by simp[ones]),al,o9 S [70,108,111,111,114] (by simp[ones]),al,o9 S [69,120,112] (by simp[ones]),al,o9 S [83,105,103,109,111,105,100] (by simp[ones]),al,o9 S [84,97,110,104] (by simp[ones]),al,c2,al,c3,al,mf J [65,100,100] (by simp[me]),al,mf J [83,117,98] (by simp[me]),al,mf J [77,117,108] (by simp[me]),al,mf J [68,105,118] (by simp[me]),al,mf J [77,97,120] (by simp[me]),al,mf J [77,105,110] (by simp[me]),al,mf J [65,110,100] (by simp[me]),al,mf J [79,114] (by simp[me]),al,mf J [88,111,114] (by simp[me]),al,mf J [69,113,117,97,108] (by simp[me]),al,mf J [76,101,115,115] (by simp[me]),al,mf J [71,114,101,97,116,101,114] (by simp[me]),al]at hp;cases c5:i==nO with
 |true=>
  rw[c5,ai]at hp;rw[ai];have C:=eq_of_beq c5;have o:=lo;have s:=hi;rw[C]at o s;have e1:(bW nO).1=3/\(bW nO).2.1=3:=by decide +kernel
  rw[e1.1]at o;rw[e1.2]at s
  match r,j,R,o,s,hp with
  |[],_,_,o,_,_=>simp only[bs,eO]at o;omega
  |[_],_,_,o,_,_=>simp only[bs,eO]at o;omega
  |_::_::_::_,_,_,_,s,_=>simp only[bs]at s;omega
  |[w,z],j,_,_,_,hp=>
  obtain⟨W,X⟩:=j w (by simp);obtain⟨z1,z2⟩:=j z (by simp);rw[show idx [v,w,z] 1=ar w from rfl,aw,show idx [v,w,z] 2=ar z from rfl,aF (show bk v.2.2.1<=2147483648/\bk w.2.2.1<=2147483648 from⟨by omega,by omega⟩),ai]at hp;rw[show idx [v,w,z] 1=ar w from rfl,aw,show idx [v,w,z] 2=ar z from rfl];obtain⟨b1,b2⟩:=CU v.2.2.1 w.2.2.1 (CV (by omega) (by omega));rw[b1,ai,b2,bne];cases e:dY v.2.2.1 w.2.2.1==0 with
  |false=>
   have h4:rO (ar (aq.panic 131 (dY v.2.2.1 w.2.2.1),[]))=ar (dY v.2.2.1 w.2.2.1,[]):=by have:=Mw (dY v.2.2.1 w.2.2.1) [];unfold X3 at this;grind
   rw[e,al,aw,h4]at hp;cases hp;rfl
  |true=>have hl:=X4 e;rw[e,ai,aw,aF (show (ir v.2.2.1 w.2.2.1).length<=2147483648/\bk z.2.2.1<=2147483648 from⟨by omega,by omega⟩),ai]at hp;rw[cy,al,aw];obtain⟨x,A⟩:=CU (ir v.2.2.1 w.2.2.1) z.2.2.1 (CV (by omega) (by omega));rw[ai,x,ai,A];exact C7 hp
 |false=>
 rw[c5,al]at hp;rw[al];cases c6:i==Kf with
 |true=>
  rw[c6,ai]at hp;rw[ai];have C:=eq_of_beq c6
  first|rw[aF (show n.length<=9223372036854775807 by omega),ai,show ([97,120,105,115]:ao)=bE from rfl]at hp|rw[aF (show n.length<=9223372036854775807 by omega),ai,show (jG:ao)=bE from rfl]at hp
  first|rw[show ([97,120,105,115]:ao)=bE from rfl]|rw[show (jG:ao)=bE from rfl]
  obtain⟨i1,i2⟩:=qk y bE (-1) (ql (by rw[G];omega));rw[i1,ai,i2,G];obtain⟨M,x2⟩:=HT (aS n bE (-1)) (bd v.2.2.1.length) (HU _ _);rw[M,ai,x2];exact wj hp rfl λ_=>rfl
 |false=>
 rw[c6,al]at hp;rw[al];cases c7:i==vk with
 |true=>
  rw[c7,ai]at hp;rw[ai];have C:=eq_of_beq c7;obtain⟨g1,g2⟩:=HY y (bd v.2.2.1.length) (HZ (N:=v.2.2.1.length) P (by omega));rw[g1,ai,g2]
  have Q:(bif dj (v.2.2.1.length:Int) (oz y (fw v.2.2.1.length)) []then jy (oz y (fw v.2.2.1.length)) (v.2.2.1.length:Int)else []).length<=maxLen:=by
   have t:(oz y (fw v.2.2.1.length)).length<=2147483648:=by unfold oz;cases y.1==gS with|true=>show (1:Nat)<=2147483648;decide|false=>exact cN P bD (by rw[jg];omega)
   cases dj (v.2.2.1.length:Int) (oz y (fw v.2.2.1.length)) []with|true=>rw[ai,gr];omega|false=>exact k7 _
  obtain⟨W,X⟩:=CP v.2.2.1 (bif dj (v.2.2.1.length:Int) (oz y (fw v.2.2.1.length)) []then jy (oz y (fw v.2.2.1.length)) (v.2.2.1.length:Int)else []) (aS y.2.2.2.2.1 bH 1==1) (CR (by omega) Q (aS y.2.2.2.2.1 bH 1));rw[W,ai,X];rw[F,aF (show v.2.2.1.length<=2147483648 by omega),ai,ai]at hp;have er:oz y (fw v.2.2.1.length)=Cn i n v.2.2.1:=by rw[←V]<;>rfl
  rw[er,G];refine wj hp rfl λU=>?_
  have I:dj (v.2.2.1.length:Int) (Cn i n v.2.2.1) []=bc:=by unfold LB at U;exact(aX _ _▸U).1
  rw[I]<;>rfl
 |false=>
 rw[c7,al]at hp;rw[al];cases c8:i==vl with
 |true=>
  rw[c8,ai]at hp;rw[ai];have C:=eq_of_beq c8;obtain⟨g1,g2⟩:=HY y (bd v.2.2.1.length) (HZ (N:=v.2.2.1.length) P (by omega));rw[g1,ai,g2]
  have Q:(bif dj (v.2.2.1.length:Int) (oz y (fw v.2.2.1.length)) []then jy (oz y (fw v.2.2.1.length)) (v.2.2.1.length:Int)else []).length<=maxLen:=by
   have t:(oz y (fw v.2.2.1.length)).length<=2147483648:=by unfold oz;cases y.1==gS with|true=>show (1:Nat)<=2147483648;decide|false=>exact cN P bD (by rw[jg];omega)
   cases dj (v.2.2.1.length:Int) (oz y (fw v.2.2.1.length)) []with|true=>rw[ai,gr];omega|false=>exact k7 _
  obtain⟨W,X⟩:=CP v.2.2.1 (bif dj (v.2.2.1.length:Int) (oz y (fw v.2.2.1.length)) []then jy (oz y (fw v.2.2.1.length)) (v.2.2.1.length:Int)else []) (aS y.2.2.2.2.1 bH 1==1) (CR (by omega) Q (aS y.2.2.2.2.1 bH 1));rw[W,ai,X];rw[F,aF (show v.2.2.1.length<=2147483648 by omega),ai,ai]at hp;have er:oz y (fw v.2.2.1.length)=Cn i n v.2.2.1:=by rw[←V]<;>rfl
  rw[er,G];refine wj hp rfl λU=>?_
  have I:dj (v.2.2.1.length:Int) (Cn i n v.2.2.1) []=bc:=by unfold LB at U;exact(aX _ _▸U).1
  rw[I]<;>rfl
 |false=>
 rw[c8,al]at hp;rw[al];cases c9:i==Kd with
 |true=>
  rw[c9,ai]at hp;rw[ai];have C:=eq_of_beq c9;obtain⟨g1,g2⟩:=HY y (bd v.2.2.1.length) (HZ (N:=v.2.2.1.length) P (by omega));rw[g1,ai,g2]
  have Q:(bif dj (v.2.2.1.length:Int) (oz y (fw v.2.2.1.length)) []then jy (oz y (fw v.2.2.1.length)) (v.2.2.1.length:Int)else []).length<=maxLen:=by
   have t:(oz y (fw v.2.2.1.length)).length<=2147483648:=by unfold oz;cases y.1==gS with|true=>show (1:Nat)<=2147483648;decide|false=>exact cN P bD (by rw[jg];omega)
   cases dj (v.2.2.1.length:Int) (oz y (fw v.2.2.1.length)) []with|true=>rw[ai,gr];omega|false=>exact k7 _
  obtain⟨W,X⟩:=CP v.2.2.1 (bif dj (v.2.2.1.length:Int) (oz y (fw v.2.2.1.length)) []then jy (oz y (fw v.2.2.1.length)) (v.2.2.1.length:Int)else []) (aS y.2.2.2.2.1 bH 1==1) (CR (by omega) Q (aS y.2.2.2.2.1 bH 1));rw[W,ai,X];rw[F,aF (show v.2.2.1.length<=2147483648 by omega),ai,ai]at hp;have er:oz y (fw v.2.2.1.length)=Cn i n v.2.2.1:=by rw[←V]<;>rfl
  rw[er,G];refine wj hp rfl λU=>?_
  have I:dj (v.2.2.1.length:Int) (Cn i n v.2.2.1) []=bc:=by unfold LB at U;exact(aX _ _▸U).1
  rw[I]<;>rfl
 |false=>
 rw[c9,al]at hp;rw[al];cases c10:i==qD with
 |true=>
  rw[c10,ai]at hp;rw[ai];have C:=eq_of_beq c10;obtain⟨g1,g2⟩:=HY y (bd v.2.2.1.length) (HZ (N:=v.2.2.1.length) P (by omega));rw[g1,ai,g2]
  have Q:(bif dj (v.2.2.1.length:Int) (oz y (fw v.2.2.1.length)) []then jy (oz y (fw v.2.2.1.length)) (v.2.2.1.length:Int)else []).length<=maxLen:=by
   have t:(oz y (fw v.2.2.1.length)).length<=2147483648:=by unfold oz;cases y.1==gS with|true=>show (1:Nat)<=2147483648;decide|false=>exact cN P bD (by rw[jg];omega)
   cases dj (v.2.2.1.length:Int) (oz y (fw v.2.2.1.length)) []with|true=>rw[ai,gr];omega|false=>exact k7 _
  obtain⟨W,X⟩:=CP v.2.2.1 (bif dj (v.2.2.1.length:Int) (oz y (fw v.2.2.1.length)) []then jy (oz y (fw v.2.2.1.length)) (v.2.2.1.length:Int)else []) (aS y.2.2.2.2.1 bH 1==1) (CR (by omega) Q (aS y.2.2.2.2.1 bH 1));rw[W,ai,X];rw[F,aF (show v.2.2.1.length<=2147483648 by omega),ai,ai]at hp;have er:oz y (fw v.2.2.1.length)=Cn i n v.2.2.1:=by rw[←V]<;>rfl
  rw[er,G];refine wj hp rfl λU=>?_
  have I:dj (v.2.2.1.length:Int) (Cn i n v.2.2.1) []=bc:=by unfold LB at U;exact(aX _ _▸U).1
  rw[I]<;>rfl
 |false=>
 rw[c10,al]at hp;rw[al];cases c11:i==DV with
 |true=>
  rw[c11,ai]at hp;rw[ai];have C:=eq_of_beq c11;have o:=lo;have s:=hi;rw[C]at o s;have e1:(bW DV).1=2/\(bW DV).2.1=2:=by decide +kernel
  rw[e1.1]at o;rw[e1.2]at s;obtain⟨v',w,T,H⟩:=Io (vs:=v::r) (by omega);obtain⟨Zk,YV⟩:=ahy H;subst Zk;subst YV;obtain⟨W,X⟩:=j w (by simp);rw[show idx (v::w::T) 1=ar w from rfl,aw,aF (show bk v.2.2.1<=2147483648/\bk w.2.2.1<=2147483648 from⟨by omega,by omega⟩),ai]at hp;rw[show idx (v::w::T) 1=ar w from rfl,aw];obtain⟨b1,b2⟩:=aeN v.2.2.1 w.2.2.1 (aeO (by omega) (by omega));rw[b1,ai,b2];exact C7 hp
 |false=>
 rw[c11,al]at hp;rw[al];cases c12:i==BN with
 |true=>
  rw[c12,ai]at hp;rw[ai];have C:=eq_of_beq c12;have o:=lo;have s:=hi;rw[C]at o s;have e1:(bW BN).1=2/\(bW BN).2.1=3:=by decide +kernel
  rw[e1.1]at o;rw[e1.2]at s;obtain⟨v',w,T,H⟩:=Io (vs:=v::r) (by omega);obtain⟨Zk,YV⟩:=ahy H;subst Zk;subst YV;have hr:T.length<=1:=by simp only[bs]at s;omega
  have Y:uj (v::w::T)=bc:=gv.2 λq t=>aF (by have:=(j q t).1;omega)
  rw[F,ai,aF (show 2<=(v::w::T).length by simp only[bs];omega),ai,Y,ai]at hp;obtain⟨b1,b2⟩:=ayv y (v::w::T) (ayx (by rw[G];omega) hr λq t=>by have:=(j q (by simp[t])).1;omega);rw[b1,ai,b2,G];exact C7 hp
 |false=>
 rw[c12,al]at hp;rw[al];cases c13:i==jT with
 |true=>
  rw[c13,ai]at hp;rw[ai];have C:=eq_of_beq c13;have o:=lo;have s:=hi;rw[C]at o s;have e1:(bW jT).1=2/\(bW jT).2.1=3:=by decide +kernel
  rw[e1.1]at o;rw[e1.2]at s;obtain⟨v',w,T,H⟩:=Io (vs:=v::r) (by omega);obtain⟨Zk,YV⟩:=ahy H;subst Zk;subst YV;have hr:T.length<=1:=by simp only[bs]at s;omega
  exact aox P G hr λq t=>by have:=(j q (by simp[t])).1;omega hp
 |false=>
 rw[c13,al]at hp;rw[al];cases c14:i==lL with
 |true=>
  rw[c14,ai]at hp;rw[ai];have C:=eq_of_beq c14
  first|rw[F,show ([107,101,114,110,101,108,95,115,104,97,112,101]:ao)=bZ from rfl,show ([112,97,100,115]:ao)=kJ from rfl,afJ F,ai]at hp|rw[F,show (gX:ao)=bZ from rfl,show (cE:ao)=kJ from rfl,afJ F,ai]at hp
  exact S3 P G hp
 |false=>
 rw[c14,al]at hp;rw[al];cases c15:i==qF with
 |true=>
  rw[c15,ai]at hp;rw[ai];have C:=eq_of_beq c15
  first|rw[F,show ([107,101,114,110,101,108,95,115,104,97,112,101]:ao)=bZ from rfl,show ([112,97,100,115]:ao)=kJ from rfl,afJ F,ai]at hp|rw[F,show (gX:ao)=bZ from rfl,show (cE:ao)=kJ from rfl,afJ F,ai]at hp
  exact S3 P G hp
 |false=>
 rw[c15,al]at hp;rw[al];cases c16:i==BM with
 |true=>rw[c16,ai]at hp;rw[ai];have C:=eq_of_beq c16;rw[bne];cases c:bd (bk v.2.2.1)==4 with|false=>rw[c]at hp;cases hp;rfl|true=>rw[c]at hp;have n1:=eq_of_beq c;simp only[aK]at n1;obtain⟨x0,M,x2,x3,Q⟩:=r9 (l:=v.2.2.1) (by omega);rw[Q]at hp⊢;cases hp;rfl
 |false=>
 rw[c16,al]at hp;rw[al];cases c17:i==DW with
 |true=>
  rw[c17,ai]at hp;rw[ai];have C:=eq_of_beq c17;have o:=lo;have s:=hi;rw[C]at o s;have e1:(bW DW).1=5/\(bW DW).2.1=5:=by decide +kernel
  rw[e1.1]at o;rw[e1.2]at s;cases c:a7 (bd (bk v.2.2.1)>=2)with
  |false=>rw[c]at hp;cases hp;rfl
  |true=>
   rw[c,cy,al]at hp;rw[ai]
   match r,j,R,o,s,hp with
   |[],_,_,o,_,_=>simp only[bs,eO]at o;omega
   |[_],_,_,o,_,_=>simp only[bs,eO]at o;omega
   |[_,_],_,_,o,_,_=>simp only[bs,eO]at o;omega
   |[_,_,_],_,_,o,_,_=>simp only[bs,eO]at o;omega
   |_::_::_::_::_::_,_,_,_,s,_=>simp only[bs]at s;omega
   |[x,A,D,E],j,_,_,_,hp=>
    have h5:=bt c;simp only[aK]at h5;have h6:2<=v.2.2.1.length:=by omega
    obtain⟨x0,M,xs,Q⟩:=aoy h6;rw[if_pos ⟨by decide,by simp only[bs,eO,aK];omega,DC _⟩,aw,show (bd [v,x,A,D,E].length).toNat=[v,x,A,D,E].length from rfl,yf,show fb 1 [v,x,A,D,E]=[x,A,D,E]from rfl]at hp;have Y:uj [x,A,D,E]=bc:=gv.2 λq t=>aF (by have:=(j q (m3 _ t)).1;omega)
    have hr:rO (hlp lR hZ HC (aq×LHp) (HE v.2.2.1 [x,A,D,E] 0) KBn)=rO (bnE v.2.2.1 (bnK v.2.2.1 [x,A,D,E])):=congrArg rO ((aFw v.2.2.1 [x,A,D,E]).trans (aqe h6 (by simp only[bs,eO];omega) Y));have hp:rO (bnE v.2.2.1 (bnK v.2.2.1 [x,A,D,E]))=ar p:=hr.symm.trans hp;rw[show bnK v.2.2.1 [x,A,D,E]=(x.2.2.1==[M]&&(A.2.2.1==[M]&&(D.2.2.1==[M]&&(E.2.2.1==[M]&&bc)))) by unfold bnK;rw[Q];rfl]at hp;rw[show idx [v,x,A,D,E] 1=ar x from rfl,show idx [v,x,A,D,E] 2=ar A from rfl,show idx [v,x,A,D,E] 3=ar D from rfl,show idx [v,x,A,D,E] 4=ar E from rfl,show idx v.2.2.1 1=ar M by rw[Q];rfl];simp only[aw];have Z:∀(a b:Int) (l:af),(bd (a::b::l).length==1)=a8:=λa b l=>by rw[beq_eq_false_iff_ne];simp only[bs,aK];omega
    have K:∀(a b:Int) (l:af),(a::b::l==[M])=a8:=λa b l=>by rw[beq_eq_false_iff_ne];simp
    have t:∀b,rO (bnE v.2.2.1 b)=ar (bif b then 0 else 4,bif b then v.2.2.1 else []):=λb=>by cases b<;>rfl
    rw[t]at hp;clear hr Y t;cases hp;generalize x.2.2.1=l1;generalize A.2.2.1=l2;generalize D.2.2.1=l3;generalize E.2.2.1=l4;have L:∀a:Int,(bd [a].length==1)=bc:=λ_=>rfl
    have i1:∀a:Int,idx [a] 0=ar a:=λ_=>rfl
    rcases l1 with _|⟨a,_|⟨b,l⟩⟩
    ·rfl
    ·rw[aow,L,ai,i1,aw]
     cases a==M with
     |false=>rfl
     |true=>
     rw[ai,gb];rcases l2 with _|⟨a,_|⟨b,l⟩⟩
     ·rfl
     ·rw[aow,L,ai,i1,aw]
      cases a==M with
      |false=>rfl
      |true=>
      rw[ai,gb];rcases l3 with _|⟨a,_|⟨b,l⟩⟩
      ·rfl
      ·rw[aow,L,ai,i1,aw]
       cases a==M with
       |false=>rfl
       |true=>
       rw[ai,gb];rcases l4 with _|⟨a,_|⟨b,l⟩⟩
       ·rfl
       ·rw[aow,L,ai,i1,aw];cases a==M<;>rfl
       ·rw[K,Z]<;>rfl
      ·rw[K,Z]<;>rfl
     ·rw[K,Z]<;>rfl
    ·rw[K,Z]<;>rfl
 |false=>
 rw[c17,al]at hp;rw[al];have O:rO (bif mvG (i,B,k,m,n,bn) (v::r) v.2.2.1 then bif mvC (i,B,k,m,n,bn) (v::r) v.2.2.1==0 then ak [eb (aa).slice (mvL (i,B,k,m,n,bn) (v::r) v.2.2.1)]else ar (aq.panic 131 (mvC (i,B,k,m,n,bn) (v::r) v.2.2.1),[])else a6)=ar p:=hp;cases t:mvR y (v::r) v.2.2.1 with
 |none=>
  have:mvG (i,B,k,m,n,bn) (v::r) v.2.2.1=a8:=by unfold mvG;rw[show (i,B,k,m,n,bn)=y from V,t]<;>rfl
  rw[this]at O;cases O
 |some q=>
  obtain⟨m1,m2⟩:=ayH y (v::r) (ayT P R j t);rw[m1,ai,m2];have g:mvG (i,B,k,m,n,bn) (v::r) v.2.2.1=bc:=by unfold mvG;rw[show (i,B,k,m,n,bn)=y from V,t]<;>rfl
  have gC:mvC (i,B,k,m,n,bn) (v::r) v.2.2.1=q.1:=by unfold mvC;rw[show (i,B,k,m,n,bn)=y from V,t]<;>rfl
  have gL:mvL (i,B,k,m,n,bn) (v::r) v.2.2.1=q.2:=by unfold mvL;rw[show (i,B,k,m,n,bn)=y from V,t]<;>rfl
  rw[g,ai,gC,gL]at O;have O:rO (X3 q.1 q.2)=ar p:=O;have hz:q.2=bif q.1==0 then q.2 else []:=aoz t
  have h9:=C7 O;rw[←hz]at h9;exact h9
def FG :List AV->LHp->Tq
 |[.d zS a],[]=>.leaf (.ret [I (aN a),I (aC a)]) []
 |_,_=>.no
theorem wx :bq 30 (ay FG):=by
 refine aY λb g h i a=>?_
 unfold FG at a;split at a
 ·rename_i c
  cases a;refine FnH.len call30 λd=>?_
  have f:c.length<=maxLen:=d (.int .i64) c (List.mem_singleton.2 rfl);have e:=rU f;unfold LZ at e;exact G4 GS e
 ·cases a
def Mx :Code:=aU f68
def PK :Code:=cL (cL (cR (cL (cR (cR (cR (cR Mx)))))))
def C8 :Code:=cL (cL (cR (cL (cR (cR (cR (cR (cR (cR (cR (cR (cR (cR (cR (cR (cR Mx))))))))))))))))
def azY :Code:=cR (cR (cR (cR (cR (cR (cR (cR (cR (cR (cR (cR (cR (cR Mx)))))))))))))
def eY :Cfg:=⟨123,7,0,[(7,[1,2,4,7]),(30,[2,4,10,12,14,16])],bc⟩
def kx :Env:=(((((((GV.add 116 aFT).add 114 (fnE akc)).add 30 (ay FG)).add 117 aFX).add 53 D1).add 118 aG5).add 119 awM).add 120 awE
theorem X6 :kx.Good:=(((((((jR.add am9).add Rl).add wx).add ane).add mC).add aov).add Si).add Sh
def X7 y vs  :=bT [Y3,aa]<|aB kx f68 7 [(7,[1,2,4,7]),(30,[2,4,10,12,14,16])] [.d Y2 y,.d (.slice<|Y3) vs] [] ah
def azZ y a  :=(X7 y a).isSome
def Ip y a  :=(X7 y a).getD<|dS _
def aG6  :=cC [Y2,.slice _] _ λy a=>(azZ y a,Ip y a)
theorem aoA :bq 68 aG6:=bh (bM X6 func68 call68 (h2:=rfl))<|by simp only[dg];exact λy a h=>aZ h
theorem az0 {a} y vs (h:X7 y vs=ar a):azZ y vs=bc/\Ip y vs=a:=bU h
def aoB (y:(Y2).den):LHp:=[(0,.box<| .d _ y),(1,.box<|(eb .str []).pr<|(I 0).pr<|b5.pr<| .d .unit bn)]
def My (y:(Y2).den)(a:cm)(i:Int):LSt:={fr:=az 7 [(1,.d (.slice (Y3)) a),(2,.op 0 [] 0),(4,.op 1 [] 0),(7,I i)],hp:=aoB y,nx:=2}
theorem az1 (y:(Y2).den)(a:cm):aB kx f68 7 [(7,[1,2,4,7]),(30,[2,4,10,12,14,16])] [.d (Y2) y,.d (.slice (Y3)) a] [] ah=bif axk y then bif am8 y !=0 then ak [(eb fa []).pr ((I 0).pr (b5.pr (eb eR bn))),I (am8 y)]else bif bd a.length !=bd (bk y.2.2.1)then ak [(eb fa []).pr ((I 0).pr (b5.pr (eb eR bn))),I 4]else (hlp kx eY) PK _ (My y a 0) (aI 0 (aL kx eY [7,30] (hlp kx eY) (cR (cR (cR (cR (cR Mx))))) (aV prog 0 f68.results.toList ah)))else a6:=(aW [7,30] eY rfl).trans (by obtain⟨b,h⟩:=aM kx eY;rw[h];kernel_rfl)
def aG7 (a:Hl):AEx->LSt->Option (aq×LHp):=(aI 0 (aL kx eY [7,30] a (cR (cR (cR (cR (cR Mx))))) (aV prog 0 f68.results.toList ah)))
def KOa :AEx->LSt->Option (aq×LHp):=aG7 (hlp kx eY)
theorem aqV (y:(Y2).den)(a:cm)(i:Int)(n:Nat){R:Type}(k:AEx->LSt->Option R):lp kx eY PK (n+1) (My y a i) k=bif a7 (i<bd a.length)then (idx a i).bind λc=>bif !aQ c.2.1 0 then k AEx.ret {fr:=az 7 [(1,eb Y3.slice a),(2,mm 0 [] 0),(4,mm 1 [] 0),(5,I 5),(7,I i),(32,I i),(33,eb Y3.slice a),(34,I (bd a.length)),(35,B bc),(38,eb Y3.slice a),(39,I i),(40,Zh Y3 c),(41,Zh (aa) c.2.1),(42,I c.2.1),(43,B (aQ c.2.1 0)),(44,B bc),(45,(eb fa []).pr ((I 0).pr (b5.pr (eb eR bn))))],hp:=[(1,au.box ((eb fa []).pr ((I 0).pr (b5.pr (eb eR bn))))),(0,au.box (eb Y2 y)),(1,au.box ((eb fa []).pr ((I 0).pr (b5.pr (eb eR bn)))))],nx:=2}else (idx a i).bind λb=>bif aC b.2.2.1 !=0 then k AEx.ret {fr:=az 7 [(1,eb Y3.slice a),(2,mm 0 [] 0),(4,mm 1 [] 0),(5,I (aC b.2.2.1)),(7,I i),(8,I (aN b.2.2.1)),(9,I (aC b.2.2.1)),(32,I i),(33,eb Y3.slice a),(34,I (bd a.length)),(35,B bc),(38,eb Y3.slice a),(39,I i),(40,Zh Y3 c),(41,Zh (aa) c.2.1),(42,I c.2.1),(43,B (aQ c.2.1 0)),(44,B a8),(46,AV.tup [I (aN b.2.2.1),I (aC b.2.2.1)]),(47,eb Y3.slice a),(48,I i),(49,Zh Y3 b),(50,Zh (aa).slice b.2.2.1),(51,eb (aa).slice b.2.2.1),(52,AV.tup [I (aN b.2.2.1),I (aC b.2.2.1)]),(53,I (aN b.2.2.1)),(54,I (aC b.2.2.1)),(55,I (aC b.2.2.1)),(56,B bc),(57,(eb fa []).pr ((I 0).pr (b5.pr (eb eR bn)))),(58,I (aC b.2.2.1))],hp:=[(1,au.box ((eb fa []).pr ((I 0).pr (b5.pr (eb eR bn))))),(0,au.box (eb Y2 y)),(1,au.box ((eb fa []).pr ((I 0).pr (b5.pr (eb eR bn)))))],nx:=2}else lp kx eY PK n (My y a (i64.wrap (i+1))) k else k (AEx.exit 0) {fr:=az 7 [(1,eb Y3.slice a),(2,mm 0 [] 0),(4,mm 1 [] 0),(7,I i),(32,I i),(33,eb Y3.slice a),(34,I (bd a.length)),(35,B a8)],hp:=[(0,au.box (eb Y2 y)),(1,au.box ((eb fa []).pr ((I 0).pr (b5.pr (eb eR bn)))))],nx:=2}:=by kernel_rfl
theorem aG8 (b:Hl)(y:(Y2).den)(a:cm)(i:Int):aG7 b (.exit 0) {fr:=az 7 [(1,.d (.slice (Y3)) a),(2,.op 0 [] 0),(4,.op 1 [] 0),(7,I i),(32,I i),(33,.d (.slice (Y3)) a),(34,I (bd a.length)),(35,B a8)],hp:=aoB y,nx:=2}=bif axp y a then bif anc y a==0 then ak [(eb fa []).pr ((I 0).pr (b5.pr (eb eR bn))),I 4]else bif y.1==m8 then bif pJ y [116,111] 0 then bif !aQ (cI y [116,111] 0) 0 then ak [(eb fa []).pr ((I 0).pr (b5.pr (eb eR bn))),I 5]else bif X2 y a then bif (qL y a).2 !=0 then ak [(eb fa []).pr ((I 0).pr (b5.pr (eb eR bn))),I (qL y a).2]else bif aC (qL y a).1 !=0 then ak [(eb fa []).pr ((I 0).pr (b5.pr (eb eR bn))),I (aC (qL y a).1)]else bif O9 y then b C8 _ {fr:=az 7 [(2,mm 0 [] 0),(4,mm 1 [] 0),(10,I (cI y [116,111] 0)),(12,eb (aa).slice (qL y a).1),(14,eb fa.slice (HN y).1),(16,I 0)],hp:=[(0,au.box (eb Y2 y)),(1,au.box ((eb fa []).pr ((I 0).pr (b5.pr (eb eR bn)))))],nx:=2} (aI 2 (aL kx eY [7,30] b azY (aV prog 0 f68.results.toList ah)))else a6 else a6 else a6 else bif X2 y a then bif (qL y a).2 !=0 then ak [(eb fa []).pr ((I 0).pr (b5.pr (eb eR bn))),I (qL y a).2]else bif aC (qL y a).1 !=0 then ak [(eb fa []).pr ((I 0).pr (b5.pr (eb eR bn))),I (aC (qL y a).1)]else bif O9 y then b C8 _ {fr:=az 7 [(2,mm 0 [] 0),(4,mm 1 [] 0),(10,I (anc y a)),(12,eb (aa).slice (qL y a).1),(14,eb fa.slice (HN y).1),(16,I 0)],hp:=[(0,au.box (eb Y2 y)),(1,au.box ((eb fa []).pr ((I 0).pr (b5.pr (eb eR bn)))))],nx:=2} (aI 2 (aL kx eY [7,30] b azY (aV prog 0 f68.results.toList ah)))else a6 else a6 else a6:=by kernel_rfl
def KOb  :=aI 2<|aL kx eY [7,30] (hlp kx eY) azY<|aV prog 0 f68.results.toList ah
def Iq (y:(Y2).den)(t:Int)(d:af)(l:List<|ao)(i:Int):LSt:=⟨az 7 [(2,.op 0 [] 0),(4,.op 1 [] 0),(10,I t),(12,.d (.slice aa) d),(14,.d (.slice .str) l),(16,I i)],aoB y,2⟩
theorem aqW (y:(Y2).den)(t:Int)(d:af)(l:List (ao))(i:Int)(n:Nat):lp kx eY C8 (n+1) (Iq y t d l i) KOb=bif a7 (i<bd l.length)then (idx l i).bind λa=>bif amY a t 0 then bif (HM a t 0).2 !=0 then ak [(eb fa []).pr ((I 0).pr (b5.pr (eb eR bn))),I 4]else lp kx eY C8 n (Iq y t d l (i64.wrap (i+1))) KOb else a6 else (app [] d).bind λa=>ar (aq.ret [(eb fa y.2.2.2.1).pr ((I t).pr ((mq 0 0).pr (eb eR bn))),I 0],[(0,au.arr 3 (aa) 0 a8 a)]):=by kernel_rfl
theorem yY {c:Type}{p q:c->Bool}:∀{l:List c},(∀a∈l,p a=q a)->l.find? p=l.find? q
 |[],_=>rfl
 |a::l,h=>by rw[List.find?_cons,List.find?_cons,h a ku,yY λb d=>h b (m3 _ d)]
theorem afK :∀w∈cv (bW cH).2.2.1,dL w (di++[32])=bc->fM (il w (di.length+1))=4:=by decide +kernel
theorem afL {b}(h:iS (cv (bW cH).2.2.1) b=0):b.find? (ie di 4)=b.find? gJ:=by
 refine yY λa g=>?_
 unfold ie gJ;cases i:a.1==di with|false=>rfl|true=>let e:=eq_of_beq i;let ⟨w,d,f⟩:=HD b [] (um h).1 a g;let c:=List.find?_some d;unfold oM at c;rw[e]at f c;rw[afK w (kq d) c]at f;grind
def D6 (r:ExI)  :=∀p,IT r=ar p->p.2=0/\p.1≠0\/p.2=4
theorem D6.n :D6 a6:=λp h=>by cases h
theorem D6.p :D6 Wp:=λp h=>by cases h;exact .inr rfl
theorem D6.r {t}(a:t≠0):D6 (nS t):=λp h=>by cases h;exact .inl ⟨rfl,a⟩
theorem D6.b {c x y}(a:D6 x)(b:D6 y):D6 (bif c then x else y):=by cases c<;>assumption
theorem D6.i {vs:cm}{i}{f:(Y3).den->ExI}(h:∀v∈vs,D6<|f v):D6 ((idx vs i).bind f):=by cases a:idx vs i with|none=>exact .n|some v=>unfold idx at a;grind
theorem az2 {a:ao}{d c t s}(e:(a==m8)=a8)(f:t≠0)(g:∀v∈c,v.2.1≠0):D6 (aea a d c t s):=by
 unfold aea;rw[e,al];repeat' (with_reducible first|exact D6.n|exact D6.p|exact D6.r f|apply D6.b|(refine D6.i λv h=>?_)|exact D6.r<|g _<|by assumption)
 all_goals exact D6.r<|by decide
theorem afM {t}(h:aQ t 0=bc):t≠0:=by let:=An h;grind
def PL (y:(Y2).den)(t:Int)(d:af):Option (aq×LHp):=ar (.ret [(eb .str y.2.2.2.1).pr<|(I t).pr<|(mq 0 0).pr<| .d .unit bn,I 0],[(0,.arr 3 aa 0 a8 d)])
theorem az3 y t d:bT [Y3,aa] (PL y t d)=ar ((y.2.2.2.1,t,d,()),0):=rfl
theorem aG9 {y t d l}(g:d.length<=2147483648)(h:l.length<=maxLen):lp kx eY C8 fu (Iq y t d l 0) KOb=bif l.all (okU t)then PL y t d else qO 4:=by
 have key:∀l:List<|ao,bG (λ(_:Unit) (o:ao)=>bif okU t o then WD ()else Nx.stop<|qO 4) (λ_=>PL y t d) l ()=bif l.all (okU t)then PL y t d else qO 4:=by intro l;induction l with|nil=>rfl|cons o l q=>grind [bG]
 refine(cg (xs:=l) (T:=λn s=>lp kx eY C8 n s KOb) (st:=λ(i:Int) (_:Unit)=>Iq y t d l i) (f:=λ(_:Unit) (o:ao)=>bif okU t o then WD ()else Nx.stop<|qO 4) (fin:=λ_=>PL y t d) (λ_ _=>True) h ?_ ?_ (a:=()) trivial).trans<|key l
 ·intro i _ o n _ u v j k e
  have b:=aqW y t d l (i:Int) n;obtain⟨m,p⟩:=O7 o t 0<|aqi o t
  rw[e,ai,j,aw,m,ai,p,k,bne]at b;show (∃w,(bif (jq o t).2==0 then _ else _)=_/\_)\/∃r,(bif (jq o t).2==0 then _ else _)=_/\_;cases c:(jq o t).2==0 with|true=>rw[show (((HM o t 0).1,(jq o t).2).2==(0:Int))=bc from c,cy,al]at b;exact .inl ⟨_,rfl,trivial,b⟩|false=>rw[show (((HM o t 0).1,(jq o t).2).2==(0:Int))=a8 from c,hX,ai]at b;exact .inr ⟨_,rfl,b⟩
 ·intro _ n _ e;show lp kx eY C8 (n+1) (Iq y t d l (l.length:Int)) KOb=PL y t d;rw[aqW,e,al,nv g,aw]<;>rfl
theorem az4 y t d l:hlp kx eY C8 _ (Iq y t d l 0) KOb=lp kx eY C8 fu (Iq y t d l 0) KOb:=rfl
theorem az5 y a:hlp kx eY PK _ (My y a 0) KOa=lp kx eY PK fu (My y a 0) KOa:=rfl
noncomputable def xOa (y:(Y2).den)(a:cm)  :=KOa (.exit 0) ⟨az 7 [(1,.d (.slice _) a),(2,.op 0 [] 0),(4,.op 1 [] 0),(7,I a.length),(32,I a.length),(33,.d (.slice _) a),(34,I<| .ofNat a.length),(35,B a8)],aoB y,2⟩
theorem az6 {y vs}(h:vs.length<=2147483648):lp kx eY PK fu (My y vs 0) KOa=bif yM vs !=0 then qO (yM vs)else xOa y vs:=by
 let j:maxLen=9223372036854775807:=by decide
 let e:∀(l:cm),bG (λ_ v=>bif !aQ v.2.1 0 then .stop (qO 5)else bif aC v.2.2.1 !=0 then .stop (qO<|aC v.2.2.1)else .go ()) (λ_=>xOa y vs) l ()=bif yM l !=0 then qO (yM l)else xOa y vs:=by intro l;induction l with|nil=>rfl|cons v l k=>rw[bG,yM];grind
 refine(cg (xs:=vs) (T:=λn s=>lp kx eY PK n s KOa) (st:=λi _=>My y vs i) (λ_ _=>True) (by omega) ?_ ?_ trivial).trans<|e vs
 ·intro i _ v n _ m o f g b
  let a:=aqV y vs i n KOa;rw[b,ai,f,aw,aw,g]at a;cases c:aQ v.2.1 0 with|false=>rw[c,hX,ai]at a;exact .inr ⟨_,rfl,a.trans<|by kernel_rfl⟩|true=>rw[c,cy,al]at a;simp only[cy,al];cases d:aC v.2.2.1 !=0 with|true=>rw[d,ai]at a;exact .inr ⟨_,rfl,a.trans<|by kernel_rfl⟩|false=>rw[d,al]at a;exact .inl ⟨(),rfl,trivial,a⟩
 ·intro _ n _ b;show lp _ _ _ (n+1) (My y vs vs.length) _=_;rw[aqV,b,al]<;>rfl
theorem FH :∀{b},(∀x∈b,1<=x)->(∀x∈b,x<=cM b)/\1<=cM b
 |[],_=>⟨λ_ h=>(by cases h),by decide⟩
 |a::b,h=>by
  let ⟨g,c⟩:=FH λx d=>h x<|m3 _ d
  let f:=h a ku;let e:cM (a::b)=a*cM b:=by show b.foldl _ (1*a)=_;rw[ov,Int.one_mul]
  let i:a*1<=a*cM b:=Int.mul_le_mul_of_nonneg_left c<|by omega
  let j:1*cM b<=a*cM b:=Int.mul_le_mul_of_nonneg_right f<|by omega
  grind
theorem afN {d}(h:aC d=0):aeY d:=by let ⟨a,c,e,_⟩:=eL h;exact⟨c,λx b=>⟨a x b,by let:=(FH a).1 x b;omega⟩⟩
theorem X8 {a}(c:od a=bc):a∈nC++ones:=by
 by_cases h:a∈nC++ones
 ·exact h
 ·let d:∀s,s∈nC++ones->(a==s)=a8:=λs b=>by
   grind
  let f:dV a=a8:=by unfold dV;grind
  let e  :=λs b=>d s<|List.mem_append_left _<|List.contains_iff_mem.1 b
  let g:oc a=a6:=by
   unfold oc
   repeat rw[e _<|by decide +kernel,al]
  unfold od at c
  grind
theorem afO {a b c}(d:s9 a b c=bc):∃p,Hs a b c=ar p/\hO a b c=p.1/\hU a b c=p.2:=by let ⟨p,hp⟩:=Option.isSome_iff_exists.1 d;exact⟨p,hp,by unfold hO;rw[hp];rfl,by unfold hU;rw[hp];rfl⟩
theorem aHa {a b v}{r:cm}(h:a∈nC++ones)(d:(a==cH)=a8)(e:(a==m8)=a8)(c:∀u∈v::r,u.2.1≠0)(f:s9 a b (v::r)=bc):hU a b (v::r)=0/\hO a b (v::r)≠0\/hU a b (v::r)=4:=by let ⟨p,hp,e1,e2⟩:=afO f;rw[e1,e2];unfold Hs at hp;rw[aeb h d]at hp;exact az2 e (c v ku) c p hp
theorem afP {a v}{r:cm}(b:s9 [67,97,115,116] a (v::r)=bc):hU [67,97,115,116] a (v::r)=0/\hO [67,97,115,116] a (v::r)=aS a [116,111] 0/\aQ (aS a [116,111] 0) 0=bc\/hU [67,97,115,116] a (v::r)=5/\aQ (aS a [116,111] 0) 0=a8:=by
 let ⟨p,hp,e1,e2⟩:=afO b;rw[e1,e2];unfold Hs at hp;rw[aeb (by decide)<|by decide]at hp;let hp:IT (bif a.length<=9223372036854775807 then bif !aQ _ 0 then p5I else nS _ else a6)=ar p:=hp;cases d:a7 (a.length<=9223372036854775807)with|false=>rw[d]at hp;cases hp|true=>rw[d,ai]at hp;cases c:aQ _ 0 with|false=>rw[c]at hp;cases hp;exact .inr ⟨rfl,rfl⟩|true=>rw[c]at hp;cases hp;exact .inl ⟨rfl,rfl,rfl⟩
theorem X9 {b e}(c:oN cH b=0)(g:b.find? (ie di 4)=b.find? gJ)(h:s9 cH b e=bc):hU cH b e=0/\hO cH b e≠0:=by
 let ⟨p,hp,e1,e2⟩:=afO h;rw[e1,e2];unfold Hs at hp;rw[ug]at hp;cases d:a7 (b.length<=9223372036854775807)with|false=>rw[d]at hp;cases hp|true=>rw[d,ai]at hp;unfold oN at c;rw[g]at c;cases f:List.find? gJ b with|none=>rw[f]at hp;cases hp|some a=>rw[f]at hp c;cases hp;refine⟨rfl,?_⟩;exact afM (rL c).1
noncomputable def Zf (y:(Y2).den) a  :=bif hU y.1 y.2.2.2.2.1 a==0 then bif Ah y a==0 then (bif aC (kz y a) !=0 then aC (kz y a)else bif iT y.2.2.2.2.1 (hO y.1 y.2.2.2.2.1 a)then 0 else 4)else Ah y a else hU y.1 y.2.2.2.2.1 a
theorem afQ a t:((bif fY a then []else kI a).all<|okU t)=iT a t:=by
 unfold iT;cases c:fY a with
 |true=>rw[ai,Bool.or_true,Bool.true_or]<;>rfl
 |false=>
  rw[al,Bool.or_false];cases b:kZ a with
  |false=>rw[IN]
  |true=>
   let:kI a=[]:=by unfold kZ at b;unfold kI;grind
   grind
theorem afR {b}(h:aE b=bc):(bif fY b then []else kI b).length<=2147483648:=by
 let:(kI b).length<=2147483648:=by
  unfold kI;cases c:b.find? _ with
  |none=>simp
  |some a=>
   let:=jI h<|kq c
   let d:=sG a.2.2.2.2.1;grind
 grind
theorem aHb {y}(a:aE y.2.2.2.2.1=bc){t d}(b:aC d=0):(bif O9 y then hlp kx eY C8 _ (Iq y t d (HN y).1 0) KOb else a6)=bif iT y.2.2.2.2.1 t then PL y t d else qO 4:=by
 let ⟨c,e⟩:=adI y<|adM a
 let f:=afR a;let g:=(eL b).2.1;rw[c,ai,e,←afQ];exact(az4 y t d _).trans<|aG9 (by omega)<|zv f<|by decide
theorem afS {y:(Y2).den}{a}(s:aE y.2.2.2.2.1=bc)(w:y.1∈nC++ones)(f:azV y a)(x:oN y.1 y.2.2.2.2.1=0)(E:∀u∈a,aQ u.2.1 0=bc)(k:s9 y.1 y.2.2.2.2.1 a=bc)(F:hU y.1 y.2.2.2.2.1 a=0->VE y a=bc):bT [Y3,aa] (xOa y a)=ar (bif Zf y a==0 then (y.2.2.2.1,hO y.1 y.2.2.2.2.1 a,kz y a,())else ([],0,[],()),Zf y a):=by
 have T:maxLen=9223372036854775807:=by decide
 have G:=bz s;have z:=f.len;obtain⟨H,I⟩:=axq y a<|axu w (by omega) (by omega) k f.val
 have e:xOa y a=_:=aG8 (hlp kx eY) y a (a.length:Int);rw[H,ai,I]at e;have A:∀{c:Int},(c==0)=a8->Zf y a=c->bT [Y3,aa] (qO c)=ar (bif Zf y a==0 then (y.2.2.2.1,hO y.1 y.2.2.2.2.1 a,kz y a,())else ([],0,[],()),Zf y a):=λJ K=>by rw[K,J]<;>rfl
 have b:=Eq.refl<|Zf y a
 conv at b=>rhs;unfold Zf
 have L:hU y.1 y.2.2.2.2.1 a=0->∃q:Int×af,X2 y a=bc/\qL y a=(q.2,q.1)/\Ah y a=q.1/\kz y a=q.2:=λm=>by
  obtain⟨q,o⟩:=Option.isSome_iff_exists.1<|F m
  obtain⟨g1,g2⟩:=azS y a<|azX f o
  exact⟨q,g1,g2,by unfold Ah;rw[o];rfl,by unfold kz;rw[o];rfl⟩
 have fin:∀{t:Int},hU y.1 y.2.2.2.2.1 a=0->hO y.1 y.2.2.2.2.1 a=t->xOa y a=(bif X2 y a then bif (qL y a).2 !=0 then qO (qL y a).2 else (bif aC (qL y a).1 !=0 then qO (aC (qL y a).1)else (bif O9 y then hlp kx eY C8 (aq×LHp) (Iq y t (qL y a).1 (HN y).1 0) KOb else a6))else a6)->bT [Y3,aa] (xOa y a)=ar (bif Zf y a==0 then (y.2.2.2.1,hO y.1 y.2.2.2.2.1 a,kz y a,())else ([],0,[],()),Zf y a):=λ{t} m B h=>by
  obtain⟨q,g1,g2,g3,g4⟩:=L m;rw[h,g1,ai,g2];rw[m,g3,g4,B,show ((0:Int)==0)=bc from rfl,ai]at b;cases C:q.1==0 with
  |false=>grind
  |true=>
   rw[C,ai]at b;rw[show ((q.2,q.1).2 !=0)=a8 by rw[bne,show ((q.2,q.1).2==0)=bc from C];rfl,al];cases D:aC q.2 !=0 with|true=>grind|false=>rw[D,al]at b;rw[al,aHb s<|kK D];cases M:iT y.2.2.2.2.1 t with|false=>grind|true=>rw[M]at b;have b  :=b;rw[ai,az3,b,B,g4]<;>rfl
 cases g:y.1==m8 with
 |true=>
  have i:=eq_of_beq g;obtain⟨v,r,rfl⟩:∃v r,a=v::r:=by cases a with|nil=>have:=f.lo;rw[i,show (bW m8).1=1 by decide +kernel]at this;grind|cons v r=>exact⟨v,r,rfl⟩
  have l:=k;rw[i]at l;obtain⟨N,O⟩:=qk y [116,111] 0<|ql<|by omega
  have p:tpO y.1 (hO y.1 y.2.2.2.2.1<|v::r,hU y.1 y.2.2.2.2.1<|v::r)=1:=by unfold tpO;rw[g]<;>rfl
  rw[p,show ((1:Int)==0)=a8 from rfl,al,g,ai,N,ai,O]at e;rcases afP l with ⟨d,j,P⟩|⟨d,j⟩
  ·rw[←show y.1=([67,97,115,116]:ao)from i]at d j;rw[P,cy,al]at e;exact fin d j e
  ·rw[←show y.1=([67,97,115,116]:ao)from i]at d;rw[j]at e;rw[d]at b;rw[e];exact A (c:=5) rfl b
 |false=>
  rw[g,al]at e
  have Q:hU y.1 y.2.2.2.2.1 a=0/\hO y.1 y.2.2.2.2.1 a≠0\/hU y.1 y.2.2.2.2.1 a=4:=by
   cases n:y.1==cH with|true=>have i:=eq_of_beq n;have R:=f.val n;rw[i]at x k⊢;exact .inl<|X9 x R k|false=>cases a with|nil=>have:=f.lo;have:=uo n;grind|cons v r=>exact aHa w n g (λu S=>afM<|E u S) k
  have p:tpO y.1 (hO y.1 y.2.2.2.2.1 a,hU y.1 y.2.2.2.2.1 a)=bif hU y.1 y.2.2.2.2.1 a==0 then hO y.1 y.2.2.2.2.1 a else 0:=by unfold tpO;rw[g]<;>rfl
  rw[p]at e;rcases Q with ⟨d,j⟩|d
  ·rw[d,show ((0:Int)==0)=bc from rfl,ai,show (hO y.1 y.2.2.2.2.1 a==0)=a8 by simpa using j,al]at e;exact fin d rfl e
  ·rw[d]at e b;rw[e];exact A (c:=4) rfl b
theorem az7 {y:(Y2).den}{vs:cm}(b:jj y):X7 y vs=ar (DG y vs,pe y vs):=by
 let A:maxLen=9223372036854775807:=by decide
 let f:=b.shA;let B:=b.ins;let ⟨p,q⟩:=axl y<|axn (by omega) f b.shT
 let g:=Se (vs:=vs) b;unfold X7;rw[az1,p,ai,q];let k:∀{c:Int},(c==0)=a8->pe y vs=c->bT [Y3,aa] (qO c)=ar (DG y vs,pe y vs):=λr s=>by unfold DG;rw[s,r]<;>rfl
 let eC:=Eq.refl<|pe y vs
 conv at eC=>rhs;unfold pe
 unfold IU at g;simp only[aX]at g;let ⟨_,g5⟩:=g;cases a:Ac y.1 y.2.2.1 y.2.2.2.1 y.2.2.2.2.1 !=0 with
 |true=>rw[a,ai]at eC;exact k (iu a) eC
 |false=>
  rw[a,al]at eC;rw[al,bne];cases d:bd vs.length==bd y.2.2.1.length with
  |false=>rw[d,hX,ai]at eC;exact k (c:=4) rfl eC
  |true=>
   rw[d,cy,al]at eC;let e2:=eq_of_beq d;simp only[aK]at e2;rw[cy,al];let t:=(az5 y vs).trans<|az6 (y:=y) (vs:=vs)<|by omega
   refine(congrArg (bT [Y3,aa]) t).trans ?_;cases i:yM vs !=0 with
   |true=>grind
   |false=>
    rw[i,al]at eC;rw[a,d,i]at g5;simp only[cy,IN,aX]at g5;let ⟨g6,g7⟩:=g5;let l:=vS<|kK i
    let m:=kK a;let e:=nu m;let v:od y.1=bc:=by cases C:od y.1 with|true=>rfl|false=>unfold Ac at m;grind
    let w:azV y vs:=⟨f,by omega,λu j=>afN (l u j).2,by let:=e.least;omega,by let:=e.most;omega,λh=>by let n:=e.attr;rw[eq_of_beq h]at n;exact afL n⟩;let o:pe y vs=Zf y vs:=eC;let x:DG y vs=bif Zf y vs==0 then (y.2.2.2.1,hO y.1 y.2.2.2.2.1 vs,kz y vs,())else ([],0,[],()):=by unfold DG;rw[o]
    rw[al,afS f (X8 v) w e.const (λu j=>(l u j).1) g6<|λz=>by rw[z]at g7;simpa using g7,x,o]
def aqY  :=aU f33
def xZ  :=cL<|cL<|cR<|cL<|cR<|cR aqY
def iY :Cfg:=⟨26,5,0,[(3,[0,3,4])],bc⟩
def Mz a  :=bT [.slice<|Y3]<|aB zY f33 5 [(3,[0,3,4])] [.d (.slice<|Y0) a] [] ah
def afT a  :=(Mz a).isSome
def tp a  :=(Mz a).getD<|dS _
def az8  :=cC [.slice _] _ λa=>(afT a,tp a)
theorem S4 :bq 33 az8:=bh aa6<|by simp only[dg];exact λa h=>aZ h
theorem afU {a} ts (h:Mz ts=ar a):afT ts=bc/\tp ts=a:=bU h
def C9 (a:List (Y0).den)(i:Int):LSt:=⟨az 5 [(0,.d (.slice _) a),(3,.nils),(4,I i)],[],0⟩
def Ya  :=aI 0<|aL zY iY [3] (hlp zY iY) (cR<|cR<|cR aqY)<|aV prog 0 f33.results.toList ah
theorem az9 (a:List (Y0).den):aB zY f33 5 [(3,[0,3,4])] [.d (.slice _) a] [] ah=(hlp zY iY) xZ _ (C9 a 0) Ya:=(aW [3] iY rfl).trans<|by obtain⟨b,h⟩:=aM zY iY;rw[h];kernel_rfl
def FI (a:List (Y0).den)(i:Int)(o:cm):LSt:=⟨az 5 [(0,.d (.slice _) a),(3,.os 0 0),(4,I i)],[(0,.arr 47 _ 0 a8 o)],1⟩
theorem afV a i n:lp zY iY xZ (n+1) (C9 a i) Ya=bif i<.ofNat a.length then (idx a i).bind λb=>(idx a i).bind λc=>lp zY iY xZ n (FI a (i64.wrap<|i+1) [([],b.1,c.2.1,())]) Ya else ak [.nils]:=by kernel_rfl
theorem afW a i o n:lp zY iY xZ (n+1) (FI a i o) Ya=bif i<.ofNat a.length then (idx a i).bind λb=>(idx a i).bind λc=>(app o [([],b.1,c.2.1,bn)]).bind λd=>lp zY iY xZ n (FI a (i64.wrap<|i+1) d) Ya else ar (.ret [.os 0 0],[(0,.arr 47 Y3 0 a8 o)]):=by kernel_rfl
def aqZ  :=aU f28
def MA  :=cL<|cL<|cR<|cL<|cR aqZ
def mg :Cfg:=⟨54,6,0,[(2,[1,2,4,6])],bc⟩
def wy  :=((GV.add 68 aG6).add 67 axe).add 33 az8
theorem Yb :wy.Good:=((jR.add aoA).add Sk).add S4
def MB (y:(Y2).den)(a:List (Y0).den)(i:Int):LSt:=⟨az 6 [(1,.d (.slice _) a),(2,.op 0 [] 0),(4,.op 1 [] 0),(6,I i)],[(0,.box<| .d _ y),(1,.box<|(I 0).pr<|b5.pr<|b5.pr<| .d .unit bn)],2⟩
def KBr  :=aI 0<|aL wy mg [2] (hlp wy mg) (cR<|cR aqZ)<|aV prog 0 f28.results.toList ah
theorem aAa y (a:List (Y0).den):aB wy f28 6 [(2,[1,2,4,6])] [.d _ y,.d (.slice _) a] [] ah=(hlp wy mg) MA _ (MB y a 0) KBr:=(aW [2] mg rfl).trans<|by obtain⟨b,h⟩:=aM wy mg;rw[h];kernel_rfl
theorem aq1 (y)(a)(i)(n):lp wy mg MA (n+1) (MB y a i) KBr=bif a7 (i<.ofNat a.length)then (idx a i).bind λb=>bif We b then bif Wf b !=0 then ak [(I 0).pr<|b5.pr<|b5.pr<| .d .unit bn,I 1]else lp wy mg MA n (MB y a<|i64.wrap<|i+1) KBr else a6 else bif afT a then bif azZ y (tp a)then bif (Ip y<|tp a).2 !=0 then ak [(I 0).pr<|b5.pr<|b5.pr<| .d .unit bn,I (Ip y<|tp a).2]else bif !y.1==xk then bif !y.1==xm then bif !y.1==tY then ak [(I (Ip y<|tp a).1.2.1).pr<|(eb (aa).slice (Ip y<|tp a).1.2.2.1).pr<|b5.pr<| .d .unit bn,I 0]else ak [(I 9).pr<|(eb (aa).slice (Ip y<|tp a).1.2.2.1).pr<|b5.pr<| .d .unit bn,I 0]else ak [(I 9).pr<|(eb (aa).slice (Ip y<|tp a).1.2.2.1).pr<|b5.pr<| .d .unit bn,I 0]else ak [(I 9).pr<|(eb (aa).slice (Ip y<|tp a).1.2.2.1).pr<|b5.pr<|eb eR bn,I 0]else a6 else a6:=by kernel_rfl
def aHc (a:List (Y0).den)(i:Int):cm->LSt
 |[]=>C9 a i
 |v::o=>FI a i (v::o)
def afX :cm->Option (aq×LHp)
 |[]=>ar (.ret [.nils],[])
 |v::o=>ar (.ret [.os 0 0],[(0,.arr 47 _ 0 a8<|v::o)])
theorem aAb o:bT [.slice _] (afX o)=ar o:=by cases o<;>rfl
theorem aHd a:hlp zY iY xZ _ (C9 a 0) Ya=lp zY iY xZ fu (C9 a 0) Ya:=rfl
theorem afY {a:List (Y0).den}(g:a.length<=2147483648):Mz a=ar (a.map aR):=by
 let j:maxLen=9223372036854775807:=by decide
 let key:∀(l:List (Y0).den) (o:cm),bG (λo t=>.go<|o++[aR t]) afX l o=afX (o++l.map aR):=by intro l;induction l with|nil=>intro o;rw[bG,Dr,eT]|cons t l f=>intro o;refine(f _).trans ?_;rw[gl]<;>rfl
 let h  :=by
  refine(cg (T:=λn s=>lp zY iY xZ n s Ya) (st:=λi o=>aHc a i o) (λi o=>o.length=i) (by omega) ?_ ?_ rfl).trans<|key a []
  ·intro i o t n c k m d e b;refine .inl ⟨_,rfl,by rw[bK,c];rfl,?_⟩;cases o with|nil=>show lp zY iY xZ _ (C9 a i) Ya=_;rw[afV,b,ai,d,aw,aw,e]<;>rfl|cons v o=>let ev:([],t.1,t.2.1,.unit)=aR t:=rfl;show lp zY iY xZ _ (FI a i _) Ya=_;rw[afW,b,ai,d,aw,aw,ev,gu<|by omega,aw,e]<;>rfl
  ·intro o n c b;cases o with|nil=>show lp zY iY xZ _ (C9 a _) Ya=_;rw[afV,b,al]<;>rfl|cons v o=>show lp zY iY xZ _ (FI a _ _) Ya=_;rw[afW,b,al]<;>rfl
 unfold Mz;rw[(az9 a).trans<|(aHd a).trans h];exact aAb _
def Yc  :=(I 0).pr<|b5.pr<|b5.pr<| .d .unit bn
def erT (c:Int):Option (aq×LHp):=ar (.ret [Yc,I c],[])
def Ir (op:ao)  :=op==xk||(op==xm||op==tY)
def bgT (y:(Y2).den)(t:Int)(d:af):Option (aq×LHp):=ar (.ret [(I (bif Ir y.1 then 9 else t)).pr ((eb (aa).slice d).pr (b5.pr (eb eR bn))),I 0],[])
theorem aHf y a:hlp wy mg MA _ (MB y a 0) KBr=lp wy mg MA fu (MB y a 0) KBr:=rfl
def bgX y c t d  :=bif c==0 then bgT y t d else erT c
theorem aoD {y:(Y2).den}{b}(j:jj y)(k:fj b=bc)(m:b.length<=2147483648):aB wy f28 6 [(2,[1,2,4,6])] [.d _ y,.d (.slice _) b] [] ah=bgX y (ic y b) (eQ y b).2.1 (eQ y b).2.2.1:=by
 let B:maxLen=9223372036854775807:=by decide
 let ⟨o,p⟩:=afU b<|afY m
 let ⟨q,r⟩:=az0 y (b.map aR)<|az7 j
 let fin:∀n:Nat,lp wy mg MA _ _ KBr=bif pe y _ !=0 then erT (pe y<|b.map aR)else bgT y (DG y<|b.map aR).2.1 (DG y<|b.map aR).2.2.1:=λn=>by let e:=aq1 y b b.length n;rw[cq<|by simp only[aK];omega,al,o,ai,p,q,ai,r]at e;refine e.trans ?_;cases pe y (b.map aR) !=0 with|true=>rfl|false=>unfold bgT Ir;grind
 let key:∀(l:List (Y0).den) (R:Option<|aq×LHp),bG (λ_ t=>bif gz t.1 t.2.1 t.2.2.1 !=0 then .stop (erT 1)else .go ()) (λ_=>R) l ()=bif pQ l then R else erT 1:=by intro l R;induction l with|nil=>rfl|cons t l C=>let D:pQ (t::l)=(gz t.1 t.2.1 t.2.2.1==0&&pQ l):=rfl;grind [bG]
 let h  :=by
  refine(cg (xs:=b) (T:=λn s=>lp wy mg MA n s KBr) (st:=λi _=>MB y b i) (f:=λ_ t=>bif gz t.1 t.2.1 t.2.2.1 !=0 then .stop (erT 1)else .go ()) (fin:=λ_=>bif pe y (b.map aR) !=0 then erT (pe y<|b.map aR)else bgT y (DG y<|b.map aR).2.1 (DG y<|b.map aR).2.2.1) (λ_ _=>True) (by omega) ?_ ?_ (a:=()) trivial).trans<|key b _
  ·intro i _ t n _ E u v w x
   let g:=bt<|gv.1 k t<|ik u
   let ⟨z,A⟩:=adX t<|adY (by let:=g.1;omega)<|by let:=g.2;omega
   let e:=aq1 y b i n;rw[x,ai,v,aw,z,ai,A,w]at e;cases c:gz t.1 t.2.1 t.2.2.1 !=0 with|true=>rw[c,ai]at e;exact .inr ⟨_,rfl,e⟩|false=>rw[c,al]at e;exact .inl ⟨_,rfl,trivial,e⟩
  grind
 rw[(aAa y b).trans<|(aHf y b).trans h];unfold bgX ic eQ;grind
def PM (n:(Y2).den)  :=n.2.2.1.length<=1048576&&(aE n.2.2.2.2.1&&(nf n.2.2.2.2.1&&n.2.2.2.2.1.all λa=>bk a.2.2.2.2.2.2.1<=1048576))
theorem pS {n}:PM n=bc↔jj n:=by
 unfold PM;rw[aX,aX,aX,decide_eq_true_eq,gv];constructor
 ·rintro⟨b,c,d,e⟩
  exact⟨b,c,d,λa f=>bt<|e a f⟩
 ·rintro⟨b,c,d,e⟩
  grind
noncomputable def aAc :List AV->LHp->Tq
 |[.d Y2 n,.d (.slice Y0) a],[]=>.br (PM n&&(fj a&&a7 (a.length<=2147483648))) (.br (ic n a==0) (.leaf (.ret [(I (bif Ir n.1 then 9 else (eQ n a).2.1)).pr ((eb (.slice aa) (eQ n a).2.2.1).pr (b5.pr (eb eR bn))),I 0]) []) (.leaf (.ret [Yc,I (ic n a)]) [])) .no
 |_,_=>.no
theorem aoE :bq 28 (ay aAc):=by
 let e:=bM (d:=6) (l:=[(2,[1,2,4,6])]) Yb func28 call28;refine aY λc g h i a=>?_
 unfold aAc at a;split at a
 ·let ⟨b,f⟩:=eN a;rw[aX,aX,decide_eq_true_eq,pS]at b;exact e.okC<|(aoD b.1 b.2.1 b.2.2).trans f
 ·cases a
def aq3  :=aU f31
def Yd  :=cL (cL (cR (cL (cR (cR (cR (cR (cR aq3))))))))
def pa :Cfg:=⟨51,6,0,[(8,[0,1,8,9])],bc⟩
def zE  :=dE.add 30 (ay FG)
theorem Ye :zE.Good:=xw.add wx
def D7 d n  :=bT [.slice aa,aa] (aB zE f31 6 [(8,[0,1,8,9])] [.d (.slice aa) d,.d aa n] [] ah)
def aoF d n  :=(D7 d n).isSome
def wA d n  :=(D7 d n).getD (dS _)
def aHg  :=cC [.slice aa,aa] _ λd n=>(aoF d n,wA d n)
theorem aoG :bq 31 aHg:=bh (bM Ye func31 call31 (h2:=rfl)) (by simp only[dg];exact λd n h=>aZ h)
theorem PN {a} d n (h:D7 d n=ar a):aoF d n=bc/\wA d n=a:=bU h
def FJ (d:af)(m i:Int)(o:af):LSt:=⟨az 6 [(0,.d (.slice aa) d),(1,I m),(8,.os 0 0),(9,I i)],[(0,.arr 3 aa 0 a8 o)],1⟩
def Yf :AEx->LSt->Option (aq×LHp):=(aI 0 (aL zE pa [8] (hlp zE pa) (cR (cR (cR (cR (cR (cR aq3)))))) (aV prog 0 f31.results.toList ah)))
theorem aAd (d:af)(n:Int):aB zE f31 6 [(8,[0,1,8,9])] [.d (.slice aa) d,I n] [] ah=bif aC d !=0 then ak [b5,I (aC d)]else bif a7 (n<0)then ak [b5,I 1]else bif a7 (n>=aN d)then ak [b5,I 1]else (if 0<=bd d.length/\bd d.length<=4294967296 then ar (eo (bd d.length).toNat 0)else a6).bind λa=>(hlp zE pa) Yd _ (FJ d n (i64.wrap (bd d.length-1)) a) Yf:=(aW [8] pa rfl).trans (by obtain⟨b,h⟩:=aM zE pa;rw[h];kernel_rfl)
theorem aq4 d m i o n:lp zE pa Yd (n+1) (FJ d m i o) Yf=bif a7 (i>=0)then (idx d i).bind λa=>(if a=0 then a6 else ar (m.tmod a)).bind λc=>(idx o i).bind λg=>(fR o i.toNat c).bind λe=>(idx d i).bind λb=>(if b=0 then a6 else ar (i64.wrap (m.tdiv b))).bind λf=>lp zE pa Yd n (FJ d f (i64.wrap (i-1)) e) Yf else ar (.ret [.os 0 0,I 0],[(0,.arr 3 aa 0 a8 o)]):=by kernel_rfl
def aq5  :=aU f122
def MC  :=cL (cL (cR (cL (cR (cR (cR (cR (cR aq5))))))))
def mh :Cfg:=⟨57,6,0,[(8,[0,1,8,9])],bc⟩
def wB  :=Oe.add 30 (ay FG)
theorem Yg :wB.Good:=mM.add wx
def Yh d a  :=bT [aa,aa] (aB wB f122 6 [(8,[0,1,8,9])] [.d (.slice aa) d,.d (.slice aa) a] [] ah)
def aAe d a  :=(Yh d a).isSome
def aAf d a  :=(Yh d a).getD (dS _)
def aHh  :=cC [.slice aa,.slice aa] _ λd a=>(aAe d a,aAf d a)
theorem aoH :bq 122 aHh:=bh (bM Yg func122 call122 (h2:=rfl)) (by simp only[dg];exact λd a h=>aZ h)
theorem aAg {b} d a (h:Yh d a=ar b):aAe d a=bc/\aAf d a=b:=bU h
def MD (d a:af)(m i:Int):LSt:=⟨az 6 [(0,.d (.slice aa) d),(1,.d (.slice aa) a),(8,I m),(9,I i)],[],0⟩
def KOf  :=aI 0 (aL wB mh [8] (hlp wB mh) (cR (cR (cR (cR (cR (cR aq5)))))) (aV prog 0 f122.results.toList ah))
theorem aAh (d a:af):aB wB f122 6 [(8,[0,1,8,9])] [.d (.slice aa) d,.d (.slice aa) a] [] ah=bif aC d !=0 then ak [I 0,I (aC d)]else bif .ofNat a.length !=bd d.length then ak [I 0,I 1]else (hlp wB mh) MC _ (MD d a 0 0) KOf:=(aW [8] mh rfl).trans (by obtain⟨b,h⟩:=aM wB mh;rw[h];kernel_rfl)
theorem aq7 d a m i n:lp wB mh MC (n+1) (MD d a m i) KOf=bif a7 (i<.ofNat d.length)then (idx a i).bind λb=>bif a7 (b<0)then ak [I 0,I 1]else (idx a i).bind λc=>(idx d i).bind λe=>bif a7 (c>=e)then ak [I 0,I 1]else (idx d i).bind λf=>(idx a i).bind λg=>lp wB mh MC n (MD d a (i64.wrap (i64.wrap (m*f)+g)) (i64.wrap (i+1))) KOf else ak [I m,I 0]:=by kernel_rfl
def aAi  :=Oe.add 122 aHh
theorem Yi :aAi.Good:=mM.add aoH
def Yj t a b c d  :=bT [aa] (aB aAi f72 5 [] [.d Y0 t,.d aa a,.d aa b,.d aa c,.d aa d] [] ah)
def Is t a b c d  :=(Yj t a b c d).isSome
def It t a b c d  :=(Yj t a b c d).getD (dS _)
def aAj  :=cC [Y0,aa,aa,aa,aa] _ λt a b c d=>(Is t a b c d,It t a b c d)
theorem S5 :bq 72 aAj:=bh (bM Yi func72 call72 (h2:=rfl)) (by simp only[dg];exact λt a b c d h=>aZ h)
theorem afZ {e} t a b c d (h:Yj t a b c d=ar e):Is t a b c d=bc/\It t a b c d=e:=bU h
theorem aAk t a b c d:aB aAi f72 5 [] [.d Y0 t,I a,I b,I c,I d] [] ah=bif aAe t.2.1 [a,b,c,d]then (idx t.2.2.1 (aAf t.2.1 [a,b,c,d]).1).bind λe=>ak [I e]else a6:=by kernel_rfl
def S6  :=aU f70
def qM  :=cL (cL (cR (cL (cR (cR S6)))))
def aAl  :=cR (cR (cL (cL (cR (cL (cR (cR S6)))))))
def mE  :=cL (cL (cR (cL (cL (cR (cL (cL (cR (cL (cR (cR S6)))))))))))
def bL :Cfg:=⟨95,7,0,[(3,[1,2,3,4,9,10]),(6,[1,2,3,4,9,10,11])],bc⟩
def Yk w d p q  :=bT [.slice (.arr 4 (.int .i64))] (aB dE f70 7 [(3,[1,2,3,4,9,10]),(6,[1,2,3,4,9,10,11])] [.d Y5 w,.d (.slice aa) d,.d aa p,.d aa q] [] ah)
def aoI w d p q  :=(Yk w d p q).isSome
def PO w d p q  :=(Yk w d p q).getD (dS _)
def aAm  :=cC [Y5,.slice aa,aa,aa] _ λw d p q=>(aoI w d p q,PO w d p q)
theorem S7 :bq 70 aAm:=bh abb (by simp only[dg];exact λw d p q h=>aZ h)
theorem af0 {a} w d p q (h:Yk w d p q=ar a):aoI w d p q=bc/\PO w d p q=a:=bU h
def yZ (w:(Y5).den)(d:af)(p q i:Int):LSt:=⟨az 7 [(1,.d (.slice aa) d),(2,I p),(3,I q),(4,.op 0 [] 0),(9,.nils),(10,I i)],[(0,.box (.d _ w))],1⟩
def qq  :=aI 0 (aL dE bL [3,6] (hlp dE bL) (cR (cR (cR S6))) (aV prog 0 f70.results.toList ah))
theorem aAn w (d:af) p q:aB dE f70 7 [(3,[1,2,3,4,9,10]),(6,[1,2,3,4,9,10,11])] [.d _ w,.d (.slice aa) d,I p,I q] [] ah=(hlp dE bL) qM _ (yZ w d p q 0) qq:=(aW [3,6] bL rfl).trans (by obtain⟨a,h⟩:=aM dE bL;rw[h];kernel_rfl)
def DH (n:Nat)(k:AEx->LSt->Option (aq×LHp))  :=aI 2 (aI 1 (aL dE bL [3,6] (hlp dE bL) aAl (lJ dE bL [3,6] (hlp dE bL) qM n k)))
def ME (w:(Y5).den)(d:af)(p q i:Int)(o:List (rn 4 aa).den):LSt:=⟨az 7 [(1,.d (.slice aa) d),(2,I p),(3,I q),(4,.op 0 [] 0),(9,.os 1 0),(10,I i)],[(0,.box (.d _ w)),(1,.arr 107 _ 0 a8 o)],2⟩
def wC (w:(Y5).den)(d:af)(p q i j:Int):LSt:=⟨az 7 [(1,.d (.slice aa) d),(2,I p),(3,I q),(4,.op 0 [] 0),(9,.nils),(10,I i),(11,I j)],[(0,.box (.d _ w))],1⟩
def sa (w:(Y5).den)(d:af)(p q i j:Int)(o:List (rn 4 aa).den):LSt:=⟨az 7 [(1,.d (.slice aa) d),(2,I p),(3,I q),(4,.op 0 [] 0),(9,.os 1 0),(10,I i),(11,I j)],[(0,.box (.d _ w)),(1,.arr 107 _ 0 a8 o)],2⟩
theorem af1 w d p q i n:lp dE bL qM (n+1) (yZ w d p q i) qq=(idx w.1 0).bind λa=>bif a7 (i<a)then (hlp dE bL) mE _ (wC w d p q i 0) (aI 2 (aI 1 (aL dE bL [3,6] (hlp dE bL) aAl (lJ dE bL [3,6] (hlp dE bL) qM n qq))))else ak [.nils]:=by rw[j9 [3,6]];obtain⟨b,h⟩:=aM dE bL;rw[h];kernel_rfl
theorem af2 (w:(Y5).den)(d:af)(p q i:Int)(o:List (rn 4 aa).den)(n:Nat):lp dE bL qM (n+1) (ME w d p q i o) qq=(idx w.1 0).bind λa=>bif a7 (i<a)then (hlp dE bL) mE _ (sa w d p q i 0 o) (aI 2 (aI 1 (aL dE bL [3,6] (hlp dE bL) aAl (lJ dE bL [3,6] (hlp dE bL) qM n qq))))else ar (aq.ret [mq 0 0],[(0,au.arr 107 (rn 4 (aa)) 0 a8 o)]):=by rw[j9 [3,6]];obtain⟨b,h⟩:=aM dE bL;rw[h];kernel_rfl
theorem af3 (w:(Y5).den)(d:af)(p q i j:Int)(m:Nat)(n:Nat):lp dE bL mE (n+1) (wC w d p q i j) (DH m qq)=(idx w.1 1).bind λk=>bif a7 (j<k)then (idx w.2.1 0).bind λa=>(idx w.2.2.1 0).bind λb=>(idx w.2.2.2.1 0).bind λc=>(idx w.2.1 1).bind λe=>(idx w.2.2.1 1).bind λf=>(idx w.2.2.2.1 1).bind λg=>bif a7 (i64.wrap (i64.wrap (i64.wrap (p*a)-b)+i64.wrap (i*c))>=0)then (idx d 2).bind λl=>bif a7 (i64.wrap (i64.wrap (i64.wrap (p*a)-b)+i64.wrap (i*c))<l)then bif a7 (i64.wrap (i64.wrap (i64.wrap (q*e)-f)+i64.wrap (j*g))>=0)then (idx d 3).bind λh=>bif a7 (i64.wrap (i64.wrap (i64.wrap (q*e)-f)+i64.wrap (j*g))<h)then lp dE bL mE n (sa w d p q i (i64.wrap (j+1)) [[i,j,i64.wrap (i64.wrap (i64.wrap (p*a)-b)+i64.wrap (i*c)),i64.wrap (i64.wrap (i64.wrap (q*e)-f)+i64.wrap (j*g))]]) (DH m qq)else lp dE bL mE n (wC w d p q i (i64.wrap (j+1))) (DH m qq)else lp dE bL mE n (wC w d p q i (i64.wrap (j+1))) (DH m qq)else lp dE bL mE n (wC w d p q i (i64.wrap (j+1))) (DH m qq)else lp dE bL mE n (wC w d p q i (i64.wrap (j+1))) (DH m qq)else lpH dE bL [3,6] (hlp dE bL) qM m (yZ w d p q (i64.wrap (i+1))) qq:=by kernel_rfl
theorem af4 (w:(Y5).den)(d:af)(p q i j:Int)(o:List (rn 4 aa).den)(m:Nat)(n:Nat):lp dE bL mE (n+1) (sa w d p q i j o) (DH m qq)=(idx w.1 1).bind λk=>bif a7 (j<k)then (idx w.2.1 0).bind λa=>(idx w.2.2.1 0).bind λb=>(idx w.2.2.2.1 0).bind λc=>(idx w.2.1 1).bind λe=>(idx w.2.2.1 1).bind λf=>(idx w.2.2.2.1 1).bind λg=>bif a7 (i64.wrap (i64.wrap (i64.wrap (p*a)-b)+i64.wrap (i*c))>=0)then (idx d 2).bind λl=>bif a7 (i64.wrap (i64.wrap (i64.wrap (p*a)-b)+i64.wrap (i*c))<l)then bif a7 (i64.wrap (i64.wrap (i64.wrap (q*e)-f)+i64.wrap (j*g))>=0)then (idx d 3).bind λh=>bif a7 (i64.wrap (i64.wrap (i64.wrap (q*e)-f)+i64.wrap (j*g))<h)then (app o [[i,j,i64.wrap (i64.wrap (i64.wrap (p*a)-b)+i64.wrap (i*c)),i64.wrap (i64.wrap (i64.wrap (q*e)-f)+i64.wrap (j*g))]]).bind λr=>lp dE bL mE n (sa w d p q i (i64.wrap (j+1)) r) (DH m qq)else lp dE bL mE n (sa w d p q i (i64.wrap (j+1)) o) (DH m qq)else lp dE bL mE n (sa w d p q i (i64.wrap (j+1)) o) (DH m qq)else lp dE bL mE n (sa w d p q i (i64.wrap (j+1)) o) (DH m qq)else lp dE bL mE n (sa w d p q i (i64.wrap (j+1)) o) (DH m qq)else lpH dE bL [3,6] (hlp dE bL) qM m (ME w d p q (i64.wrap (i+1)) o) qq:=by kernel_rfl
def aHi  :=sY.add 115 (fnE xo)
theorem Yl :aHi.Good:=sC.add qd
def aHj  :=aA aHi f121 7 []
theorem aoJ :bq 121 aHj:=bM Yl func121 call121
def Iu  :=Oe.add 121 aHj
theorem Ym :Iu.Good:=mM.add aoJ
theorem aAo (x y:Int):aB Iu f71 5 [] [.d .str Uv,I x,I y] [] ah=bif !aQ 1 x then ak [I 0]else bif !aQ 1 y then ak [I 0]else bif (b8.format.read (fop BinOp.add b8 (aG b8 (u32.wrap x).toNat) (aG b8 (u32.wrap y).toNat))).order (b8.format.read (fop BinOp.add b8 (aG b8 (u32.wrap x).toNat) (aG b8 (u32.wrap y).toNat))) !=ar Eb then ak [I 2143289344]else bif lG b8 (fop BinOp.add b8 (aG b8 (u32.wrap x).toNat) (aG b8 (u32.wrap y).toNat))then a6 else ak [I (i64.wrap (bd (fop BinOp.add b8 (aG b8 (u32.wrap x).toNat) (aG b8 (u32.wrap y).toNat))))]:=by kernel_rfl
theorem aAp (x y:Int):aB Iu f71 5 [] [.d .str Uy,I x,I y] [] ah=bif !aQ 1 x then ak [I 0]else bif !aQ 1 y then ak [I 0]else bif (b8.format.read (fop BinOp.mul b8 (aG b8 (u32.wrap x).toNat) (aG b8 (u32.wrap y).toNat))).order (b8.format.read (fop BinOp.mul b8 (aG b8 (u32.wrap x).toNat) (aG b8 (u32.wrap y).toNat))) !=ar Eb then ak [I 2143289344]else bif lG b8 (fop BinOp.mul b8 (aG b8 (u32.wrap x).toNat) (aG b8 (u32.wrap y).toNat))then a6 else ak [I (i64.wrap (bd (fop BinOp.mul b8 (aG b8 (u32.wrap x).toNat) (aG b8 (u32.wrap y).toNat))))]:=by kernel_rfl
theorem aAq (x y:Int):aB Iu f71 5 [] [.d .str Ux,I x,I y] [] ah=bif !aQ 1 x then ak [I 0]else bif !aQ 1 y then ak [I 0]else bif (b8.format.read (fop BinOp.quo b8 (aG b8 (u32.wrap x).toNat) (aG b8 (u32.wrap y).toNat))).order (b8.format.read (fop BinOp.quo b8 (aG b8 (u32.wrap x).toNat) (aG b8 (u32.wrap y).toNat))) !=ar Eb then ak [I 2143289344]else bif lG b8 (fop BinOp.quo b8 (aG b8 (u32.wrap x).toNat) (aG b8 (u32.wrap y).toNat))then a6 else ak [I (i64.wrap (bd (fop BinOp.quo b8 (aG b8 (u32.wrap x).toNat) (aG b8 (u32.wrap y).toNat))))]:=by kernel_rfl
theorem aAr (x y:Int):aB Iu f71 5 [] [.d .str Uw,I x,I y] [] ah=bif !aQ 1 x then ak [I 0]else bif !aQ 1 y then ak [I 0]else bif x==2143289344 then ak [I 2143289344]else bif y==2143289344 then ak [I 2143289344]else bif (b8.format.read (aG b8 (u32.wrap x).toNat)).order (Ieee.Datum.number a8 0 (-149))==ar Eb then bif (b8.format.read (aG b8 (u32.wrap y).toNat)).order (Ieee.Datum.number a8 0 (-149))==ar Eb then ak [I (if y<x then y else x)]else bif ((b8.format.read (aG b8 (u32.wrap x).toNat)).order (b8.format.read (aG b8 (u32.wrap y).toNat))==ar Ordering.gt)==bc then ak [I x]else ak [I y]else bif ((b8.format.read (aG b8 (u32.wrap x).toNat)).order (b8.format.read (aG b8 (u32.wrap y).toNat))==ar Ordering.gt)==bc then ak [I x]else ak [I y]:=by kernel_rfl
def aAs :Env:=GW.add 115 (fnE xo)
theorem Yn :aAs.Good:=jS.add qd
theorem aAt (x:Int):aB aAs f73 6 [] [I 7,I 1,I x] [] ah=bif (b8.format.read (aG b8 (b8.nearest x))).order (b8.format.read (aG b8 (b8.nearest x))) !=ar Eb then ak [I 2143289344,I 0]else bif lG b8 (aG b8 (b8.nearest x))then a6 else ak [I (i64.wrap (bd (aG b8 (b8.nearest x)))),I 0]:=by kernel_rfl
theorem PQ (a:BinOp)(x y:Int){R:Option (aq×LHp)}(h:R=bif !aQ 1 x then ak [I 0]else bif !aQ 1 y then ak [I 0]else bif (b8.format.read (fop a .f32 (cw x) (cw y))).order (b8.format.read (fop a .f32 (cw x) (cw y))) !=ar Eb then ak [I 2143289344]else bif lG .f32 (fop a .f32 (cw x) (cw y))then a6 else ak [I (i64.wrap (bd (fop a .f32 (cw x) (cw y))))]):R=ar (.ret [I (dO a x y)],[]):=by rw[h,zZ a x y];unfold dO;grind
theorem aAu (x y:Int):aB Iu f71 5 [] [.d .str Uv,I x,I y] [] ah=ar (.ret [I (dO .add x y)],[]):=PQ .add x y (aAo x y)
theorem aAv x y:aB Iu f71 5 [] [.d .str Uy,I x,I y] [] ah=ar (.ret [I<|dO .mul x y],[]):=PQ .mul x y<|aAp x y
theorem aAw x y:aB Iu f71 5 [] [.d .str Ux,I x,I y] [] ah=ar (.ret [I<|dO .quo x y],[]):=PQ .quo x y<|aAq x y
theorem aHk :(DE 2143289344).isNaN=bc:=by unfold DE;rw[ast,abl]<;>rfl
theorem aHl :b8.format.read 0=.number a8 0 (-149):=by decide
theorem S8 {a b:Int}:(ar (qc a b)==ar Eb)=a7 (a=b):=by unfold qc;grind
theorem af5 {x y:Int}(e:good x)(f:good y):oL x y=(bif a7 (B5 x=0)&&a7 (B5 y=0)then (if y<x then y else x)else bif ar (qc (B5 x) (B5 y))==ar .gt then x else y):=by
 obtain⟨n,rfl,a,b⟩:=pE e;obtain⟨m,rfl,c,d⟩:=pE f;have h:B5 (n:Int)=tZ n:=rfl;have i:B5 (m:Int)=tZ m:=rfl;have j:tZ n=0↔n % 2147483648=0:=by unfold tZ GZ dC;grind
 have k:tZ m=0↔m % 2147483648=0:=by unfold tZ GZ dC;grind
 have l:DE (n:Int)=b8.format.read n:=by unfold DE;rw[xy a b]
 have o:DE (m:Int)=b8.format.read m:=by unfold DE;rw[xy c d]
 unfold oL;rw[e.1,f.1,uu,ai,l,o,z8 b,z8 d,Bool.or_self,al,G0 b d,S8,h,i];by_cases g:tZ n=tZ m
 ·rw[aF g,ai,show i64.wrap (bd (q9 64 (n:Int)&&&q9 64 (m:Int)).toNat)=((n&&&m:Nat):Int)from B6 n m a c]
  rcases aj7 a c g with rfl|⟨p,q⟩
  ·simp
  ·rw[aF (j.2 p),aF (k.2 q),uu,ai]
   have r:n=0\/n=2147483648:=by omega
   have s:m=0\/m=2147483648:=by omega
   grind
 grind
theorem MF {x}(b:good x):((DE x).order (.number a8 0<| -149)==ar .eq)=a7 (B5 x=0):=by
 obtain⟨n,rfl,c,a⟩:=pE b;let d:DE n=b8.format.read n:=by unfold DE;rw[xy c a]
 rw[←aHl,d,G0 a<|by decide,S8]<;>rfl
theorem aAx x y:aB Iu f71 5 [] [.d .str Uw,I x,I y] [] ah=ar (.ret [I<|oL x y],[]):=by
 rw[aAr];cases a:aQ 1 x with
 |false=>unfold oL;rw[a]<;>rfl
 |true=>
  cases b:aQ 1 y with
  |false=>unfold oL;rw[a,b]<;>rfl
  |true=>
   rw[cy,al,al];by_cases c:x=2143289344
   ·subst c;unfold oL;rw[a,b,aHk]<;>rfl
   ·rw[(by simpa using c:(x==2143289344)=a8),al]
    by_cases g:y=2143289344
    ·subst g;unfold oL;rw[a,b,aHk,Bool.or_true]<;>rfl
    ·let e:good x:=⟨a,c⟩
     let f:good y:=⟨b,g⟩;rw[af5 e f];let p:((b8.format.read<|aG .f32 (u32.wrap x).toNat).order _==ar .eq)=decide _:=MF e;let q:((b8.format.read<|aG .f32 (u32.wrap y).toNat).order _==ar .eq)=decide _:=MF f;let r:(b8.format.read<|aG .f32 (u32.wrap x).toNat).order (b8.format.read<|aG .f32 (u32.wrap y).toNat)=ar (qc (B5 x)<|B5 y):=by obtain⟨n,rfl,l,h⟩:=pE e;obtain⟨m,rfl,o,i⟩:=pE f;let j  :=xy l h;let k  :=xy o i;unfold cw at j k;rw[j,k,G0 h i]<;>rfl
     grind
def trF :List AV->LHp->Tq
 |[.d .str a,.d zI x,.d zI y],[]=>
  .br (a7 (a=[65,100,100])) (.leaf (.ret [I (dO .add x y)]) []) (.br (a7 (a=[77,117,108])) (.leaf (.ret [I (dO .mul x y)]) []) (.br (a7 (a=[77,97,120])) (.leaf (.ret [I (oL x y)]) []) (.br (a7 (a=[68,105,118])) (.leaf (.ret [I (dO .quo x y)]) []) .no)))
 |_,_=>.no
theorem af6 :bq 71 (ay trF):=by
 let c:=bM (d:=5) (l:=[]) Ym func71 call71;refine aY λh j k m a=>?_
 unfold trF at a;split at a
 ·rename_i b x y
  let a:(bif b=[65,100,100]then ak _ else bif b=[77,117,108]then ak _ else bif b=[77,97,120]then ak _ else bif b=[68,105,118]then ak _ else a6)=ar _:=a;by_cases e:b=[65,100,100]
  ·rw[aF e]at a;cases a;subst e;exact c.okC<|aAu x y
  rw[cq e,al]at a;by_cases f:b=[77,117,108]
  ·rw[aF f]at a;cases a;subst f;exact c.okC<|aAv x y
  rw[cq f,al]at a;by_cases g:b=[77,97,120]
  ·rw[aF g]at a;cases a;subst g;exact c.okC<|aAx x y
  rw[cq g,al]at a;by_cases i:b=[68,105,118]
  ·rw[aF i]at a;cases a;subst i;exact c.okC<|aAw x y
  grind
 ·cases a
theorem aAy x:aB aAs f73 6 [] [I 7,I 1,I x] [] ah=ar (.ret [I<|wo x,I 0],[]):=by rw[aAt,kW];unfold wo UK;grind [lG,aG]
def aAz :List AV->LHp->Tq
 |[.d zI a,.d zI b,.d zI x],[]=>.br (a==7&&b==1) (.leaf (.ret [I (wo x),I 0]) []) .no
 |_,_=>.no
theorem aoK :bq 73 (ay aAz):=by
 let g:=bM (d:=6) (l:=[]) Yn func73 call73;refine aY λe i j k c=>?_
 unfold aAz at c;split at c
 ·rename_i a b x;let ⟨f,h⟩:=eN c;rw[aX,beq_iff_eq,beq_iff_eq]at f;obtain⟨rfl,rfl⟩:=f;cases h;exact g.okC<|aAy x
 ·cases c
theorem MG :∀(A) (d q),q<bo (A++[d])->xV (A++[d]) q=xV A (q/d)++[q % d]
 |[],d,q,h=>by let h:q<d*1:=h;show q/1::xV [] _=_;rw[Nat.div_one,Nat.mod_eq_of_lt<|(by omega:q<d)]<;>rfl
 |a::A,d,q,h=>by
  let b:bo (A++[d])=bo A*d:=by rw[sU];show _*(d*1)=_;rw[Qe]
  let h:q<a*bo (A++[d]):=h;let hp:0<bo (A++[d]):=by grind
  show q/bo (A++[d])::xV (A++[d]) (q % bo (A++[d]))=q/d/bo A::xV A _++[q % d];rw[MG A d _<|WU _ hp,b,Nat.mod_mul_left_div_self,Nat.mod_mul_left_mod,Nat.div_div_eq_div_mul,vr]<;>rfl
theorem af7 :∀(a B:List Nat) (S:af) (q n),(∀x∈a,1<=x)->bo a.reverse<=65536->q<bo a.reverse->a.length<=65536->a.length<n->
  lp zE pa Yd n (FJ (ints<|a.reverse++B) q (a.length-1)<|eo a.length 0++S) Yf=ar (.ret [.os 0 0,I 0],[(0,.arr 3 aa 0 a8<|ints (xV a.reverse q)++S)])
 |[],B,S,q,n,_,_,_,_,f=>by obtain⟨n,rfl⟩:∃c,n=c+1:=⟨n-1,by omega⟩;rw[aq4,show a7 (((([]:List Nat).length:Nat):Int)-1>=0)=a8 from rfl,al]<;>rfl
 |x::a,B,S,q,n,g,l,d,h,f=>by
  obtain⟨n,rfl⟩:∃c,n=c+1:=⟨n-1,by omega⟩;rw[List.reverse_cons]at l d⊢;have m:=g x ku;have i  :=λy e=>g y<|m3 _ e
  have o:bo (a.reverse++[x])=bo a.reverse*x:=by rw[sU];show _*(x*1)=_;rw[Qe]
  have b  :=xW λy e=>i y<|List.mem_reverse.1 e
  have p:bo a.reverse<=bo a.reverse*x:=oy _ m;have r:x<=bo a.reverse*x:=xu _ b;have s  :=w5<|by rw[vr,←o];exact d
  have key:=af7 a (x::B) (((q % x:Nat):Int)::S) (q/x) n i (by omega) s (by rw[bs]at h;omega)<|by rw[bs]at f;omega
  have e0:(((x::a).length:Nat):Int)-1=((a.length:Nat):Int):=by rw[bs];omega
  have e1:ints (a.reverse++[x]++B)=ints a.reverse++(x:Int)::ints B:=by unfold ints;simp
  have e2:eo (x::a).length (0:Int)++S=eo a.length 0++0::S:=by rw[bs,List.replicate_succ',gl]<;>rfl
  have t:(ints a.reverse).length=a.length:=by rw[iW,Nd]
  have j:(eo a.length (0:Int)).length=a.length:=mb;have g1:idx (ints a.reverse++(x:Int)::ints B) (a.length:Int)=ar (x:Int):=by have:=sT (xs:=ints a.reverse) (zs:=ints B) (y:=(x:Int));rwa[t]at this
  have g2:idx (eo a.length (0:Int)++0::S) (a.length:Int)=ar 0:=by have:=sT (xs:=eo a.length (0:Int)) (zs:=S) (y:=0);rwa[j]at this
  have g3:fR (eo a.length (0:Int)++0::S) a.length ((q % x:Nat):Int)=ar (eo a.length 0++((q % x:Nat):Int)::S):=by have:=Ib (xs:=eo a.length (0:Int)) (zs:=S) (y:=0) (v:=((q % x:Nat):Int));rwa[j]at this
  have u:i64.wrap ((q/x:Nat):Int)=((q/x:Nat):Int):=by grind [aH]
  have w:i64.wrap (((a.length:Nat):Int)-1)=((a.length:Nat):Int)-1:=aH (by omega)<|by rw[bs]at h;omega
  have k:¬((x:Nat):Int)=0:=by omega
  have z:((q:Nat):Int).tmod ((x:Nat):Int)=((q % x:Nat):Int):=rfl;have A:((q:Nat):Int).tdiv ((x:Nat):Int)=((q/x:Nat):Int):=rfl;rw[e0,e1,e2,aq4,show a7 (((a.length:Nat):Int)>=0)=bc from aF<|by omega,ai,g1,aw,if_neg k,aw,g2,aw,b9,z,g3,aw,aw,if_neg k,aw,A,u,w];have e3:ints (a.reverse++x::B)=ints a.reverse++(x:Int)::ints B:=by unfold ints;simp
  rw[e3]at key;refine key.trans ?_;rw[MG _ _ _ d];unfold ints;simp
theorem aHm d m i o:hlp zE pa Yd _ (FJ d m i o) Yf=lp zE pa Yd fu (FJ d m i o) Yf:=rfl
theorem aAA {d q}(a:aC d=0)(e:q<bo (d.map j4)):D7 d (q:Int)=ar (ints (xV (d.map j4) q),0):=by
 let ⟨_,k,_,f⟩:=eL a;let ⟨D,eD,g,h,i,l⟩:=kv a;rw[←g]at e⊢;let b:aN d=bo D:=by rw[f,eD,ln]
 let m:fu=18446744073709551616:=rfl;let c:d.length=D.length:=by rw[eD,iW]
 let key:=af7 _ [] [] q fu (λx j=>h x<|List.mem_reverse.1 j) (by rw[ahp];exact i) (by rw[ahp];exact e) (by rw[Nd];omega)<|by rw[Nd];omega
 rw[ahp,eT,eT,eT,Nd,←eD,←c]at key;let w:i64.wrap (.ofNat d.length-1)=d.length-1:=by simp only[aK];exact aH (by omega)<|by omega
 unfold D7;rw[aAd,a,cq<|(by omega:¬(q:Int)<0),b,cq<|(by omega:¬q>=((bo D:Nat):Int)),show ((0:Int) !=0)=a8 from rfl,al,al,al,if_pos<|(by simp only[aK];omega:0<=bd d.length/\bd d.length<=4294967296),aw,w,(rfl:(bd d.length).toNat=d.length)];exact congrArg (bT [.slice aa,aa])<|(aHm d _ _ _).trans key
theorem S9 {d a:af}{m i D x:Nat}(h:i<d.length)(b:idx d i=ar (D:Int))(c:idx a i=ar (x:Int))(j:x<D)(k:d.length<=6)(l:m*D+x<=65536) n:lp wB mh MC (n+1) (MD d a m i) KOf=lp wB mh MC n (MD d a (m*D+x:Nat)<|(i+1:Nat)) KOf:=by
 let e:i64.wrap (m*D)=(m*D:Nat):=by rw[←p4];exact aH (by omega)<|by omega
 let f:i64.wrap ((m*D:Nat)+x)=(m*D+x:Nat):=by rw[←FY];exact aH (by omega)<|by omega
 let g:i64.wrap (i+1)=(i+1:Nat):=by rw[aH (by omega)<|by omega];omega
 rw[aq7,aF<|(by simp only[aK];omega:i<bd d.length),ai,c,aw,cq<|(by omega:¬(x:Int)<0),al,aw,b,aw,cq<|(by omega:¬x>=(D:Int)),al,aw,aw,e,f,g]<;>rfl
theorem aHn d a:hlp wB mh MC _ (MD d a 0 0) KOf=lp wB mh MC fu (MD d a 0 0) KOf:=rfl
theorem aAB {A B C D a b c e:Nat}(k:aC [A,B,C,D]=0)(h:A*(B*(C*D))<=65536)(g:a<A)(l:b<B)(f:c<C)(n:e<D):Yh [(A:Int),(B:Int),(C:Int),(D:Int)] [(a:Int),(b:Int),(c:Int),(e:Int)]=ar (((((a*B+b)*C+c)*D+e:Nat):Int),0):=by
 have o:a*B+b<A*B:=by have:(a+1)*B<=A*B:=ga _ g;grind
 have p:(a*B+b)*C+c<A*B*C:=by have:(a*B+b+1)*C<=A*B*C:=ga _ o;grind
 have y:((a*B+b)*C+c)*D+e<A*B*C*D:=by have:((a*B+b)*C+c+1)*D<=A*B*C*D:=ga _ p;grind
 have q:1<=D:=by omega
 have r:1<=C:=by omega
 have e3:A*B*C*D<=65536:=by rw[yk,yk];exact h
 have e2:A*B*C<=A*B*C*D:=oy _ q;have e1:A*B<=A*B*C:=oy _ r;have e0:A<=A*B:=oy _<|by omega
 have s:=S9 (d:=[(A:Int),(B:Int),(C:Int),(D:Int)]) (a:=[(a:Int),(b:Int),(c:Int),(e:Int)]) (m:=0) (i:=0) (D:=A) (x:=a) (by simp) rfl rfl g (by simp) (by omega)<|18446744073709551611+1+1+1+1
 have t:=S9 (d:=[(A:Int),(B:Int),(C:Int),(D:Int)]) (a:=[(a:Int),(b:Int),(c:Int),(e:Int)]) (m:=0*A+a) (i:=1) (D:=B) (x:=b) (by simp) rfl rfl l (by simp) (by rw[TH,hM];omega)<|18446744073709551611+1+1+1
 have u:=S9 (d:=[(A:Int),(B:Int),(C:Int),(D:Int)]) (a:=[(a:Int),(b:Int),(c:Int),(e:Int)]) (m:=(0*A+a)*B+b) (i:=2) (D:=C) (x:=c) (by simp) rfl rfl f (by simp) (by rw[TH,hM];omega)<|18446744073709551611+1+1
 have v:=S9 (d:=[(A:Int),(B:Int),(C:Int),(D:Int)]) (a:=[(a:Int),(b:Int),(c:Int),(e:Int)]) (m:=((0*A+a)*B+b)*C+c) (i:=3) (D:=D) (x:=e) (by simp) rfl rfl n (by simp) (by rw[TH,hM];omega)<|18446744073709551611+1
 have w:lp wB mh MC (18446744073709551611+1) (MD [(A:Int),(B:Int),(C:Int),(D:Int)] [(a:Int),(b:Int),(c:Int),(e:Int)] (((((0*A+a)*B+b)*C+c)*D+e:Nat):Int) ((4:Nat):Int)) KOf=ar (.ret [I (((((0*A+a)*B+b)*C+c)*D+e:Nat):Int),I 0],[]):=by rw[aq7,show a7 (((4:Nat):Int)<bd [(A:Int),(B:Int),(C:Int),(D:Int)].length)=a8 from rfl,al]
 have j:=s.trans<|t.trans<|u.trans<|v.trans w
 rw[TH,hM]at j;unfold Yh;rw[aAh,k,show ((0:Int) !=0)=a8 from rfl,al,show (bd [(a:Int),(b:Int),(c:Int),(e:Int)].length !=bd [(A:Int),(B:Int),(C:Int),(D:Int)].length)=a8 from rfl,al];exact congrArg (bT [aa,aa])<|(aHn _ _).trans j
theorem af8 {t:(Y0).den}{A B C D a b c e:Nat}(f:t.2.1=[(A:Int),B,C,D])(g:aC t.2.1=0)(h:A*(B*(C*D))<=65536)(k:t.2.2.1.length=A*(B*(C*D)))(i:a<A)(l:b<B)(d:c<C)(m:e<D):Yj t a b c e=ar (t.2.2.1.getD (((a*B+b)*C+c)*D+e) 0):=by
 let n:a*B+b<A*B:=by let:(a+1)*B<=A*B:=ga _ i;grind
 let o:(a*B+b)*C+c<A*B*C:=by let:(a*B+b+1)*C<=A*B*C:=ga _ n;grind
 let j:((a*B+b)*C+c)*D+e<A*B*C*D:=by let:((a*B+b)*C+c+1)*D<=A*B*C*D:=ga _ o;grind
 rw[f]at g;let ⟨g1,g2⟩:=aAg _ _<|aAB g h i l d m
 unfold Yj;rw[aAk,f,g1,ai,g2];let p  :=eM<|by rw[k];rw[yk,yk]at j;exact j
 rw[p,aw]<;>rfl
structure WnR (w:(Y5).den)(KH KW:Nat)(s0 s1 p0 p1 d0 d1:Int):Prop where
 k0:idx w.1 0=ar (KH:Int)
 k1:idx w.1 1=ar (KW:Int)
 t0:idx w.2.1 0=ar s0
 t1:idx w.2.1 1=ar s1
 q0:idx w.2.2.1 0=ar p0
 q1:idx w.2.2.1 1=ar p1
 e0:idx w.2.2.2.1 0=ar d0
 e1:idx w.2.2.2.1 1=ar d1
 kk:KH*KW<=65536
 kh:KH<=65536
 kw:KW<=65536
def mn p s q d i  :=i64.wrap<|i64.wrap (i64.wrap (p*s)-q)+i64.wrap (i*d)
def Ta (H W y x i j:Int):List (rn 4 aa).den:=bif y>=0&&(y<H&&(x>=0&&x<W))then [[i,j,y,x]]else []
def Yo (w:(Y5).den)(d:af)(p q i j:Int):List (rn 4 aa).den->LSt
 |[]=>wC w d p q i j
 |v::o=>sa w d p q i j (v::o)
def aoL (w:(Y5).den)(d:af)(p q i:Int):List (rn 4 aa).den->LSt
 |[]=>yZ w d p q i
 |v::o=>ME w d p q i (v::o)
theorem aHo {w t k b c e f g h}(a:WnR w t k b c e f g h){d:af}{H W}(l:idx d 2=ar H)(r:idx d 3=ar W) p q i j (s:a7 (j<(k:Int))=bc) {o} (u:o.length<=2147483648) m n:
  lp dE bL mE (n+1) (Yo w d p q i j o) (DH m qq)=lp dE bL mE n (Yo w d p q i (i64.wrap<|j+1)<|o++Ta H W (mn p b e g i) (mn q c f h j) i j) (DH m qq):=by
 unfold mn Ta
 cases o with
 |nil=>
  show lp dE bL mE _ (wC w d p q i j) _=_;rw[af3,a.k1,aw,s,ai,a.t0,aw,a.q0,aw,a.e0,aw,a.t1,aw,a.q1,aw,a.e1,aw,l,aw,r,aw];cases a7 (i64.wrap (i64.wrap (i64.wrap (p*b)-e)+i64.wrap (i*g))>=0)with
  |false=>rfl
  |true=>
   cases a7 (i64.wrap (i64.wrap (i64.wrap (p*b)-e)+i64.wrap (i*g))<H)with|false=>rfl|true=>cases a7 (i64.wrap (i64.wrap (i64.wrap (q*c)-f)+i64.wrap (j*h))>=0)with|false=>rfl|true=>cases a7 (i64.wrap (i64.wrap (i64.wrap (q*c)-f)+i64.wrap (j*h))<W)<;>rfl
 |cons v o=>
  show lp dE bL mE (n+1) (sa w d p q i j (v::o)) (DH m qq)=_;rw[af4,a.k1,aw,s,ai,a.t0,aw,a.q0,aw,a.e0,aw,a.t1,aw,a.q1,aw,a.e1,aw,l,aw,r,aw,gu u,aw];cases a7 (i64.wrap (i64.wrap (i64.wrap (p*b)-e)+i64.wrap (i*g))>=0)with
  |false=>rw[al,so,al,eT]<;>rfl
  |true=>
   cases a7 (i64.wrap (i64.wrap (i64.wrap (p*b)-e)+i64.wrap (i*g))<H)with
   |false=>rw[ai,al,gb,so,al,eT]<;>rfl
   |true=>
    cases a7 (i64.wrap (i64.wrap (i64.wrap (q*c)-f)+i64.wrap (j*h))>=0)with|false=>rw[ai,ai,al,gb,gb,so,al,eT]<;>rfl|true=>cases a7 (i64.wrap (i64.wrap (i64.wrap (q*c)-f)+i64.wrap (j*h))<W)with|false=>rw[ai,ai,ai,al,gb,gb,gb,al,eT]<;>rfl|true=>rfl
theorem Iv H W y x i j:(Ta H W y x i j).length<=1:=by unfold Ta;grind
theorem PR {a R} g fin:∀(l) (o),bG (λ(o:List a) (i:Nat)=>.go (R:=R)<|o++g i) fin l o=fin (o++l.flatMap g)
 |[],o=>by rw[bG,amL,eT]
 |i::l,o=>by rw[w7,←gl];exact PR g fin l _
def PS (H W:Int)(a b c q:Int)(d:Nat)(y:Int)(i:Int):List (rn 4 aa).den:=(hW d).flatMap λ(j:Nat)=>Ta H W y (mn q a b c (j:Int)) i (j:Int)
theorem af9 (H W a b c q:Int)(d:Nat)(y i:Int):(PS H W a b c q d y i).length<=d:=by
 unfold PS;have:∀l:List Nat,(l.flatMap λ(j:Nat)=>Ta H W y (mn q a b c (j:Int)) i (j:Int)).length<=l.length:=by intro l;induction l with|nil=>exact ep _|cons j l e=>rw[w7,bK,bs];have:=Iv H W y (mn q a b c (j:Int)) i (j:Int);omega
 grind
def mF (H W a b c d e f p q:Int)(g h:Nat):List (rn 4 aa).den:=(hW g).flatMap λ(i:Nat)=>PS H W b d f q h (mn p a c e (i:Int)) (i:Int)
def aga :List (rn 4 aa).den->Option (aq×LHp)
 |[]=>ar (.ret [.nils],[])
 |v::o=>ar (.ret [.os 0 0],[(0,.arr 107 (rn 4 aa) 0 a8 (v::o))])
theorem aoM o:bT [.slice _] (aga o)=ar o:=by cases o<;>rfl
theorem aAC w d p q i o m:hlp dE bL mE _ (Yo w d p q i 0 o) (DH m qq)=lp dE bL mE fu (Yo w d p q i 0 o) (DH m qq):=rfl
theorem aHp (w:(Y5).den)(d:af)(p q:Int):hlp dE bL qM (aq×LHp) (yZ w d p q 0) qq=lp dE bL qM fu (yZ w d p q 0) qq:=rfl
theorem aoN {w:(Y5).den}{x b:Nat}{e g h k l r:Int}(t:WnR w x b e g h k l r){d:af}{H W:Int}(y:idx d 2=ar H)(z:idx d 3=ar W)(p q i:Int){o:List (rn 4 aa).den}(C:o.length<=65536)(m:Nat):
  lp dE bL mE fu (Yo w d p q i 0 o) (DH m qq)=lp dE bL qM m (aoL w d p q (i64.wrap (i+1)) (o++PS H W g k r q b (mn p e h l i) i)) qq:=by
 have D:maxLen=9223372036854775807:=by decide
 have A:=t.kw
 refine(fq (N:=b) (T:=λn s=>lp dE bL mE n s (DH m qq)) (st:=λj o=>Yo w d p q i j o) (f:=λ(o:List (rn 4 aa).den) (j:Nat)=>WD (o++Ta H W (mn p e h l i) (mn q g k r (j:Int)) i (j:Int))) (fin:=λo=>lp dE bL qM m (aoL w d p q (i64.wrap (i+1)) o) qq) (λj c=>c.length<=o.length+j) (by omega) ?_ ?_ (a:=o) (ep _)).trans (PR _ _ _ o)
 ·intro j c n E F B u
  refine .inl ⟨_,rfl,?_,?_⟩
  ·rw[bK];have:=Iv H W (mn p e h l i) (mn q g k r (j:Int)) i (j:Int);omega
  ·have G:=aHo t y z p q i (j:Int) u (o:=c) (by omega) m n;grind
 ·intro c n _ u;cases c with|nil=>show lp dE bL mE (n+1) (wC w d p q i (b:Int)) (DH m qq)=_;rw[af3,t.k1,aw,show a7 ((b:Int)<(b:Int))=a8 from u,al,kU]<;>rfl|cons v c=>show lp dE bL mE (n+1) (sa w d p q i (b:Int) (v::c)) (DH m qq)=_;rw[af4,t.k1,aw,show a7 ((b:Int)<(b:Int))=a8 from u,al,kU]<;>rfl
theorem agb {w:(Y5).den}{b c:Nat}{g j k l m r:Int}(e:WnR w b c g j k l m r){d:af}{H W:Int}(A:idx d 2=ar H)(B:idx d 3=ar W)(p q:Int):Yk w d p q=ar (mF H W g j k l m r p q b c):=by
 have F:maxLen=9223372036854775807:=by decide
 have C:=e.kh;have D:=e.kk
 have h:lp dE bL qM fu (aoL w d p q 0 []) qq=aga (mF H W g j k l m r p q b c):=by
  refine(fq (N:=b) (T:=λn s=>lp dE bL qM n s qq) (st:=λi o=>aoL w d p q i o) (f:=λ(o:List (rn 4 aa).den) (i:Nat)=>WD (o++PS H W j l r q c (mn p g k m (i:Int)) (i:Int))) (fin:=aga) (λi o=>o.length<=i*c) (by omega) ?_ ?_ (a:=[]) (k7 _)).trans (PR _ _ _ [])
  ·intro i o n G E u t;have x:(i+1)*c<=b*c:=ga _ E;have z:=af9 H W j l r q c (mn p g k m (i:Int)) (i:Int);rw[nY,x1]at x;refine .inl ⟨_,rfl,by rw[bK,nY,x1];omega,?_⟩;have y:=(aAC w d p q (i:Int) o n).trans (aoN e A B p q (i:Int) (o:=o) (by omega) n);rw[u]at y;cases o with|nil=>show lp dE bL qM (n+1) (yZ w d p q (i:Int)) qq=_;rw[af1,e.k0,aw,show a7 ((i:Int)<(b:Int))=bc from t,ai];exact y|cons v o=>show lp dE bL qM (n+1) (ME w d p q (i:Int) (v::o)) qq=_;rw[af2,e.k0,aw,show a7 ((i:Int)<(b:Int))=bc from t,ai];exact y
  ·intro o n _ t;cases o with|nil=>show lp dE bL qM (n+1) (yZ w d p q (b:Int)) qq=_;rw[af1,e.k0,aw,show a7 ((b:Int)<(b:Int))=a8 from t,al]<;>rfl|cons v o=>show lp dE bL qM (n+1) (ME w d p q (b:Int) (v::o)) qq=_;rw[af2,e.k0,aw,show a7 ((b:Int)<(b:Int))=a8 from t,al]<;>rfl
 unfold Yk;rw[(aAn w d p q).trans ((aHp w d p q).trans h)];exact aoM _
def Da :Code:=aU f34
def qz :Code:=cL (cL (cR (cL (cR (cR (cR (cR (cR (cR Da)))))))))
def Db :Code:=cL (cL (cR (cL (cL (cR (cL (cL (cR (cL (cR (cR (cR (cR (cR (cR Da)))))))))))))))
def cO :Cfg:=⟨117,7,0,[(7,[1,3,10,11,12,13,14]),(10,[1,3,10,11,12,13,14,15])],bc⟩
def fD  :=(((Oe.add 53 D1).add 70 aAm).add 71<|ay trF).add 72 aAj
theorem PT :fD.Good:=(((mM.add mC).add S7).add af6).add S5
def Dc y a w c  :=bT [aa]<|aB fD f34 7 [(7,[1,3,10,11,12,13,14]),(10,[1,3,10,11,12,13,14,15])] [.d Y2 y,.d (.slice<|Y0) a,.d Y5 w,.d (.slice aa) c] [] ah
def Tb y a w c  :=(Dc y a w c).isSome
def Tc y a w c  :=(Dc y a w c).getD<|dS _
def aq8  :=cC [Y2,.slice _,Y5,.slice aa] _ λy a w c=>(Tb y a w c,Tc y a w c)
theorem agc :bq 34 aq8:=bh (bM PT func34 call34 (h2:=rfl))<|by simp only[dg];exact λy a w c h=>aZ h
theorem aoO {a} y ts w c (h:Dc y ts w c=ar a):Tb y ts w c=bc/\Tc y ts w c=a:=bU h
def pc (a:List (Y0).den)(c:af)(e f:Int)(l:List (rn 4 aa).den)(s k:Int):LSt:=⟨az 7 [(1,.d (.slice _) a),(3,.d (.slice aa) c),(10,I e),(11,I f),(12,.d (.slice _) l),(13,I s),(14,I k)],[],0⟩
def sd  :=aI 0<|aL fD cO [7,10] (hlp fD cO) (cR<|cR<|cR<|cR<|cR<|cR<|cR Da)<|aV prog 0 f34.results.toList ah
theorem aoP y (a:List (Y0).den) w (c:af):aB fD f34 7 [(7,[1,3,10,11,12,13,14]),(10,[1,3,10,11,12,13,14,15])] [.d _ y,.d (.slice _) a,.d _ w,.d (.slice aa) c] [] ah=bif pJ y [103,114,111,117,112] 1 then (idx a 1).bind λj=>(idx j.2.1 1).bind λe=>(idx c 1).bind λk=>(idx a 1).bind λl=>(idx l.2.1 0).bind λm=>(if cI y [103,114,111,117,112] 1=0 then a6 else ar<|i64.wrap<|P8 m<|cI y [103,114,111,117,112] 1).bind λf=>(if f=0 then a6 else ar<|i64.wrap<|P8 k f).bind λn=>(idx a 0).bind λg=>(idx c 2).bind λi=>(idx c 3).bind λb=>bif aoI w g.2.1 i b then (hlp fD cO) qz _ (pc a c e (i64.wrap<|n*e) (PO w g.2.1 i b) 0 0) sd else a6 else a6:=(aW [7,10] cO rfl).trans<|by obtain⟨o,h⟩:=aM fD cO;rw[h];kernel_rfl
def Yp (n:Nat)(k:AEx->LSt->Option (aq×LHp))  :=aI 2<|aI 1<|aL fD cO [7,10] (hlp fD cO) (cR<|cR<|cL<|cL<|cR<|cL<|cR<|cR<|cR<|cR<|cR<|cR Da)<|lJ fD cO [7,10] (hlp fD cO) qz n k
def uH (a:List (Y0).den)(c:af)(e f:Int)(l:List (rn 4 aa).den)(s k p:Int):LSt:=⟨az 7 [(1,.d (.slice _) a),(3,.d (.slice aa) c),(10,I e),(11,I f),(12,.d (.slice _) l),(13,I s),(14,I k),(15,I p)],[],0⟩
theorem agd a c e f l s k n:lp fD cO qz (n+1) (pc a c e f l s k) sd=bif k<e then (hlp fD cO) Db _ (uH a c e f l s k 0) (aI 2<|aI 1<|aL fD cO [7,10] (hlp fD cO) (cR<|cR<|cL<|cL<|cR<|cL<|cR<|cR<|cR<|cR<|cR<|cR Da)<|lJ fD cO [7,10] (hlp fD cO) qz n sd)else bif bd a.length==3 then (idx a 2).bind λb=>(idx c 1).bind λd=>(idx b.2.2.1 d).bind λg=>ak [I<|dO .add s g]else ak [I s]:=by rw[j9 [7,10]];obtain⟨i,h⟩:=aM fD cO;rw[h];kernel_rfl
theorem age a c e f l s k p m n:lp fD cO Db (n+1) (uH a c e f l s k p) (Yp m sd)=bif p<.ofNat l.length then (idx a 0).bind λh=>(idx c 0).bind λi=>(idx l p).bind λu=>(idx u 2).bind λj=>(idx l p).bind λv=>(idx v 3).bind λo=>bif Is h i (i64.wrap<|f+k) j o then (idx a 1).bind λq=>(idx c 1).bind λr=>(idx l p).bind λd=>(idx d 0).bind λb=>(idx l p).bind λg=>(idx g 1).bind λt=>bif Is q r k b t then lp fD cO Db n (uH a c e f l (dO .add s<|dO .mul (It h i (i64.wrap<|f+k) j o)<|It q r k b t) k<|i64.wrap<|p+1) (Yp m sd)else a6 else a6 else lpH fD cO [7,10] (hlp fD cO) qz m (pc a c e f l s<|i64.wrap<|k+1) sd:=by kernel_rfl
def Dd  :=aU f35
def FK :Code:=cL (cL (cR (cL (cR (cL (cR (cL (cR (cR Dd)))))))))
def y4 :Code:=cL (cL (cR (cL (cR (cR (cR (cR Dd)))))))
def eI :Cfg:=⟨107,7,0,[(5,[3,5,9,10,11]),(11,[3,5,9,12,13])],bc⟩
def iL  :=(((GW.add 73<|ay aAz).add 70 aAm).add 71<|ay trF).add 72 aAj
theorem PU :iL.Good:=(((jS.add aoK).add S7).add af6).add S5
def wD y t w c  :=bT [aa]<|aB iL f35 7 [(5,[3,5,9,10,11]),(11,[3,5,9,12,13])] [.d Y2 y,.d Y0 t,.d Y5 w,.d (.slice aa) c] [] ah
def FL y t w c  :=(wD y t w c).isSome
def FM y t w c  :=(wD y t w c).getD<|dS _
def aq9  :=cC [Y2,Y0,Y5,.slice aa] _ λy t w c=>(FL y t w c,FM y t w c)
theorem agf :bq 35 aq9:=bh (bM PU func35 call35 (h2:=rfl))<|by simp only[dg];exact λy t w c h=>aZ h
theorem Td {a} y t w c (h:wD y t w c=ar a):FL y t w c=bc/\FM y t w c=a:=bU h
def x4 (t:(Y0).den)(c:af)(l:List (rn 4 aa).den)(s p:Int):LSt:=⟨az 7 [(3,.d (.slice aa) c),(5,.op 0 [] 0),(9,.d (.slice _) l),(10,I s),(11,I p)],[(0,.box<| .d _ t)],1⟩
def se (t:(Y0).den)(c:af)(l:List (rn 4 aa).den)(s p:Int):LSt:=⟨az 7 [(3,.d (.slice aa) c),(5,.op 0 [] 0),(9,.d (.slice _) l),(12,I s),(13,I p)],[(0,.box<| .d _ t)],1⟩
def Yq  :=aI 0<|aL iL eI [5,11] (hlp iL eI) (cR<|cR<|cL<|cR<|cL<|cR<|cR Dd)<|aL iL eI [5,11] (hlp iL eI) (cR<|cR<|cR Dd)<|aV prog 0 f35.results.toList ah
def MH  :=aI 2<|aL iL eI [5,11] (hlp iL eI) (cR<|cR<|cR<|cR<|cR Dd)<|aV prog 0 f35.results.toList ah
theorem aoQ y t w (c:af):aB iL f35 7 [(5,[3,5,9,10,11]),(11,[3,5,9,12,13])] [.d Y2 y,.d Y0 t,.d _ w,.d (.slice aa) c] [] ah=(idx c 2).bind λa=>(idx c 3).bind λb=>bif aoI w t.2.1 a b then bif y.1==lL then (idx c 0).bind λe=>(idx c 1).bind λf=>(idx (PO w t.2.1 a b) 0).bind λj=>(idx j 2).bind λg=>(idx (PO w t.2.1 a b) 0).bind λk=>(idx k 3).bind λi=>bif Is t e f g i then (hlp iL eI) FK _ (x4 t c (PO w t.2.1 a b) (It t e f g i) 1) Yq else a6 else (hlp iL eI) y4 _ (se t c (PO w t.2.1 a b) 0 0) MH else a6:=(aW [5,11] eI rfl).trans<|by obtain⟨l,h⟩:=aM iL eI;rw[h];kernel_rfl
theorem agh t c l s p n:lp iL eI FK (n+1) (x4 t c l s p) Yq=bif p<.ofNat l.length then (idx c 0).bind λa=>(idx c 1).bind λb=>(idx l p).bind λf=>(idx f 2).bind λd=>(idx l p).bind λg=>(idx g 3).bind λe=>bif Is t a b d e then lp iL eI FK n (x4 t c l (oL s<|It t a b d e)<|i64.wrap<|p+1) Yq else a6 else ak [I s]:=by kernel_rfl
theorem agi t c l s p n:lp iL eI y4 (n+1) (se t c l s p) MH=bif p<.ofNat l.length then (idx c 0).bind λa=>(idx c 1).bind λb=>(idx l p).bind λf=>(idx f 2).bind λd=>(idx l p).bind λg=>(idx g 3).bind λe=>bif Is t a b d e then lp iL eI y4 n (se t c l (dO .add s<|It t a b d e)<|i64.wrap<|p+1) MH else a6 else ak [I<|dO .quo s<|wo<| .ofNat l.length]:=by kernel_rfl
theorem wE {c d:Type}{g h:c->List d}:∀{l:List c},(∀a∈l,g a=h a)->l.flatMap g=l.flatMap h
 |[],_=>rfl
 |a::l,e=>by rw[w7,w7,e a ku,wE λb f=>e b (m3 _ f)]
theorem uI {c d:Type}{f g}:∀{l:List c} {s:d},(∀a∈l,∀s,f s a=g s a)->l.foldl f s=l.foldl g s
 |[],_,_=>rfl
 |a::l,s,e=>by rw[zm,zm,e a ku,uI λb h=>e b<|m3 _ h]
theorem Iw {b a c:Type} g (f:a->b->a):∀(l:List c) (s),(l.flatMap g).foldl f s=l.foldl (λs k=>(g k).foldl f s) s
 |[],_=>rfl
 |k::l,s=>by rw[w7,List.foldl_append,zm,Iw]
theorem x5 {c:Type}(G:Nat->Nat->List c) a KW:((hW a).flatMap λi=>(hW KW).flatMap λj=>G i j)=(hW<|a*KW).flatMap λk=>G (k/KW) (k % KW):=by
 induction a with
 |zero=>rw[TH]<;>rfl
 |succ a d=>
  rw[List.range_succ,List.flatMap_append,d,nY,x1,List.range_add,List.flatMap_append,w7,amL,eT,List.flatMap_map];refine congrArg _<|wE λj b=>?_
  let b:=v8.1 b;rw[(by rw[vr,Nat.mul_add_div<|by omega,Nat.div_eq_of_lt b,y8]:(a*KW+j)/KW=a),(by rw[vr,Nat.mul_add_mod,Nat.mod_eq_of_lt b]:(a*KW+j) % KW=j)]
theorem De H W c d e f g h p q b a:mF H W c d e f g h p q b a=(hW<|b*a).flatMap λk=>Ta H W (mn p c e g<|(k/a:Nat)) (mn q d f h<|(k % a:Nat)) (k/a:Nat) (k % a:Nat):=x5 _ b a
theorem Ix H W b c d e f g p q h a:(mF H W b c d e f g p q h a).length<=h*a:=by
 rw[De]
 let:∀l:List Nat,(l.flatMap λk=>Ta H W (mn p b d f<|(k/a:Nat)) (mn q c e g<|(k % a:Nat)) (k/a:Nat)<|(k % a:Nat)).length<=l.length:=by
  intro l;induction l with
  |nil=>exact ep _
  |cons k l i=>
   rw[w7,bK,bs];let:=Iv H W (mn p b d f<|(k/a:Nat)) (mn q c e g<|(k % a:Nat)) (k/a:Nat)<|(k % a:Nat)
   omega
 grind
structure x6 (v:(rn 4 aa).den)(KH KW H W i j y x:Nat):Prop where
 eq:v=[(i:Int),(j:Int),(y:Int),(x:Int)]
 i:i<KH
 j:j<KW
 y:y<H
 x:x<W
theorem Te {H W g k:Nat}{a b c d e f p q v}(h:v∈mF H W a b c d e f p q g k):∃i j y x,x6 v g k H W i j y x:=by let ⟨i,m,h⟩:=List.mem_flatMap.1 h;let ⟨j,n,h⟩:=List.mem_flatMap.1 h;unfold Ta at h;cases l:mn p a c e i>=0&&(mn p a c e i<H&&(mn q b d f j>=0&&mn q b d f j<W))with|false=>rw[l]at h;cases h|true=>simp only[aX,decide_eq_true_eq]at l;refine⟨i,j,(mn p a c e i).toNat,(mn q b d f j).toNat,?_,v8.1 m,v8.1 n,by omega,by omega⟩;grind
structure Wv (v:bN)(H W KH KW:Nat)(s0 s1 p0 p1 d0 d1:Int):Prop where
 h:v.1=(H:Int)
 w:v.2.1=(W:Int)
 kh:v.2.2.1=(KH:Int)
 kw:v.2.2.2.1=(KW:Int)
 s0:v.2.2.2.2.1.getD 0 0=s0
 s1:v.2.2.2.2.1.getD 1 0=s1
 d0:v.2.2.2.2.2.1.getD 0 0=d0
 d1:v.2.2.2.2.2.1.getD 1 0=d1
 p0:v.2.2.2.2.2.2.1=p0
 p1:v.2.2.2.2.2.2.2.1=p1
 hw:H*W<=65536
 kk:KH*KW<=65536
theorem aHq {v H W c a d g e i f j}(b:Wv v H W c a d g e i f j) h {k} (m:k<c*a):IX v h k=mn h d e f (k/a:Nat):=by
 let:=b.kk;let l:k/a<=k:=Nat.div_le_self _ _;let w:i64.wrap ((k/a:Nat))=(k/a:Nat):=by grind [aH]
 unfold IX mn;rw[b.kw,b.s0,b.p0,b.d0,show ((k:Nat):Int).tdiv _=((k/a:Nat):Int)from rfl,w]
theorem aHr {v H W f b g c h d i e}(a:Wv v H W f b g c h d i e) w k:IY v w k=mn w c d e (k % b:Nat):=by unfold IY mn;rw[a.kw,a.s1,a.p1,a.d1]<;>rfl
theorem agj {v H W j a c d e f g i}(b:Wv v H W j a c d e f g i) h w {k} (l:k<j*a):r6 v h w k=(mn h c e g ((k/a:Nat))>=0&&(mn h c e g ((k/a:Nat))<H&&(mn w d f i ((k % a:Nat))>=0&&mn w d f i ((k % a:Nat))<W))):=by unfold r6;rw[aHq b h l,aHr b w k,b.h,b.w];grind
theorem ara {v H W m f g n i o j p}(e:Wv v H W m f g n i o j p) h w {k} (q:k<m*f) (l:r6 v h w k=bc):qp v h w k=mn h g i j (k/f:Nat)*W+mn w n o p (k % f:Nat):=by
 rw[agj e h w q]at l;simp only[aX,decide_eq_true_eq]at l;let ⟨a,b,c,d⟩:=l;unfold qp;rw[aHq e h q,aHr e w k,e.w];let:=e.hw;generalize mn h g i j _=y at*;obtain⟨y,rfl⟩:=q8 a;let r:(y+1)*W<=H*W:=ga _<|by omega
 grind [p4,aH]
def nG (a:af)(W:Nat)(v:(rn 4 aa).den)  :=a.getD (v.getD 2 0*(W:Int)+v.getD 3 0).toNat 0
def wF (b:ao)(a:af)(W:Nat)(p:Int×Int) v  :=(i64.wrap<|p.1+1,bif !b==jr then dO .add p.2 (nG a W v)else bif p.1==0 then nG a W v else oL p.2<|nG a W v)
theorem aoR {v H W a b e f g i j l}(c:Wv v H W a b e f g i j l) m n h w:tgF m n v h w=(mF H W e f g i j l h w a b).foldl (wF m n W) (0,0):=by
 unfold tgF;rw[De,Iw,c.kh,c.kw,(by rfl:(a*(b:Int)).toNat=a*b)];refine uI λk d p=>?_
 let d:=v8.1 d;let o:=agj c h w d;unfold tgN Ta;rw[←o];cases q:r6 v h w k with|false=>rfl|true=>rw[ara c h w d q]<;>rfl
theorem aoS {v H W b a f g i j l m}(c:Wv v H W b a f g i j l m) n kG h w s:cvS n kG v h w s=(mF H W f g i j l m h w b a).foldl (λs u=>dO .add s<|dO .mul (nG n W u)<|kG.getD (u.getD 0 0*(a:Int)+u.getD 1 0).toNat 0) s:=by
 unfold cvS;rw[De,Iw,c.kh,c.kw,(by rfl:(b*(a:Int)).toNat=b*a)];refine uI λk d p=>?_
 let d:=v8.1 d;let o:=agj c h w d;unfold cvN Ta;rw[←o];cases q:r6 v h w k with
 |false=>rfl
 |true=>
  let e:((k/a:Nat)*a+((k % a:Nat):Int)).toNat=k:=by rw[←p4,←FY,b9,vr];exact Nat.div_add_mod k a
  rw[ara c h w d q];show dO .add p _=dO .add p (dO .mul _<|kG.getD ((k/a:Nat)*a+((k % a:Nat):Int)).toNat 0);rw[e]<;>rfl
theorem Tf b (c:(b==jr)=a8) a W:∀(l:List (rn 4 aa).den) (m) (s),m+l.length<=65536->l.foldl (wF b a W) (m,s)=(((m+l.length:Nat):Int),l.foldl (λs u=>dO .add s<|nG a W u) s)
 |[],_,_,_=>rfl
 |u::l,m,s,h=>by
  rw[bs]at h;have w:i64.wrap (m+1)=(m+1:Nat):=by rw[aH (by omega)<|by omega];omega
  have e:wF b a W (m,s) u=(((m+1:Nat):Int),dO .add s<|nG a W u):=by unfold wF;rw[c,w]<;>rfl
  rw[zm,e,Tf b c a W l (m+1) _<|by omega,bs,zm,show m+1+l.length=m+(l.length+1) by omega]
theorem Tg b (c:(b==jr)=bc) a W:∀(l:List (rn 4 aa).den) (m) (s),1<=m->m+l.length<=65536->(l.foldl (wF b a W) (m,s)).2=l.foldl (λs u=>oL s<|nG a W u) s
 |[],_,_,_,_=>rfl
 |u::l,m,s,d,h=>by
  rw[bs]at h;let w:i64.wrap (m+1)=(m+1:Nat):=by rw[aH (by omega)<|by omega];omega
  let e:wF b a W (m,s) u=(((m+1:Nat):Int),oL s<|nG a W u):=by unfold wF;grind
  rw[zm,e,Tg b c a W l (m+1) _ (by omega)<|by omega,zm]
theorem agk {v H W a b c d f g i j}(m:Wv v H W a b c d f g i j) op bf h w:H9 op bf v h w=bif op==jr then (match mF (H:Int) (W:Int) c d f g i j h w a b with|[]=>0|u::l=>l.foldl (λs u=>oL s<|nG bf W u)<|nG bf W u)else dO .quo ((mF (H:Int) (W:Int) c d f g i j h w a b).foldl (λs u=>dO .add s<|nG bf W u) 0) (wo<| .ofNat (mF (H:Int) (W:Int) c d f g i j h w a b).length):=by
 have n:=Ix H W c d f g i j h w a b;let:=m.kk;unfold H9;rw[aoR m];generalize mF H W c d f g i j h w a b=l at n⊢;cases k:op==jr with
 |false=>
  let e:=Tf op k bf W l 0 0<|by omega
  grind
 |true=>
  rw[ai,ai];cases l with
  |nil=>rfl
  |cons u l=>
   rw[bs]at n;let e:wF op bf W (0,0) u=(((1:Nat):Int),nG bf W u):=by unfold wF;rw[k]<;>rfl
   rw[zm,e,Tg op k bf W l 1 _ (ep _)<|by omega]
theorem qs {n}{a:List cu}(b:jj n)(c:fj a=bc)(d:a.length<=2147483648):wm n a=bc:=by unfold wm;rw[c,aF d,Se b];simp
theorem iZ {n}{a:List cu}(h:ic n a=0):pQ a=bc/\aqf n (a.map aR):=by unfold ic at h;cases b:pQ a with|false=>rw[b]at h;exact absurd (show (1:Int)=0 from h)<|by decide|true=>rw[b,ai]at h;exact⟨rfl,awj h⟩
theorem Df {n}{a:List cu}(h:ic n a=0):eQ n a=(n.2.2.2.1,hO n.1 n.2.2.2.2.1<|a.map aR,kz n<|a.map aR,()):=by let b:=(iZ h).1;unfold ic at h;unfold eQ;rw[b,ai]at h⊢;exact adB h
abbrev TyT  :=Y0
theorem PV {c d a b f}{x:cu}{g:List cu}(i:wm (c,d,a,b,f,()) (x::g)=bc)(h:(ic (c,d,a,b,f,()) (x::g) !=0)=bc):
  Mq (c,d,a,b,f,()) (x::g)=ar ((0,[],[],()),ic (c,d,a,b,f,())<|x::g):=by
 let e:=xY c d a b f x g
 rw[i,ai,h,ai]at e
 show Mp _=_
 rw[e]<;>rfl
theorem Iy {f a b c}{x:cu}{d:List cu}(g:wm (cQ,f,a,b,c,()) (x::d)=bc)(h:ic (cQ,f,a,b,c,()) (x::d)=0)
  (i:wu c (x::d) (eQ (cQ,f,a,b,c,())<|x::d).2.2.1=bc):
  Mq (cQ,f,a,b,c,()) (x::d)=ar (((eQ (cQ,f,a,b,c,())<|x::d).2.1,(eQ (cQ,f,a,b,c,())<|x::d).2.2.1,yX c (x::d) (eQ (cQ,f,a,b,c,())<|x::d).2.2.1,()),0):=by
 let e:=xY cQ f a b c x d
 rw[g,ai,h]at e
 rw[i]at e
 show Mp _=_
 rw[e]<;>rfl
theorem Iz {c j a b ag}{x:cu}{k:List cu}{f g}{i:af}{t:Int}(r:c=iJ\/c=iK)(p:wm (c,j,a,b,ag,()) (x::k)=bc)(h:ic (c,j,a,b,ag,()) (x::k)=0)
  (m:(eQ (c,j,a,b,ag,())<|x::k).2.1=t) (n:(eQ (c,j,a,b,ag,())<|x::k).2.2.1=i) (q:aE ag=bc) (o:aj ag eZ []=[f,g]) (l:C1 ag x.2.1=bc) (hp:mD (bk x.2.2.1) (kL ag x.2.1 f g) i=bc):
  Mq (c,j,a,b,ag,()) (x::k)=ar ((t,i,SQ c x.2.2.1 (kL ag x.2.1 f g) (kL ag x.2.1 f g).2.2.2.2.2.2.2.2.1.toNat (kL ag x.2.1 f g).2.2.2.2.2.2.2.2.2.1.toNat (i.getD 2 0).toNat (i.getD 3 0).toNat,()),0):=by
 unfold eZ at o
 let m  :=m
 let n  :=n
 let h  :=h
 let e:aB gDo f11 7 [] [dU c j a b ag,.d (.slice _) _] [] ah=bif mD (bk x.2.2.1) (kL ag x.2.1 f g) i then ar (.ret [(I t).pr<|(eb (.slice aa) i).pr<|(eb (.slice aa)<|SQ c x.2.2.1 (kL ag x.2.1 f g) (kL ag x.2.1 f g).2.2.2.2.2.2.2.2.1.toNat (kL ag x.2.1 f g).2.2.2.2.2.2.2.2.2.1.toNat (i.getD 2 0).toNat (i.getD 3 0).toNat).pr<| .d .unit .unit,I 0],[])else a6:=by
  rcases r with rfl|rfl
  ·refine(xY iJ j a b ag x k).trans ?_;rw[p,ai,h,q,o,l,m,n];kernel_rfl
  ·refine(xY iK j a b ag x k).trans ?_;rw[p,ai,h,q,o,l,m,n];kernel_rfl
 show Mp _=_
 rw[e,hp,ai]<;>rfl
theorem PW {j b c a}{x:cu}{k:List cu}{m n f g:Int}{i:af}{t:Int}(o:wm (cz,j,b,c,a,()) (x::k)=bc)(h:ic (cz,j,b,c,a,()) (x::k)=0)
  (p:(eQ (cz,j,b,c,a,())<|x::k).2.1=t) (q:(eQ (cz,j,b,c,a,())<|x::k).2.2.1=i) (r:x.2.1=[m,n,f,g]) (l:C1 a x.2.1=bc) (hp:mD (bk x.2.2.1) (kL a x.2.1 f g) i=bc):
  Mq (cz,j,b,c,a,()) (x::k)=ar ((t,i,SQ cz x.2.2.1 (kL a x.2.1 f g) (kL a x.2.1 f g).2.2.2.2.2.2.2.2.1.toNat (kL a x.2.1 f g).2.2.2.2.2.2.2.2.2.1.toNat (i.getD 2 0).toNat (i.getD 3 0).toNat,()),0):=by
 let e:aB gDo f11 7 [] _ [] ah=bif mD (bk x.2.2.1) (kL a x.2.1 f g) i then ar (.ret [(I t).pr<|(eb (.slice aa) i).pr<|(eb (.slice aa)<|SQ cz x.2.2.1 (kL a x.2.1 f g) (kL a x.2.1 f g).2.2.2.2.2.2.2.2.1.toNat (kL a x.2.1 f g).2.2.2.2.2.2.2.2.2.1.toNat (i.getD 2 0).toNat (i.getD 3 0).toNat).pr<| .d .unit .unit,I 0],[])else a6:=by refine(xY cz j b c a x k).trans ?_;rw[o,ai,h,l,p,q,r];kernel_rfl
 show Mp _=_
 rw[e,hp,ai]<;>rfl
theorem PX {c d a b f}{x:cu}{g:List cu}(m:wm (c,d,a,b,f,()) (x::g)=bc)(h:ic (c,d,a,b,f,()) (x::g)=0)
  (i:(c==cQ)=a8) (j:(c==iJ)=a8) (k:(c==iK)=a8) (l:(c==cz)=a8):Mq (c,d,a,b,f,()) (x::g)=ar ((0,[],[],()),5):=by
 let e:=xY c d a b f x g
 unfold cQ at i
 unfold iJ at j
 unfold iK at k
 unfold cz at l
 rw[m,ai,h,i,j,k,l]at e
 show Mp _=_
 rw[e]<;>rfl
structure T4 (x:cu)(A B C D:Nat):Prop where
 fr:IZ x.2.1 A B C D
 len:x.2.2.1.length=A*(B*(C*D))
theorem wG {x}(h:gz x.1 x.2.1 x.2.2.1=0)(c:x.2.1.length=4):∃A B C D,T4 x A B C D:=by let ⟨_,a,d,_⟩:=rL h;let ⟨A,B,C,D,b⟩:=Il a c;let ⟨_,_,_,f⟩:=eL a;let e:=ln [A,B,C,D];let e2:ints [A,B,C,D]=x.2.1:=b.eq.symm;rw[e2]at e;simp only[bo,Qe]at e;exact⟨A,B,C,D,b,by omega⟩
theorem lW {a:List cu}(h:pQ a=bc):∀t∈a,gz t.1 t.2.1 t.2.2.1=0:=λt b=>eq_of_beq (gv.1 h t b)
structure aAD (ag:bu)(x:cu)(y:cu)(r:List cu)(ds:List Int)(A B C D K0 K1 K2 K3 H W g Pr:Nat):Prop where
 tx:T4 x A B C D
 ty:T4 y K0 K1 K2 K3
 rr:r=[]\/∃b:cu,r=[b]/\b.2.1=[(K0:Int)]/\b.2.2.1.length=K0
 td:IZ ds A K0 H W
 ge:aS ag iM 1=(g:Int)
 g1:1<=g
 gB:B=g*K1
 gK:K0=g*Pr
 p1:1<=Pr
 wc:dp ag x.2.1 [(K2:Int),(K3:Int)]=0
 eH:jV ag x.2.1 [(K2:Int),(K3:Int)]=(H:Int)
 eW:jW ag x.2.1 [(K2:Int),(K3:Int)]=(W:Int)
theorem agl {nm ins out ag}{x:cu}{q:List cu}(hn:jj (cQ,nm,ins,out,ag,()))(h:ic (cQ,nm,ins,out,ag,()) (x::q)=0):
  ∃y r A B C D i L P Q H W g Pr,q=y::r/\aAD ag x y r (kz (cQ,nm,ins,out,ag,())<|aR x::q.map aR) A B C D i L P Q H W g Pr/\lQ ag (aR x::q.map aR) x.2.1=bc:=by
 have X:aE ag=bc:=hn.shA
 obtain⟨hb,s⟩:=iZ h
 rw[ox]at s
 have k:=lW hb
 have z:=nu s.ck
 have f  :=s.len
 have h2:(bW cQ).1<=(ins.length:Int):=z.least
 have h3:(ins.length:Int)<=(bW cQ).2.1:=z.most
 have R:(bW cQ).1=2:=by decide +kernel
 have r3:(bW cQ).2.1=3:=by decide +kernel
 rw[R]at h2
 rw[r3]at h3
 simp only[bs,vb]at f
 obtain⟨y,r,rfl⟩:∃y r,q=y::r:=by cases q with|nil=>simp only[eO]at f;omega|cons y r=>exact⟨y,r,rfl⟩
 have hV  :=λv hv=>(eL (s.vals v hv).2).2.1
 obtain⟨i1,Y⟩:=LQ (xs:=x.2.1) X hV<|by simp only[bs,vb];omega
 have E:=an0 (nm:=nm) (ins:=ins) (out:=out) (ag:=ag) (v:=aR x) (vs:=(y::r).map aR)
 rw[show vI ag (aR x::(y::r).map aR) (aR x).2.2.1=bc from i1,ai]at E
 have F:=s.dm
 unfold Ah at F
 cases G:lQ ag (aR x::(y::r).map aR) x.2.1 with
 |false=>rw[show lQ ag (aR x::(y::r).map aR) (aR x).2.2.1=a8 from G,al,show (vJ ag (aR x::(y::r).map aR) (aR x).2.2.1==0)=a8 from Y G]at E;rw[E]at F;have F:vJ ag (aR x::(y::r).map aR) x.2.1=0:=F;have:=Y G;rw[F]at this;cases this
 |true=>
  rw[show lQ ag (aR x::(y::r).map aR) (aR x).2.2.1=bc from G,ai]at E;obtain⟨w,k0,k1,k2,k3,j⟩:=S1 X G;have Z:kz (cQ,nm,ins,out,ag,()) (aR x::(y::r).map aR)=Cr ag (aR x::(y::r).map aR) x.2.1:=by unfold kz;rw[E]<;>rfl
  have hw  :=by have e:=j.i1;exact(hY e).symm
  subst hw;have ks:y.2.1=[k0,k1,k2,k3]:=j.ks;obtain⟨A,B,C,D,M⟩:=wG (k x<|by simp) j.xl;obtain⟨i,L,P,Q,N⟩:=wG (k y<|by simp)<|by rw[ks]<;>rfl
  have l:=ks.symm.trans N.fr.eq;injection l with e0 l
  injection l with e1 l
  injection l with e2 l
  injection l with e3 l
  subst e0 e1 e2 e3;have xB:x.2.1.getD 1 0=(B:Int):=by rw[M.fr.eq]<;>rfl
  have xA:x.2.1.getD 0 0=(A:Int):=by rw[M.fr.eq]<;>rfl
  obtain⟨g,S⟩:=q8<|show 0<=aS ag iM 1 by have:=j.g1;omega
  have g1:1<=g:=by have:=j.g1;omega
  have bx:=M.fr.bnd;have by':=N.fr.bnd;have bB:=bx.b;have I:=j.xg;have J:=j.kg;have o:=j.k1e;rw[xB,S]at I o;rw[S]at J;rw[←Int.ofNat_tmod]at I J;rw[←Int.ofNat_tdiv]at o;have dB:=Nat.div_add_mod B g;have T:=Nat.div_add_mod i g;have mB:B % g=0:=by omega
  have mK:i % g=0:=by omega
  have lB:B/g<=B:=Nat.div_le_self B g;have hz:(0:Int)<=((B/g:Nat):Int):=u4 _;rw[aH (show-9223372036854775808<=((B/g:Nat):Int) by omega)<|show ((B/g:Nat):Int)<9223372036854775808 by omega]at o;have U:L=B/g:=by omega
  rw[mB,y8]at dB;rw[mK,y8]at T
  have qN:1<=i/g:=by
   have:=N.fr.a;rcases Nat.eq_zero_or_pos (i/g)with V|V
   ·rw[V,Nat.mul_zero]at T;omega
   ·exact V
  have m:=s.cnt;rw[Z,j.out,xA]at m;obtain⟨A',K',H,W,t⟩:=Il m rfl;have n:=t.eq;injection n with t0 n
  injection n with t1 n
  injection n with t2 n
  injection n with t3 n
  obtain rfl:A=A':=by omega
  obtain rfl:i=K':=by omega
  refine⟨y,r,A,B,C,D,i,L,P,Q,H,W,g,i/g,rfl,⟨M,N,?_,?_,S,g1,by rw[U];exact dB.symm,T.symm,qN,j.wnd,t2,t3⟩,rfl⟩
  ·rcases j.third with O|⟨u,O,K⟩
   ·left;simp only[bs,vb]at O;exact List.eq_nil_of_length_eq_zero<|by omega
   ·right
    simp only[bs]at f;cases r with
    |nil=>cases O
    |cons b R=>
     obtain rfl:R=[]:=by simp only[bs]at f;exact List.eq_nil_of_length_eq_zero<|by omega
     obtain rfl:aR b=u:=hY O;have K:b.2.1=[(i:Int)]:=K;refine⟨b,rfl,K,?_⟩;obtain⟨_,n2,n3,_⟩:=rL<|k b<|by simp
     obtain⟨_,_,_,c4⟩:=eL n2;rw[K]at c4;have e:cM [(i:Int)]=(i:Int):=by simp[cM]
     rw[K]at n3;omega
  ·rw[Z,j.out,xA,t2,t3];exact⟨rfl,t.a,t.b,t.c,t.d,t.p⟩
theorem aoT {a b c d i:Nat}(h:i<a*(b*(c*d)))(g:1<=b)(j:1<=c)(k:1<=d):sV [a,b,c,d] i 0<a/\sV [a,b,c,d] i 1<b:=by
 let e:xV (Sp j4 [a,b,c,d]) i=[i/(b*(c*(d*1))),i % (b*(c*(d*1)))/(c*(d*1)),i % (b*(c*(d*1))) % (c*(d*1))/(d*1),i % (b*(c*(d*1))) % (c*(d*1)) % (d*1)/1]:=rfl;unfold sV;rw[e];simp only[Qe];let l  :=ya j k;let f  :=ya g l;refine⟨?_,?_⟩
 ·exact w5<|by rw[vr];exact h
 ·exact w5<|by rw[vr _ b];exact WU _ f
theorem IA {ag x y r}{e:af}{A B C D l f n o H W g k}(v:aE ag=bc)(h:aAD ag x y r e A B C D l f n o H W g k)(M:aC e=0):wu ag (x::y::r) e=bc:=by
 have w:=bz v;have N:=h.tx.fr.bnd;have q:=h.ty.fr.bnd;have Y:=h.tx.fr.p;have Z:=h.ty.fr.p;have O:x.2.1.length=4:=by rw[h.tx.fr.eq]<;>rfl
 have P:y.2.1.length=4:=by rw[h.ty.fr.eq]<;>rfl
 have Q:e.length=4:=by rw[h.td.eq]<;>rfl
 have R:y.2.1.getD 0 0=(l:Int):=by rw[h.ty.fr.eq]<;>rfl
 have z:y.2.1.getD 1 0=(f:Int):=by rw[h.ty.fr.eq]<;>rfl
 have E:y.2.1.getD 2 0=(n:Int):=by rw[h.ty.fr.eq]<;>rfl
 have F:y.2.1.getD 3 0=(o:Int):=by rw[h.ty.fr.eq]<;>rfl
 have G:x.2.1.getD 1 0=(B:Int):=by rw[h.tx.fr.eq]<;>rfl
 have I:FD ag y.2.1=(k:Int):=by unfold FD oB;rw[R,h.ge,←Int.ofNat_tdiv,h.gK,Nat.mul_div_cancel_left _<|by have:=h.g1;omega];have:k<=g*k:=Au h.g1;have:=h.gK;have:=q.a;rw[aH (by omega)<|by omega]
 have S:Mn y.2.1=f:=by unfold Mn;rw[z]<;>rfl
 have eK:Mo y.2.1=n*o:=by unfold Mo;rw[E,F,←p4]<;>rfl
 have T:qK e=A*(l*(H*W)):=h.td.cnt;have U:=(lr (ag:=ag) h.tx.fr (y.2.1.getD 2 0)<|y.2.1.getD 3 0).2;have j:(Ij ag x.2.1 y.2.1).2.2.2.2.2.2.2.2.2.1=((C*D:Nat):Int):=U
 have s:ml ag x.2.1 y.2.1 e x.2.2.1.length y.2.2.1.length=bc:=by
  have b1:=q.c;have b2:=q.d;unfold ml
  rw[afG v O h.wc,aF<|show ag.length<=9223372036854775807/\y.2.1.length=4/\e.length=4/\aC e=0 from⟨by omega,P,Q,M⟩,I,z,G,j,b9,
   aF<|show aS ag oB 1≠0/\1<=(k:Int)/\0<=(f:Int)/\0<=(B:Int)/\0<=((C*D:Nat):Int)from⟨by unfold oB;rw[h.ge];have:=h.g1;omega,by have:=h.p1;omega,u4 _,u4 _,u4 _⟩,
   aF<|show x.2.2.1.length<=2147483648/\y.2.2.1.length<=2147483648 by rw[h.tx.len,h.ty.len];omega]
  unfold Ij;rw[E,F,Mv h.tx.fr ⟨u4 _,by omega⟩ ⟨u4 _,by omega⟩]<;>rfl
 have t:∀i,i<qK e->cvP x.2.2.1.length y.2.2.1.length e (x.2.1.getD 1 0).toNat (FD ag y.2.1).toNat (Mn y.2.1) (Ij ag x.2.1 y.2.1).2.2.2.2.2.2.2.2.2.1.toNat (Mo y.2.1) i/\sV e i 1<l:=by
  intro i m;rw[T]at m;obtain⟨J,u⟩:=aoT m h.td.b h.td.c h.td.d;rw[←h.td.eq]at J u;rw[G,I,S,eK,j,b9,b9,b9,h.tx.len,h.ty.len];unfold cvP;generalize sV e i 0=a at J⊢;generalize sV e i 1=b at u⊢;have hq  :=w5<|by rw[vr,←h.gK];exact u
  have s1  :=by
   have:=ga f<|show b/k+1<=g by omega
   rw[nY,x1,←h.gB]at this;exact this
  have s2  :=by
   have:=ga B<|show a+1<=A by omega
   rw[nY,x1]at this;exact this
  have K:(a*B+b/k*f+f)*(C*D)<=A*B*(C*D):=ga _<|by omega
  have V  :=by
   have:=ga f<|show b+1<=l by omega
   rw[nY,x1]at this;exact this
  have L:(b*f+f)*(n*o)<=l*f*(n*o):=ga _ V;rw[yk]at K L;have q1:=N.ab;have q2:=q.ab;have q3:=q.a;exact⟨⟨by omega,K,by omega,L,by omega⟩,u⟩
 rcases h.rr with rfl|⟨b,rfl,_,X⟩
 ·show (ml ag x.2.1 y.2.1 e x.2.2.1.length y.2.2.1.length&&SX ag x.2.1 y.2.1 e x.2.2.1.length y.2.2.1.length)=bc;rw[s,gb];exact aF λi m=>(t i m).1
 ·show (ml ag x.2.1 y.2.1 e x.2.2.1.length y.2.2.1.length&&SY ag x.2.1 y.2.1 e x.2.2.1.length y.2.2.1.length b.2.2.1.length)=bc;rw[s,gb,X];exact aF λi m=>t i m
theorem agm {v a c C D i j y x}(h:x6 v a c C D i j y x) data p:nG (yV data (C*D) p) D v=data.getD ((p*C+y)*D+x) 0:=by
 let d:=h.y;let f:=h.x;let b:(y+1)*D<=C*D:=ga _ d;let e:nG _ D v=(yV data (C*D) p).getD (y*D+(x:Int)).toNat 0:=by rw[h.eq]<;>rfl
 rw[e,←p4,←FY,b9];unfold yV;grind
theorem wH {v a b C D i j y x}(h:x6 v a b C D i j y x):idx v 0=ar (i:Int)/\idx v 1=ar (j:Int)/\idx v 2=ar (y:Int)/\idx v 3=ar (x:Int):=by rw[h.eq];exact⟨rfl,rfl,rfl,rfl⟩
theorem Av {S A R} F fin:∀(l:List A) (s:S),bG (λs a=>.go (R:=R) (F s a)) fin l s=fin (l.foldl F s)
 |[],_=>rfl
 |a::l,s=>Av F fin l _
theorem Aw {t:(Y0).den}{A B C D}(c:T4 t A B C D)(e:aC t.2.1=0){a b}(f:a<A)(g:b<B){v h k i j y x}(d:x6 v h k C D i j y x):Is t a b y x=bc/\It t a b y x=nG (yV t.2.2.1 (C*D) (a*B+b)) D v:=by let ⟨g1,g2⟩:=afZ t a b y x (af8 c.fr.eq e c.fr.p c.len f g d.y d.x);exact⟨g1,g2.trans (agm d t.2.2.1 _).symm⟩
theorem aoU {t:(Y0).den}{A B C D}(g:T4 t A B C D)(h:aC t.2.1=0){a b}(k:a<A)(m:b<B){c:af}(o:idx c 0=ar (a:Int))(g1:idx c 1=ar (b:Int)){l}(q:l.length<=maxLen){r w}(z:∀v∈l,∃i j y x,x6 v r w C D i j y x):
  lp iL eI y4 fu (se t c l 0 0) MH=ar (.ret [I (dO .quo (l.foldl (λs u=>dO .add s (nG (yV t.2.2.1 (C*D) (a*B+b)) D u)) 0) (wo (.ofNat l.length)))],[]):=by
 refine(cg (T:=λn s=>lp iL eI y4 n s MH) (st:=λp s=>se t c l s p) (fin:=λs=>ar (.ret [I (dO .quo s _)],[])) (λ_ _=>True) q ?_ ?_ trivial).trans (Av _ _ _ _)
 ·intro p s v n _ hp E F G d;let ⟨i,j,y,x,e⟩:=z v (ik E);let ⟨_,_,H,J⟩:=wH e;let ⟨K,L⟩:=Aw g h k m e;refine .inl ⟨_,rfl,trivial,?_⟩;let f:=agi t c l s p n;rw[d,ai,o,aw,g1,aw,F,aw,H,aw,aw,J,aw,K,ai,L,G]at f;exact f
 ·intro s n _ d;rw[agi,d,al]
theorem Th {t:(Y0).den}{A B C D}(f:T4 t A B C D)(g:aC t.2.1=0){b d}(h:b<A)(k:d<B){c:af}(o:idx c 0=ar (b:Int))(g1:idx c 1=ar (d:Int)){l}(z:l.length<=2147483648){E F}(p:∀v∈l,∃i j y x,x6 v E F C D i j y x):∀(r a) (s) (n),l=a++r->r.length<n->
  lp iL eI FK n (x4 t c l s a.length) Yq=ar (.ret [I (r.foldl (λs u=>oL s (nG (yV t.2.2.1 (C*D) (b*B+d)) D u)) s)],[])
 |[],a,s,n,e,q=>by obtain⟨n,rfl⟩:∃m,n=m+1:=⟨n-1,by omega⟩;rw[agh,cq (show¬(a.length:Int)<bd l.length by rw[e,eT];simp only[aK];omega),al]<;>rfl
 |v::r,a,s,n,e,q=>by
  obtain⟨n,rfl⟩:∃m,n=m+1:=⟨n-1,by omega⟩;have N:a.length<l.length:=by rw[e,bK,bs];omega
  have G:idx l (a.length:Int)=ar v:=by grind [idx]
  have H:i64.wrap ((a.length:Int)+1)=((a++[v]).length:Int):=by rw[aH (by omega) (by omega),bK,eS];omega
  obtain⟨i,j,y,x,w⟩:=p v (by rw[e];simp);obtain⟨_,_,J,K⟩:=wH w;obtain⟨L,M⟩:=Aw f g h k w;rw[agh,aF (show (a.length:Int)<bd l.length by simp only[aK];omega),ai,o,aw,g1,aw,G,aw,J,aw,aw,K,aw,L,ai,M,H];exact Th f g h k o g1 z p r (a++[v]) _ n (by rw[e];simp) (by rw[bs]at q;omega)
theorem aoV t c l s:hlp iL eI FK _ (x4 t c l s 1) Yq=lp iL eI FK fu (x4 t c l s 1) Yq:=rfl
theorem aoW t c l:hlp iL eI y4 _ (se t c l 0 0) MH=lp iL eI y4 fu (se t c l 0 0) MH:=rfl
theorem aoX {y:(Y2).den}{t:(Y0).den}{A B C D}(q:T4 t A B C D)(E:aC t.2.1=0){d e}(F:d<A)(G:e<B) a b {w v f g h k m n o p} (J:WnR w f g h k m n o p) (M:Wv v C D f g h k m n o p)
  (K:(y.1==jr)=bc->mF C D h k m n o p a b f g≠[]):wD y t w [(d:Int),(e:Int),a,b]=ar (H9 y.1 (yV t.2.2.1 (C*D) (d*B+e)) v a b):=by
 let V:maxLen=9223372036854775807:=by decide
 let N:=J.kk
 have L:=Ix C D h k m n o p a b f g
 have s:∀u∈mF C D h k m n o p a b f g,∃i j y x,x6 u f g C D i j y x:=λu z=>Te z
 let ⟨O,P⟩:=af0 w t.2.1 a b (agb J (H:=C) (W:=D) (by rw[q.fr.eq]<;>rfl) (by rw[q.fr.eq]<;>rfl) a b)
 rw[agk M]
 unfold wD
 rw[aoQ,show idx [(d:Int),(e:Int),a,b] 2=ar a from rfl,aw,show idx [(d:Int),(e:Int),a,b] 3=ar b from rfl,aw,O,ai,P]
 generalize mF C D h k m n o p a b f g=l at L s K⊢
 cases I:y.1==jr with|false=>rw[show (y.1==lL)=a8 from I,al,al];exact congrArg (bT [aa]) ((aoW t _ l).trans (aoU q E F G (c:=[d,e,a,b]) rfl rfl (by omega) s))|true=>rw[show (y.1==lL)=bc from I,ai,ai];cases l with|nil=>exact absurd rfl (K I)|cons u r=>let ⟨i,j,X,x,z⟩:=s u ku;let ⟨_,_,Q,R⟩:=wH z;let ⟨S,T⟩:=Aw q E F G z;rw[show idx [(d:Int),(e:Int),a,b] 0=ar (d:Int)from rfl,aw,show idx [(d:Int),(e:Int),a,b] 1=ar (e:Int)from rfl,aw,show idx (u::r) 0=ar u from rfl,aw,Q,aw,aw,R,aw,S,ai,T];let U:=Th q E F G (c:=[d,e,a,b]) rfl rfl (l:=u::r) (by omega) s r [u] (nG (yV t.2.2.1 (C*D) (d*B+e)) D u) fu rfl (by rw[show fu=18446744073709551616 from rfl];rw[bs]at L;omega);exact congrArg (bT [aa]) ((aoV t _ (u::r) _).trans U)
def FN (r:List cu)(a:Nat)(s:Int):Int:=match r with|[b]=>dO .add s (b.2.2.1.getD a 0)|_=>s
theorem aoY {v c a C D i j y x}(h:x6 v c a C D i j y x)(d:af) q:((d.drop (q*(c*a))).take (c*a)).getD (v.getD 0 0*(a:Int)+v.getD 1 0).toNat 0=d.getD ((q*c+i)*a+j) 0:=by let e:=h.i;let f:=h.j;let b:(i+1)*a<=c*a:=ga _ e;rw[nY,x1]at b;rw[h.eq];grind
theorem aoZ {t:(Y0).den}{g d c a}(e:T4 t g d c a)(h:aC t.2.1=0){b k}(l:b<g)(m:k<d){v C D i j y x}(f:x6 v c a C D i j y x):Is t b k i j=bc/\It t b k i j=((t.2.2.1.drop ((b*d+k)*(c*a))).take (c*a)).getD (v.getD 0 0*(a:Int)+v.getD 1 0).toNat 0:=by let ⟨g1,g2⟩:=afZ t b k i j (af8 e.fr.eq h e.fr.p e.len l m f.i f.j);exact⟨g1,g2.trans (aoY f t.2.2.1 _).symm⟩
theorem ao0 {x y}{r:List cu}{A B C D z q g b}(h:T4 x A B C D)(E:aC x.2.1=0)(F:T4 y z q g b)(G:aC y.2.1=0){c0 c1 f k}(H:c0<A)(I:c1<z)(J:k<q)(K:f+k<B){c:af}(L:idx c 0=ar (c0:Int))(g1:idx c 1=ar (c1:Int)){l}(M:l.length<=maxLen)(N:∀v∈l,∃i j y x,x6 v g b C D i j y x) e s m:
  lp fD cO Db fu (uH (x::y::r) c e f l s k 0) (Yp m sd)=lp fD cO qz m (pc (x::y::r) c e f l (l.foldl (λs u=>dO .add s (dO .mul (nG (yV x.2.2.1 (C*D) (c0*B+(f+k))) D u) (((y.2.2.1.drop ((c1*q+k)*(g*b))).take (g*b)).getD (u.getD 0 0*(b:Int)+u.getD 1 0).toNat 0))) s) (i64.wrap (k+1))) sd:=by
 let hB:f+k<=65536:=by let p:=h.fr.p;let e1:B<=B*(C*D):=oy _ (ya h.fr.c h.fr.d);let e2:B*(C*D)<=A*(B*(C*D)):=xu _ h.fr.a;omega
 let wf:i64.wrap (f+k)=(f+k:Nat):=by rw[←FY];exact aH (by omega) (by omega)
 refine(cg (T:=λn s=>lp fD cO Db n s (Yp m sd)) (st:=λp s=>uH (x::y::r) c e f l s k p) (f:=λs u=>.go (dO .add s (dO .mul (nG (yV x.2.2.1 (C*D) (c0*B+(f+k))) D u) (((y.2.2.1.drop ((c1*q+k)*(g*b))).take (g*b)).getD (u.getD 0 0*b+u.getD 1 0).toNat 0)))) (fin:=λs=>lp fD cO qz m (pc (x::y::r) c e f l s (i64.wrap (k+1))) sd) (λ_ _=>True) M ?_ ?_ (a:=s) trivial).trans (Av _ _ _ _)
 ·intro p s v n _ hp O P Q t;let ⟨i,j,yy,xx,w⟩:=N v (ik O);let ⟨R,S,U,V⟩:=wH w;let ⟨W,X⟩:=Aw h E H K w;let ⟨Y,Z⟩:=aoZ F G I J w;refine .inl ⟨_,rfl,trivial,?_⟩;let o:=age (x::y::r) c e f l s k p m n;rw[t,ai,show idx (x::y::r) 0=ar x from rfl,aw,L,aw,P,aw,U,aw,aw,V,aw,wf,W,ai,show idx (x::y::r) 1=ar y from rfl,aw,g1,aw,aw,R,aw,aw,S,aw,Y,ai,X,Z,Q]at o;exact o
 ·intro s n _ t;let o:=age (x::y::r) c e f l s k l.length m n;rw[t,al,kU]at o;exact o
theorem ao1 (a:List cu) c e f l s k m:hlp fD cO Db _ (uH a c e f l s k 0) (Yp m sd)=lp fD cO Db fu (uH a c e f l s k 0) (Yp m sd):=rfl
theorem aAE (a:List cu) c e f l:hlp fD cO qz _ (pc a c e f l 0 0) sd=lp fD cO qz fu (pc a c e f l 0 0) sd:=rfl
theorem ao2 {n x y r}{A B C D E h t z g o:Nat}(hA:n.2.2.2.2.1.length<=maxLen)(O:T4 x A B C D)(hx:aC x.2.1=0)(P:T4 y E h t z)(hy:aC y.2.1=0)
  (R:aS n.2.2.2.2.1 iX 1=g) (g1:1<=g) (gB:B=g*h) (S:E=g*o) (p1:1<=o) {c0 c1} (h0:c0<A) (U:c1<E) (l m:Int)
  {w v F G J K L M} (V:WnR w t z F G J K L M) (hv:Wv v C D t z F G J K L M)
  (hr:r=[]\/∃b:cu,r=[b]/\b.2.2.1.length=E):Dc n (x::y::r) w [(c0:Int),(c1:Int),l,m]=ar (FN r c1 (cvC x.2.2.1 y.2.2.1 v l m (c0*B+c1/o*h) (C*D) (c1*h) (t*z) h 0)):=by
 have hm:maxLen=9223372036854775807:=by decide
 obtain⟨X,Y⟩:=qk n iX 1 (ql hA)
 have hl:=Ix (C:Int) (D:Int) F G J K L M l m t z
 have hkk:=V.kk
 have y9:∀u∈mF (C:Int) (D:Int) F G J K L M l m t z,∃i j y x,x6 u t z C D i j y x:=λu hu=>Te hu
 obtain⟨Z,l2⟩:=af0 w x.2.1 l m (agb V (H:=(C:Int)) (W:=(D:Int)) (by rw[O.fr.eq]<;>rfl) (by rw[O.fr.eq]<;>rfl) l m)
 have bK0:E<=65536:=by have p:=P.fr.p;have:E<=E*(h*(t*z)):=oy _ (ya P.fr.b (ya P.fr.c P.fr.d));omega
 have bB:B<=65536:=by have p:=O.fr.p;have e1:B<=B*(C*D):=oy _ (ya O.fr.c O.fr.d);have e2:B*(C*D)<=A*(B*(C*D)):=xu _ O.fr.a;omega
 have dP:E/g=o:=by rw[S];exact Nat.mul_div_cancel_left _ (by omega)
 have cP  :=w5 (by rw[vr,←S];exact U)
 have fB:c1/o*h+h<=B:=by have:(c1/o+1)*h<=g*h:=ga _ cP;grind
 have bg:g<=65536:=zv (oy _ (show 0<o by omega)) (by omega:g*o<=65536)
 have bP:o<=65536:=zv (xu _ (show 0<g by omega)) (by omega:g*o<=65536)
 have w1:i64.wrap ((E:Int).tdiv (g:Int))=(o:Int):=by grind [aH]
 have w2:i64.wrap ((c1:Int).tdiv (o:Int))=((c1/o:Nat):Int):=by grind [aH]
 have w3:i64.wrap (((c1/o:Nat):Int)*(h:Int))=((c1/o*h:Nat):Int):=by grind [p4,aH]
 have y0:idx y.2.1 0=ar (E:Int):=by rw[P.fr.eq]<;>rfl
 have y1:idx y.2.1 1=ar (h:Int):=by rw[P.fr.eq]<;>rfl
 have e:=aoP n (x::y::r) w [(c0:Int),(c1:Int),l,m]
 first|rw[show ([103,114,111,117,112]:ao)=iX from rfl,X,ai,Y,R,show idx (x::y::r) 1=ar y from rfl,aw,y1,aw,show idx [(c0:Int),(c1:Int),l,m] 1=ar (c1:Int)from rfl,aw,aw,y0,aw,if_neg (show¬(g:Int)=0 by omega),aw,w1,if_neg (show¬(o:Int)=0 by omega),aw,w2,show idx (x::y::r) 0=ar x from rfl,aw,show idx [(c0:Int),(c1:Int),l,m] 2=ar l from rfl,aw,show idx [(c0:Int),(c1:Int),l,m] 3=ar m from rfl,aw,Z,ai,l2,w3]at e|rw[show (iM:ao)=iX from rfl,X,ai,Y,R,show idx (x::y::r) 1=ar y from rfl,aw,y1,aw,show idx [(c0:Int),(c1:Int),l,m] 1=ar (c1:Int)from rfl,aw,aw,y0,aw,if_neg (show¬(g:Int)=0 by omega),aw,w1,if_neg (show¬(o:Int)=0 by omega),aw,w2,show idx (x::y::r) 0=ar x from rfl,aw,show idx [(c0:Int),(c1:Int),l,m] 2=ar l from rfl,aw,show idx [(c0:Int),(c1:Int),l,m] 3=ar m from rfl,aw,Z,ai,l2,w3]at e
 have fin:∀s:Int,∀q:Nat,lp fD cO qz (q+1) (pc (x::y::r) [(c0:Int),(c1:Int),l,m] (h:Int) ((c1/o*h:Nat):Int) (mF (C:Int) (D:Int) F G J K L M l m t z) s (h:Int)) sd=ar (.ret [I (FN r c1 s)],[]):=λs q=>by
  rw[agd,cq (show¬(h:Int)<(h:Int) by omega),al];rcases hr with rfl|⟨b,rfl,hb⟩
  ·rfl
  ·rw[show (bd (x::y::[b]).length==3)=bc from rfl,ai,show idx (x::y::[b]) 2=ar b from rfl,aw,show idx [(c0:Int),(c1:Int),l,m] 1=ar (c1:Int)from rfl,aw,eM (show c1<b.2.2.1.length by omega),aw]<;>rfl
 have bK1:h<=65536:=by omega
 have key:lp fD cO qz fu (pc (x::y::r) [(c0:Int),(c1:Int),l,m] (h:Int) ((c1/o*h:Nat):Int) (mF (C:Int) (D:Int) F G J K L M l m t z) 0 0) sd=ar (.ret [I (FN r c1 (cvC x.2.2.1 y.2.2.1 v l m (c0*B+c1/o*h) (C*D) (c1*h) (t*z) h 0))],[]):=by
  unfold cvC;refine(fq (N:=h) (T:=λn s=>lp fD cO qz n s sd) (st:=λk s=>pc (x::y::r) [(c0:Int),(c1:Int),l,m] (h:Int) ((c1/o*h:Nat):Int) (mF (C:Int) (D:Int) F G J K L M l m t z) s k) (f:=λ(s:Int) (ch:Nat)=>WD (cvS ((x.2.2.1.drop ((c0*B+c1/o*h+ch)*(C*D))).take (C*D)) ((y.2.2.1.drop ((c1*h+ch)*(t*z))).take (t*z)) v l m s)) (fin:=λs=>ar (.ret [I (FN r c1 s)],[])) (λ_ _=>True) (by omega) ?_ ?_ (a:=0) trivial).trans (Av _ _ _ _)
  ·intro k s q _ hk Q hd;refine .inl ⟨_,rfl,trivial,?_⟩;have hs:=agd (x::y::r) [(c0:Int),(c1:Int),l,m] (h:Int) ((c1/o*h:Nat):Int) (mF (C:Int) (D:Int) F G J K L M l m t z) s (k:Int) q;rw[show a7 ((k:Int)<(h:Int))=bc from hd,ai]at hs;have h2:=hs.trans ((ao1 (x::y::r) _ _ _ _ s (k:Int) q).trans (ao0 O hx P hy (c0:=c0) (c1:=c1) (f:=c1/o*h) (k:=k) h0 U hk (by omega) (c:=[(c0:Int),(c1:Int),l,m]) rfl rfl (by omega) y9 (h:Int) s q));rw[Q]at h2;rw[h2,aoS hv,show c0*B+(c1/o*h+k)=c0*B+c1/o*h+k by omega]<;>rfl
  grind
 unfold Dc
 rw[e]
 exact congrArg (bT [aa]) ((aAE (x::y::r) _ _ _ _).trans key)
structure aAF (ag:bu)(x:cu)(ds:List Int)(A B C D H W:Nat)(ka kb:Int):Prop where
 tx:T4 x A B C D
 td:IZ ds A B H W
 ka:0<=ka/\ka<=65536
 kb:0<=kb/\kb<=65536
 lk:C1 ag x.2.1=bc
theorem agn {op nm ins out ag}{x:cu}{m:List cu}(hp:op=iJ\/op=iK)(G:jj (op,nm,ins,out,ag,()))(h:ic (op,nm,ins,out,ag,()) (x::m)=0):
  ∃A B C D H W ka kb,aAF ag x (kz (op,nm,ins,out,ag,())<|aR x::m.map aR) A B C D H W ka kb/\aj ag eZ []=[ka,kb]/\jV ag x.2.1 [ka,kb]=H/\jW ag x.2.1 [ka,kb]=W:=by
 have n  :=G.shA
 obtain⟨I,o⟩:=iZ h
 rw[ox]at o
 have k:=lW I
 have u:=SD (nm:=nm) (ins:=ins) (out:=out) (ag:=ag) (v:=aR x) (vs:=m.map aR) hp
 have g:=o.dm
 have f:=o.cnt
 unfold Ah at g
 have J:kz (op,nm,ins,out,ag,()) (aR x::m.map aR)=((plP ag x.2.1).getD (0,[])).2:=by unfold kz;rw[u]<;>rfl
 rw[J]at f⊢
 rw[u]at g
 have g:((plP ag x.2.1).getD (0,[])).1=0:=g
 unfold plP at g f⊢
 rw[n,ai]at g f⊢
 cases q:cA 2 1 100 (aj ag eZ [])with
 |false=>rw[q]at g;exact Cz g
 |true=>
  rw[q,ai]at g f;rw[ai];cases r:bd x.2.1.length==4 with
  |false=>rw[r]at g;exact Cz g
  |true=>
   rw[r,ai]at g f;rw[ai];have K:nq ag x.2.1 (aj ag eZ [])=bc:=lh n _ _ _ _;rw[K,ai]at g f⊢;cases l:dp ag x.2.1 (aj ag eZ [])==0 with
   |false=>rw[l]at g;have g:dp ag x.2.1 (aj ag eZ [])=0:=g;rw[g]at l;cases l
   |true=>
    rw[l,ai]at g f;rw[ai];cases w:mj (aj ag eZ []) 0 (aj ag SC [])with
    |false=>rw[w]at g;exact Cz g
    |true=>
     rw[w,ai]at f;rw[ai];have L:=eq_of_beq r;simp only[aK]at L;obtain⟨ka,kb,s,O,P,Q,R⟩:=awh q;obtain⟨A,B,C,D,t⟩:=wG (k x<|by simp)<|by omega
     have y:x.2.1.getD 0 0=(A:Int):=by rw[t.fr.eq]<;>rfl
     have z:x.2.1.getD 1 0=(B:Int):=by rw[t.fr.eq]<;>rfl
     have f  :=f;rw[y,z,s]at f;obtain⟨M,N,H,W,j⟩:=Il f rfl;have i:=j.eq;injection i with S i
     injection i with T i
     injection i with E i
     injection i with F i
     obtain rfl:A=M:=by omega
     obtain rfl:B=N:=by omega
     refine⟨A,B,C,D,H,W,ka,kb,⟨t,?_,⟨by omega,by omega⟩,⟨by omega,by omega⟩,afG n (by omega)<|eq_of_beq l⟩,s,E,F⟩;have e:(Option.getD (ar ((0:Int),[x.2.1.getD 0 0,x.2.1.getD 1 0,jV ag x.2.1<|aj ag eZ [],jW ag x.2.1<|aj ag eZ []])) (0,[])).2=[(A:Int),(B:Int),(H:Int),(W:Int)]:=by rw[y,z,s,E,F]<;>rfl
     exact⟨e,j.a,j.b,j.c,j.d,j.p⟩
theorem ago {nm ins out ag}{x:cu}{m:List cu}(p:jj (cz,nm,ins,out,ag,()))(h:ic (cz,nm,ins,out,ag,()) (x::m)=0):
  ∃A B C D,aAF ag x (kz (cz,nm,ins,out,ag,())<|aR x::m.map aR) A B C D 1 1 C D:=by
 have q  :=p.shA
 obtain⟨r,k⟩:=iZ h
 rw[ox]at k
 have i:=lW r
 have n:=nu k.ck
 have g:iS (cv (bW cz).2.2.1) ag=0:=n.attr
 have s:=ay2 (nm:=nm) (ins:=ins) (out:=out) (ag:=ag) (v:=aR x) (vs:=m.map aR)
 have l:=k.dm
 have f:=k.cnt
 unfold Ah at l
 unfold kz at f⊢
 rw[s]at l f⊢
 cases o:bd x.2.1.length==4 with
 |false=>rw[show (bd (bk (aR x).2.2.1)==4)=a8 from o]at l;exact Cz l
 |true=>
  have t:=eq_of_beq o;simp only[aK]at t;obtain⟨A,B,C,D,j⟩:=wG (i x<|by simp)<|by omega
  have b:=j.fr.bnd;have u:=b.c;have w:=b.d;have e:(Option.getD (bif !Int.ofNat (bk (aR x).2.2.1)==4 then ar (4,[])else (idx (aR x).2.2.1 0).bind λa=>(idx (aR x).2.2.1 1).bind λb=>ar ((0:Int),[a,b,1,1])) (0,[])).2=[(A:Int),B,(1:Nat),((1:Nat):Int)]:=by rw[show (aR x).2.2.1=[(A:Int),(B:Int),(C:Int),(D:Int)]from j.fr.eq]<;>rfl
  rw[e]at f⊢;refine⟨A,B,C,D,⟨j,⟨rfl,j.fr.a,j.fr.b,ep _,ep _,by rw[Qe];exact b.ab⟩,⟨by omega,by omega⟩,⟨by omega,by omega⟩,S0 q ?_ ?_ ?_<|by omega⟩⟩
  ·rw[lS g<|by decide +kernel];decide
  ·rw[lS g<|by decide +kernel];decide
  ·rw[lS g<|by decide +kernel];decide
noncomputable def gLv  :=g82.add 11 doE
theorem agV :gLv.Good:=nd.add azQ
theorem agW :aB gLv f8 7 [] [] [] ah=ar (.ret [B bc],[]):=by kernel_rfl
def MR :List AV->LHp->Option (aq×LHp)
 |[],[]=>ar (.ret [B bc],[])
 |_,_=>a6
theorem agX :bq 8 (fnE MR):=by
 let e:=bM (d:=7) (l:=[]) agV func8 call8;refine⟨λa c k=>?_,λa c f g h=>?_⟩
 ·simp only[fnE];cases MR a c<;>rfl
 ·have b:(MR a c).bind _=ar _:=h
  unfold MR at b;split at b
  ·cases b;exact e.okC agW
  ·cases b
end
end Go.Proofs.XRT
