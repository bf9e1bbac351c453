/- schema.Ints over data nodes, told; infer.numbers over data nodes: run. -/
import Derived.Test.YtnkhoojomojbpaaGreatDoorC2
import Derived.Shelf.Slices.Delete
import Derived.Shelf.Slices.Reverse
import Derived.Shelf.Sort.Plain
import Derived.Shelf.Spec.SlicesInsertGrow
import Derived.Laws.IdiomCopy
import Derived.Sort.Grow
import Derived.Sort.Row
import Derived.Shelf.Slices.In.SortNone
open Array renaming getElem?_eq_some_iff→om,size_append→F1
open Bool renaming and_self→uu,false_and→so,false_or→IN,false→a8,not_eq_true→np,not_false→hX,not_true→cy,true_and→gb,true→bc
open Decidable renaming decide→a7
open Eq renaming trans→gp
open Go.Builtin renaming zeroCells→tl
open Go.Lib renaming indexByte→js
open Go.Proofs.Any2 renaming slices_Insert_int_end_grow→alE
open Go.Proofs.Tryz renaming isAgg31→aik,sizeOf0→aif,sizeOf31→ahx,sizeOf3→aih,sizeOf4→aii,underlying0→agr,underlying31→II,underlying3→ae2,underlying4→ag7,zeroValue0→ahe,zeroValue31→ag8,zeroValue3→ahf,zeroValue4→ahg
open Go.Value renaming cells→gI,int→nw,slice→al5
open Go.Vm.AV renaming d→eb,ip→Zh,nils→b5,op→mm,tup→ahu
open Go.Vm.Tq renaming br_no→eN
open Go.Vm.Ty renaming str→fa,unit→eR
open Int renaming eq_ofNat_of_zero_le→q8,mul_le_mul→Qb,ofNat→bd,tmod→acM,toNat_natCast→b9,toNat→j4
open List renaming all_cons→py,all_eq_true→gv,any_eq_false→v7,append_assoc→gl,append_nil→eT,count_cons_of_ne→ahk,drop_eq_getElem_cons→sW,drop_eq_nil_of_le→ly,drop→fb,find?→te,findIdx?_eq_none_iff→yd,findIdx?_eq_some_iff_getElem→fk,getD_eq_getElem?_getD→kM,getElem?_append_right→uN,getElem?_eq_getElem→dv,getElem?_take→T1,getElem_mem→rm,length_append→bK,length_cons→bs,length_drop→km,length_eq_zero_iff→aft,length_map→vb,length_nil→eO,length_reverse→Nd,length_set→WB,length_singleton→eS,length_take→fl,length→bk,map_append→Cp,map_nil→Dr,mem_of_find?_eq_some→kq,mem_of_getElem?→ik,nil_append→pb,range→hW,replicate→eo,take_append_getElem→YW,take_of_length_le→hP,take→gy
open Nat renaming beq→dK,ble_eq_true_of_le→sc,blt→h8,le_refl→ep,sub_self→M7,zero_add→hM
open Option renaming isNone_some→WL,none→a6,some→ar
open Option.some renaming inj→hY
open PUnit renaming unit→bn
set_option maxRecDepth 100000
set_option maxHeartbeats 4000000
namespace Go.Proofs.XRT
open Go.Vm Go Tryz IntKind
noncomputable section
def cY a b (l:af)  :=l.all λv=>a<=v&&v<=b
def pF (o:af):LHp:=[(0,.arr 2 aa 0 a8 o)]
def aEi (o l:af):LHp:=[(0,.arr 2 aa 0 a8 o),(1,.arr 2 aa 0 a8 l)]
def abw :List AV->LHp->Tq
 |[.d Y2 (_,_,_,_,b,_),.d .str a,.nils],[]=>.br (a7 (b.length<=maxLen)) (.br (b.find? (ie a 7)).isNone (.leaf (.ret [.nils]) []) (.br (a7 (aj b a []=[])) (.leaf (.ret [.emp]) []) (.br (a7 ((aj b a []).length<=2147483648)) (.leaf (.ret [.os 0 0]) (pF (aj b a []))) .no))) .no
 |_,_=>.no
def abx :List AV->LHp->Tq
 |[.d Y2 (_,_,_,_,c,_),.d .str a,.os 0 0],[(0,.arr 2 zI 0 a8 b)]=>.br (!b.isEmpty) (.br (a7 (c.length<=maxLen)) (.br (a7 (aj c a b=[])) (.leaf (.ret [.emp]) (pF b)) (.br (a7 ((aj c a b).length<=2147483648)) (.leaf (.ret [.os 1 0]) (aEi b (aj c a b))) .no)) .no) .no
 |_,_=>.no
theorem aby :bq 25 (ay abw):=by
 let f:=bM (d:=5) (l:=[]) Cc func25 call25;refine aY λe i j k b=>?_
 unfold abw at b;split at b
 ·rename_i c _ a;let ⟨g,h⟩:=eN b;refine f.okC ?_;rw[asL,aF (bt g:c.length<=9223372036854775807),n9];refine gp ?_ h;unfold aj;show (bif bc then bif (c.find?<|ie a 7).isNone then _ else (c.find?<|ie a 7).bind _ else _)=_;cases c.find? _<;>rfl
 ·cases b
theorem abz :bq 25 (ay abx):=by
 let g:=bM (d:=5) (l:=[]) Cc func25 call25;refine aY λe n p q b=>?_
 unfold abx at b;split at b
 ·rename_i c _ a f;let ⟨h,i⟩:=eN b;let ⟨j,k⟩:=eN i;let m:=bt j;cases f with|nil=>exact absurd h<|by decide|cons o f=>refine g.okC ?_;rw[asM,aF<|show c.length<=9223372036854775807 from m,n9];refine gp ?_ k;unfold aj;show (bif bc then bif (c.find?<|ie a 7).isNone then _ else (c.find?<|ie a 7).bind _ else _)=_;cases c.find? _<;>rfl
 ·cases b
def asN a b  :=orT (abw a b)<|abx a b
theorem Rn :bq 25 (ay asN):=lK aby abz
def Ro  :=aU f215
def UU  :=cL (cL (cR (cL (cR (cR (cR Ro))))))
def gE :Cfg:=⟨47,6,1,[(4,[3,4,5,14,21,22,23])],bc⟩
def Lo  :=aU f215
def MZ  :=cL (cL (cR (cL (cR (cR (cR Lo))))))
def fh :Cfg:=⟨47,6,0,[(4,[3,4,5,14,21,22,23])],bc⟩
def mN  :=UI.add 25<|ay asN
theorem Lp :mN.Good:=ij.add Rn
theorem asO i j f g e (a:ao) c lo hi o (b:af):aB mN f215 6 [(4,[3,4,5,14,21,22,23])] [dU i j f g e,.d .str a,.os 0 0,I c,I lo,I hi] (pF<|o::b) ah=bif e.length<=9223372036854775807 then bif aj e a (o::b)=[]then (hlp mN gE) UU _ ⟨az 6 [(3,I c),(4,I lo),(5,I hi),(14,.nils),(21,.emp),(22,I 0),(23,I 0)],[(0,.arr 2 aa 0 a8<|o::b)],2⟩ (aI 0<|aL mN gE [4] (hlp mN gE) (cR<|cR<|cR<|cR Ro)<|aV prog 1 f215.results.toList ah)else bif (aj e a<|o::b).length<=2147483648 then (hlp mN gE) UU _ ⟨az 6 [(3,I c),(4,I lo),(5,I hi),(14,.nils),(21,.os 1 0),(22,I<| .ofNat (aj e a<|o::b).length),(23,I 0)],[(0,.arr 2 aa 0 a8<|o::b),(1,.arr 2 aa 0 a8<|aj e a<|o::b)],3⟩ (aI 0<|aL mN gE [4] (hlp mN gE) (cR<|cR<|cR<|cR Ro)<|aV prog 1 f215.results.toList ah)else a6 else a6:=(aW [4] gE rfl).trans<|by obtain⟨k,h⟩:=aM mN gE;rw[h];kernel_rfl
theorem asP i j f g e (b:ao) c lo hi:aB mN f215 6 [(4,[3,4,5,14,21,22,23])] [dU i j f g e,.d .str b,.nils,I c,I lo,I hi] [] ah=bif e.length<=9223372036854775807 then bif (te (λa=>a.fst==b&&a.snd.fst==7) e).isNone then (hlp mN fh) MZ _ ⟨az 6 [(3,I c),(4,I lo),(5,I hi),(14,.nils),(21,.nils),(22,I 0),(23,I 0)],[],0⟩ (aI 0<|aL mN fh [4] (hlp mN fh) (cR<|cR<|cR<|cR Lo)<|aV prog 0 f215.results.toList ah)else bif aj e b []=[]then (hlp mN fh) MZ _ ⟨az 6 [(3,I c),(4,I lo),(5,I hi),(14,.nils),(21,.emp),(22,I 0),(23,I 0)],[],0⟩ (aI 0<|aL mN fh [4] (hlp mN fh) (cR<|cR<|cR<|cR Lo)<|aV prog 0 f215.results.toList ah)else bif (aj e b []).length<=2147483648 then (hlp mN fh) MZ _ ⟨az 6 [(3,I c),(4,I lo),(5,I hi),(14,.nils),(21,.os 0 0),(22,I<| .ofNat (aj e b []).length),(23,I 0)],[(0,.arr 2 aa 0 a8<|aj e b [])],1⟩ (aI 0<|aL mN fh [4] (hlp mN fh) (cR<|cR<|cR<|cR Lo)<|aV prog 0 f215.results.toList ah)else a6 else a6:=(aW [4] fh rfl).trans<|by obtain⟨k,h⟩:=aM mN fh;rw[h];kernel_rfl
def G5 (c a b:Int)(e d L:af)(i:Int):LSt:=⟨az 6 [(3,I c),(4,I a),(5,I b),(14,.nils),(21,.os 1 0),(22,I<| .ofNat L.length),(23,I i)],pF d++[(1,.arr 2 aa 0 a8 L)],3⟩
def Rp (c b a L:af)  :=pF b++[(1,.arr 3 aa 0 a8 a),(2,.arr 2 aa 0 a8 L)]
def G6 (c b d:Int)(e f a L:af)(i:Int):LSt:=⟨az 6 [(3,I c),(4,I b),(5,I d),(14,.os 1 0),(21,.os 2 0),(22,I<| .ofNat L.length),(23,I i)],Rp e f a L,4⟩
theorem abA c b d f e L i n {R} (k:AEx->LSt->Option R):lp mN gE UU (n+1) (G5 c b d f e L i) k=bif i<.ofNat L.length then (idx L i).bind λg=>(L[i.toNat]?).bind λa=>bif b<=a then bif ! a<=d then k (.panic 131 4) ⟨az 6 [(3,I c),(4,I b),(5,I d),(14,.nils),(16,I a),(21,.os 1 0),(22,I<| .ofNat L.length),(23,I i),(24,B bc),(25,.oe 1 0 i.toNat),(26,I a),(27,I b),(28,I a),(29,B<|b<=a),(30,B bc),(31,I a),(32,I d),(33,B<|a<=d),(34,B<|a<=d)],[(0,.arr 2 aa 0 a8 e),(1,.arr 2 aa 0 a8 L)],3⟩else lp mN gE UU n (G6 c b d [] e [a] L<|i64.wrap<|i+1) k else k (.panic 131 4) ⟨az 6 [(3,I c),(4,I b),(5,I d),(14,.nils),(16,I a),(21,.os 1 0),(22,I<| .ofNat L.length),(23,I i),(24,B bc),(25,.oe 1 0 i.toNat),(26,I a),(27,I b),(28,I a),(29,B<|b<=a),(30,B a8),(31,.tup []),(32,.tup []),(33,.tup []),(34,B a8)],[(0,.arr 2 aa 0 a8 e),(1,.arr 2 aa 0 a8 L)],3⟩else k (.exit 0) ⟨az 6 [(3,I c),(4,I b),(5,I d),(14,.nils),(21,.os 1 0),(22,I<| .ofNat L.length),(23,I i),(24,B a8)],[(0,.arr 2 aa 0 a8 e),(1,.arr 2 aa 0 a8 L)],3⟩:=by kernel_rfl
theorem Lq c d e o (g f b L:af) i n {R} (k:AEx->LSt->Option R):lp mN gE UU (n+1) (G6 c d e g f (o::b) L i) k=bif i<.ofNat L.length then (idx L i).bind λj=>(L[i.toNat]?).bind λa=>bif d<=a then bif ! a<=e then k (.panic 131 4) ⟨az 6 [(3,I c),(4,I d),(5,I e),(14,.os 1 0),(16,I a),(21,.os 2 0),(22,I<| .ofNat L.length),(23,I i),(24,B bc),(25,.oe 2 0 i.toNat),(26,I a),(27,I d),(28,I a),(29,B<|d<=a),(30,B bc),(31,I a),(32,I e),(33,B<|a<=e),(34,B<|a<=e)],[(0,.arr 2 aa 0 a8 f),(1,.arr 3 aa 0 a8<|o::b),(2,.arr 2 aa 0 a8 L)],4⟩else (app (o::b) [a]).bind λh=>lp mN gE UU n (G6 c d e [] f h L<|i64.wrap<|i+1) k else k (.panic 131 4) ⟨az 6 [(3,I c),(4,I d),(5,I e),(14,.os 1 0),(16,I a),(21,.os 2 0),(22,I<| .ofNat L.length),(23,I i),(24,B bc),(25,.oe 2 0 i.toNat),(26,I a),(27,I d),(28,I a),(29,B<|d<=a),(30,B a8),(31,.tup []),(32,.tup []),(33,.tup []),(34,B a8)],[(0,.arr 2 aa 0 a8 f),(1,.arr 3 aa 0 a8<|o::b),(2,.arr 2 aa 0 a8 L)],4⟩else k (.exit 0) ⟨az 6 [(3,I c),(4,I d),(5,I e),(14,.os 1 0),(21,.os 2 0),(22,I<| .ofNat L.length),(23,I i),(24,B a8)],[(0,.arr 2 aa 0 a8 f),(1,.arr 3 aa 0 a8<|o::b),(2,.arr 2 aa 0 a8 L)],4⟩:=by kernel_rfl
noncomputable def YX  :=aI 0<|aL mN gE [4] (hlp mN gE) (cR<|cR<|cR<|cR Ro)<|aV prog 1 f215.results.toList ah
def Rq (c a d v:Int)(q:AV)(i l:Int)(b:Bool)(r s:Nat)(hp:LHp)(e:Nat):LSt:=⟨az 6 [(3,I c),(4,I a),(5,I d),(14,q),(16,I v),(21,.os r 0),(22,I l),(23,I i),(24,B bc),(25,.oe s 0 i.toNat),(26,I v),(27,I a),(28,I v),(29,B<|a<=v),(30,B bc),(31,I v),(32,I d),(33,B<|v<=d),(34,B b)],hp,e⟩
def Rr (c a b v:Int)(q:AV)(i l:Int)(r s:Nat)(hp:LHp)(d:Nat):LSt:=⟨az 6 [(3,I c),(4,I a),(5,I b),(14,q),(16,I v),(21,.os r 0),(22,I l),(23,I i),(24,B bc),(25,.oe s 0 i.toNat),(26,I v),(27,I a),(28,I v),(29,B<|a<=v),(30,B a8),(31,.tup []),(32,.tup []),(33,.tup []),(34,B a8)],hp,d⟩
theorem asQ c d e v i l b (f a L:af):YX (.panic 131 4) (Rq c d e v .nils i l b 1 1 (pF a++[(1,.arr 2 aa 0 a8 L)]) 7)=ar (.panic 131 4,[(0,.arr 2 aa 0 a8 a)]):=by kernel_rfl
theorem asR c b d v i l (e a L:af):YX (.panic 131 4) (Rr c b d v .nils i l 1 1 (pF a++[(1,.arr 2 aa 0 a8 L)]) 7)=ar (.panic 131 4,[(0,.arr 2 aa 0 a8 a)]):=by kernel_rfl
theorem asS c e f v i l b g d a L:YX (.panic 131 4) (Rq c e f v (.os 1 0) i l b 2 2 (Rp g d a L) 8)=ar (.panic 131 4,[(0,.arr 2 aa 0 a8 d)]):=by kernel_rfl
theorem asT c d e v i l f b a L:YX (.panic 131 4) (Rr c d e v (.os 1 0) i l 2 2 (Rp f b a L) 8)=ar (.panic 131 4,[(0,.arr 2 aa 0 a8 b)]):=by kernel_rfl
theorem asU c d e i l f b a L:YX (.exit 0) ⟨az 6 [(3,I c),(4,I d),(5,I e),(14,.os 1 0),(21,.os 2 0),(22,I l),(23,I i),(24,B a8)],Rp f b a L,4⟩=bif !.ofNat a.length==c then ar (.panic 131 4,[(0,.arr 2 aa 0 a8 b)])else ar (.ret [.os 1 0],[(0,.arr 2 aa 0 a8 b),(1,.arr 3 aa 0 a8 a)]):=by kernel_rfl
def lO (c d e:Int)(a b l:af):Option (aq×LHp):=bif cY d e l&&.ofNat a.length==c then ar (.ret [.os 1 0],pF b++[(1,.arr 3 aa 0 a8 a)])else ar (.panic 131 4,pF b)
theorem UW {c e f a d}(B:a.length<=2147483648):∀(r i n),i+r=a.length->1<=i->r<n->
  lp mN gE UU n (G6 c e f a d (a.take i) a i) YX=lO c e f a d (a.drop i):=by
 intro r
 induction r with
 |zero=>intro i n g v w;obtain⟨n,rfl⟩:∃m,n=m+1:=⟨n-1,by omega⟩;rw[hP<|by omega,ly<|by omega];cases h:a with|nil=>rw[h]at g;simp only[eO]at g;omega|cons o b=>rw[h]at g;rw[Lq,cq<|show¬(i:Int)<bd (o::b).length by simp only[aK];omega,al];refine(asU _ _ _ _ _ [] d _ _).trans ?_;unfold lO cY;simp only[List.all_nil,gb];cases bd (o::b).length==c<;>rfl
 |succ r y=>
  intro i n g v w;obtain⟨n,rfl⟩:∃m,n=m+1:=⟨n-1,by omega⟩;have p:i<a.length:=by omega
  have e0:i64.wrap ((i:Int)+1)=((i+1:Nat):Int):=by rw[aH (by omega)<|by omega];omega
  have u  :=dv p;have z:idx a (i:Int)=ar a[i]:=by unfold idx;rw[if_pos<|by omega,b9,u]
  have q  :=sW p;have A  :=(YW p).symm;have key:=y (i+1) n (by omega) (by omega)<|by omega
  cases s:a.take i with
  |nil=>have:=congrArg bk s;rw[fl,eO]at this;omega
  |cons o b=>
   have j:(o::b).length+[a[i]].length<=lim:=by rw[eS,show lim=4294967296 from rfl];rw[←s,fl];omega
   rw[Lq,aF<|show (i:Int)<bd a.length by simp only[aK];omega,ai,z,aw,b9,u,aw];cases k:a7 (e<=a[i])with
   |false=>
    have l:lO c e f a d (a.drop i)=ar (.panic 131 4,pF d):=by unfold lO cY;rw[q,py,k]<;>rfl
    rw[l,al];have x:=asT c e f a[i] (i:Int) (bd a.length) a d (o::b) a;unfold Rr at x;rw[k]at x;exact x
   |true=>
    rw[ai];cases t:a7 (a[i]<=f)with
    |false=>
     have l:lO c e f a d (a.drop i)=ar (.panic 131 4,pF d):=by unfold lO cY;rw[q,py,k,t]<;>rfl
     rw[l,hX,ai];have x:=asS c e f a[i] (i:Int) (bd a.length) a8 a d (o::b) a;unfold Rq at x;rw[k,t]at x;exact x
    |true=>
     have l:lO c e f a d (a.drop i)=lO c e f a d (a.drop<|i+1):=by unfold lO cY;rw[q,py,k,t]<;>rfl
     rw[l,cy,al,eX j,aw,e0,←s,←A];exact key
def G7 (c a b:Int)(d e L:af)(i:Int):LSt:=⟨az 6 [(3,I c),(4,I a),(5,I b),(14,.nils),(21,.os 0 0),(22,I<| .ofNat L.length),(23,I i)],[]++[(0,.arr 2 aa 0 a8 L)],1⟩
def Rs (b c a L:af):LHp:=[]++[(0,.arr 3 aa 0 a8 a),(1,.arr 2 aa 0 a8 L)]
def G8 (c b d:Int)(e f a L:af)(i:Int):LSt:=⟨az 6 [(3,I c),(4,I b),(5,I d),(14,.os 0 0),(21,.os 1 0),(22,I<| .ofNat L.length),(23,I i)],Rs e f a L,2⟩
theorem abB c b d e f L i n {R} (k:AEx->LSt->Option R):lp mN fh MZ (n+1) (G7 c b d e f L i) k=bif i<.ofNat L.length then (idx L i).bind λg=>(L[i.toNat]?).bind λa=>bif b<=a then bif ! a<=d then k (.panic 131 4) ⟨az 6 [(3,I c),(4,I b),(5,I d),(14,.nils),(16,I a),(21,.os 0 0),(22,I<| .ofNat L.length),(23,I i),(24,B bc),(25,.oe 0 0 i.toNat),(26,I a),(27,I b),(28,I a),(29,B<|b<=a),(30,B bc),(31,I a),(32,I d),(33,B<|a<=d),(34,B<|a<=d)],[(0,.arr 2 aa 0 a8 L)],1⟩else lp mN fh MZ n (G8 c b d [] [] [a] L<|i64.wrap<|i+1) k else k (.panic 131 4) ⟨az 6 [(3,I c),(4,I b),(5,I d),(14,.nils),(16,I a),(21,.os 0 0),(22,I<| .ofNat L.length),(23,I i),(24,B bc),(25,.oe 0 0 i.toNat),(26,I a),(27,I b),(28,I a),(29,B<|b<=a),(30,B a8),(31,.tup []),(32,.tup []),(33,.tup []),(34,B a8)],[(0,.arr 2 aa 0 a8 L)],1⟩else k (.exit 0) ⟨az 6 [(3,I c),(4,I b),(5,I d),(14,.nils),(21,.os 0 0),(22,I<| .ofNat L.length),(23,I i),(24,B a8)],[(0,.arr 2 aa 0 a8 L)],1⟩:=by kernel_rfl
theorem Lr c d e o (f g b L:af) i n {R} (k:AEx->LSt->Option R):lp mN fh MZ (n+1) (G8 c d e f g (o::b) L i) k=bif i<.ofNat L.length then (idx L i).bind λj=>(L[i.toNat]?).bind λa=>bif d<=a then bif ! a<=e then k (.panic 131 4) ⟨az 6 [(3,I c),(4,I d),(5,I e),(14,.os 0 0),(16,I a),(21,.os 1 0),(22,I<| .ofNat L.length),(23,I i),(24,B bc),(25,.oe 1 0 i.toNat),(26,I a),(27,I d),(28,I a),(29,B<|d<=a),(30,B bc),(31,I a),(32,I e),(33,B<|a<=e),(34,B<|a<=e)],[(0,.arr 3 aa 0 a8<|o::b),(1,.arr 2 aa 0 a8 L)],2⟩else (app (o::b) [a]).bind λh=>lp mN fh MZ n (G8 c d e [] [] h L<|i64.wrap<|i+1) k else k (.panic 131 4) ⟨az 6 [(3,I c),(4,I d),(5,I e),(14,.os 0 0),(16,I a),(21,.os 1 0),(22,I<| .ofNat L.length),(23,I i),(24,B bc),(25,.oe 1 0 i.toNat),(26,I a),(27,I d),(28,I a),(29,B<|d<=a),(30,B a8),(31,.tup []),(32,.tup []),(33,.tup []),(34,B a8)],[(0,.arr 3 aa 0 a8<|o::b),(1,.arr 2 aa 0 a8 L)],2⟩else k (.exit 0) ⟨az 6 [(3,I c),(4,I d),(5,I e),(14,.os 0 0),(21,.os 1 0),(22,I<| .ofNat L.length),(23,I i),(24,B a8)],[(0,.arr 3 aa 0 a8<|o::b),(1,.arr 2 aa 0 a8 L)],2⟩:=by kernel_rfl
noncomputable def Rt  :=aI 0<|aL mN fh [4] (hlp mN fh) (cR<|cR<|cR<|cR Lo)<|aV prog 0 f215.results.toList ah
def Ru (c a d v:Int)(q:AV)(i l:Int)(b:Bool)(r s:Nat)(hp:LHp)(e:Nat):LSt:=⟨az 6 [(3,I c),(4,I a),(5,I d),(14,q),(16,I v),(21,.os r 0),(22,I l),(23,I i),(24,B bc),(25,.oe s 0 i.toNat),(26,I v),(27,I a),(28,I v),(29,B<|a<=v),(30,B bc),(31,I v),(32,I d),(33,B<|v<=d),(34,B b)],hp,e⟩
def Rv (c a b v:Int)(q:AV)(i l:Int)(r s:Nat)(hp:LHp)(d:Nat):LSt:=⟨az 6 [(3,I c),(4,I a),(5,I b),(14,q),(16,I v),(21,.os r 0),(22,I l),(23,I i),(24,B bc),(25,.oe s 0 i.toNat),(26,I v),(27,I a),(28,I v),(29,B<|a<=v),(30,B a8),(31,.tup []),(32,.tup []),(33,.tup []),(34,B a8)],hp,d⟩
theorem asV c a d v i l b (e f L:af):Rt (.panic 131 4) (Ru c a d v .nils i l b 0 0 ([]++[(0,.arr 2 aa 0 a8 L)]) 7)=bF:=by kernel_rfl
theorem asW c a b v i l (d e L:af):Rt (.panic 131 4) (Rv c a b v .nils i l 0 0 ([]++[(0,.arr 2 aa 0 a8 L)]) 7)=bF:=by kernel_rfl
theorem asX c d e v i l b f g a L:Rt (.panic 131 4) (Ru c d e v (.os 0 0) i l b 1 1 (Rs f g a L) 8)=bF:=by kernel_rfl
theorem asY c b d v i l e f a L:Rt (.panic 131 4) (Rv c b d v (.os 0 0) i l 1 1 (Rs e f a L) 8)=bF:=by kernel_rfl
theorem asZ c b d i l e f a L:Rt (.exit 0) ⟨az 6 [(3,I c),(4,I b),(5,I d),(14,.os 0 0),(21,.os 1 0),(22,I l),(23,I i),(24,B a8)],Rs e f a L,2⟩=bif !.ofNat a.length==c then bF else ar (.ret [.os 0 0],[(0,.arr 3 aa 0 a8 a)]):=by kernel_rfl
def lP (c b d:Int)(a e l:af):Option (aq×LHp):=bif cY b d l&&.ofNat a.length==c then ar (.ret [.os 0 0],[]++[(0,.arr 3 aa 0 a8 a)])else ar (.panic 131 4,[])
theorem UX {c d e a f}(B:a.length<=2147483648):∀(r i n),i+r=a.length->1<=i->r<n->
  lp mN fh MZ n (G8 c d e a f (a.take i) a i) Rt=lP c d e a f (a.drop i):=by
 intro r
 induction r with
 |zero=>intro i n g v w;obtain⟨n,rfl⟩:∃m,n=m+1:=⟨n-1,by omega⟩;rw[hP<|by omega,ly<|by omega];cases h:a with|nil=>rw[h]at g;simp only[eO]at g;omega|cons o b=>rw[h]at g;rw[Lr,cq<|show¬i<bd (o::b).length by simp only[aK];omega,al];refine(asZ _ _ _ _ _ [] f _ _).trans ?_;unfold lP cY;simp only[List.all_nil,gb];cases bd (o::b).length==c<;>rfl
 |succ r y=>
  intro i n g v w;obtain⟨n,rfl⟩:∃m,n=m+1:=⟨n-1,by omega⟩;let p:i<a.length:=by omega
  let e0:i64.wrap (i+1)=(i+1:Nat):=by rw[aH (by omega)<|by omega];omega
  let u  :=dv p;let z:idx a i=ar a[i]:=by unfold idx;rw[if_pos<|by omega,b9,u]
  let q  :=sW p;let A  :=(YW p).symm;let key:=y (i+1) n (by omega) (by omega)<|by omega
  cases s:a.take i with
  |nil=>let:=congrArg bk s;rw[fl,eO]at this;omega
  |cons o b=>
   let j:(o::b).length+[a[i]].length<=lim:=by rw[eS,show lim=4294967296 from rfl];rw[←s,fl];omega
   rw[Lr,aF<|show i<bd a.length by simp only[aK];omega,ai,z,aw,b9,u,aw];cases k:a7 (d<=a[i])with
   |false=>
    let l:lP c d e a f (a.drop i)=ar (.panic 131 4,[]):=by unfold lP cY;rw[q,py,k]<;>rfl
    rw[l,al];let x:=asY c d e a[i] i (bd a.length) a f (o::b) a;unfold Rv at x;rw[k]at x;exact x
   |true=>
    rw[ai];cases t:a7 (a[i]<=e)with
    |false=>
     let l:lP c d e a f (a.drop i)=ar (.panic 131 4,[]):=by unfold lP cY;rw[q,py,k,t]<;>rfl
     rw[l,hX,ai];let x:=asX c d e a[i] i (bd a.length) a8 a f (o::b) a;unfold Ru at x;rw[k,t]at x;exact x
    |true=>
     let l:lP c d e a f (a.drop i)=lP c d e a f (a.drop<|i+1):=by unfold lP cY;rw[q,py,k,t]<;>rfl
     rw[l,cy,al,eX j,aw,e0,←s,←A];exact key
def Ls (c a b:Int)(q:AV)(hp:LHp)(d:Nat):LSt:=⟨az 6 [(3,I c),(4,I a),(5,I b),(14,.nils),(21,q),(22,I 0),(23,I 0)],hp,d⟩
def as0 (c a b:Int)(q:AV)(hp:LHp)(d:Nat):LSt:=⟨az 6 [(3,I c),(4,I a),(5,I b),(14,.nils),(21,q),(22,I 0),(23,I 0),(24,B a8)],hp,d⟩
theorem as1 c a b d n {R} (k:AEx->LSt->Option R):lp mN gE UU (n+1) (Ls c a b .emp (pF d) 2) k=k (.exit 0) ⟨az 6 [(3,I c),(4,I a),(5,I b),(14,.nils),(21,.emp),(22,I 0),(23,I 0),(24,B a8)],[(0,.arr 2 aa 0 a8 d)],2⟩:=by kernel_rfl
theorem as2 c a b n {R} (k:AEx->LSt->Option R):lp mN fh MZ (n+1) (Ls c a b .emp [] 0) k=k (.exit 0) ⟨az 6 [(3,I c),(4,I a),(5,I b),(14,.nils),(21,.emp),(22,I 0),(23,I 0),(24,B a8)],[],0⟩:=by kernel_rfl
theorem as3 c a b n {R} (k:AEx->LSt->Option R):lp mN fh MZ (n+1) (Ls c a b .nils [] 0) k=k (.exit 0) ⟨az 6 [(3,I c),(4,I a),(5,I b),(14,.nils),(21,.nils),(22,I 0),(23,I 0),(24,B a8)],[],0⟩:=by kernel_rfl
theorem as4 c b d a:YX (.exit 0) (as0 c b d .emp (pF a) 2)=bif !0==c then ar (.panic 131 4,[(0,.arr 2 aa 0 a8 a)])else ar (.ret [.nils],[(0,.arr 2 aa 0 a8 a)]):=by kernel_rfl
theorem as5 c a b:Rt (.exit 0) (as0 c a b .emp [] 0)=bif !0==c then bF else ak [.nils]:=by kernel_rfl
theorem as6 c a b:Rt (.exit 0) (as0 c a b .nils [] 0)=bif !0==c then bF else ak [.nils]:=by kernel_rfl
theorem akj {c b d p}{a e:af}(i:(p::a).length<=2147483648):lp mN gE UU fu (G5 c b d (p::a) e (p::a) 0) YX=lO c b d (p::a) e (p::a):=by
 let k:fu=18446744073709551616:=rfl;let ⟨n,j⟩:∃n,fu=n+1:=⟨_,rfl⟩;rw[j,abA,aF<|(by simp only[aK,bs];omega:0<bd (p::a).length),ai,show idx _ 0=ar p from rfl,aw,show (p::a)[(0:Int).toNat]?=ar p from rfl,aw];cases f:a7 (b<=p)with
 |false=>
  let g:lO c b d (p::a) e (p::a)=ar _:=by unfold lO cY;rw[py,f]<;>rfl
  rw[g,al];let x:=asR c b d p 0 (.ofNat (p::a).length) (p::a) e<|p::a
  unfold Rr at x;rw[f]at x;exact x
 |true=>
  rw[ai];cases h:a7 (p<=d)with
  |false=>
   let g:lO c b d (p::a) e (p::a)=ar _:=by unfold lO cY;rw[py,f,h]<;>rfl
   rw[g,hX,ai];let x:=asQ c b d p 0 (.ofNat (p::a).length) a8 (p::a) e<|p::a
   unfold Rq at x;rw[f,h]at x;exact x
  |true=>
   let g:lO c b d _ e (p::a)=lO c b d (p::a) e ((p::a).drop 1):=by unfold lO cY;rw[py,f,h]<;>rfl
   rw[g,cy,al];exact UW i a.length 1 n (by simp only[bs];omega) (ep _)<|by simp only[bs]at i;omega
theorem akk {c b d p}{a ot:af}(h:(p::a).length<=2147483648):lp mN fh MZ fu (G7 c b d (p::a) ot (p::a) 0) Rt=lP c b d (p::a) ot (p::a):=by
 let j:fu=18446744073709551616:=rfl;let ⟨n,i⟩:∃n,fu=n+1:=⟨_,rfl⟩;rw[i,abB,aF<|(by simp only[aK,bs];omega:0<bd (p::a).length),ai,show idx _ 0=ar p from rfl,aw,show (p::a)[(0:Int).toNat]?=ar p from rfl,aw];cases e:a7 (b<=p)with
 |false=>
  let f:lP c b d (p::a) ot (p::a)=ar _:=by unfold lP cY;rw[py,e]<;>rfl
  rw[f,al];let x:=asW c b d p 0 (.ofNat (p::a).length) (p::a) ot<|p::a
  unfold Rv at x;rw[e]at x;exact x
 |true=>
  rw[ai];cases g:a7 (p<=d)with
  |false=>
   let f:lP c b d (p::a) ot (p::a)=ar _:=by unfold lP cY;rw[py,e,g]<;>rfl
   rw[f,hX,ai];let x:=asV c b d p 0 (.ofNat (p::a).length) a8 (p::a) ot<|p::a
   unfold Ru at x;rw[e,g]at x;exact x
  |true=>
   let f:lP c b d _ ot (p::a)=lP c b d (p::a) ot ((p::a).drop 1):=by unfold lP cY;rw[py,e,g]<;>rfl
   rw[f,cy,al];exact UX h a.length 1 n (by simp only[bs];omega) (ep _)<|by simp only[bs]at h;omega
theorem as7 c a b d e L:hlp mN gE UU _ (G5 c a b d e L 0) YX=lp mN gE UU fu (G5 c a b d e L 0) YX:=rfl
theorem as8 c a b d e L:hlp mN fh MZ _ (G7 c a b d e L 0) Rt=lp mN fh MZ fu (G7 c a b d e L 0) Rt:=rfl
theorem akl c a b d:hlp mN gE UU _ (Ls c a b .emp (pF d) 2) YX=lp mN gE UU fu (Ls c a b .emp (pF d) 2) YX:=rfl
theorem Rw c a b q:hlp mN fh MZ _ (Ls c a b q [] 0) Rt=lp mN fh MZ fu (Ls c a b q [] 0) Rt:=rfl
def cA c a b l  :=cY a b l&&bd l.length==c
theorem Rx {c a b p}{d:af}(h:cA c a b (p::d)=bc):(c==0)=a8:=by unfold cA at h;rw[aX]at h;let:=eq_of_beq h.2;rw[←this,beq_eq_false_iff_ne];simp only[aK,bs];omega
def as9 :List AV->LHp->Tq
 |[.d Y2 (_,_,_,_,e,_),.d .str a,.os 0 0,.d zI c,.d zI f,.d zI g],[(0,.arr 2 zI 0 a8 b)]=>.br (!b.isEmpty) (.br (a7 (e.length<=maxLen/\(aj e a b).length<=2147483648)) (.br (cA c f g (aj e a b)) (.br (c==0) (.leaf (.ret [.nils]) (pF b)) (.leaf (.ret [.os 1 0]) (pF b++[(1,.arr 3 aa 0 a8 (aj e a b))]))) (.leaf (.panic 131 4) (pF b))) .no) .no
 |_,_=>.no
def ata :List AV->LHp->Tq
 |[.d Y2 (_,_,_,_,b,_),.d .str a,.nils,.d zI c,.d zI e,.d zI f],[]=>.br (a7 (b.length<=maxLen/\(aj b a []).length<=2147483648)) (.br (cA c e f (aj b a [])) (.br (c==0) (.leaf (.ret [.nils]) []) (.leaf (.ret [.os 0 0]) [(0,.arr 3 aa 0 a8 (aj b a []))])) (.leaf (.panic 131 4) [])) .no
 |_,_=>.no
theorem akm :bq 215 (ay as9):=by
 let t:=bM (d:=6) (l:=[(4,[3,4,5,14,21,22,23])]) Lp func215 call215;let ⟨C,u⟩:∃n,fu=n+1:=⟨18446744073709551615,rfl⟩;refine aY λr D E F h=>?_
 unfold as9 at h;split at h
 ·rename_i v w i j k _ a c b e f
  let ⟨x,y⟩:=eN h;let ⟨z,m⟩:=eN y;let ⟨A,q⟩:=bt z;cases f with
  |nil=>exact absurd x<|by decide
  |cons o f=>
   refine t.okC ?_;refine gp (asO v w i j k a c b e o f) ?_;rw[aF<|show k.length<=9223372036854775807 from A,ai];generalize aj k a (o::f)=l at q m⊢;cases l with
   |nil=>rw[show (decide<|([]:af)=[])=bc from rfl,ai];refine gp ((akl c b e<|o::f).trans ?_) m;rw[u,as1];refine(as4 c b e<|o::f).trans ?_;cases s:0==c with|true=>obtain rfl:=eq_of_beq s;rfl|false=>unfold cA cY;show _=Tq.run (Tq.br (0==c) _ _) _;rw[Tq.run,s]<;>rfl
   |cons p g=>
    rw[show (decide<|p::g=[])=a8 from rfl,al,aF q,ai];refine gp ((as7 c b e (p::g) (o::f)<|p::g).trans<|(akj q).trans ?_) m;show (bif cA c b e (p::g)then _ else _)=bif cA c b e (p::g)then (bif c==0 then _ else _)else _
    cases B:cA c b e (p::g)with|false=>rfl|true=>rw[Rx B]<;>rfl
 ·cases h
theorem akn :bq 215 (ay ata):=by
 have y:=bM (d:=6) (l:=[(4,[3,4,5,14,21,22,23])]) Lp func215 call215;obtain⟨F,u⟩:∃n,fu=n+1:=⟨18446744073709551615,rfl⟩;refine aY λv G H I k=>?_
 unfold ata at k;split at k
 ·rename_i z A m o g _ b c e f
  obtain⟨B,i⟩:=eN k;obtain⟨C,r⟩:=bt B;refine y.okC ?_
  have e0:∀q,q=.nils\/q=.emp->lp mN fh MZ fu (Ls c e f q [] 0) Rt=bif cA c e f []then (ak [b5])else ar (.panic 131 4,[]):=λq j=>by
   have e2:(bif ! 0==c then bF else ak [b5])=bif cA c e f []then (ak [b5])else ar (.panic 131 4,[]):=by
    unfold cA cY;show _=bif 0==c then _ else _
    cases 0==c<;>rfl
   rcases j with rfl|rfl
   ·rw[u,as3];exact(as6 c e f).trans e2
   ·rw[u,as2];exact(as5 c e f).trans e2
  have e9:∀x:Option<|aq×LHp,(bif cA c e f []then ak [b5]else ar (.panic 131 4,[]))=bif cA c e f []then (bif c==0 then ar (.ret [.nils],[])else x)else ar (.panic 131 4,[]):=λx=>by cases s:cA c e f []with|false=>rfl|true=>have D  :=s;obtain rfl:=eq_of_beq D;rfl
  refine gp (asP z A m o g b c e f) ?_;rw[aF<|show g.length<=9223372036854775807 from C,ai];have w:aj g b []=match g.find? (ie b 7)with|some a=>a.2.2.2.2.2.2.1|none=>[]:=rfl
  change (bif (g.find?<|ie b 7).isNone then _ else _)=_;cases j:(g.find?<|ie b 7).isNone with
  |true=>
   have E:aj g b []=[]:=by rw[w];cases t:g.find? (ie b 7)with|none=>rfl|some a=>rw[t]at j;cases j
   rw[E]at i;rw[ai];exact gp ((Rw c e f .nils).trans<|e0 .nils<| .inl rfl)<|gp (e9 _) i
  |false=>
   rw[al];clear w j;generalize aj g b []=l at r i⊢;cases l with
   |nil=>rw[show (decide<|([]:af)=[])=bc from rfl,ai];exact gp ((Rw c e f .emp).trans<|e0 .emp<| .inr rfl)<|gp (e9 _) i
   |cons p h=>
    rw[show (decide<|p::h=[])=a8 from rfl,al,aF r,ai];refine gp ((as8 c e f (p::h) []<|p::h).trans<|(akk (ot:=[]) r).trans ?_) i;show (bif cA c e f (p::h)then _ else _)=bif cA c e f (p::h)then (bif c==0 then _ else _)else _
    cases s:cA c e f (p::h)with|false=>rfl|true=>rw[Rx s]<;>rfl
 ·cases k
def nuF a b  :=orT (ata a b)<|as9 a b
theorem abC :bq 215 (ay nuF):=lK akn akm
theorem atb (a:Int)(d:af):aB DD f107 4 [] [.d (.slice aa)<|a::d] [] ah=(app []<|a::d).bind λb=>ar (.ret [.os 0 0],[(0,.arr 3 aa 0 a8 b)]):=by kernel_rfl
def atc :List AV->LHp->Tq
 |[.d zS a],[]=>.br (a.isEmpty) (.leaf (.ret [.emp]) []) (.br (a7 (a.length<=2147483648)) (.leaf (.ret [.os 0 0]) [(0,.arr 3 aa 0 a8 a)]) .no)
 |_,_=>.no
theorem ako :bq 107 (ay atc):=by
 let e:=bM (d:=4) (l:=[]) jx func107 call107;let f  :=GR;refine aY λc k m n b=>?_
 unfold atc at b;split at b
 ·rename_i g;cases g with|nil=>cases b;exact f.2 _ _ _ _ rfl|cons a d=>let h  :=b;let ⟨i,j⟩:=eN h;exact e.okC<|(atb a d).trans<|gp (by rw[akh<|bt i]<;>rfl) j
 ·cases b
def apP  :=aU f76
def Lt  :=cL (cL (cR (cL (cR (cR (cR (cR (cR apP))))))))
def gF :Cfg:=⟨94,7,0,[(2,[0,1,18,19,20]),(13,[1,10,11,48,49])],bc⟩
def Cd  :=g67.add 107<|ay atc
theorem abD :Cd.Good:=vt.add ako
def Ce (b o:af)(a i:Int):LSt:=⟨az 7 [(1,.d (.slice aa) b),(10,.os 0 0),(11,I a),(48,I<| .ofNat b.length),(49,I i)],[(0,.arr 3 aa 0 a8 o)],1⟩
def Ry  :=aI 2<|aL Cd gF [13] (hlp Cd gF) (cR<|cR<|cR<|cR<|cR<|cR apP)<|aV prog 0 f76.results.toList ah
theorem atd (a b:af):aB Cd f76 7 [(2,[0,1,18,19,20]),(13,[1,10,11,48,49])] [.d (.slice aa) a,.d (.slice aa) b] [] ah=bif a.length<=9223372036854775807 then bif aC a !=0 then ak [.nils,I<|aC a]else bif b.length<=9223372036854775807 then bif aC b !=0 then ak [.nils,I<|aC b]else bif .ofNat a.length<bd b.length then bif b.isEmpty then (hlp Cd gF) Lt _ ⟨az 7 [(1,.d (aa).slice a),(10,.emp),(11,I<|i64.wrap<| .ofNat b.length-.ofNat a.length),(48,I<| .ofNat a.length),(49,I 0)],[],0⟩ Ry else bif b.length<=2147483648 then (hlp Cd gF) Lt _ (Ce a b (i64.wrap<| .ofNat b.length-.ofNat a.length) 0) Ry else a6 else bif a.isEmpty then (hlp Cd gF) Lt _ ⟨az 7 [(1,.d (aa).slice b),(10,.emp),(11,I<|i64.wrap<| .ofNat a.length-.ofNat b.length),(48,I<| .ofNat b.length),(49,I 0)],[],0⟩ Ry else bif a.length<=2147483648 then (hlp Cd gF) Lt _ (Ce b a (i64.wrap<| .ofNat a.length-.ofNat b.length) 0) Ry else a6 else a6 else a6:=(aW [13] gF rfl).trans<|by obtain⟨c,h⟩:=aM Cd gF;rw[h];kernel_rfl
def akp (a:Int):LSt:=⟨az 7 [(1,.d (.slice aa) []),(10,.emp),(11,I a),(48,I 0),(49,I 0)],[],0⟩
theorem abE b o a i n {R} (k:AEx->LSt->Option R):lp Cd gF Lt (n+1) (Ce b o a i) k=bif a7 (i<bd b.length)then (idx o<|i64.wrap<|a+i).bind λg=>(o[(i64.wrap<|a+i).toNat]?).bind λe=>bif e==1 then (idx b i).bind λv4=>(fR o (i64.wrap<|a+i).toNat v4).bind λf=>lp Cd gF Lt n (Ce b f a<|i64.wrap<|i+1) k else (idx b i).bind λv4=>bif v4 !=1 then (idx b i).bind λv6=>(o[(i64.wrap<|a+i).toNat]?).bind λc=>bif v6 !=c then k .ret {fr:=az 7 [(1,.d (aa).slice b),(4,.nils),(5,I 4),(10,.os 0 0),(11,I a),(12,I i),(13,.oe 0 0 (i64.wrap<|a+i).toNat),(48,I<| .ofNat b.length),(49,I i),(50,B bc),(51,I i),(52,.os 0 0),(53,I a),(54,I i),(55,I<|i64.wrap<|a+i),(56,.oe 0 0 (i64.wrap<|a+i).toNat),(57,B a8),(58,.oe 0 0 (i64.wrap<|a+i).toNat),(59,AV.oe 0 0 (i64.wrap<|a+i).toNat),(60,I e),(61,B<|e==1),(68,B bc),(69,eb (aa).slice b),(70,I i),(71,.ip (aa) v4),(72,I v4),(73,B<|v4 !=1),(74,B bc),(75,.d (aa).slice b),(76,I i),(77,.ip (aa) v6),(78,I v6),(79,AV.oe 0 0 (i64.wrap<|a+i).toNat),(80,.oe 0 0 (i64.wrap<|a+i).toNat),(81,I c),(82,B<|v6 !=c),(83,B<|v6 !=c)],hp:=[(0,.arr 3 (aa) 0 a8 o)],nx:=1}else lp Cd gF Lt n (Ce b o a<|i64.wrap<|i+1) k else lp Cd gF Lt n (Ce b o a<|i64.wrap<|i+1) k else k (.exit 2) ⟨az 7 [(1,.d (aa).slice b),(10,.os 0 0),(11,I a),(48,I<| .ofNat b.length),(49,I i),(50,B a8)],[(0,.arr 3 (aa) 0 a8 o)],1⟩:=by kernel_rfl
theorem ate a n {R} (k:AEx->LSt->Option R):lp Cd gF Lt (n+1) (akp a) k=k (.exit 2) ⟨az 7 [(1,.d (aa).slice []),(10,.emp),(11,I a),(48,I 0),(49,I 0),(50,B a8)],[],0⟩:=by kernel_rfl
theorem aEj (b o:af) a i:Ry (.exit 2) ⟨az 7 [(1,.d (.slice aa) b),(10,.os 0 0),(11,I a),(48,I<| .ofNat b.length),(49,I i),(50,B a8)],[(0,.arr 3 aa 0 a8 o)],1⟩=bif o.length<=9223372036854775807 then bif aC o !=0 then ak [.nils,I<|aC o]else ar (.ret [.os 0 0,I 0],[(0,.arr 3 aa 0 a8 o)])else a6:=by kernel_rfl
theorem atf a:Ry (.exit 2) ⟨az 7 [(1,.d (.slice aa) []),(10,.emp),(11,I a),(48,I 0),(49,I 0),(50,B a8)],[],0⟩=ak [.emp,I 0]:=by kernel_rfl
theorem akt (s:ao) N i (l:List ao):KSg (.exit 0) ⟨az 7 [(0,.d .str s),(1,.d .str [44]),(2,I 0),(3,I N),(9,.os 0 0),(10,I i),(34,I i),(35,I N),(36,B a8)],[(0,.arr 9 .str 0 a8 l)],1⟩=(idx l i).bind λc=>(fR l i.toNat s).bind λa=>(if (0:Int)<=0/\0<=i64.wrap (i+1)/\i64.wrap (i+1)<=.ofNat a.length then ar (fb 0<|gy (i64.wrap<|i+1).toNat a)else a6).bind λb=>ak [.d fa.slice b]:=by kernel_rfl
def cJ :ao->List (ao)
 |[]=>[[]]
 |x::r=>bif x==44 then []::cJ r else (match cJ r with|h::t=>(x::h)::t|[]=>[[x]])
theorem uc :∀s,(cJ s).length=s.count 44+1
 |[]=>rfl
 |x::r=>by
  let h:=uc r;unfold cJ;cases b:x==44 with|true=>obtain rfl:=eq_of_beq b;rw[ai,bs,h,List.count_cons_self]|false=>rw[al,ahk<|by intro e;rw[e]at b;exact absurd b<|by decide];cases c:cJ r with|nil=>rw[c]at h;simp at h|cons a t=>rw[c]at h;simpa using h
theorem ud :∀{s},fL s<0->s.count 44=0/\cJ s=[s]
 |[],_=>⟨rfl,rfl⟩
 |x::r,h=>by
  unfold fL js at h;cases a:x==44 with
  |true=>rw[a]at h;exact absurd (show (0:Int)<0 from h)<|by decide
  |false=>
   rw[a]at h;let c:fL r<0:=by unfold fL;cases b:js r 44== -1 with|true=>rw[eq_of_beq b];decide|false=>rw[b]at h;let h:js r 44+1<0:=h;omega
   let ⟨d,f⟩:=ud c;refine⟨?_,?_⟩
   ·rw[ahk<|by intro e;rw[e]at a;exact absurd a<|by decide];exact d
   ·unfold cJ;rw[a,al,f]
theorem ue :∀{s},¬fL s<0->∃m:Nat,fL s=m/\m<s.length/\s.count 44=(s.drop (m+1)).count 44+1/\cJ s=s.take m::cJ (s.drop (m+1))
 |[],h=>absurd (by decide:(-1)<0) h
 |x::r,h=>by
  cases a:x==44 with
  |true=>
   refine⟨0,?_,by simp,?_,?_⟩
   ·unfold fL js;rw[a]<;>rfl
   ·obtain rfl:=eq_of_beq a;rw[List.count_cons_self]<;>rfl
   ·rw[cJ.eq_2,a,ai]<;>rfl
  |false=>
   let e:fL (x::r)=bif fL r== -1 then-1 else fL r+1:=by show (if (x==44)=bc then 0 else if (js r 44== -1)=bc then-1 else js r 44+1)=_;rw[a];unfold fL;cases js r 44== -1<;>rfl
   let c:¬fL r<0:=by
    intro d;apply h;rw[e];cases f:fL r== -1 with
    |true=>show-1<0;decide
    |false=>
     let:=Lib.indexByte_ge r 44;let b  :=by simpa using f
     unfold fL at b d;omega
   let ⟨m,g,b,i,j⟩:=ue c;refine⟨m+1,?_,by simpa using b,?_,?_⟩
   ·rw[e,g]
    let:(((m:Nat):Int)== -1)=a8:=by rw[beq_eq_false_iff_ne];omega
    rw[this]<;>rfl
   ·rw[ahk<|by intro e;rw[e]at a;exact absurd a<|by decide];exact i
   ·rw[cJ.eq_2,a,al,j]<;>rfl
theorem Aa {a} dn x y (t:List a):fR (dn++x::t) dn.length y=ar (dn++y::t):=by unfold fR;rw[show h8 _ (dn++x::t).length=bc from sc<|by rw[bK,bs];omega,ai,List.set_append_right _ _<|ep _,M7]<;>rfl
theorem sF {a} dn x (t:List a):idx (dn++x::t) (dn.length:Nat)=ar x:=by unfold idx;rw[if_pos<|by omega,b9,uN<|ep _,M7]<;>rfl
theorem atg {x:ao}{m}(h:m<=x.length):(if (0:Int)<=0/\0<=((m:Nat):Int)/\(m:Nat)<=bd x.length then ar (fb 0<|gy ((m:Nat):Int).toNat x)else a6)=ar (x.take m):=by rw[if_pos ⟨by omega,by omega,by simp only[aK];omega⟩,b9]<;>rfl
theorem ath {x:ao}{n}(h:n<=x.length):(if 0<=((n:Nat):Int)/\n<=bd x.length/\.ofNat x.length<=bd x.length then ar (fb ((n:Nat):Int).toNat<|gy (bd x.length).toNat x)else a6)=ar (x.drop n):=by rw[if_pos ⟨by omega,by simp only[aK];omega,Int.le_refl _⟩,b9];show ar (fb n<|gy x.length x)=_;rw[List.take_length]
theorem aku :∀(c) (s) (a:List<|ao) (b),s.count 44=c->s.length<=2147483648->a.length+c<=2147483648->c<b->
  lp YY oa abF b (abM s (a.length+c:Nat) (a.length:Nat)<|a++eo (c+1) []) KSg=ar (.ret [.d (.slice .str)<|a++cJ s],[]):=by
 intro c
 induction c with
 |zero=>
  intro s a b i j k l;obtain⟨b,rfl⟩:∃f,b=f+1:=⟨b-1,by omega⟩
  have e:fL s<0:=by
   rcases Classical.em (fL s<0)with h|h
   ·exact h
   ·obtain⟨m,_,_,n,_⟩:=ue h;omega
  have g:i64.wrap (((a.length:Nat):Int)+1)=((a.length+1:Nat):Int):=by rw[aH (by omega)<|by omega];omega
  rw[Rz,cq<|show¬((a.length:Nat):Int)<((a.length+0:Nat):Int) by omega,al];refine gp (akt s _ _ _) ?_;rw[show eo (0+1) ([]:ao)=[[]]from rfl,sF,aw,b9,Aa,aw,g,if_pos ⟨by omega,by omega,by rw[bK];simp only[aK,bs,eO];omega⟩,aw,b9,(ud e).2,hP<|by rw[bK,bs,eO];omega]<;>rfl
 |succ c o=>
  intro s a b i j k l;obtain⟨b,rfl⟩:∃f,b=f+1:=⟨b-1,by omega⟩;have e:¬fL s<0:=λh=>by rw[(ud h).1]at i;omega
  obtain⟨m,p,u,n,q⟩:=ue e;have key:=o (s.drop<|m+1) (a++[s.take m]) b (by omega) (by rw[km];omega) (by rw[bK,bs,eO];omega)<|by omega
  have g:i64.wrap (((a.length:Nat):Int)+1)=(((a++[s.take m]).length:Nat):Int):=by rw[bK,bs,eO,aH (by omega)<|by omega];omega
  have r:i64.wrap (((m:Nat):Int)+0)=((m:Nat):Int):=by rw[Int.add_zero];exact aH (by omega)<|by omega
  have t:i64.wrap (((m:Nat):Int)+1)=((m+1:Nat):Int):=by rw[aH (by omega)<|by omega];omega
  have e1:a++[s.take m]++cJ (s.drop<|m+1)=a++cJ s:=by rw[q,gl]<;>rfl
  have e2:a++[s.take m]++eo (c+1) ([]:ao)=a++s.take m::eo (c+1) []:=by rw[gl]<;>rfl
  have e3:(a++[s.take m]).length+c=a.length+(c+1):=by rw[bK,bs,eO];omega
  rw[e1,e2,e3]at key;rw[Rz,aF<|show ((a.length:Nat):Int)<((a.length+(c+1):Nat):Int) by omega,ai,cq e,al,p,r,atg<|by omega,aw,List.replicate_succ,sF,aw,b9,Aa,aw,t,ath<|by omega,aw,g];exact key
theorem Lu (s:ao):s.count 44<=s.length:=List.count_le_length
theorem abO {s:ao}(f:s.length<=2147483647):aB YY f244 7 [(11,[0,1,2,3,9,10])] [.d .str s,.d .str [44],I 0,I<| -1] [] ah=ar (.ret [.d (.slice .str)<|cJ s],[]):=by
 let g:=Lu s;let a:i64.wrap (.ofNat s.length+1)=(s.length+1:Nat):=by simp only[aK];rw[aH (by omega)<|by omega];omega
 let b:i64.wrap (.ofNat (s.count 44)+1)=(s.count 44+1:Nat):=by simp only[aK];rw[aH (by omega)<|by omega];omega
 let c:tB s=(s.count 44+1:Nat):=by unfold tB;rw[a,b,if_neg<|by omega]
 let e:i64.wrap ((s.count 44+1:Nat)-1)=s.count 44:=by rw[aH (by omega)<|by omega];omega
 let key:=aku _ s [] fu rfl (by omega) (by simp only[eO];omega)<|by unfold fu;omega
 rw[aks,c,if_pos ⟨by omega,by omega⟩,aw,b9,e];rw[eO,hM]at key;exact key
def bcR :List Int->List Int->Option (af)
 |d::r,e::s=>bif d==1 then (bcR r s).map (e:: ·)else bif e !=1&&e !=d then a6 else (bcR r s).map (d:: ·)
 |r,_=>ar r
def E0 (o:Option (af)):Option (aq×LHp):=match o with|some l=>bif aC l !=0 then ar (.ret [.nils,I (aC l)],[])else ar (.ret [.os 0 0,I 0],[(0,.arr 3 aa 0 a8 l)])|none=>ar (.ret [.nils,I 4],[])
theorem ati {a L}(y:L<=2147483648):∀(g f b c:af) (h),c.length=g.length->a+((f.length:Nat):Int)=((b.length:Nat):Int)->b.length+c.length=L->f.length<=b.length->g.length<h->
  lp Cd gF Lt h (Ce (f++g) (b++c) a ((f.length:Nat):Int)) Ry=E0 ((bcR c g).map (b++ ·)):=by
 intro g
 induction g with
 |nil=>intro f b c h i n j p o;obtain⟨h,rfl⟩:∃m,h=m+1:=⟨h-1,by omega⟩;have q  :=aft.1 i;subst q;rw[abE,cq (show¬((f.length:Nat))<bd (f++([]:af)).length by rw[eT];simp only[aK];omega),al];refine(aEj _ _ _ _).trans ?_;rw[eT,aF (show b.length<=9223372036854775807 by simp only[eO]at j;omega),ai];show _=E0 (ar (b++[]));rw[eT]<;>rfl
 |cons e s t=>
  intro f b c h i n j p o;obtain⟨h,rfl⟩:∃m,h=m+1:=⟨h-1,by omega⟩;cases c with
  |nil=>simp at i
  |cons d r=>
   simp only[bs]at i j o;have u:i64.wrap (a+(f.length:Nat))=(b.length:Nat):=by rw[n];exact aH (by omega) (by omega)
   have w:i64.wrap ((f.length:Nat)+1)=((f++[e]).length:Nat):=by rw[bK,bs,eO,aH (by omega) (by omega)];omega
   have g1:=sF b d r;have g2:(b++d::r)[b.length]?=ar d:=by rw[uN (ep _),M7]<;>rfl
   have g3:=sF f e s;have key:∀v:Int,lp Cd gF Lt h (Ce (f++e::s) (b++v::r) a ((f++[e]).length:Nat)) Ry=E0 ((bcR r s).map (b++v:: ·)):=λv=>by have k:=t (f++[e]) (b++[v]) r h (by omega) (by rw[bK,bK,bs,eO,bs,eO];omega) (by rw[bK,bs,eO];omega) (by rw[bK,bK,bs,eO,bs,eO];omega) (by omega);rw[gl,gl]at k;refine gp k ?_;congr 2;funext l;rw[gl]<;>rfl
   rw[abE,aF (show (f.length:Nat)<bd (f++e::s).length by rw[bK,bs];simp only[aK];omega),ai,u,g1,aw,b9,g2,aw,g3,aw,aw,Aa,aw,w];have x:bcR (d::r) (e::s)=bif d==1 then (bcR r s).map (e:: ·)else bif e !=1&&e !=d then a6 else (bcR r s).map (d:: ·):=rfl
   rw[x];cases d==1 with
   |true=>rw[ai,ai,Option.map_map];exact key e
   |false=>
    rw[al,al];cases e !=1 with
    |true=>rw[ai,aw,aw,gb];cases e !=d with|true=>show _=_;kernel_rfl|false=>rw[al,al,Option.map_map];exact key d
    |false=>rw[al,so,al,Option.map_map];exact key d
def bcA (A B:af):Option (af):=(bcR (A.drop (A.length-B.length)) B).map (A.take (A.length-B.length)++ ·)
def UY a b  :=bif .ofNat a.length<bd b.length then bcA b a else bcA a b
def E2 (a b:af)  :=bif .ofNat a.length<bd b.length then b.isEmpty else a.isEmpty
def bcN a b  :=(UY a b).isNone
def M0 a b  :=(UY a b).getD []
theorem apQ b o a:hlp Cd gF Lt _ (Ce b o a 0) Ry=lp Cd gF Lt fu (Ce b o a 0) Ry:=rfl
theorem atk a:hlp Cd gF Lt _ (akp a) Ry=lp Cd gF Lt fu (akp a) Ry:=rfl
theorem RA {A B}(h:B.length<=A.length)(b:A.length<=2147483648):lp Cd gF Lt fu (Ce B A (i64.wrap<| .ofNat A.length-.ofNat B.length) 0) Ry=E0 (bcA A B):=by
 let w:i64.wrap (.ofNat A.length-.ofNat B.length)=(A.length-B.length:Nat):=by simp only[aK];rw[aH (by omega)<|by omega];omega
 let k:=ati (a:=(A.length-B.length:Nat)) b B [] (A.take<|A.length-B.length) (A.drop<|A.length-B.length) fu (by rw[km];omega) (by rw[fl,eO];omega) (by rw[fl,km];omega) (by simp)<|by unfold fu;omega
 rw[List.take_append_drop,pb]at k;rw[w];exact k
theorem atl a:lp Cd gF Lt fu (akp a) Ry=ar (.ret [.emp,I 0],[]):=by let ⟨c,b⟩:∃n,fu=n+1:=⟨_,rfl⟩;rw[b,ate];exact atf a
def abP (a b:af):Tq:=
 .br (a.length<=2147483648/\b.length<=2147483648) (.br (aC a !=0) (.leaf (.ret [.nils,I<|aC a]) [])<| .br (aC b !=0) (.leaf (.ret [.nils,I<|aC b]) [])<| .br (E2 a b) (.leaf (.ret [.emp,I 0]) [])<| .br (bcN a b) (.leaf (.ret [.nils,I 4]) [])<| .br (aC (M0 a b) !=0) (.leaf (.ret [.nils,I<|aC<|M0 a b]) [])<| .leaf (.ret [.os 0 0,I 0]) [(0,.arr 3 aa 0 a8<|M0 a b)]) .no
theorem abQ o:E0 o=bif o.isNone then ar (.ret [.nils,I 4],[])else bif aC (o.getD []) !=0 then ar (.ret [.nils,I<|aC<|o.getD []],[])else ar (.ret [.os 0 0,I 0],[(0,.arr 3 aa 0 a8<|o.getD [])]):=by cases o<;>rfl
theorem akv {a b:af}(g:a.length<=2147483648)(h:b.length<=2147483648):aB Cd f76 7 [(2,[0,1,18,19,20]),(13,[1,10,11,48,49])] [.d (.slice aa) a,.d (.slice aa) b] [] ah=(abP a b).run ah:=by
 let k:(abP a b).run ah=bif aC a !=0 then ar _ else bif aC b !=0 then ar _ else bif E2 a b then ar _ else E0 _:=by rw[abQ];unfold abP;simp only[Tq.run,aF (⟨g,h⟩:a.length<=2147483648/\b.length<=2147483648),ai];rfl
 rw[k,atd,aF<|by omega,aF<|by omega,ai];cases aC a !=0 with
 |true=>rfl
 |false=>
  rw[al,al,ai];cases aC b !=0 with
  |true=>rfl
  |false=>
   rw[al,al];unfold E2 UY;cases j:a7 (.ofNat _<bd _)with
   |true=>
    let f:a.length<b.length:=by let:=bt j;simp only[aK]at this;omega
    rw[ai,ai,ai];cases c:b with|nil=>rw[c]at f;simp at f|cons d r=>rw[←c,(by rw[c];rfl:b.isEmpty=a8),al,al,aF h,ai];exact(apQ a b _).trans<|RA (by omega) h
   |false=>
    let f:b.length<=a.length:=by let:=uQ j;simp only[aK]at this;omega
    rw[al,al,al];cases e:a with
    |nil=>
     rw[e]at f;have i  :=aft.1<|by simpa using f
     subst i;rw[show ([]:af).isEmpty=bc from rfl,ai,ai];exact(atk _).trans<|atl _
    |cons d r=>rw[←e,(by rw[e];rfl:a.isEmpty=a8),al,al,aF g,ai];exact(apQ b a _).trans<|RA f g
def atm :List AV->LHp->Tq
 |[.d zS a,.d zS b],[]=>abP a b
 |_,_=>.no
theorem akw :bq 76 (ay atm):=by
 let c:=bM (d:=7) (l:=[(2,[0,1,18,19,20]),(13,[1,10,11,48,49])]) abD func76 call76;refine aY λb i j k a=>?_
 unfold atm at a;split at a
 ·let e:=a;let ⟨f,_⟩:=eN e;let ⟨g,h⟩:=bt f;exact c.okC<|(akv g h).trans a
 ·cases a
noncomputable def gSr  :=g67.add 76<|ay atm
theorem abR :gSr.Good:=vt.add akw
theorem atn (a b:af):aB gSr f148 5 [] [.d (.slice aa) a,.d (.slice aa) b] [] ah=bif a.length<=2147483648/\b.length<=2147483648 then bif aC a !=0 then bif aC a !=0 then ar (.panic 131<|aC a,[])else ak [.nils]else bif aC b !=0 then bif aC b !=0 then ar (.panic 131<|aC b,[])else ak [.nils]else bif E2 a b then ak [.emp]else bif bcN a b then bF else bif aC (M0 a b) !=0 then bif aC (M0 a b) !=0 then ar (.panic 131<|aC<|M0 a b,[])else ak [.nils]else ar (.ret [.os 0 0],[(0,.arr 3 aa 0 a8<|M0 a b)])else a6:=by kernel_rfl
def dY a b  :=bif aC a !=0 then aC a else bif aC b !=0 then aC b else bif E2 a b then 0 else bif bcN a b then 4 else aC<|M0 a b
def Oj (a b:af):Tq:=.br (a.length<=2147483648/\b.length<=2147483648) (.br (dY a b==0) (.br (E2 a b) (.leaf (.ret [.emp]) [])<| .leaf (.ret [.os 0 0]) [(0,.arr 3 aa 0 a8<|M0 a b)])<| .leaf (.panic 131<|dY a b) []) .no
theorem akx (a b:af):aB gSr f148 5 [] [.d (.slice aa) a,.d (.slice aa) b] [] ah=(Oj a b).run ah:=by
 rw[atn];unfold Oj;simp only[Tq.run];cases a7 (a.length<=2147483648/\b.length<=2147483648)with
 |false=>rfl
 |true=>
  unfold dY;cases e:aC a !=0 with
  |true=>
   let:(aC a==0)=a8:=by simpa using e
   simp only[ai,this,al]
  |false=>
   cases f:aC b !=0 with
   |true=>
    let:(aC b==0)=a8:=by simpa using f
    simp only[ai,this,al]
   |false=>
    cases E2 a b with
    |true=>rfl
    |false=>
     cases bcN a b with
     |true=>rfl
     |false=>
      cases c:aC _ !=0 with
      |true=>
       let:(aC _==0)=a8:=by simpa using c
       simp only[ai,this,al]
      |false=>
       let  :=by simpa using c
       simp only[ai,al,this];rfl
def aky :List AV->LHp->Tq
 |[.d zS a,.d zS b],[]=>Oj a b
 |_,_=>.no
theorem RB :bq 148 (ay aky):=by
 let c:=bM (d:=5) (l:=[]) abR func148 call148;refine aY λb e f g a=>?_
 unfold aky at a;split at a
 ·exact c.okC ((akx _ _).trans a)
 ·cases a
def apR  :=aU f210
def G9  :=cL<|cL<|cR<|cL<|cR<|cR apR
def kY :Cfg:=⟨15,4,0,[(3,[3,5,6])],bc⟩
theorem ato i j f g c (b:ao) (e:af):aB gIs f25 5 [] [dU i j f g c,.d .str b,.d (.slice aa) e] [] ah=bif c.length<=9223372036854775807 then bif cc (λa=>a.fst==b&&a.snd.fst==7) c<0 then bif e=[]then ak [.emp]else bif e.length<=2147483648 then ar (.ret [.os 0 0],[(0,.arr 2 aa 0 a8 e)])else a6 else (te (λa=>a.fst==b&&a.snd.fst==7) c).bind λh=>bif h.2.2.2.2.2.2.1=[]then ak [.emp]else bif bk h.2.2.2.2.2.2.1<=2147483648 then ar (.ret [.os 0 0],[(0,.arr 2 aa 0 a8 h.2.2.2.2.2.2.1)])else a6 else a6:=by kernel_rfl
def KUp  :=aI 0<|aL nP kY [3] (hlp nP kY) (cR<|cR<|cR apR)<|aV prog 0 f210.results.toList ah
theorem abS n:aB nP f210 4 [(3,[3,5,6])] [I n] [] ah=(hlp nP kY) G9 _ ⟨az 4 [(3,.nils),(5,I n),(6,I 0)],[],0⟩ KUp:=(aW [3] kY rfl).trans<|by obtain⟨a,h⟩:=aM nP kY;rw[h];kernel_rfl
def RC  :=aU f196
def akz  :=cL<|cL<|cR<|cL<|cR RC
def l0 :Cfg:=⟨19,5,0,[(2,[0,1,7,8])],bc⟩
theorem atp (a:ao):aB g14 f193 4 [(2,[0,5,6])] [.d .str a] [] ah=bif [73,100,101,110,116,105,116,121]==a then ak [B bc]else bif [78,101,103]==a then ak [B bc]else bif [65,98,115]==a then ak [B bc]else bif [78,111,116]==a then ak [B bc]else bif [82,101,108,117]==a then ak [B bc]else bif [83,113,114,116]==a then ak [B bc]else bif [70,108,111,111,114]==a then ak [B bc]else bif [69,120,112]==a then ak [B bc]else bif [83,105,103,109,111,105,100]==a then ak [B bc]else bif [84,97,110,104]==a then ak [B bc]else ak [B a8]:=by kernel_rfl
def dV a  :=ones.any λo=>o==a
theorem akA (a:ao):aB g14 f193 4 [(2,[0,5,6])] [.d .str a] [] ah=ar (.ret [B<|dV a],[]):=by
 rw[atp];unfold dV ones;simp only[List.any_cons,List.any_nil,Bool.or_false]
 repeat (first|rfl|(cases _==a<;>simp only[ai,al,Bool.true_or,IN]))
def akB :List AV->LHp->Option (aq×LHp)
 |[.d .str a],[]=>ar (.ret [B (dV a)],[])
 |_,_=>a6
theorem RD :bq 193 (fnE akB):=by
 refine jF vq cZ func193 call193 (depth:=4) (live:=[(2,[0,5,6])]) (by decide +kernel) rfl λa b p h=>?_
 unfold akB at h;split at h
 ·cases h;exact akA _
 ·cases h
def aEm  :=g31.add 193<|fnE akB
theorem UZ :aEm.Good:=rB.add RD
theorem akC (a:ao):aB aEm f205 3 [] [.d .str a] [] ah=ak [B !dV a]:=by kernel_rfl
def abT :List AV->LHp->Option (aq×LHp)
 |[.d .str a],[]=>ar (.ret [B (!dV a)],[])
 |_,_=>a6
theorem abU :bq 205 (fnE abT):=by
 refine jF UZ cZ func205 call205 (depth:=3) (live:=[]) (by decide +kernel) rfl λa b p h=>?_
 unfold abT at h;split at h
 ·cases h;exact akC _
 ·cases h
def RE  :=g32.add 205<|fnE abT
theorem abV :RE.Good:=pC.add abU
def abW (a:List ao)(i:Int):LSt:=⟨az 5 [(0,.d (.slice .str) a),(1,.fn (.func 205) [] []),(7,I<| .ofNat a.length),(8,I i)],[],0⟩
theorem atq (a:List ao):aB RE f196 5 [(2,[0,1,7,8])] [.d (.slice .str) a,.fn (.func 205) [] []] [] ah=(hlp RE l0) akz _ (abW a 0) (aI 0 (aL RE l0 [2] (hlp RE l0) (cR (cR RC)) (aV prog 0 f196.results.toList ah))):=(aW [2] l0 rfl).trans (by obtain⟨b,h⟩:=aM RE l0;rw[h];kernel_rfl)
theorem atr a i n {R} (k:AEx->LSt->Option R):lp RE l0 akz (n+1) (abW a i) k=bif i<.ofNat a.length then (idx a i).bind λb=>bif !dV b then k .ret ⟨az 5 [(0,.d fa.slice a),(1,.fn (.func 205) [] []),(4,I i),(5,I i),(7,I<| .ofNat a.length),(8,I i),(9,B bc),(10,I i),(11,.fn (.func 205) [] []),(12,.d fa.slice a),(13,I i),(14,.ip .str b),(15,.d .str b),(16,B bc),(17,I i)],[],0⟩else lp RE l0 akz n (abW a<|i64.wrap<|i+1) k else k (.exit 0) ⟨az 5 [(0,.d fa.slice a),(1,.fn (.func 205) [] []),(7,I<| .ofNat a.length),(8,I i),(9,B a8)],[],0⟩:=by kernel_rfl
theorem akD (a:List ao)(b:a.length<=maxLen):aB RE f196 5 [(2,[0,1,7,8])] [.d (.slice .str) a,.fn (.func 205) [] []] [] ah=ar (.ret [I<|cc (λw=>!dV w) a],[]):=by
 rw[atq];let c:=λi n=>atr a i n<|aI 0<|aL RE l0 [2] (hlp RE l0) (cR<|cR RC)<|aV prog 0 f196.results.toList ah
 let h:=fF (T:=λn s=>lp RE l0 akz n s _) b c;refine h.trans ?_;unfold cc;cases e:a.findIdx? _ with|none=>kernel_rfl|some i=>let ⟨f,_⟩:=fk.1 e;simp only[dv f,aw];show _=_;kernel_rfl
def att :List AV->LHp->Tq
 |[.d (.slice .str) a,.fn (.func 205) [] []],[]=>.br (a7 (a.length<=maxLen)) (.leaf (.ret [I (cc (λw=>!dV w) a)]) []) .no
 |_,_=>.no
theorem akE :bq 196 (ay att):=by
 refine dh abV cZ func196 call196 (depth:=5) (live:=[(2,[0,1,7,8])]) (by decide +kernel) rfl λb c p h=>?_
 unfold att at h;split at h
 ·let ⟨a,h⟩:=eN h;cases h;let a:=bt a;exact akD _ a
 ·cases h
def gCs  :=g36.add 196<|ay att
theorem abX :gCs.Good:=na.add akE
theorem atu (a:List ao):aB gCs f204 4 [] [.d (.slice .str) a,.fn (.func 205) [] []] [] ah=bif a.length<=9223372036854775807 then ak [B<|cc (λw=>!dV w) a>=0]else a6:=by kernel_rfl
def abY :List AV->LHp->Tq
 |[.d .str s,.d .str c,.d zI a,.d zI b],[]=>.br (c==[44]) (.br (a==0) (.br (b== -1) (.br (a7 (s.length<=2147483647)) (.leaf (.ret [.d (.slice .str) (cJ s)]) []) .no) .no) .no) .no
 |_,_=>.no
theorem abZ :bq 244 (ay abY):=by
 let c:=bM (d:=7) (l:=[(11,[0,1,2,3,9,10])]) abL func244 call244;refine aY λb n o p a=>?_
 unfold abY at a;split at a
 ·let ⟨e,f⟩:=eN a;let ⟨g,h⟩:=eN f;let ⟨i,j⟩:=eN h;let ⟨k,m⟩:=eN j;obtain rfl:=eq_of_beq e;obtain rfl:=eq_of_beq g;obtain rfl:=eq_of_beq i;exact c.okC<|(abO<|bt k).trans m
 ·cases a
def gSp  :=g31.add 244<|ay abY
theorem ab0 :gSp.Good:=rB.add abZ
theorem atv (s:ao):aB gSp f195 4 [] [.d .str s,.d .str [44]] [] ah=bif s.length<=2147483647 then ak [.d fa.slice<|cJ s]else a6:=by kernel_rfl
def akF :List AV->LHp->Tq
 |[.d .str s,.d .str a],[]=>.br (a==[44]) (.br (a7 (s.length<=2147483647)) (.leaf (.ret [.d (.slice .str) (cJ s)]) []) .no) .no
 |_,_=>.no
theorem RF :bq 195 (ay akF):=by
 let c:=bM (d:=4) (l:=[]) ab0 func195 call195;refine aY λb g h i a=>?_
 unfold akF at a;split at a
 ·let ⟨e,f⟩:=eN a;obtain rfl:=eq_of_beq e;exact c.okC<|(atv _).trans f
 ·cases a
def atw :List AV->LHp->Tq
 |[.d (.slice .str) a,.fn (.func 205) [] []],[]=>.br (a7 (a.length<=maxLen)) (.leaf (.ret [B (!a.all dV)]) []) .no
 |_,_=>.no
theorem ab1 {a}:a7 (cc (λw=>!dV w) a>=0)= !a.all dV:=by
 unfold cc;cases h:a.findIdx? _ with
 |none=>rw[yd]at h;rw[gv.2 λx b=>by simpa using h x b]<;>rfl
 |some i=>
  let ⟨c,hp,_⟩:=fk.1 h;let:a.all dV=a8:=by rw[List.all_eq_false];exact⟨_,rm c,by simpa using hp⟩
  rw[this];exact aF<|by show ((i:Nat):Int)>=0;omega
theorem akG :bq 204 (ay atw):=by
 let c:=bM (d:=4) (l:=[]) abX func204 call204;refine aY λb e f g a=>?_
 unfold atw at a;split at a
 ·refine c.okC ((atu _).trans ?_);rw[ab1];exact a
 ·cases a
def gTh  :=((g36.add 64<|ay Oh).add 195<|ay akF).add 204<|ay atw
theorem ab2 :gTh.Good:=((na.add vB).add RF).add akG
theorem atx g h e f b:aB gTh f144 5 [] [dU g h e f b] [] ah=bif b.length<=9223372036854775807 then bif cc (λa=>a.fst==[116,104,101,110]&&a.snd.fst==3) b<0 then ak [.nils,I 0]else (te (λa=>a.fst==[116,104,101,110]&&a.snd.fst==3) b).bind λc=>bif bk c.2.2.2.2.1<=2147483647 then bif (cJ c.2.2.2.2.1).length<=9223372036854775807 then bif !(cJ c.2.2.2.2.1).all dV then ak [.nils,I 4]else ak [.d fa.slice<|cJ c.2.2.2.2.1,I 0]else a6 else a6 else a6:=by kernel_rfl
def jd :ao:=[116,104,101,110]
def kZ (a:bu)  :=(a.find?<|ie jd 3).isNone
def kI (b:bu):List (ao):=match b.find? (ie jd 3)with|some a=>cJ a.2.2.2.2.1|none=>[]
def fY a  := !(kI a).all dV
theorem sG s:(cJ s).length<=s.length+1:=by rw[uc];let:=Lu s;omega
def aE (b:bu)  :=b.length<=2147483647&&b.all λa=>a.1.length<=2147483647&&a.2.2.2.2.1.length<=2147483647&&a.2.2.2.2.2.2.1.length<=2147483648
theorem jI {b}(h:aE b=bc){a}(c:a∈b):a.1.length<=2147483647/\a.2.2.2.2.1.length<=2147483647/\a.2.2.2.2.2.2.1.length<=2147483648:=by unfold aE at h;rw[aX]at h;let:=gv.1 h.2 a c;simp only[aX,decide_eq_true_eq]at this;exact⟨this.1.1,this.1.2,this.2⟩
theorem bz {a}(h:aE a=bc):a.length<=2147483647:=by unfold aE at h;rw[aX]at h;exact bt h.1
def akH :List AV->LHp->Tq
 |[.d Y2 (_,_,_,_,a,_)],[]=>.br (aE a) (.br (kZ a) (.leaf (.ret [.nils,I 0]) []) (.br (fY a) (.leaf (.ret [.nils,I 4]) []) (.leaf (.ret [.d (.slice .str) (kI a),I 0]) []))) .no
 |_,_=>.no
theorem RG :bq 144 (ay akH):=by
 let j:=bM (d:=5) (l:=[]) ab2 func144 call144;refine aY λg k r s c=>?_
 unfold akH at c;split at c
 ·rename_i m n e f b _
  let ⟨h,o⟩:=eN c;refine j.okC<|(atx m n e f b).trans ?_
  refine gp ?_ o;let i:=bz h;rw[aF<|(by omega:b.length<=9223372036854775807),n9,ai];unfold kZ fY kI;change (bif (b.find?<|ie jd 3).isNone then _ else (b.find?<|ie jd 3).bind _)=_;cases p:b.find? _ with
  |none=>rfl
  |some a=>
   let q:=jI h<|kq p
   let k:=sG a.2.2.2.2.1;simp only[WL,al,aw];rw[aF q.2.1,ai,aF<|(by omega:(cJ a.2.2.2.2.1).length<=9223372036854775807),ai]<;>rfl
 ·cases c
theorem aty (c:Int):aB g32 f199 4 [] [.d (.int .u8) c] [] ah=bif c==105 then ak [I 2]else bif c==115 then ak [I 7]else bif c==102 then ak [I 1]else bif c==116 then ak [I 4]else ak [I 3]:=by kernel_rfl
theorem atz (w p:ao):aB g16 f198 4 [] [.d .str w,.d .str p] [] ah=bif a7 (.ofNat w.length>=bd p.length)then (if (0:Int)<=0/\0<=bd p.length/\.ofNat p.length<=bd w.length then ar (fb 0<|gy (bd p.length).toNat w)else a6).bind λv1=>ak [B<|v1==p]else ak [B a8]:=by kernel_rfl
theorem atA (w:ao):aB g35 f203 4 [] [.d .str w,.d .str [42]] [] ah=bif bd w.length>=1 then (if 0<=i64.wrap (.ofNat w.length-1)/\i64.wrap (.ofNat w.length-1)<=.ofNat w.length/\.ofNat w.length<=bd w.length then ar (fb (i64.wrap<| .ofNat w.length-1).toNat<|gy (bd w.length).toNat w)else a6).bind λv1=>ak [B<|v1==[42]]else ak [B a8]:=by kernel_rfl
theorem atB (w:ao):aB g33 f202 4 [] [.d .str w,.d .str [32]] [] ah=bif [32]==w then (if (0:Int)<=1/\1<=bd w.length/\.ofNat w.length<=bd w.length then ar (fb 1<|gy (bd w.length).toNat w)else a6).bind λa=>ak [.d .str [],.d .str a,B bc]else bif js w 32>=0 then (if (0:Int)<=0/\0<=js w 32/\js w 32<=.ofNat w.length then ar (fb 0<|gy (js w 32).toNat w)else a6).bind λb=>(if 0<=i64.wrap (js w 32+1)/\i64.wrap (js w 32+1)<=.ofNat w.length/\.ofNat w.length<=bd w.length then ar (fb (i64.wrap<|js w 32+1).toNat<|gy (bd w.length).toNat w)else a6).bind λc=>ak [.d .str b,.d .str c,B bc]else ak [.d .str w,.d .str [],B a8]:=by kernel_rfl
def fM (c:Int):Int:=bif c==105 then 2 else bif c==115 then 7 else bif c==102 then 1 else bif c==116 then 4 else 3
def atC :List AV->LHp->Option (aq×LHp)
 |[.d (.int .u8) c],[]=>ar (.ret [I (fM c)],[])
 |_,_=>a6
theorem akI (c:Int):aB g32 f199 4 [] [.d (.int .u8) c] [] ah=ar (.ret [I (fM c)],[]):=by rw[aty];unfold fM;cases c==105<;>cases c==115<;>cases c==102<;>cases c==116<;>rfl
theorem akJ :bq 199 (fnE atC):=by
 refine jF pC cZ func199 call199 (depth:=4) (live:=[]) (by decide +kernel) rfl λa b p h=>?_
 unfold atC at h;split at h
 ·cases h;exact akI _
 ·cases h
def dL (w p:ao)  :=p.length<=w.length&&w.take p.length==p
def atD :List AV->LHp->Option (aq×LHp)
 |[.d .str w,.d .str p],[]=>ar (.ret [B (dL w p)],[])
 |_,_=>a6
theorem akK (w p:ao):aB g16 f198 4 [] [.d .str w,.d .str p] [] ah=ar (.ret [B<|dL w p],[]):=by
 rw[atz];unfold dL;by_cases h:p.length<=w.length
 ·rw[aF<|(by simp only[aK];omega:.ofNat _>=bd _),ai,aF h,gb];let:=atg h;simp only[aK]at this⊢;rw[this]<;>rfl
 ·rw[cq<|(by simp only[aK];omega:¬.ofNat _>=bd _),al,cq h,so]
theorem akL :bq 198 (fnE atD):=by
 refine jF BV cZ func198 call198 (depth:=4) (live:=[]) (by decide +kernel) rfl λa b p h=>?_
 unfold atD at h;split at h
 ·cases h;exact akK _ _
 ·cases h
def je (w:ao)  :=w.drop (w.length-1)==[42]
theorem akM {w:ao}(b:w.length<=2147483648):aB g35 f203 4 [] [.d .str w,.d .str [42]] [] ah=ar (.ret [B<|je w],[]):=by
 rw[atA];by_cases h:1<=w.length
 ·let a:i64.wrap (.ofNat w.length-1)=(w.length-1:Nat):=by simp only[aK];rw[aH (by omega)<|by omega];omega
  rw[aF<|(by simp only[aK];omega:bd _>=1),ai,a,ath<|by omega]<;>rfl
 ·have:w=[]:=aft.1<|by omega
  subst this;rfl
def atE :List AV->LHp->Tq
 |[.d .str w,.d .str p],[]=>.br (p==[42]) (.br (a7 (w.length<=2147483648)) (.leaf (.ret [B (je w)]) []) .no) .no
 |_,_=>.no
theorem akN :bq 203 (ay atE):=by
 let c  :=QY;refine aY λb h i j a=>?_
 unfold atE at a;split at a
 ·let ⟨d,e⟩:=eN a;let ⟨f,g⟩:=eN e;obtain rfl:=eq_of_beq d;exact c.okC<|(akM<|bt f).trans g
 ·cases a
def fN (w:ao):ao:=bif js w 32>=0 then w.take (js w 32).toNat else w
def dd (w:ao):ao:=bif js w 32>=0 then w.drop ((js w 32).toNat+1)else []
theorem tC :∀(l:ao) (c),js l c<l.length
 |[],_=>by unfold js;simp
 |b::l,c=>by
  let:=tC l c;unfold js;rw[bs];split
  ·omega
  ·split<;>omega
theorem akO {w:ao}(f:w.length<=2147483648):aB g33 f202 4 [] [.d .str w,.d .str [32]] [] ah=ar (.ret [.d .str<|fN w,.d .str<|dd w,B<|js w 32>=0],[]):=by
 rw[atB];unfold fN dd;cases a:[32]==w with
 |true=>obtain rfl:=eq_of_beq a;rfl
 |false=>
  let b:=tC w 32;cases h:a7 (js w 32>=0)with
  |false=>rfl
  |true=>
   let ⟨i,c⟩:=q8<|bt h
   rw[c]at b⊢;let e:i64.wrap ((i:Nat)+1)=(i+1:Nat):=by rw[aH (by omega)<|by omega];omega
   rw[al,ai,atg<|by omega,aw,e,ath<|by omega]<;>rfl
def atF :List AV->LHp->Tq
 |[.d .str w,.d .str p],[]=>.br (p==[32]) (.br (a7 (w.length<=2147483648)) (.leaf (.ret [.d .str (fN w),.d .str (dd w),B (a7 (js w 32>=0))]) []) .no) .no
 |_,_=>.no
theorem akP :bq 202 (ay atF):=by
 let c  :=QX;refine aY λb h i j a=>?_
 unfold atF at a;split at a
 ·let ⟨d,e⟩:=eN a;let ⟨f,g⟩:=eN e;obtain rfl:=eq_of_beq d;exact c.okC<|(akO<|bt f).trans g
 ·cases a
noncomputable def aEn  :=g17.add 198<|fnE atD
theorem U0 :aEn.Good:=BW.add akL
theorem atG (w:ao) a:aB aEn f197 4 [] [.d .str w,.op 0 [] 0] [(0,.box<| .d Y1 a)] ah=(if bk a.1+1<4611686018427387904 then ar (a.1++[32])else a6).bind λb=>ar (.ret [B<|dL w b],[(0,.box<| .d Y1 a)]):=by kernel_rfl
theorem atH b a:aB g11 f201 4 [] [.d Y1 b,.op 0 [] 0] [(0,.box<| .d Y1 a)] ah=ar (.ret [B<|b.1==a.1],[(0,.box<| .d Y1 a)]):=by kernel_rfl
def RH  :=aU f196
def akQ  :=cL (cL (cR (cL (cR RH))))
def l5 :Cfg:=⟨19,5,1,[(2,[0,1,7,8])],bc⟩
def RI  :=aU f49
def akR  :=cL (cL (cR (cL (cR RI))))
def l6 :Cfg:=⟨19,5,1,[(2,[0,1,7,8])],bc⟩
def sZ (a:(Y1).den):LHp:=[(0,.box (.d _ a))]
def oM (a:(Y1).den) w  :=dL w (a.1++[32])
def atI :List AV->LHp->Tq
 |[.d .str w,.op 0 [] 0],[(0,.box (.d Y1 a))]=>.br (a7 (bk a.1<=2147483647)) (.leaf (.ret [B (oM a w)]) (sZ a)) .no
 |_,_=>.no
theorem akS :bq 197 (ay atI):=by
 let e:=bM (d:=4) (l:=[]) U0 func197 call197;refine aY λc h i j b=>?_
 unfold atI at b;split at b
 ·rename_i w a;let ⟨f,g⟩:=eN b;let k:=bt f;refine e.okC ((atG w a).trans ?_);rw[if_pos (by omega:bk a.1+1<4611686018427387904),aw];exact g
 ·cases b
def atJ :List AV->LHp->Option (aq×LHp)
 |[.d Y1 b,.op 0 [] 0],[(0,.box (.d Y1 a))]=>ar (.ret [B (b.1==a.1)],sZ a)
 |_,_=>a6
theorem akT :bq 201 (fnE atJ):=by
 refine jF BT cZ func201 call201 (depth:=4) (live:=[]) (by decide +kernel) rfl λa b p h=>?_
 unfold atJ at h;split at h
 ·cases h;exact atH _ _
 ·cases h
def RJ  :=g32.add 197 (ay atI)
theorem ab3 :RJ.Good:=pC.add akS
def RK  :=g13.add 201 (fnE atJ)
theorem ab4 :RK.Good:=vp.add akT
def ab5 (b:List ao)(a:(Y1).den)(i:Int):LSt:=⟨az 5 [(0,.d (.slice .str) b),(1,.fn (.func 197) [] [.op 0 [] 0]),(7,I (.ofNat b.length)),(8,I i)],sZ a,2⟩
theorem atK (b:List ao) a:aB RJ f196 5 [(2,[0,1,7,8])] [.d (.slice .str) b,.fn (.func 197) [] [.op 0 [] 0]] (sZ a) ah=(hlp RJ l5) akQ _ (ab5 b a 0) (aI 0 (aL RJ l5 [2] (hlp RJ l5) (cR (cR RH)) (aV prog 1 f196.results.toList ah))):=(aW [2] l5 rfl).trans (by obtain⟨c,h⟩:=aM RJ l5;rw[h];kernel_rfl)
def ab6 (b:bu)(a:(Y1).den)(i:Int):LSt:=⟨az 5 [(0,.d (.slice _) b),(1,.fn (.func 201) [] [.op 0 [] 0]),(7,I (.ofNat b.length)),(8,I i)],sZ a,2⟩
theorem atM (b:bu) a:aB RK f49 5 [(2,[0,1,7,8])] [.d (.slice _) b,.fn (.func 201) [] [.op 0 [] 0]] (sZ a) ah=(hlp RK l6) akR _ (ab6 b a 0) (aI 0 (aL RK l6 [2] (hlp RK l6) (cR (cR RI)) (aV prog 1 f49.results.toList ah))):=(aW [2] l6 rfl).trans (by obtain⟨c,h⟩:=aM RK l6;rw[h];kernel_rfl)
theorem atN b a i n {R} (k:AEx->LSt->Option R):lp RJ l5 akQ (n+1) (ab5 b a i) k=bif a7 (i<.ofNat b.length)then (idx b i).bind λc=>bif a7 (bk a.1<=2147483647)then bif oM a c then k .ret ⟨az 5 [(0,.d fa.slice b),(1,.fn (.func 197) [] [.op 0 [] 0]),(4,I i),(5,I i),(7,I (.ofNat b.length)),(8,I i),(9,B bc),(10,I i),(11,.fn (.func 197) [] [.op 0 [] 0]),(12,.d fa.slice b),(13,I i),(14,.ip .str c),(15,.d .str c),(16,B bc),(17,I i)],[(0,.box (.d Y1 a)),(0,.box (.d Y1 a))],3⟩else lp RJ l5 akQ n (ab5 b a (i64.wrap (i+1))) k else a6 else k (.exit 0) ⟨az 5 [(0,.d fa.slice b),(1,.fn (.func 197) [] [.op 0 [] 0]),(7,I (.ofNat b.length)),(8,I i),(9,B a8)],[(0,.box (.d Y1 a))],2⟩:=by kernel_rfl
theorem atP b a i n {R} (k:AEx->LSt->Option R):lp RK l6 akR (n+1) (ab6 b a i) k=bif a7 (i<.ofNat b.length)then (idx b i).bind λc=>bif c.1==a.1 then k .ret ⟨az 5 [(0,.d Y1.slice b),(1,.fn (.func 201) [] [.op 0 [] 0]),(4,I i),(5,I i),(7,I (.ofNat b.length)),(8,I i),(9,B bc),(10,I i),(11,.fn (.func 201) [] [.op 0 [] 0]),(12,.d Y1.slice b),(13,I i),(14,.ip Y1 c),(15,.d Y1 c),(16,B bc),(17,I i)],[(0,.box (.d Y1 a)),(0,.box (.d Y1 a))],3⟩else lp RK l6 akR n (ab6 b a (i64.wrap (i+1))) k else k (.exit 0) ⟨az 5 [(0,.d Y1.slice b),(1,.fn (.func 201) [] [.op 0 [] 0]),(7,I (.ofNat b.length)),(8,I i),(9,B a8)],[(0,.box (.d Y1 a))],2⟩:=by kernel_rfl
theorem akU {b:List ao}{a}(c:b.length<=maxLen/\bk a.1<=2147483647):aB RJ f196 5 [(2,[0,1,7,8])] [.d (.slice .str) b,.fn (.func 197) [] [.op 0 [] 0]] (sZ a) ah=ar (.ret [I (cc (oM a) b)],sZ a):=by
 rw[atK];let e:=λi n=>atN b a i n (aI 0 (aL RJ l5 [2] (hlp RJ l5) (cR (cR RH)) (aV prog 1 f196.results.toList ah)))
 simp only[aF c.2,ai]at e;let h:=fF (T:=λn s=>lp RJ l5 akQ n s _) c.1 e;refine h.trans ?_;unfold cc;cases f:b.findIdx? _ with|none=>kernel_rfl|some i=>let ⟨g,_⟩:=fk.1 f;simp only[dv g,aw];show _=_;kernel_rfl
theorem akV {c:bu}{a}(e:c.length<=maxLen):aB RK f49 5 [(2,[0,1,7,8])] [.d (.slice _) c,.fn (.func 201) [] [.op 0 [] 0]] (sZ a) ah=ar (.ret [I (cc (λb=>b.1==a.1) c)],sZ a):=by
 rw[atM];let f:=λi n=>atP c a i n (aI 0 (aL RK l6 [2] (hlp RK l6) (cR (cR RI)) (aV prog 1 f49.results.toList ah)))
 let h:=fF (T:=λn s=>lp RK l6 akR n s _) e f;refine h.trans ?_;unfold cc;cases g:c.findIdx? _ with|none=>kernel_rfl|some i=>let ⟨j,_⟩:=fk.1 g;simp only[dv j,aw];show _=_;kernel_rfl
def atQ :List AV->LHp->Tq
 |[.d (.slice .str) b,.fn (.func 197) [] [.op 0 [] 0]],[(0,.box (.d Y1 a))]=>.br (a7 (b.length<=maxLen/\bk a.1<=2147483647)) (.leaf (.ret [I (cc (oM a) b)]) (sZ a)) .no
 |_,_=>.no
theorem akW :bq 196 (ay atQ):=by
 refine dh ab3 cZ func196 call196 (depth:=5) (live:=[(2,[0,1,7,8])]) (by decide +kernel) rfl λb c p h=>?_
 unfold atQ at h;split at h
 ·let ⟨a,h⟩:=eN h;cases h;let a:=bt a;exact akU a
 ·cases h
def atS :List AV->LHp->Tq
 |[.d (.slice Y1) c,.fn (.func 201) [] [.op 0 [] 0]],[(0,.box (.d Y1 a))]=>.br (a7 (c.length<=maxLen)) (.leaf (.ret [I (cc (λb=>b.1==a.1) c)]) (sZ a)) .no
 |_,_=>.no
theorem akX :bq 49 (ay atS):=by
 refine dh ab4 cZ func49 call49 (depth:=5) (live:=[(2,[0,1,7,8])]) (by decide +kernel) rfl λb c p h=>?_
 unfold atS at h;split at h
 ·let ⟨a,h⟩:=eN h;cases h;let a:=bt a;exact akV a
 ·cases h
def gF2  :=g32.add 49 (ay atS)
theorem ab7 :gF2.Good:=pC.add akX
theorem atT (c:bu) a:aB gF2 f200 4 [] [.d (.slice _) c,.fn (.func 201) [] [.op 0 [] 0]] (sZ a) ah=bif a7 (c.length<=9223372036854775807)then ar (.ret [B (a7 (cc (λb=>b.fst==a.fst) c>=0))],[(0,.box (.d Y1 a))])else a6:=by kernel_rfl
theorem vC {b:Type}{p:b->Bool}{a:List b}:a7 (cc p a>=0)=a.any p:=by unfold cc;cases h:a.findIdx? p with|none=>rw[yd]at h;rw[v7.2 λx c=>by simpa using h x c]<;>rfl|some i=>obtain⟨d,hp,_⟩:=fk.1 h;rw[List.any_eq_true.2 ⟨_,rm d,hp⟩];exact aF (by show ((i:Nat):Int)>=0;omega)
def atU :List AV->LHp->Tq
 |[.d (.slice Y1) c,.fn (.func 201) [] [.op 0 [] 0]],[(0,.box (.d Y1 a))]=>.br (a7 (c.length<=maxLen)) (.leaf (.ret [B (c.any λb=>b.1==a.1)]) (sZ a)) .no
 |_,_=>.no
theorem akY :bq 200 (ay atU):=by
 let c:=bM (d:=4) (l:=[]) ab7 func200 call200;refine aY λb e f g a=>?_
 unfold atU at a;split at a
 ·refine c.okC ((atT _ _).trans ?_);rw[vC];exact a
 ·cases a
def E3  :=aU f143
def Ol  :=cL (cL (cR (cL (cR (cR E3)))))
def Om  :=cL (cL (cR (cL (cR (cR (cR E3))))))
def fS :Cfg:=⟨92,7,0,[(3,[2,5,20,21,22]),(14,[2,63,64,65])],bc⟩
def zr  :=((((((g36.add 64 (ay Oh)).add 195 (ay akF)).add 199 (fnE atC)).add 203 (ay atE)).add 202 (ay atF)).add 196 (ay atQ)).add 200 (ay atU)
theorem ab8 :zr.Good:=((((((na.add vB).add RF).add akJ).add akN).add akP).add akW).add akY
def akZ (c d:ao)(a:List ao)(b:ao)(e:bu):LHp:=[(0,.box (dU c d a b e))]
def On (e f:ao)(a:List ao)(b:ao)(c:bu)(g:List ao)(i:Int):LSt:=⟨az 7 [(2,.op 0 [] 0),(5,.d (.slice .str) g),(20,.d (.slice _) c),(21,I (.ofNat c.length)),(22,I i)],akZ e f a b c,1⟩
theorem atW c e a b f (r:ao):aB zr f143 7 [(3,[2,5,20,21,22]),(14,[2,63,64,65])] [dU c e a b f,.d .str r] [] ah=(if r.length+7<4611686018427387904 then ar (r++[44,116,104,101,110,32,120])else a6).bind λg=>bif a7 (g.length<=2147483647)then (hlp zr fS) Ol _ (On c e a b f (cJ g) 0) (aI 0 (aL zr fS [3,14] (hlp zr fS) (cR (cR (cR E3))) (aV prog 0 f143.results.toList ah)))else a6:=(aW [3,14] fS rfl).trans (by obtain⟨i,h⟩:=aM zr fS;rw[h];kernel_rfl)
theorem ab9 (f nm)(ins:List (ao))(out)(ag)(c:List (ao))(i)(n){R}(k:AEx->LSt->Option R):lp zr fS Ol (n+1) (On f nm ins out ag c i) k=bif a7 (i<bd ag.length)then (idx ag i).bind λa=>bif a7 (c.length<=9223372036854775807/\bk a.1<=2147483647)then bif a7 (cc (λw=>dL w (a.fst++[32])) c<0)then k AEx.ret {fr:=az 7 [(2,mm 0 [] 0),(4,I 5),(5,eb fa.slice c),(6,I i),(7,mm 1 [] 0),(8,I (cc (λw=>dL w (a.fst++[32])) c)),(20,eb Y1.slice ag),(21,I (bd ag.length)),(22,I i),(23,B bc),(24,I i),(25,Zh Y1 a),(26,eb Y1 a),(27,eb fa.slice c),(28,AV.fn (Fn.func 197) [] [mm 1 [] 0]),(29,I (cc (λw=>dL w (a.fst++[32])) c)),(30,I (cc (λw=>dL w (a.fst++[32])) c)),(31,B bc)],hp:=[(1,au.box (eb Y1 a)),(1,au.box (eb Y1 a)),(1,au.box ((eb fa []).pr ((I 0).pr ((I 0).pr ((I 0).pr ((eb fa []).pr (((I 0).pr (b5.pr (b5.pr (eb eR bn)))).pr (b5.pr (eb eR bn))))))))),(0,au.box (eb Y2 (f,nm,ins,out,ag,bn)))],nx:=3}else (idx c (cc (λw=>dL w (a.fst++[32])) c)).bind λg=>(wV g (i64.wrap (bd (bk a.1)+1))).bind λe=>bif fM e !=a.2.1 then k AEx.ret {fr:=az 7 [(2,mm 0 [] 0),(4,I 4),(5,eb fa.slice c),(6,I i),(7,mm 1 [] 0),(8,I (cc (λw=>dL w (a.fst++[32])) c)),(20,eb Y1.slice ag),(21,I (bd ag.length)),(22,I i),(23,B bc),(24,I i),(25,Zh Y1 a),(26,eb Y1 a),(27,eb fa.slice c),(28,AV.fn (Fn.func 197) [] [mm 1 [] 0]),(29,I (cc (λw=>dL w (a.fst++[32])) c)),(30,I (cc (λw=>dL w (a.fst++[32])) c)),(31,B a8),(32,eb fa.slice c),(33,I (cc (λw=>dL w (a.fst++[32])) c)),(34,Zh fa g),(35,eb fa g),(36,mm 1 [0] 0),(37,eb _ a.1),(38,I (bd (bk a.1))),(39,I (i64.wrap (bd (bk a.1)+1))),(40,eb (Ty.int u8) e),(41,I (fM e)),(42,mm 1 [1] 1),(43,I a.2.1),(44,B (fM e !=a.2.1)),(45,B bc),(46,ahu []),(47,ahu []),(48,ahu []),(49,ahu []),(50,ahu []),(51,ahu []),(52,B bc)],hp:=[(1,au.box (eb Y1 a)),(1,au.box (eb Y1 a)),(1,au.box ((eb fa []).pr ((I 0).pr ((I 0).pr ((I 0).pr ((eb fa []).pr (((I 0).pr (b5.pr (b5.pr (eb eR bn)))).pr (b5.pr (eb eR bn))))))))),(0,au.box (eb Y2 (f,nm,ins,out,ag,bn)))],nx:=3}else (if (0:Int)<=0/\0<=i/\i<=bd ag.length then ar (fb 0 (gy i.toNat ag))else a6).bind λh=>bif a7 (h.length<=9223372036854775807)then bif h.any λb=>b.fst==a.fst then k AEx.ret {fr:=az 7 [(2,mm 0 [] 0),(4,I 4),(5,eb fa.slice c),(6,I i),(7,mm 1 [] 0),(8,I (cc (λw=>dL w (a.fst++[32])) c)),(20,eb Y1.slice ag),(21,I (bd ag.length)),(22,I i),(23,B bc),(24,I i),(25,Zh Y1 a),(26,eb Y1 a),(27,eb fa.slice c),(28,AV.fn (Fn.func 197) [] [mm 1 [] 0]),(29,I (cc (λw=>dL w (a.fst++[32])) c)),(30,I (cc (λw=>dL w (a.fst++[32])) c)),(31,B a8),(32,eb fa.slice c),(33,I (cc (λw=>dL w (a.fst++[32])) c)),(34,Zh fa g),(35,eb fa g),(36,mm 1 [0] 0),(37,eb fa a.1),(38,I (bd (bk a.1))),(39,I (i64.wrap (bd (bk a.1)+1))),(40,eb (Ty.int u8) e),(41,I (fM e)),(42,mm 1 [1] 1),(43,I a.2.1),(44,B (fM e !=a.2.1)),(45,B a8),(46,mm 0 [4] 4),(47,eb Y1.slice ag),(48,I i),(49,eb Y1.slice h),(50,AV.fn (Fn.func 201) [] [mm 1 [] 0]),(51,B (h.any λb=>b.fst==a.fst)),(52,B bc)],hp:=[(1,au.box (eb Y1 a)),(1,au.box (eb Y1 a)),(1,au.box (eb Y1 a)),(1,au.box ((eb fa []).pr ((I 0).pr ((I 0).pr ((I 0).pr ((eb fa []).pr (((I 0).pr (b5.pr (b5.pr (eb eR bn)))).pr (b5.pr (eb eR bn))))))))),(0,au.box (eb Y2 (f,nm,ins,out,ag,bn)))],nx:=4}else bif a.2.1==1 then bif !aQ 1 a.2.2.1 then k AEx.ret {fr:=az 7 [(2,mm 0 [] 0),(4,I 4),(5,eb fa.slice c),(6,I i),(7,mm 1 [] 0),(8,I (cc (λw=>dL w (a.fst++[32])) c)),(20,eb Y1.slice ag),(21,I (bd ag.length)),(22,I i),(23,B bc),(24,I i),(25,Zh Y1 a),(26,eb Y1 a),(27,eb fa.slice c),(28,AV.fn (Fn.func 197) [] [mm 1 [] 0]),(29,I (cc (λw=>dL w (a.fst++[32])) c)),(30,I (cc (λw=>dL w (a.fst++[32])) c)),(31,B a8),(32,eb fa.slice c),(33,I (cc (λw=>dL w (a.fst++[32])) c)),(34,Zh fa g),(35,eb fa g),(36,mm 1 [0] 0),(37,eb fa a.1),(38,I (bd (bk a.1))),(39,I (i64.wrap (bd (bk a.1)+1))),(40,eb (Ty.int u8) e),(41,I (fM e)),(42,mm 1 [1] 1),(43,I a.2.1),(44,B (fM e !=a.2.1)),(45,B a8),(46,mm 0 [4] 4),(47,eb Y1.slice ag),(48,I i),(49,eb Y1.slice h),(50,AV.fn (Fn.func 201) [] [mm 1 [] 0]),(51,B (h.any λb=>b.fst==a.fst)),(52,B a8),(53,mm 1 [1] 1),(54,I a.2.1),(55,B (a.2.1==1)),(56,B bc),(57,mm 1 [2] 2),(58,I a.2.2.1),(59,B (aQ 1 a.2.2.1)),(60,B !aQ 1 a.2.2.1),(61,B bc)],hp:=[(1,au.box (eb Y1 a)),(1,au.box (eb Y1 a)),(1,au.box (eb Y1 a)),(1,au.box ((eb fa []).pr ((I 0).pr ((I 0).pr ((I 0).pr ((eb fa []).pr (((I 0).pr (b5.pr (b5.pr (eb eR bn)))).pr (b5.pr (eb eR bn))))))))),(0,au.box (eb Y2 (f,nm,ins,out,ag,bn)))],nx:=4}else lp zr fS Ol n (On f nm ins out ag c (i64.wrap (i+1))) k else lp zr fS Ol n (On f nm ins out ag c (i64.wrap (i+1))) k else a6 else a6 else k (AEx.exit 0) {fr:=az 7 [(2,mm 0 [] 0),(5,eb fa.slice c),(20,eb Y1.slice ag),(21,I (bd ag.length)),(22,I i),(23,B a8)],hp:=[(0,au.box (eb Y2 (f,nm,ins,out,ag,bn)))],nx:=1}:=by kernel_rfl
def Oo (e f:ao)(a:List ao)(b:ao)(g:bu)(c:List ao)(i:Int):LSt:=⟨az 7 [(2,.op 0 [] 0),(63,.d (.slice .str) c),(64,I (.ofNat c.length)),(65,I i)],akZ e f a b g,1⟩
theorem aca (e nm)(ins:List (ao))(out)(ag)(c:List (ao))(i)(n){R}(k:AEx->LSt->Option R):lp zr fS Om (n+1) (Oo e nm ins out ag c i) k=bif a7 (i<bd c.length)then (idx c i).bind λb=>bif a7 (bk b<=2147483648)then (if (dd b).length+1<4611686018427387904 then ar (dd b++[32])else a6).bind λg=>(wV g 0).bind λf=>bif a7 (ag.length<=9223372036854775807)then bif a7 (cc (λa=>a.fst==fN b&&a.snd.fst==fM f) ag<0)then bif a7 ((dd b).length<=2147483648)then bif je (dd b)then k AEx.ret {fr:=az 7 [(2,mm 0 [] 0),(4,I 4),(10,eb fa b),(11,eb fa (fN b)),(12,eb fa (dd b)),(13,B (a7 (js b 32>=0))),(14,mm 1 [] 0),(15,B a8),(63,eb fa.slice c),(64,I (bd c.length)),(65,I i),(66,B bc),(67,Zh fa b),(68,eb fa b),(69,ahu [eb fa (fN b),eb fa (dd b),B (a7 (js b 32>=0))]),(70,eb fa b),(71,ahu [eb fa (fN b),eb fa (dd b),B (a7 (js b 32>=0))]),(72,eb fa (fN b)),(73,eb fa (dd b)),(74,B (a7 (js b 32>=0))),(75,ahu [(eb fa []).pr ((I 0).pr ((I 0).pr ((I 0).pr ((eb fa []).pr (((I 0).pr (b5.pr (b5.pr (eb eR bn)))).pr (b5.pr (eb eR bn))))))),B a8]),(76,eb Y2 (e,nm,ins,out,ag,bn)),(77,eb fa (fN b)),(78,eb fa (dd b)),(79,eb fa g),(80,eb (Ty.int u8) f),(81,I (fM f)),(82,ahu [(eb fa []).pr ((I 0).pr ((I 0).pr ((I 0).pr ((eb fa []).pr (((I 0).pr (b5.pr (b5.pr (eb eR bn)))).pr (b5.pr (eb eR bn))))))),B a8]),(83,(eb fa []).pr ((I 0).pr ((I 0).pr ((I 0).pr ((eb fa []).pr (((I 0).pr (b5.pr (b5.pr (eb eR bn)))).pr (b5.pr (eb eR bn)))))))),(84,B a8),(85,eb fa (dd b)),(86,B (je (dd b))),(87,B bc),(88,B a8),(89,B bc),(90,B bc)],hp:=[(1,au.box ((eb fa []).pr ((I 0).pr ((I 0).pr ((I 0).pr ((eb fa []).pr (((I 0).pr (b5.pr (b5.pr (eb eR bn)))).pr (b5.pr (eb eR bn))))))))),(1,au.box ((eb fa []).pr ((I 0).pr ((I 0).pr ((I 0).pr ((eb fa []).pr (((I 0).pr (b5.pr (b5.pr (eb eR bn)))).pr (b5.pr (eb eR bn))))))))),(0,au.box (eb Y2 (e,nm,ins,out,ag,bn)))],nx:=2}else lp zr fS Om n (Oo e nm ins out ag c (i64.wrap (i+1))) k else a6 else (te (λa=>a.fst==fN b&&a.snd.fst==fM f) ag).bind λh=>bif a7 ((dd b).length<=2147483648)then bif je (dd b)then lp zr fS Om n (Oo e nm ins out ag c (i64.wrap (i+1))) k else lp zr fS Om n (Oo e nm ins out ag c (i64.wrap (i+1))) k else a6 else a6 else a6 else k (AEx.exit 2) {fr:=az 7 [(2,mm 0 [] 0),(63,eb fa.slice c),(64,I (bd c.length)),(65,I i),(66,B a8)],hp:=[(0,au.box (eb Y2 (e,nm,ins,out,ag,bn)))],nx:=1}:=by kernel_rfl
noncomputable def aEo a  :=aI 0 (aL zr fS [3,14] a (cR (cR (cR E3))) (aV prog 0 f143.results.toList ah))
noncomputable def atX  :=aI 2 (aL zr fS [3,14] (hlp zr fS) (cR (cR (cR (cR E3)))) (aV prog 0 f143.results.toList ah))
def apS (e f:ao)(a:List ao)(b:ao)(c:bu)(g:List ao)(i:Int):LSt:=⟨az 7 [(2,.op 0 [] 0),(5,.d (.slice .str) g),(20,.d (.slice _) c),(21,I (.ofNat c.length)),(22,I i),(23,B a8)],akZ e f a b c,1⟩
theorem atY c d e a b f g i:aEo c (.exit 0) (apS d e a b f g i)=c Om _ (Oo d e a b f g 0) (aI 2 (aL zr fS [3,14] c (cR (cR (cR (cR E3)))) (aV prog 0 f143.results.toList ah))):=by kernel_rfl
noncomputable def KAr  :=aEo (hlp zr fS)
theorem atZ c d a b e f i:KAr (.exit 0) (apS c d a b e f i)=lp zr fS Om fu (Oo c d a b e f 0) atX:=(atY _ c d a b e f i).trans rfl
theorem at0 c d a b e f:hlp zr fS Ol _ (On c d a b e f 0) KAr=lp zr fS Ol fu (On c d a b e f 0) KAr:=rfl
def aEp (e f:ao)(a:List ao)(b:ao)(g:bu)(c:List ao)(i:Int):LSt:=⟨az 7 [(2,.op 0 [] 0),(63,.d (.slice .str) c),(64,I (.ofNat c.length)),(65,I i),(66,B a8)],akZ e f a b g,1⟩
theorem at1 c d a b e f i:atX (.exit 2) (aEp c d a b e f i)=ak [I 0]:=by kernel_rfl
def xC (w:ao)  :=a7 (w.length<=2147483648)&& ! w.getLast?==ar 32
theorem acb {w a}(b:xC w=bc)(hp:oM a w=bc):bk a.1+1<w.length:=by
 unfold xC at b;unfold oM dL at hp;simp only[aX,decide_eq_true_eq,Bool.not_eq_true',beq_eq_false_iff_ne,beq_iff_eq]at b hp;let ⟨d,c⟩:=hp;rw[bK]at d c;rcases Nat.lt_or_ge _ _ with h|h
 ·exact h
 ·exfalso;apply b.2;rw[hP (by omega)]at c;rw[c];simp
def il (w:ao) i  :=((w.getD i 0).toNat:Int)
theorem RL {w:ao}{i:Nat}(h:i<w.length):wV w ((i:Nat):Int)=ar (il w i):=by unfold wV il;rw[if_pos (by omega),b9,kM,dv h]<;>rfl
def U1 (d:List (ao))(c:bu)(a:(Y1).den):Int:=match d.find? (oM a)with|none=>5|some w=>bif fM (il w (bk a.1+1)) !=a.2.1 then 4 else bif c.any (λb=>b.1==a.1)then 4 else bif a.2.1==1 then (bif !aQ 1 a.2.2.1 then 4 else 0)else 0
def U2 (b:List (ao)):bu->bu->Int
 |_,[]=>0
 |pre,a::r=>bif U1 b pre a !=0 then U1 b pre a else U2 b (pre++[a]) r
def neO (a:bu) w  :=je (dd w)&&(a.find? (ie (fN w) (fM (il (dd w++[32]) 0)))).isNone
theorem ak1 w:(dd w).length<=w.length:=by unfold dd;cases a7 (js w 32>=0)with|false=>simp|true=>rw[ai,km];omega
theorem at2 {op nm ins out c b}(x:c.length<=2147483647)(k:b.length<=2147483648)(l:∀w∈b,xC w=bc):∀(r j d),j+r=b.length->r<d->
  lp zr fS Om d (Oo op nm ins out c b (j:Nat)) atX=ar (.ret [I (bif (b.drop j).any (neO c)then 4 else 0)],[]):=by
 intro r
 induction r with
 |zero=>intro j d m n;obtain⟨d,rfl⟩:∃f,d=f+1:=⟨d-1,by omega⟩;rw[aca,cq (show¬((j:Nat))<bd b.length by simp only[aK];omega),al,ly (by omega)];exact at1 op nm ins out c b _
 |succ r o=>
  intro j d m n;obtain⟨d,rfl⟩:∃f,d=f+1:=⟨d-1,by omega⟩;let key:=o (j+1) d (by omega) (by omega);let h:j<b.length:=by omega
  have p:idx b (j:Nat)=ar b[j]:=by unfold idx;rw[if_pos (by omega),b9,dv]
  have q  :=sW h;have e:=l b[j] (rm h);let g  :=by unfold xC at e;rw[aX]at e;exact bt e.1
  generalize b[j]=w at*;let y:=ak1 w;let s:i64.wrap ((j:Nat)+1)=(j+1:Nat):=by rw[aH (by omega) (by omega)];omega
  let t:wV (dd w++[32]) 0=ar (il (dd w++[32]) 0):=RL (i:=0) (by rw[bK];exact Nat.succ_pos _);let e1:a7 (cc (λa=>a.fst==fN w&&a.snd.fst==fM (il (dd w++[32]) 0)) c<0)=(c.find? (ie (fN w) (fM (il (dd w++[32]) 0)))).isNone:=n9 _ _;let e2:te (λa=>a.fst==fN w&&a.snd.fst==fM (il (dd w++[32]) 0)) c=c.find? (ie (fN w) (fM (il (dd w++[32]) 0))):=rfl;rw[aca,aF (show (j:Nat)<bd b.length by simp only[aK];omega),ai,p,aw,aF g,ai,if_pos (show (dd w).length+1<4611686018427387904 by omega),aw,t,aw,aF (show c.length<=9223372036854775807 by omega),ai,aF (show (dd w).length<=2147483648 by omega),ai,s,e1,e2,q,List.any_cons];let u:neO c w=(je (dd w)&&(c.find? (ie (fN w) (fM (il (dd w++[32]) 0)))).isNone):=rfl;rw[u];cases z:c.find? (ie (fN w) (fM (il (dd w++[32]) 0)))with
  |none=>cases v:je (dd w)with|true=>show _=_;kernel_rfl|false=>exact key
  |some a=>simp only[WL,al,aw,ai,Bool.and_false,IN];cases v:je (dd w)with|true=>exact key|false=>exact key
def iS a ag  :=bif U2 a [] ag !=0 then U2 a [] ag else bif a.any (neO ag)then 4 else 0
theorem acd {b:Type}{a r:List b}{L:List b}(h:L=a++r):(if (0:Int)<=0/\0<=((a.length:Nat):Int)/\((a.length:Nat):Int)<=bd L.length then ar (fb 0 (gy ((a.length:Nat):Int).toNat L))else a6)=ar a:=by rw[if_pos ⟨by omega,by omega,by rw[h,bK];simp only[aK];omega⟩,b9,h,List.take_left]<;>rfl
theorem at3 {op nm:ao}{ins:List (ao)}{out:ao}{g:bu}{d:List (ao)}(o:aE g=bc)(j:d.length<=2147483648)(p:∀w∈d,xC w=bc):∀(e c:bu) (f:Nat),g=c++e->e.length<f->
  lp zr fS Ol f (On op nm ins out g d ((c.length:Nat):Int)) KAr=ar (.ret [I (bif U2 d c e !=0 then U2 d c e else bif d.any (neO g)then 4 else 0)],[]):=by
 have h:=bz o
 intro e
 induction e with
 |nil=>
  intro c f hp q;obtain⟨f,rfl⟩:∃k,f=k+1:=⟨f-1,by omega⟩;have t:g.length=c.length:=by rw[hp,eT]
  rw[ab9,cq (show¬(((c.length:Nat):Int)<bd g.length) by simp only[aK];omega),al];refine(atZ op nm ins out g d _).trans ?_;have key:=at2 (op:=op) (nm:=nm) (ins:=ins) (out:=out) h j p d.length 0 fu (by omega) (by unfold fu;omega);rw[List.drop_zero]at key;exact key
 |cons a r u=>
  intro c f hp q;obtain⟨f,rfl⟩:∃k,f=k+1:=⟨f-1,by omega⟩;have key:=u (c++[a]) f (by rw[hp,gl]<;>rfl) (by simp only[bs]at q;omega);have t:g.length=c.length+(r.length+1):=by rw[hp,bK,bs]
  have s:=jI o (a:=a) (by rw[hp];simp);have v:idx g ((c.length:Nat):Int)=ar a:=by rw[hp];exact sF c a r
  have x:i64.wrap (((c.length:Nat):Int)+1)=(((c++[a]).length:Nat):Int):=by rw[bK,bs,eO,aH (by omega) (by omega)];omega
  have e1:a7 (cc (λw=>dL w (a.fst++[32])) d<0)=(d.find? (oM a)).isNone:=n9 _ _;have e2:idx d (cc (λw=>dL w (a.fst++[32])) d)=d.find? (oM a):=BS _ _;have y:i64.wrap (bd (bk a.1)+1)=((bk a.1+1:Nat):Int):=by have:=s.1;simp only[aK];rw[aH (by omega) (by omega)];omega
  have z:U2 d c (a::r)=bif U1 d c a !=0 then U1 d c a else U2 d (c++[a]) r:=rfl
  rw[ab9,aF (show ((c.length:Nat):Int)<bd g.length by simp only[aK];omega),ai,v,aw,aF (show d.length<=9223372036854775807/\bk a.1<=2147483647 from⟨by omega,s.1⟩),ai,e1,e2,acd hp,y,x,z];cases i:d.find? (oM a)with
  |none=>
   have l:U1 d c a=5:=by unfold U1;rw[i]
   rw[l];show _=_;kernel_rfl
  |some w=>
   have m:oM a w=bc:=List.find?_some i;have n:=acb (p w (kq i)) m;have l:U1 d c a=bif fM (il w (bk a.1+1)) !=a.2.1 then 4 else bif c.any (λb=>b.1==a.1)then 4 else bif a.2.1==1 then (bif !aQ 1 a.2.2.1 then 4 else 0)else 0:=by unfold U1;rw[i]
   rw[WL,al,aw,RL n,aw,aw,aF (show c.length<=9223372036854775807 by omega),ai,l];cases fM (il w (bk a.1+1)) !=a.2.1 with
   |true=>show _=_;kernel_rfl
   |false=>
    simp only[al];cases c.any (λb=>b.1==a.1)with
    |true=>show _=_;kernel_rfl
    |false=>
     simp only[al];cases a.2.1==1 with
     |true=>simp only[ai];cases !aQ 1 a.2.2.1 with|true=>show _=_;kernel_rfl|false=>exact key
     |false=>exact key
def cv (r:ao)  :=cJ (r++[44,116,104,101,110,32,120])
def rH r  :=a7 (r.length<=1000000)&&(cv r).all xC
theorem ak2 {f g:ao}{a:List (ao)}{b:ao}{c:bu}{r:ao}(h:aE c=bc)(e:rH r=bc):aB zr f143 7 [(3,[2,5,20,21,22]),(14,[2,63,64,65])] [dU f g a b c,.d .str r] [] ah=ar (.ret [I (iS (cv r) c)],[]):=by
 unfold rH at e;rw[aX]at e;have k:=bt e.1;have j:=gv.1 e.2;have l:(r++[44,116,104,101,110,32,120]).length=r.length+7:=by rw[bK]<;>rfl
 have m:=sG (r++[44,116,104,101,110,32,120]);rw[atW,if_pos (show r.length+7<4611686018427387904 by omega),aw];change (bif a7 (bk (α:=UInt8) (r++[44,116,104,101,110,32,120])<=2147483647)then _ else _)=_;rw[aF (show bk (α:=UInt8) (r++[44,116,104,101,110,32,120])<=2147483647 by omega),ai];have i:=bz h;refine(at0 f g a b c (cv r)).trans ?_;exact at3 h (by unfold cv;omega) j c [] fu rfl (by unfold fu;omega)
def at5 :List AV->LHp->Tq
 |[.d Y2 (_,_,_,_,a,_),.d .str r],[]=>.br (aE a&&rH r) (.leaf (.ret [I (iS (cv r) a)]) []) .no
 |_,_=>.no
theorem ak3 :bq 143 (ay at5):=by
 let e:=bM (d:=7) (l:=[(3,[2,5,20,21,22]),(14,[2,63,64,65])]) ab8 func143 call143;refine aY λc g h i a=>?_
 unfold at5 at a;split at a
 ·let ⟨b,f⟩:=eN a;rw[aX]at b;exact e.okC ((ak2 b.1 b.2).trans f)
 ·cases a
def gRo  :=g15.add 193 (fnE akB)
theorem ace :gRo.Good:=rA.add RD
def iH  :=ak [.d ((aa).pair ((aa).pair (fa.pair .unit))) (2,2,[],bn),B bc]
def Ab  :=ak [.d ((aa).pair ((aa).pair (fa.pair .unit))) (1,1,[97,120,101,115,32,115,44,107,101,101,112,100,105,109,115,32,105],bn),B bc]
def Ha  :=ak [.d ((aa).pair ((aa).pair (fa.pair .unit))) (1,1,[107,101,114,110,101,108,95,115,104,97,112,101,32,115,42,44,115,116,114,105,100,101,115,32,115,44,112,97,100,115,32,115],bn),B bc]
def Hb  :=ak [.d ((aa).pair ((aa).pair (fa.pair .unit))) (1,1,[115,104,97,112,101,32,115,42],bn),B bc]
def Hc  :=ak [.d ((aa).pair ((aa).pair (fa.pair .unit))) (1,1,[97,120,101,115,32,115,42],bn),B bc]
def Hd  :=ak [.d ((aa).pair ((aa).pair (fa.pair .unit))) (1,1,[97,120,105,115,32,105],bn),B bc]
theorem at6 (a:ao):aB gRo f141 7 [] [.d .str a] [] ah=bif a==BM then ak [.d ((aa).pair ((aa).pair (fa.pair .unit))) (1,1,[],bn),B bc]else bif a==Uv then iH else bif a==zl5 then iH else bif a==Uy then iH else bif a==Ux then iH else bif a==Uw then iH else bif a==zl7 then iH else bif a==zl8 then iH else bif a==[79,114]then iH else bif a==zl9 then iH else bif a==tY then iH else bif a==xk then iH else bif a==xm then iH else bif a==DV then iH else bif a==nO then ak [.d ((aa).pair ((aa).pair (fa.pair .unit))) (3,3,[],bn),B bc]else bif a==GJ then ak [.d ((aa).pair ((aa).pair (fa.pair .unit))) (1,1,[109,105,110,32,102,44,109,97,120,32,102],bn),B bc]else bif a==m8 then ak [.d ((aa).pair ((aa).pair (fa.pair .unit))) (1,1,[116,111,32,105,42],bn),B bc]else bif a==vk then Ab else bif a==vl then Ab else bif a==Kd then Ab else bif a==qD then ak [.d ((aa).pair ((aa).pair (fa.pair .unit))) (1,1,[97,120,105,115,32,105,44,107,101,101,112,100,105,109,115,32,105],bn),B bc]else bif a==zg then Hb else bif a==zh then Hb else bif a==zi then ak [.d ((aa).pair ((aa).pair (fa.pair .unit))) (1,1,[112,101,114,109,32,115],bn),B bc]else bif a==vm then ak [.d ((aa).pair ((aa).pair (fa.pair .unit))) (1,20,[97,120,105,115,32,105,42],bn),B bc]else bif a==zj then ak [.d ((aa).pair ((aa).pair (fa.pair .unit))) (1,1,[115,116,97,114,116,115,32,115,42,44,101,110,100,115,32,115,42,44,97,120,101,115,32,115],bn),B bc]else bif a==qE then ak [.d ((aa).pair ((aa).pair (fa.pair .unit))) (2,2,[97,120,105,115,32,105],bn),B bc]else bif a==GK then ak [.d ((aa).pair ((aa).pair (fa.pair .unit))) (1,1,[112,97,100,115,32,115,42,44,118,97,108,117,101,32,102],bn),B bc]else bif a==zk then Hc else bif a==zl then Hc else bif a==Ke then Hd else bif a==Kf then Hd else bif a==BN then ak [.d ((aa).pair ((aa).pair (fa.pair .unit))) (2,3,[116,114,97,110,115,65,32,105,44,116,114,97,110,115,66,32,105,44,97,108,112,104,97,32,102,44,98,101,116,97,32,102],bn),B bc]else bif a==jT then ak [.d ((aa).pair ((aa).pair (fa.pair .unit))) (2,3,[115,116,114,105,100,101,115,32,115,44,112,97,100,115,32,115,44,100,105,108,97,116,105,111,110,115,32,115,44,103,114,111,117,112,32,105],bn),B bc]else bif a==lL then Ha else bif a==qF then Ha else bif a==DW then ak [.d ((aa).pair ((aa).pair (fa.pair .unit))) (5,5,[101,112,115,105,108,111,110,32,102],bn),B bc]else bif a==oK then ak [.d ((aa).pair ((aa).pair (fa.pair .unit))) (0,0,[118,97,108,117,101,32,116,42],bn),B bc]else ak [.d ((aa).pair ((aa).pair (fa.pair .unit))) (1,1,[],bn),B (dV a)]:=by kernel_rfl
def oc (a:ao):Option (Int×Int×ao×Unit):=
 bif a==BM then ar (1,1,[],())else
 bif a==Uv then ar (2,2,[],())else
 bif a==zl5 then ar (2,2,[],())else
 bif a==Uy then ar (2,2,[],())else
 bif a==Ux then ar (2,2,[],())else
 bif a==Uw then ar (2,2,[],())else
 bif a==zl7 then ar (2,2,[],())else
 bif a==zl8 then ar (2,2,[],())else
 bif a==[79,114]then ar (2,2,[],())else
 bif a==zl9 then ar (2,2,[],())else
 bif a==tY then ar (2,2,[],())else
 bif a==xk then ar (2,2,[],())else
 bif a==xm then ar (2,2,[],())else
 bif a==DV then ar (2,2,[],())else
 bif a==nO then ar (3,3,[],())else
 bif a==GJ then ar (1,1,[109,105,110,32,102,44,109,97,120,32,102],())else
 bif a==m8 then ar (1,1,[116,111,32,105,42],())else
 bif a==vk then ar (1,1,[97,120,101,115,32,115,44,107,101,101,112,100,105,109,115,32,105],())else
 bif a==vl then ar (1,1,[97,120,101,115,32,115,44,107,101,101,112,100,105,109,115,32,105],())else
 bif a==Kd then ar (1,1,[97,120,101,115,32,115,44,107,101,101,112,100,105,109,115,32,105],())else
 bif a==qD then ar (1,1,[97,120,105,115,32,105,44,107,101,101,112,100,105,109,115,32,105],())else
 bif a==zg then ar (1,1,[115,104,97,112,101,32,115,42],())else
 bif a==zh then ar (1,1,[115,104,97,112,101,32,115,42],())else
 bif a==zi then ar (1,1,[112,101,114,109,32,115],())else
 bif a==vm then ar (1,20,[97,120,105,115,32,105,42],())else
 bif a==zj then ar (1,1,[115,116,97,114,116,115,32,115,42,44,101,110,100,115,32,115,42,44,97,120,101,115,32,115],())else
 bif a==qE then ar (2,2,[97,120,105,115,32,105],())else
 bif a==GK then ar (1,1,[112,97,100,115,32,115,42,44,118,97,108,117,101,32,102],())else
 bif a==zk then ar (1,1,[97,120,101,115,32,115,42],())else
 bif a==zl then ar (1,1,[97,120,101,115,32,115,42],())else
 bif a==Ke then ar (1,1,[97,120,105,115,32,105],())else
 bif a==Kf then ar (1,1,[97,120,105,115,32,105],())else
 bif a==BN then ar (2,3,[116,114,97,110,115,65,32,105,44,116,114,97,110,115,66,32,105,44,97,108,112,104,97,32,102,44,98,101,116,97,32,102],())else
 bif a==jT then ar (2,3,[115,116,114,105,100,101,115,32,115,44,112,97,100,115,32,115,44,100,105,108,97,116,105,111,110,115,32,115,44,103,114,111,117,112,32,105],())else
 bif a==lL then ar (1,1,[107,101,114,110,101,108,95,115,104,97,112,101,32,115,42,44,115,116,114,105,100,101,115,32,115,44,112,97,100,115,32,115],())else
 bif a==qF then ar (1,1,[107,101,114,110,101,108,95,115,104,97,112,101,32,115,42,44,115,116,114,105,100,101,115,32,115,44,112,97,100,115,32,115],())else
 bif a==DW then ar (5,5,[101,112,115,105,108,111,110,32,102],())else
 bif a==oK then ar (0,0,[118,97,108,117,101,32,116,42],())else
 a6
def bW a  :=(oc a).getD (1,1,[],())
def od a  :=(oc a).isSome||dV a
def at7 :List AV->LHp->Option (aq×LHp)
 |[.d .str a],[]=>ar (.ret [.d (Y8) (bW a),B (od a)],[])
 |_,_=>a6
theorem ak4 (a:ao):aB gRo f141 7 [] [.d .str a] [] ah=ar (.ret [.d Y8 (bW a),B (od a)],[]):=by
 rw[at6];simp only[iH,Ab,Ha,Hb,Hc,Hd];unfold bW od oc;cases a==BM;rotate_left
 ·rfl
 cases a==Uv;rotate_left
 ·rfl
 cases a==zl5;rotate_left
 ·rfl
 cases a==Uy;rotate_left
 ·rfl
 cases a==Ux;rotate_left
 ·rfl
 cases a==Uw;rotate_left
 ·rfl
 cases a==zl7;rotate_left
 ·rfl
 cases a==zl8;rotate_left
 ·rfl
 cases a==[79,114];rotate_left
 ·rfl
 cases a==zl9;rotate_left
 ·rfl
 cases a==tY;rotate_left
 ·rfl
 cases a==xk;rotate_left
 ·rfl
 cases a==xm;rotate_left
 ·rfl
 cases a==DV;rotate_left
 ·rfl
 cases a==nO;rotate_left
 ·rfl
 cases a==GJ;rotate_left
 ·rfl
 cases a==m8;rotate_left
 ·rfl
 cases a==vk;rotate_left
 ·rfl
 cases a==vl;rotate_left
 ·rfl
 cases a==Kd;rotate_left
 ·rfl
 cases a==qD;rotate_left
 ·rfl
 cases a==zg;rotate_left
 ·rfl
 cases a==zh;rotate_left
 ·rfl
 cases a==zi;rotate_left
 ·rfl
 cases a==vm;rotate_left
 ·rfl
 cases a==zj;rotate_left
 ·rfl
 cases a==qE;rotate_left
 ·rfl
 cases a==GK;rotate_left
 ·rfl
 cases a==zk;rotate_left
 ·rfl
 cases a==zl;rotate_left
 ·rfl
 cases a==Ke;rotate_left
 ·rfl
 cases a==Kf;rotate_left
 ·rfl
 cases a==BN;rotate_left
 ·rfl
 cases a==jT;rotate_left
 ·rfl
 cases a==lL;rotate_left
 ·rfl
 cases a==qF;rotate_left
 ·rfl
 cases a==DW;rotate_left
 ·rfl
 cases a==oK
 ·rfl
 rfl
theorem ak5 :bq 141 (fnE at7):=by
 refine jF ace cZ func141 call141 (depth:=7) (live:=[]) (by decide +kernel) rfl λa b p h=>?_
 unfold at7 at h;split at h
 ·cases h;exact ak4 _
 ·cases h
theorem U3 a:rH (bW a).2.2.1=bc:=by
 unfold bW oc;cases a==BM;rotate_left
 ·kernel_rfl
 cases a==Uv;rotate_left
 ·kernel_rfl
 cases a==zl5;rotate_left
 ·kernel_rfl
 cases a==Uy;rotate_left
 ·kernel_rfl
 cases a==Ux;rotate_left
 ·kernel_rfl
 cases a==Uw;rotate_left
 ·kernel_rfl
 cases a==zl7;rotate_left
 ·kernel_rfl
 cases a==zl8;rotate_left
 ·kernel_rfl
 cases a==[79,114];rotate_left
 ·kernel_rfl
 cases a==zl9;rotate_left
 ·kernel_rfl
 cases a==tY;rotate_left
 ·kernel_rfl
 cases a==xk;rotate_left
 ·kernel_rfl
 cases a==xm;rotate_left
 ·kernel_rfl
 cases a==DV;rotate_left
 ·kernel_rfl
 cases a==nO;rotate_left
 ·kernel_rfl
 cases a==GJ;rotate_left
 ·kernel_rfl
 cases a==m8;rotate_left
 ·kernel_rfl
 cases a==vk;rotate_left
 ·kernel_rfl
 cases a==vl;rotate_left
 ·kernel_rfl
 cases a==Kd;rotate_left
 ·kernel_rfl
 cases a==qD;rotate_left
 ·kernel_rfl
 cases a==zg;rotate_left
 ·kernel_rfl
 cases a==zh;rotate_left
 ·kernel_rfl
 cases a==zi;rotate_left
 ·kernel_rfl
 cases a==vm;rotate_left
 ·kernel_rfl
 cases a==zj;rotate_left
 ·kernel_rfl
 cases a==qE;rotate_left
 ·kernel_rfl
 cases a==GK;rotate_left
 ·kernel_rfl
 cases a==zk;rotate_left
 ·kernel_rfl
 cases a==zl;rotate_left
 ·kernel_rfl
 cases a==Ke;rotate_left
 ·kernel_rfl
 cases a==Kf;rotate_left
 ·kernel_rfl
 cases a==BN;rotate_left
 ·kernel_rfl
 cases a==jT;rotate_left
 ·kernel_rfl
 cases a==lL;rotate_left
 ·kernel_rfl
 cases a==qF;rotate_left
 ·kernel_rfl
 cases a==DW;rotate_left
 ·kernel_rfl
 cases a==oK
 ·kernel_rfl
 kernel_rfl
def RM  :=aU f194
def ak6  :=cL (cL (cR (cL (cR RM))))
def l7 :Cfg:=⟨19,5,0,[(2,[0,1,7,8])],bc⟩
def acf (a:List ao)(v:ao)(i:Int):LSt:=⟨az 5 [(0,.d (.slice .str) a),(1,.d .str v),(7,I (.ofNat a.length)),(8,I i)],[],0⟩
theorem aua (a:List ao)(v:ao):aB g15 f194 5 [(2,[0,1,7,8])] [.d (.slice .str) a,.d .str v] [] ah=(hlp g15 l7) ak6 _ (acf a v 0) (aI 0 (aL g15 l7 [2] (hlp g15 l7) (cR (cR RM)) (aV prog 0 f194.results.toList ah))):=(aW [2] l7 rfl).trans (by obtain⟨b,h⟩:=aM g15 l7;rw[h];kernel_rfl)
theorem aub a v i n {R} (k:AEx->LSt->Option R):lp g15 l7 ak6 (n+1) (acf a v i) k=bif a7 (i<.ofNat a.length)then (idx a i).bind λb=>bif v==b then k .ret ⟨az 5 [(0,.d fa.slice a),(1,.d .str v),(4,I i),(5,I i),(7,I (.ofNat a.length)),(8,I i),(9,B bc),(10,I i),(11,.d .str v),(12,.d fa.slice a),(13,I i),(14,.ip .str b),(15,.d .str b),(16,B bc),(17,I i)],[],0⟩else lp g15 l7 ak6 n (acf a v (i64.wrap (i+1))) k else k (.exit 0) ⟨az 5 [(0,.d fa.slice a),(1,.d .str v),(7,I (.ofNat a.length)),(8,I i),(9,B a8)],[],0⟩:=by kernel_rfl
theorem ak7 {a:List ao}{v:ao}(b:a.length<=maxLen):aB g15 f194 5 [(2,[0,1,7,8])] [.d (.slice .str) a,.d .str v] [] ah=ar (.ret [I (cc (λw=>v==w) a)],[]):=by
 rw[aua];let c:=λi n=>aub a v i n (aI 0 (aL g15 l7 [2] (hlp g15 l7) (cR (cR RM)) (aV prog 0 f194.results.toList ah)))
 let h:=fF (T:=λn s=>lp g15 l7 ak6 n s _) b c;refine h.trans ?_;unfold cc;cases e:a.findIdx? _ with|none=>kernel_rfl|some i=>let ⟨f,_⟩:=fk.1 e;simp only[dv f,aw];show _=_;kernel_rfl
def auc :List AV->LHp->Tq
 |[.d (.slice .str) a,.d .str v],[]=>.br (a7 (a.length<=maxLen)) (.leaf (.ret [I (cc (λw=>v==w) a)]) []) .no
 |_,_=>.no
theorem ak8 :bq 194 (ay auc):=by
 refine dh rA cZ func194 call194 (depth:=5) (live:=[(2,[0,1,7,8])]) (by decide +kernel) rfl λb c p h=>?_
 unfold auc at h;split at h
 ·let ⟨a,h⟩:=eN h;cases h;let a:=bt a;exact ak7 a
 ·cases h
noncomputable def gCx  :=g15.add 194 (ay auc)
theorem acg :gCx.Good:=rA.add ak8
theorem aud (a:List ao)(v:ao):aB gCx f142 4 [] [.d (.slice .str) a,.d .str v] [] ah=bif a7 (a.length<=9223372036854775807)then ak [B (a7 (cc (λw=>v==w) a>=0))]else a6:=by kernel_rfl
def aue :List AV->LHp->Tq
 |[.d (.slice .str) a,.d .str v],[]=>.br (a7 (a.length<=maxLen)) (.leaf (.ret [B (a.any λw=>v==w)]) []) .no
 |_,_=>.no
theorem ak9 :bq 142 (ay aue):=by
 let c:=bM (d:=4) (l:=[]) acg func142 call142;refine aY λb e f g a=>?_
 unfold aue at a;split at a
 ·refine c.okC ((aud _ _).trans ?_);rw[vC];exact a
 ·cases a
def auf :List AV->LHp->Tq
 |[.d Y0 v],[]=>.br (a7 (bk v.2.1<=maxLen/\bk v.2.2.1<=maxLen)) (.leaf (.ret [I (gz v.1 v.2.1 v.2.2.1)]) []) .no
 |_,_=>.no
theorem ala :bq 57 (ay auf):=by
 refine aY λb c d e a=>?_
 unfold auf at a;split at a
 ·exact QM.2 _ _ _ _ a
 ·cases a
noncomputable def gKc  :=(((((g36.add 141 (fnE at7)).add 142 (ay aue)).add 143 (ay at5)).add 144 (ay akH)).add 64 (ay Oh)).add 57 (ay auf)
theorem ach :gKc.Good:=(((((na.add ak5).add ak9).add ak3).add RG).add vB).add ala
noncomputable def He (d:ao)(c:bu)  :=bif a7 (c.length<=9223372036854775807)then bif a7 (cc (λa=>a.fst==aij&&a.snd.fst==4) c<0)then ak [I 0]else (te (λa=>a.fst==aij&&a.snd.fst==4) c).bind λb=>bif d==oK then bif a7 (bk b.2.2.2.2.2.1.2.1<=9223372036854775807/\bk b.2.2.2.2.2.1.2.2.1<=9223372036854775807)then ak [I (gz b.2.2.2.2.2.1.1 b.2.2.2.2.2.1.2.1 b.2.2.2.2.2.1.2.2.1)]else a6 else ak [I 0]else a6
theorem aug b e a d c:aB gKc f102 7 [] [dU b e a d c] [] ah=bif !od b then ak [I 5]else bif a7 (.ofNat a.length<(bW b).1)then ak [I 4]else bif a7 (.ofNat a.length>(bW b).2.1)then ak [I 4]else bif d==[]then ak [I 5]else bif a7 (a.length<=9223372036854775807)then bif a.any λw=>[]==w then ak [I 5]else bif aE c&&rH (bW b).2.2.1 then bif iS (cv (bW b).2.2.1) c !=0 then ak [I (iS (cv (bW b).2.2.1) c)]else bif aE c then bif kZ c then He b c else bif fY c then ak [I 4]else He b c else a6 else a6 else a6:=by kernel_rfl
def cH :ao:=oK
def di :ao:=aij
def nf (b:bu)  :=b.all λa=>decide (bk a.2.2.2.2.2.1.2.1<=maxLen/\bk a.2.2.2.2.2.1.2.2.1<=maxLen)
def oN (b:ao)(c:bu):Int:=match c.find? (ie di 4)with|none=>0|some a=>bif b==cH then gz a.2.2.2.2.2.1.1 a.2.2.2.2.2.1.2.1 a.2.2.2.2.2.1.2.2.1 else 0
def Ac (a:ao)(b:List ao)(c:ao) ag  :=
 bif !od a then 5 else bif a7 (.ofNat b.length<(bW a).1)then 4 else bif a7 (.ofNat b.length>(bW a).2.1)then 4 else
 bif c==[]then 5 else bif b.any λw=>[]==w then 5 else bif iS (cv (bW a).2.2.1) ag !=0 then iS (cv (bW a).2.2.1) ag else
 bif kZ ag then oN a ag else bif fY ag then 4 else oN a ag
theorem aci {d j b e c}(k:b.length<=maxLen)(g:aE c=bc)(l:nf c=bc):aB gKc f102 7 [] [dU d j b e c] [] ah=ar (.ret [I (Ac d b e c)],[]):=by
 let h:=bz g
 let i:(bif decide _ then ak _
   else (te _ c).bind λv=>
    bif d==cH then bif a7 (bk v.2.2.2.2.2.1.2.1<=9223372036854775807/\bk v.2.2.2.2.2.1.2.2.1<=9223372036854775807)then ak _ else a6 else ak _)=ak [I (oN d c)]:=by
  rw[n9]
  unfold oN
  cases m:c.find? _ with|none=>rfl|some a=>let n:=gv.1 l a (kq m);let f:a7 (bk a.2.2.2.2.2.1.2.1<=9223372036854775807/\bk a.2.2.2.2.2.1.2.2.1<=9223372036854775807)=bc:=n;simp only[WL,al,aw,f,ai];cases d==cH<;>rfl
 rw[aug];simp only[He];rw[g,U3,aF (show b.length<=9223372036854775807 from k),aF (by omega:c.length<=9223372036854775807)];unfold Ac;cases !od d with
 |true=>rfl
 |false=>
  cases a7 (.ofNat _<(bW d).1)with
  |true=>rfl
  |false=>
   cases a7 (.ofNat _>(bW d).2.1)with
   |true=>rfl
   |false=>
    cases e==[]with
    |true=>rfl
    |false=>
     cases b.any _ with
     |true=>rfl
     |false=>
      cases iS _ c !=0 with
      |true=>rfl
      |false=>
       cases kZ c with|true=>exact i|false=>cases fY c with|true=>rfl|false=>exact i
def acj :List AV->LHp->Tq
 |[.d Y2 (e,_,a,b,c,_)],[]=>.br (a7 (a.length<=maxLen)&&(aE c&&nf c)) (.leaf (.ret [I (Ac e a b c)]) []) .no
 |_,_=>.no
theorem ack :bq 102 (ay acj):=by
 let e:=bM (d:=7) (l:=[]) ach func102 call102;refine aY λc g h i a=>?_
 unfold acj at a;split at a
 ·let ⟨b,f⟩:=eN a;rw[aX,aX]at b;exact e.okC ((aci (bt b.1) b.2.1 b.2.2).trans f)
 ·cases a
def RN  :=aU f252
def alb  :=cL (cL (cR (cL (cR RN))))
def l8 :Cfg:=⟨19,5,1,[(2,[0,1,7,8])],bc⟩
def Lv (z:Bool)(a:af):LHp:=[(0,.arr 3 aa 0 z a)]
def acm (z:Bool)(a:af)(v i:Int):LSt:=⟨az 5 [(0,.os 0 0),(1,I v),(7,I (.ofNat a.length)),(8,I i)],Lv z a,2⟩
theorem auh z a v:aB nP f252 5 [(2,[0,1,7,8])] [.os 0 0,I v] (Lv z a) ah=(hlp nP l8) alb _ (acm z a v 0) (aI 0 (aL nP l8 [2] (hlp nP l8) (cR (cR RN)) (aV prog 1 f252.results.toList ah))):=(aW [2] l8 rfl).trans (by obtain⟨b,h⟩:=aM nP l8;rw[h];kernel_rfl)
theorem aui z a v i n {R} (k:AEx->LSt->Option R):lp nP l8 alb (n+1) (acm z a v i) k=bif a7 (i<.ofNat a.length)then (idx a i).bind λc=>(a[i.toNat]?).bind λb=>bif v==b then k .ret ⟨az 5 [(0,.os 0 0),(1,I v),(4,I i),(5,I i),(7,I (.ofNat a.length)),(8,I i),(9,B bc),(10,I i),(11,I v),(12,.os 0 0),(13,I i),(14,.oe 0 0 i.toNat),(15,I b),(16,B bc),(17,I i)],[(0,.arr 3 aa 0 z a)],2⟩else lp nP l8 alb n (acm z a v (i64.wrap (i+1))) k else k (.exit 0) ⟨az 5 [(0,.os 0 0),(1,I v),(7,I (.ofNat a.length)),(8,I i),(9,B a8)],[(0,.arr 3 aa 0 z a)],2⟩:=by kernel_rfl
theorem alc {z a v}(c:a.length<=maxLen):aB nP f252 5 [(2,[0,1,7,8])] [.os 0 0,I v] (Lv z a) ah=ar (.ret [I (cc (λw=>v==w) a)],Lv z a):=by
 rw[auh];let b:=λi n=>aui z a v i n (aI 0 (aL nP l8 [2] (hlp nP l8) (cR (cR RN)) (aV prog 1 f252.results.toList ah)))
 simp only[aCI]at b;let h:=fF (T:=λn s=>lp nP l8 alb n s _) c b;refine h.trans ?_;unfold cc;cases d:a.findIdx? _ with|none=>kernel_rfl|some i=>let ⟨e,_⟩:=fk.1 d;simp only[dv e,aw];show _=_;kernel_rfl
def auj :List AV->LHp->Tq
 |[.os 0 0,.d zI v],[(0,.arr 3 zI 0 z a)]=>.br (a7 (a.length<=maxLen)) (.leaf (.ret [I (cc (λw=>v==w) a)]) (Lv z a)) .no
 |_,_=>.no
theorem ald :bq 252 (ay auj):=by
 refine dh nc cZ func252 call252 (depth:=5) (live:=[(2,[0,1,7,8])]) (by decide +kernel) rfl λb c p h=>?_
 unfold auj at h;split at h
 ·let ⟨a,h⟩:=eN h;cases h;let a:=bt a;exact alc a
 ·cases h
def gCi  :=g70.add 252 (ay auj)
theorem acn :gCi.Good:=vu.add ald
theorem auk z a v:aB gCi f212 4 [] [.os 0 0,I v] (Lv z a) ah=bif a7 (a.length<=9223372036854775807)then ar (.ret [B (a7 (cc (λw=>v==w) a>=0))],[(0,.arr 3 aa 0 z a)])else a6:=by kernel_rfl
theorem aul v:aB g70 f212 4 [] [.nils,I v] [] ah=ak [B a8]:=by kernel_rfl
def aum :List AV->LHp->Tq
 |[.os 0 0,.d zI v],[(0,.arr 3 zI 0 z a)]=>.br (a7 (a.length<=maxLen)) (.leaf (.ret [B (a.any λw=>v==w)]) (Lv z a)) .no
 |_,_=>.no
def aun :List AV->LHp->Tq
 |[.nils,.d zI _],[]=>.leaf (.ret [B a8]) []
 |_,_=>.no
theorem aEq {b p}{a:List b}:a7 (cc p a>=0)=a.any p:=vC
theorem ale :bq 212 (ay aum):=by
 let c:=bM (d:=4) (l:=[]) acn func212 call212;refine aY λb e f g a=>?_
 unfold aum at a;split at a
 ·refine c.okC ((auk _ _ _).trans ?_);rw[aEq];exact a
 ·cases a
theorem alf :bq 212 (ay aun):=by
 let c  :=Q2;refine aY λb d e f a=>?_
 unfold aun at a;split at a
 ·exact c.okC ((aul _).trans a)
 ·cases a
def ctF a b  :=orT (aun a b) (aum a b)
theorem auo :bq 212 (ay ctF):=lK alf ale
def uf k r  :=a7 (i64.wrap (0-r)<=k)&&a7 (k<r)
def kD k r  :=bif a7 (k<0)then i64.wrap (k+r)else k
theorem aup k r:aB g67 f149 5 [] [I k,I r] [] ah=bif a7 (i64.wrap (0-r)<=k)then bif !decide (k<r)then bF else bif a7 (k<0)then ak [I (i64.wrap (k+r))]else ak [I k]else bF:=by kernel_rfl
def U4 :List AV->LHp->Tq
 |[.d zI k,.d zI r],[]=>.br (uf k r) (.leaf (.ret [I (kD k r)]) []) (.leaf (.panic 131 4) [])
 |_,_=>.no
theorem Ad :bq 149 (ay U4):=by
 let c  :=Q1;refine aY λb d e f a=>?_
 unfold U4 at a;split at a
 ·rename_i k r
  refine c.okC ((aup k r).trans (gp ?_ a));unfold uf kD;cases a7 (i64.wrap _<=k)with|false=>rfl|true=>cases a7 (k<r)with|false=>rfl|true=>cases a7 (k<0)<;>rfl
 ·cases a
def apT  :=aU f211
def Hf  :=cL (cL (cR (cL (cR (cR apT)))))
def k8 :Cfg:=⟨29,5,0,[(3,[1,5,9,10,11])],bc⟩
def kE (T:Nat)(a:af):Option (aq×LHp):=match a with|[]=>ar (.ret [.nils],[])|x::r=>ar (.ret [.os 0 0],[(0,.arr T aa 0 a8 (x::r))])
theorem nh T a:fv (.slice aa) (kE T a)=ar (.ret [.d (.slice aa) a],[]):=by cases a<;>rfl
theorem Lw (T K:Nat)(a:af):fv (.slice aa) (bif a7 (a=[])then ak [.emp]else bif a7 (a.length<=K)then ar (.ret [.os 0 0],[(0,.arr T aa 0 a8 a)])else a6)=(Tq.br (a7 (a.length<=K)) (dat (.slice aa) a) .no).run ah:=by cases a with|nil=>rfl|cons x r=>cases a7 ((x::r).length<=K)<;>rfl
theorem ni {c}(h:aE c=bc) b {ot} (d:ot.length<=2147483648):(aj c b ot).length<=2147483648:=by unfold aj;cases e:c.find? _ with|none=>exact d|some a=>exact(jI h (kq e)).2.2
def auq :List AV->LHp->Tq
 |[.d Y2 (_,_,_,_,b,_),.d .str a,.d zS c],[]=>.br (aE b) (.br (a7 (c.length<=2147483648)) (dat (.slice aa) (aj b a c)) .no) .no
 |_,_=>.no
theorem alg :bq 25 (ay auq):=by
 have n:=bM (d:=5) (l:=[]) Cc func25 call25;refine aY λk g u v e=>?_
 unfold auq at e;split at e
 ·rename_i o p h i c _ b q;obtain⟨g,r⟩:=eN e;obtain⟨f,s⟩:=eN r;have f:=bt f;have m:=bz g;refine n.okO (.slice aa) (gp ?_ s);refine gp (congrArg (fv _) (ato o p h i c b q)) ?_;rw[aF (show c.length<=9223372036854775807 by omega),ai,n9];have j:=ni g b f;unfold aj at j⊢;change fv _ (bif (c.find? (ie b 7)).isNone then _ else (c.find? (ie b 7)).bind _)=_;cases t:c.find? (ie b 7)with|none=>refine(Lw _ _ _).trans ?_;rw[aF f]<;>rfl|some a=>rw[t]at j;refine(Lw _ _ _).trans ?_;rw[aF j]<;>rfl
 ·cases e
def zt  :=fC [Y2,.str,.slice aa] (ay auq)
theorem kc :bq 25 zt:=cn alg
def Oq (n i:Int):LSt:=⟨az 4 [(3,.nils),(5,I n),(6,I i)],[],0⟩
def U5 (o:af)(n i:Int):LSt:=⟨az 4 [(3,.os 0 0),(5,I n),(6,I i)],[(0,.arr 2 aa 0 a8 o)],1⟩
theorem aco m i n {R} (k:AEx->LSt->Option R):lp nP kY G9 (n+1) (Oq m i) k=bif a7 (i<m)then lp nP kY G9 n (U5 [i] m (i64.wrap (i+1))) k else k (.exit 0) ⟨az 4 [(3,.nils),(5,I m),(6,I i),(7,B a8)],[],0⟩:=by kernel_rfl
theorem acp c (o:af) m i n {R} (k:AEx->LSt->Option R):lp nP kY G9 (n+1) (U5 (c::o) m i) k=bif a7 (i<m)then (app (c::o) [i]).bind λa=>lp nP kY G9 n (U5 a m (i64.wrap (i+1))) k else k (.exit 0) ⟨az 4 [(3,.os 0 0),(5,I m),(6,I i),(7,B a8)],[(0,.arr 2 aa 0 a8 (c::o))],1⟩:=by kernel_rfl
def s7  :=(UI.add 149 (ay U4)).add 212 (ay ctF)
theorem E4 :s7.Good:=(ij.add Ad).add auo
def vD (l:af)(r i:Int):LSt:=⟨az 5 [(1,I r),(5,.nils),(9,.d (.slice aa) l),(10,I (.ofNat l.length)),(11,I i)],[],0⟩
def KAx  :=aI 0 (aL s7 k8 [3] (hlp s7 k8) (cR (cR (cR apT))) (aV prog 0 f211.results.toList ah))
theorem acq (l:af) r:aB s7 f211 5 [(3,[1,5,9,10,11])] [.d (.slice aa) l,I r] [] ah=(hlp s7 k8) Hf _ (vD l r 0) KAx:=(aW [3] k8 rfl).trans (by obtain⟨a,h⟩:=aM s7 k8;rw[h];kernel_rfl)
def Cf (o l:af)(r i:Int):LSt:=⟨az 5 [(1,I r),(5,.os 0 0),(9,.d (.slice aa) l),(10,I (.ofNat l.length)),(11,I i)],[(0,.arr 3 aa 0 a8 o)],1⟩
theorem acr l r i n {R} (k:AEx->LSt->Option R):lp s7 k8 Hf (n+1) (vD l r i) k=bif a7 (i<.ofNat l.length)then (idx l i).bind λa=>bif uf a r then lp s7 k8 Hf n (Cf [kD a r] l r (i64.wrap (i+1))) k else k (.panic 131 4) ⟨az 5 [(1,I r),(5,.nils),(7,I a),(9,.d (aa).slice l),(10,I (.ofNat l.length)),(11,I i),(12,B bc),(13,.ip aa a),(14,I a),(15,I a),(16,I r)],[],0⟩else k (.exit 0) ⟨az 5 [(1,I r),(5,.nils),(9,.d (aa).slice l),(10,I (.ofNat l.length)),(11,I i),(12,B a8)],[],0⟩:=by kernel_rfl
theorem acs c (o l:af) r i n {R} (k:AEx->LSt->Option R):lp s7 k8 Hf (n+1) (Cf (c::o) l r i) k=bif a7 (i<.ofNat l.length)then (idx l i).bind λa=>bif uf a r then bif a7 ((c::o).length<=9223372036854775807)then bif !!(c::o).any λw=>kD a r==w then k (.panic 131 4) ⟨az 5 [(1,I r),(5,.os 0 0),(7,I a),(8,I (kD a r)),(9,.d (aa).slice l),(10,I (.ofNat l.length)),(11,I i),(12,B bc),(13,.ip aa a),(14,I a),(15,I a),(16,I r),(17,I (kD a r)),(18,.os 0 0),(19,I (kD a r)),(20,B ((c::o).any λw=>kD a r==w)),(21,B !(c::o).any λw=>kD a r==w)],[(0,.arr 3 aa 0 a8 (c::o)),(0,.arr 3 aa 0 a8 (c::o))],2⟩else (app (c::o) [kD a r]).bind λb=>lp s7 k8 Hf n (Cf b l r (i64.wrap (i+1))) k else a6 else k (.panic 131 4) ⟨az 5 [(1,I r),(5,.os 0 0),(7,I a),(9,.d (aa).slice l),(10,I (.ofNat l.length)),(11,I i),(12,B bc),(13,.ip aa a),(14,I a),(15,I a),(16,I r)],[(0,.arr 3 aa 0 a8 (c::o))],1⟩else k (.exit 0) ⟨az 5 [(1,I r),(5,.os 0 0),(9,.d (aa).slice l),(10,I (.ofNat l.length)),(11,I i),(12,B a8)],[(0,.arr 3 aa 0 a8 (c::o))],1⟩:=by kernel_rfl
def fw (N:Nat):af:=(hW N).map .ofNat
def stU (m i:Int)(o:af):LSt:=match o with|[]=>Oq m i|c::o=>U5 (c::o) m i
theorem acu {N:Nat}(m:N<=2147483648):lp nP kY G9 fu (Oq (N:Int) 0) KUp=kE 2 (fw N):=by
 have p:maxLen=9223372036854775807:=by decide
 refine(fq (N:=N) (T:=λn s=>lp nP kY G9 n s KUp) (st:=stU (N:Int)) (f:=λo i=>.go (o++[(i:Int)])) (fin:=kE 2) (λi o=>o=fw i) (by omega) ?_ ?_ (a:=[]) rfl).trans ?_
 ·intro i o n d q e g
  subst d;refine .inl ⟨_,rfl,by simp[fw,List.range_succ],?_⟩;have b:(fw i).length=i:=by simp[fw]
  cases h:fw i with
  |nil=>show lp _ _ _ (n+1) (Oq (N:Int) (i:Int)) _=_;rw[aco,aF (show (i:Int)<(N:Int) by omega),ai,e]<;>rfl
  |cons c r=>
   have j:(c::r).length+[((i:Nat):Int)].length<=lim:=by rw[←h,b,eS,show lim=4294967296 from rfl];omega
   show lp _ _ _ (n+1) (U5 (c::r) (N:Int) (i:Int)) _=_;rw[acp,aF (show (i:Int)<(N:Int) by omega),ai,eX j,aw,e]<;>rfl
 ·intro o n d g;cases o with|nil=>show lp _ _ _ (n+1) (Oq (N:Int) (N:Int)) _=_;rw[aco,cq (show¬((N:Int)<(N:Int)) by omega),al];show _=_;kernel_rfl|cons c r=>show lp _ _ _ (n+1) (U5 (c::r) (N:Int) (N:Int)) _=_;rw[acp,cq (show¬((N:Int)<(N:Int)) by omega),al];show _=_;kernel_rfl
 ·have:∀(l:List Nat) (o:af),bG (λo i=>Nx.go (R:=aq×LHp) (o++[((i:Nat):Int)])) (kE 2) l o=kE 2 (o++l.map bd):=by
   intro l
   induction l with|nil=>intro o;rw[bG,Dr,eT]|cons a l k=>intro o;rw[bG];simp only;rw[k,gl]<;>rfl
  rw[this]<;>rfl
theorem apU m:hlp nP kY G9 _ (Oq m 0) KUp=lp nP kY G9 fu (Oq m 0) KUp:=rfl
def aur :List AV->LHp->Tq
 |[.d zI m],[]=>.br (a7 (0<=m/\m<=2147483648)) (dat (.slice aa) (fw m.toNat)) .no
 |_,_=>.no
theorem alh :bq 210 (ay aur):=by
 let c:=bM (d:=4) (l:=[(3,[3,5,6])]) nc func210 call210;refine aY λb i j k a=>?_
 unfold aur at a;split at a
 ·let ⟨e,f⟩:=eN a;let ⟨g,h⟩:=bt e;obtain⟨N,rfl⟩:=q8 g;refine c.okO (.slice aa) (gp ?_ f);refine gp (congrArg _ ((abS _).trans ((apU _).trans (acu (Int.ofNat_le.1 h))))) ?_;exact nh _ _
 ·cases a
noncomputable def aus  :=fC [aa] (ay aur)
theorem RO :bq 210 aus:=cn alh
def jy (l:af)(r:Int):af:=l.map λa=>kD a r
def dj (r:Int):List Int->List Int->Bool
 |[],_=>bc
 |a::l,o=>uf a r&&(!(o.any λw=>kD a r==w)&&dj r l (o++[kD a r]))
def aEs (l:af)(r i:Int)(o:af):LSt:=match o with|[]=>vD l r i|c::o=>Cf (c::o) l r i
def axN (r:Int)(o:af)(a:Int):Nx af (aq×LHp):=bif uf a r&& ! o.any λw=>kD a r==w then .go (o++[kD a r])else .stop (ar (.panic 131 4,[]))
theorem RP (r:Int):∀(l o:af),bG (axN r) (kE 3) l o=bif dj r l o then kE 3 (o++l.map λa=>kD a r)else ar (.panic 131 4,[])
 |[],o=>by rw[bG,dj,Dr,eT]<;>rfl
 |a::l,o=>by
  rw[bG,dj];unfold axN;cases uf a r with|false=>rfl|true=>cases o.any λw=>kD a r==w with|true=>rfl|false=>show bG (axN r) _ l _=_;rw[RP r l,gl]<;>rfl
theorem acv {l r}(k:l.length<=2147483648):lp s7 k8 Hf fu (vD l r 0) KAx=bif dj r l []then kE 3 (l.map λa=>kD a r)else ar (.panic 131 4,[]):=by
 let m:maxLen=9223372036854775807:=by decide
 refine(cg (T:=λn s=>lp s7 k8 Hf n s KAx) (st:=aEs l r) (λi o=>o.length=i) (by omega) ?_ ?_ rfl).trans (RP r l [])
 ·intro i o x n b p q e f d
  unfold axN;cases o with
  |nil=>show (∃g,_/\_/\lp _ _ _ _ (vD l r i) _=_)\/∃h,_/\lp _ _ _ _ (vD l r i) _=_;rw[acr,d,ai,e,aw,f];cases uf x r with|true=>exact .inl ⟨_,rfl,by simp only[bK,eS,b],rfl⟩|false=>exact .inr ⟨_,rfl,by show _=_;kernel_rfl⟩
  |cons c o=>
   let j:(c::o).length+[kD x r].length<=lim:=by rw[b,eS,show lim=4294967296 from rfl];omega
   show (∃g,_/\_/\lp _ _ _ _ (Cf _ l r i) _=_)\/∃h,_/\lp _ _ _ _ (Cf _ l r i) _=_;rw[acs,d,ai,e,aw,f,eX j,aF (by rw[b];omega:(c::o).length<=9223372036854775807),ai];cases uf x r with|false=>exact .inr ⟨_,rfl,by show _=_;kernel_rfl⟩|true=>cases t:(c::o).any λw=>kD x r==w with|false=>exact .inl ⟨_,rfl,by simp only[bK,eS,b],rfl⟩|true=>exact .inr ⟨_,rfl,by show _=_;kernel_rfl⟩
 ·intro o n b d;cases o with|nil=>show lp _ _ _ _ (vD l r _) _=_;rw[acr,d,al];show _=_;kernel_rfl|cons c o=>show lp _ _ _ _ (Cf _ l r _) _=_;rw[acs,d,al];kernel_rfl
theorem apV l r:hlp s7 k8 Hf _ (vD l r 0) KAx=lp s7 k8 Hf fu (vD l r 0) KAx:=rfl
def aut :List AV->LHp->Tq
 |[.d zS l,.d zI r],[]=>.br (a7 (l.length<=2147483648)) (.br (dj r l []) (dat (.slice aa) (jy l r)) (pnc 131 4)) .no
 |_,_=>.no
theorem ali :bq 211 (ay aut):=by
 let c:=bM (d:=5) (l:=[(3,[1,5,9,10,11])]) E4 func211 call211;refine aY λb g h i a=>?_
 unfold aut at a;split at a
 ·rename_i l r;let ⟨e,f⟩:=eN a;refine c.okO (.slice aa) (gp ?_ f);refine gp (congrArg _ ((acq _ _).trans ((apV _ _).trans (acv (bt e))))) ?_;cases dj r l []with|true=>exact nh _ _|false=>rfl
 ·cases a
noncomputable def auu  :=fC [.slice aa,aa] (ay aut)
theorem RQ :bq 211 auu:=cn ali
def Cg (a:ao)(t:Int)  :=bif t==1 then bif a==DX then ak [I 2147483648,I 0]else bif a==BO then ak [I 0,I 0]else bif a==aab then ak [I 0,I 0]else bif a==aac then ak [I 0,I 0]else bif a==aad then ak [I 0,I 0]else bif a==aae then ak [I 1065353216,I 0]else bif a==aaf then ak [I 1056964608,I 0]else bif a==aag then ak [I 0,I 0]else ak [I 0,I 1]else ak [I 0,I 1]
def rI (a:ao) t  :=bif a==BO then bif t==6 then ak [I 0,I 0]else bif t==7 then ak [I 0,I 0]else Cg a t else Cg a t
def Ch (a:ao) t  :=bif a==BO then bif t==6 then rI a t else bif t==7 then rI a t else rI a t else rI a t
def Ci (a:ao) t  :=bif a==DX then bif t==6 then bif t==6 then ak [I 0,I 0]else ak [I 0,I 0]else bif t==7 then bif t==6 then ak [I 0,I 0]else ak [I 0,I 0]else Ch a t else Ch a t
theorem Ot (a:ao) t:aB g64 f146 7 [] [.d .str a,I t,I 0] [] ah=bif !aQ t 0 then ak [I 0,I 1]else bif a==aah then ak [I 0,I 0]else bif a==aai then bif t==9 then ak [I 1,I 0]else Ci a t else Ci a t:=by kernel_rfl
def xD (a:ao)(t:Int)  :=bif a==Uv then bif t==6 then ak [I 0,I 0]else ak [I 0,I 0]else bif a==zl5 then bif t==6 then ak [I 0,I 0]else ak [I 0,I 0]else bif a==Uy then bif t==6 then ak [I 0,I 0]else ak [I 0,I 0]else bif a==Ux then ak [I 0,I 7]else bif a==Uw then ak [I 0,I 0]else bif a==zl7 then ak [I 0,I 0]else bif a==tY then ak [I 1,I 0]else bif a==xk then ak [I 0,I 0]else bif a==xm then ak [I 0,I 0]else ak [I 0,I 1]
theorem Hg (a:ao) t:aB g45 f111 7 [] [.d .str a,I t,I 0,I 0] [] ah=bif !aQ t 0 then ak [I 0,I 1]else bif !aQ t 0 then ak [I 0,I 1]else bif t==6 then xD a t else bif t==7 then xD a t else bif t==1 then bif a==Uv then ak [I 0,I 0]else bif a==zl5 then ak [I 0,I 0]else bif a==Uy then ak [I 0,I 0]else bif a==Ux then ak [I 2143289344,I 0]else bif a==tY then ak [I 1,I 0]else bif a==xk then ak [I 0,I 0]else bif a==xm then ak [I 0,I 0]else bif a==Uw then ak [I 0,I 0]else bif a==zl7 then ak [I 0,I 0]else ak [I 0,I 1]else bif a==zl8 then ak [I 0,I 0]else bif a==[79,114]then ak [I 0,I 0]else bif a==zl9 then ak [I 0,I 0]else bif a==tY then ak [I 1,I 0]else ak [I 0,I 1]:=by kernel_rfl
theorem acw {d:Type}{c}{a b:Option d}(e:a.isSome=bc)(f:b.isSome=bc):(bif c then a else b).isSome=bc:=by cases c with|true=>exact e|false=>exact f
def tD (r:Option (aq×LHp)):Option (Int×Int):=match r with|some (.ret [.d (.int .i64) a,.d (.int .i64) b],[])=>ar (a,b)|_=>a6
theorem Cj {r}(h:(tD r).isSome=bc):r=ar (.ret [I ((tD r).getD (0,0)).1,I ((tD r).getD (0,0)).2],[]):=by
 unfold tD at h⊢;split at h
 ·rfl
 ·cases h
theorem E5 c a b:tD (bif c then a else b)=bif c then tD a else tD b:=by cases c<;>rfl
theorem E6 a b:tD (ar (.ret [I a,I b],[]))=ar (a,b):=rfl
def jq (a:ao) t  :=(tD (aB g64 f146 7 [] [.d .str a,I t,I 0] [] ah)).getD (0,0)
def oO (a:ao) t  :=(tD (aB g45 f111 7 [] [.d .str a,I t,I 0,I 0] [] ah)).getD (0,0)
theorem alj (a:ao) t:aB g64 f146 7 [] [.d .str a,I t,I 0] [] ah=ar (.ret [I (jq a t).1,I (jq a t).2],[]):=by refine Cj ?_;rw[Ot];simp only[Cg,rI,Ch,Ci];simp only[E5,E6];repeat' (first|rfl|refine acw ?_ ?_)
theorem acx (a:ao) t:aB g45 f111 7 [] [.d .str a,I t,I 0,I 0] [] ah=ar (.ret [I (oO a t).1,I (oO a t).2],[]):=by refine Cj ?_;rw[Hg];simp only[xD];simp only[E5,E6];repeat' (first|rfl|refine acw ?_ ?_)
def alk :List AV->LHp->Tq
 |[.d .str a,.d zI t,.d zI x],[]=>.br (x==0) (.leaf (.ret [I (jq a t).1,I (jq a t).2]) []) .no
 |_,_=>.no
theorem RR :bq 146 (ay alk):=by
 let c  :=Q0;refine aY λb f g h a=>?_
 unfold alk at a;split at a
 ·let ⟨d,e⟩:=eN a;obtain rfl:=eq_of_beq d;exact c.okC ((alj _ _).trans e)
 ·cases a
def acy :List AV->LHp->Tq
 |[.d .str a,.d zI t,.d zI x,.d zI y],[]=>.br (x==0) (.br (y==0) (.leaf (.ret [I (oO a t).1,I (oO a t).2]) []) .no) .no
 |_,_=>.no
theorem acz :bq 111 (ay acy):=by
 let c  :=QZ;refine aY λb h i j a=>?_
 unfold acy at a;split at a
 ·let ⟨d,e⟩:=eN a;let ⟨f,g⟩:=eN e;obtain rfl:=eq_of_beq d;obtain rfl:=eq_of_beq f;exact c.okC ((acx _ _).trans g)
 ·cases a
def RS  :=aU f251
def alm  :=cL (cL (cR (cL (cR RS))))
def l9 :Cfg:=⟨19,5,1,[(2,[0,1,7,8])],bc⟩
def DZ (t:Int):LHp:=[(0,.box (I t))]
theorem auv v t:aB g65 f209 4 [] [.d Y3 v,.op 0 [] 0] (DZ t) ah=ar (.ret [B (v.2.1 !=t)],[(0,.box (I t))]):=by kernel_rfl
def auw :List AV->LHp->Option (aq×LHp)
 |[.d Y3 v,.op 0 [] 0],[(0,.box (.d zI t))]=>ar (.ret [B (v.2.1 !=t)],DZ t)
 |_,_=>a6
theorem aln :bq 209 (fnE auw):=by
 refine jF BX cZ func209 call209 (depth:=4) (live:=[]) (by decide +kernel) rfl λa b p h=>?_
 unfold auw at h;split at h
 ·cases h;exact auv _ _
 ·cases h
def RT  :=DD.add 209 (fnE auw)
theorem acA :RT.Good:=jx.add aln
def acB (a:cm)(t i:Int):LSt:=⟨az 5 [(0,.d (.slice _) a),(1,.fn (.func 209) [] [.op 0 [] 0]),(7,I (.ofNat a.length)),(8,I i)],DZ t,2⟩
theorem auy (a:cm) t:aB RT f251 5 [(2,[0,1,7,8])] [.d (.slice _) a,.fn (.func 209) [] [.op 0 [] 0]] (DZ t) ah=(hlp RT l9) alm _ (acB a t 0) (aI 0 (aL RT l9 [2] (hlp RT l9) (cR (cR RS)) (aV prog 1 f251.results.toList ah))):=(aW [2] l9 rfl).trans (by obtain⟨b,h⟩:=aM RT l9;rw[h];kernel_rfl)
theorem auz a t i n {R} (k:AEx->LSt->Option R):lp RT l9 alm (n+1) (acB a t i) k=bif a7 (i<.ofNat a.length)then (idx a i).bind λb=>bif b.2.1 !=t then k .ret ⟨az 5 [(0,.d Y3.slice a),(1,.fn (.func 209) [] [.op 0 [] 0]),(4,I i),(5,I i),(7,I (.ofNat a.length)),(8,I i),(9,B bc),(10,I i),(11,.fn (.func 209) [] [.op 0 [] 0]),(12,.d Y3.slice a),(13,I i),(14,.ip Y3 b),(15,.d Y3 b),(16,B bc),(17,I i)],[(0,.box (I t)),(0,.box (I t))],3⟩else lp RT l9 alm n (acB a t (i64.wrap (i+1))) k else k (.exit 0) ⟨az 5 [(0,.d Y3.slice a),(1,.fn (.func 209) [] [.op 0 [] 0]),(7,I (.ofNat a.length)),(8,I i),(9,B a8)],[(0,.box (I t))],2⟩:=by kernel_rfl
theorem alo {a:cm}{t}(b:a.length<=maxLen):aB RT f251 5 [(2,[0,1,7,8])] [.d (.slice _) a,.fn (.func 209) [] [.op 0 [] 0]] (DZ t) ah=ar (.ret [I (cc (λv=>v.2.1 !=t) a)],DZ t):=by
 rw[auy];let c:=λi n=>auz a t i n (aI 0 (aL RT l9 [2] (hlp RT l9) (cR (cR RS)) (aV prog 1 f251.results.toList ah)))
 let h:=fF (T:=λn s=>lp RT l9 alm n s _) b c;refine h.trans ?_;unfold cc;cases e:a.findIdx? _ with|none=>kernel_rfl|some i=>let ⟨f,_⟩:=fk.1 e;simp only[dv f,aw];show _=_;kernel_rfl
def auA :List AV->LHp->Tq
 |[.d (.slice Y3) a,.fn (.func 209) [] [.op 0 [] 0]],[(0,.box (.d zI t))]=>.br (a7 (a.length<=maxLen)) (.leaf (.ret [I (cc (λv=>v.2.1 !=t) a)]) (DZ t)) .no
 |_,_=>.no
theorem alp :bq 251 (ay auA):=by
 refine dh acA cZ func251 call251 (depth:=5) (live:=[(2,[0,1,7,8])]) (by decide +kernel) rfl λb c p h=>?_
 unfold auA at h;split at h
 ·let ⟨a,h⟩:=eN h;cases h;let a:=bt a;exact alo a
 ·cases h
def aEu  :=DD.add 251 (ay auA)
theorem U6 :aEu.Good:=jx.add alp
theorem auB (a:cm) t:aB aEu f208 4 [] [.d (.slice _) a,.fn (.func 209) [] [.op 0 [] 0]] (DZ t) ah=bif a7 (a.length<=9223372036854775807)then ar (.ret [B (a7 (cc (λv=>v.snd.fst !=t) a>=0))],[(0,.box (I t))])else a6:=by kernel_rfl
def auC :List AV->LHp->Tq
 |[.d (.slice Y3) a,.fn (.func 209) [] [.op 0 [] 0]],[(0,.box (.d zI t))]=>.br (a7 (a.length<=maxLen)) (.leaf (.ret [B (a.any λv=>v.2.1 !=t)]) (DZ t)) .no
 |_,_=>.no
theorem alq :bq 208 (ay auC):=by
 let c:=bM (d:=4) (l:=[]) U6 func208 call208;refine aY λb e f g a=>?_
 unfold auC at a;split at a
 ·refine c.okC ((auB _ _).trans ?_);rw[vC];exact a
 ·cases a
def gAk  :=DD.add 208 (ay auC)
theorem acC :gAk.Good:=jx.add alq
abbrev iN (n:(Y2).den)(a:cm):AV:=.d Y7 (n,a,())
theorem auD n a t:aB gAk f147 4 [] [iN n a,I t] [] ah=bif a7 (a.length<=9223372036854775807)then ak [B !a.any λv=>v.snd.fst !=t]else a6:=by kernel_rfl
def oP (a:cm)(t:Int)  := !a.any λv=>v.2.1 !=t
def auE :List AV->LHp->Tq
 |[.d Y7 (_,a,_),.d zI t],[]=>.br (a7 (a.length<=maxLen)) (.leaf (.ret [B (oP a t)]) []) .no
 |_,_=>.no
theorem alr :bq 147 (ay auE):=by
 let c:=bM (d:=4) (l:=[]) acC func147 call147;refine aY λb e f g a=>?_
 unfold auE at a;split at a
 ·exact c.okC ((auD _ _ _).trans a)
 ·cases a
end
end Go.Proofs.XRT
namespace Go.Vm
def Ck :aq->Bool
 | .ret [.nils]=>bc
 | .ret [.emp]=>bc
 |_=>a8
def mkO (T:TypeId)(e:Ty)(g:FnE):FnE:={run:=λb d k=>g.run b d λc a=>bif Ck c then bif dG a.length a then k (.ret [.os a.length 0]) (a++[(a.length,.arr T e 0 a8 [])])else a6 else k c a}
theorem Cl {hp}(h:dG hp.length hp=bc){o}(c:hp.length<=o):aD hp o=a6:=by cases a:aD hp o with|none=>rfl|some b=>exact absurd (eV h o b a) (by omega)
theorem jf :∀(hp) (n:Nat) (b) (o),aD (hp++[(n,b)]) o=match aD hp o with|some x=>ar x|none=>bif dK n o then ar b else a6
 |[],n,b,o=>by simp only[pb,aD]
 |(a,x)::r,n,b,o=>by simp only[List.cons_append,aD];cases dK a o with|true=>rfl|false=>exact jf r n b o
theorem Cm {P Q f T e g}(E:FnE.OK P Q f g):FnE.OK P Q f (mkO T e g):=by
 refine⟨λj R k=>?_,λj R Y DB h=>?_⟩
 ·simp only[mkO]
  rw[E.eq]
  conv=>rhs;rw[E.eq]
  cases g.run j R _ with|none=>rfl|some p=>let ⟨H,d⟩:=p;simp only[aw];cases Ck H with|false=>rfl|true=>cases dG _ d<;>rfl
 ·simp only[mkO]at h
  let ⟨H,d,l,h⟩:=E.nat _ _ _ _ h;have I:=E.ok _ _ _ _ l;clear l;cases w:Ck H with
  |false=>rw[w,al]at h;cases h;exact I
  |true=>
   rw[w,ai]at h;cases J:dG _ d with
   |false=>rw[J]at h;cases h
   |true=>
    rw[J,ai]at h;cases h;refine⟨I.1,λW Z μ y q r z A=>?_⟩;refine(I.2 W Z μ y q r z A).mono ?_
    rintro ed U ⟨qQ,h1,K,F,⟨rfl,rfl⟩,S,V⟩
    let ⟨v,a,e1,e2,e3⟩:∃v a,ed=.returned v/\v.cells.toList=[.slice a 0 0]/\bS v=a8:=by
     unfold Ck at w;split at w
     ·let ⟨v,g1,g2,g3⟩:=V;simp only[RepA]at g2;exact⟨v,a6,g1,g2,g3⟩
     ·let ⟨v,g1,g2,g3⟩:=V;simp only[RepA]at g2;let ⟨a,g2⟩:=g2;exact⟨v,a,g1,g2,g3⟩
     ·cases w
    let m  :=Cl J (ep _);let n:∀o i,aD d o=ar i->aD (d++[(d.length,.arr T e 0 a8 [])]) o=ar i:=λo i c=>by rw[jf,c]
    let B:aD _ _=ar (.arr T e 0 a8 []):=by rw[jf,m,Nat.beq_refl];rfl
    let L:∀o,aD (d++[(d.length,.arr T e 0 a8 [])]) o=a6->aD d o=a6/\o≠d.length:=λo c=>by rw[jf]at c;cases C:aD d o with|some x=>rw[C]at c;cases c|none=>refine⟨rfl,λh=>?_⟩;subst h;rw[C,Nat.beq_refl]at c;cases c
    let s:∀o i,aD (d++[(d.length,.arr T e 0 a8 [])]) o=ar i->aD d o=ar i\/o=d.length/\i=.arr T e 0 _ []:=λo i c=>by
     rw[jf]at c;cases C:aD d o with|some x=>rw[C]at c;exact .inl c|none=>rw[C]at c;cases t:dK _ o with|false=>rw[t]at c;cases c|true=>rw[t]at c;cases c;exact .inr ⟨(cb t).symm,rfl⟩
    let M:∀o i,aD d o=ar i->o≠d.length:=λo i c h=>by subst h;rw[m]at c;cases c
    let ⟨u,D,N⟩:∃u,(∀o,o≠d.length->u o=F o)/\u d.length=.nil a:=⟨λo=>if o=d.length then .nil a else F o,λo h=>if_neg h,if_pos rfl⟩
    let G:∀o b,(u o).blk=ar b->o≠d.length/\(F o).blk=ar b:=λo b h=>by
     by_cases c:o=d.length
     ·rw[c,N]at h;cases h
     ·exact⟨c,by rwa[D o c]at h⟩
    let ev:Ev U K F _ U K u _:=
     ⟨λ_ h=>h,λ_ _=>rfl,λo i c=>⟨i,n o i c,by rw[D o (M o i c)];exact fo.refl _ _⟩⟩
    refine⟨_,_,K,u,⟨rfl,rfl⟩,⟨S.os,S.tape,S.output,S.grow,S.old,S.imSub,S.imNew,S.imLt,λo b t=>S.own o b (G o b t).2,λo i c=>?_,λo b t=>S.inv.sep o b (G o b t).2,λo X b g1 g2=>S.inv.inj o X b (G o b g1).2 (G X b g2).2,λo c=>?_,λo i c=>?_⟩,v,e1,?_,e3⟩
    ·let ⟨O,g1,g2⟩:=S.fob o i c;exact⟨O,n o O g1,by rw[D o (M o O g1)];exact g2⟩
    ·let ⟨g1,g2⟩:=L o c;rw[D o g2];exact S.inv.dom o g1
    ·rcases s o i c with g1|⟨rfl,rfl⟩
     ·rw[D o (M o i g1)];exact(S.inv.obj o i g1).ev ev λ_ _=>rfl
     ·exact .inl ⟨a,N,rfl⟩
    ·simp only[RepA];refine⟨T,e,0,a8,[],B,ep _,.slice a 0 0,e2,rfl,λ_=>?_⟩;rw[N];rfl
end Go.Vm
set_option maxRecDepth 100000
set_option maxHeartbeats 4000000
namespace Go.Proofs.XRT
open Go.Vm Go Tryz IntKind
noncomputable section
theorem auF (a:Int)(d:af):aB DD f107 4 [] [.d (.slice aa) (a::d)] [] ah=(app [] (a::d)).bind λb=>ar (.ret [.os 0 0],[(0,.arr 3 aa 0 a8 b)]):=by kernel_rfl
def Lx :List AV->LHp->Tq
 |[.d zS a],[]=>.br (a7 (a.length<=2147483648)) (.leaf (.ret [.os 0 0]) [(0,.arr 3 aa 0 a8 a)]) .no
 |_,_=>.no
theorem sH :bq 107 (ay Lx):=by
 have f:bq 107 (mkO 3 aa (aA DD f107 4 [])):=Cm (bM jx func107 call107);have g:bq 107 (mkO 3 aa ajD):=Cm GR;refine aY λc n o p b=>?_
 unfold Lx at b;split at b
 ·rename_i i;obtain⟨j,k⟩:=eN b;cases k;cases i with|nil=>exact g.ok _ _ _ _ rfl|cons a d=>refine f.ok _ _ _ _ ?_;simp only[mkO];have m:=bM jx func107 call107 (l:=[]) (d:=4);rw[m.eq];have e:(aA DD f107 4 []).run [.d (.slice aa) (a::d)] [] (λa h=>ar (a,h))=ar (.ret [.os 0 0],[(0,.arr 3 aa 0 a8 (a::d))]):=(auF a d).trans (by rw[akh (bt j)]<;>rfl);rw[e]<;>rfl
 ·cases b
def acE  :=aU f215
def Hh  :=cL (cL (cR (cL (cR (cR (cR acE))))))
def jJ :Cfg:=⟨47,6,0,[(4,[3,4,5,14,21,22,23])],bc⟩
def apW  :=aU f150
def qe  :=cL (cL (cR (cL (cR (cR (cR (cR (cR (cR (cR apW))))))))))
def fT :Cfg:=⟨63,6,0,[(9,[6,7,8,39,40,41])],bc⟩
def acF  :=aU f216
def jK  :=cL (cL (cR (cL (cR (cR (cR acF))))))
def cV :Cfg:=⟨80,7,0,[(4,[1,5,6,7,13,14,15])],bc⟩
def acG  :=aU f219
def Ou  :=cL (cL (cR (cL (cR (cR (cR (cR (cR acG))))))))
def k9 :Cfg:=⟨78,7,0,[(6,[1,5,6,8,41,42,43])],bc⟩
def E7  :=aU f218
def zu  :=cL (cL (cR (cL (cR (cR (cR E7))))))
def Ly  :=cL (cL (cR (cR (cR (cL (cL (cR (cR (cL (cL (cR (cL (cR (cR (cR E7)))))))))))))))
def dk :Cfg:=⟨62,6,0,[(4,[1,5,6,21,22,23]),(8,[1,5,6,21,22,23,35,36,37])],bc⟩
def acH  :=aU f217
def Hi  :=cL (cL (cR (cL (cR (cR (cR (cR (cR acH))))))))
def jL :Cfg:=⟨47,6,0,[(6,[1,6,7,24,25,26])],bc⟩
def acI  :=aU f221
def Ov  :=cL (cL (cR (cL (cR (cR (cR acI))))))
def lb :Cfg:=⟨41,6,0,[(4,[1,5,6,17,18])],bc⟩
def s8  :=UI.add 25 zt
theorem U7 :s8.Good:=ij.add kc
def aEv  :=(((UI.add 25 zt).add 210 aus).add 211 auu).add 59 (ay Cb)
theorem U8 :aEv.Good:=(((ij.add kc).add RO).add RQ).add mA
def iq  :=Oc.add 25 zt
theorem U9 :iq.Good:=pD.add kc
def aEw  :=(((g73.add 25 zt).add 210 aus).add 211 auu).add 107 (ay Lx)
theorem Va :aEw.Good:=(((BZ.add kc).add RO).add RQ).add sH
theorem auG i j f g b (a:ao) (e:af) c lo hi:aB s8 f215 6 [(4,[3,4,5,14,21,22,23])] [dU i j f g b,.d .str a,.d (.slice aa) e,I c,I lo,I hi] [] ah=bif aE b then bif a7 (e.length<=2147483648)then (hlp s8 jJ) Hh _ ⟨az 6 [(3,I c),(4,I lo),(5,I hi),(14,.nils),(21,.d (aa).slice (aj b a e)),(22,I (.ofNat (aj b a e).length)),(23,I 0)],[],0⟩ (aI 0 (aL s8 jJ [4] (hlp s8 jJ) (cR (cR (cR (cR acE)))) (aV prog 0 f215.results.toList ah)))else a6 else a6:=(aW [4] jJ rfl).trans (by obtain⟨k,h⟩:=aM s8 jJ;rw[h];kernel_rfl)
theorem auH (f g:ao)(b:List ao)(c:ao)(a:bu) vs (e:af):aB iq f216 7 [(4,[1,5,6,7,13,14,15])] [iN (f,g,b,c,a,()) vs,.d (.slice aa) e] [] ah=bif aE a then (hlp iq cV) jK _ ⟨az 7 [(1,.d (aa).slice e),(5,I (-1)),(6,I 1),(7,.nils),(13,.d (aa).slice (aj a zo [])),(14,I (.ofNat (aj a zo []).length)),(15,I 0)],[],0⟩ (aI 0 (aL iq cV [4] (hlp iq cV) (cR (cR (cR (cR acF)))) (aV prog 0 f216.results.toList ah)))else a6:=(aW [4] cV rfl).trans (by obtain⟨i,h⟩:=aM iq cV;rw[h];kernel_rfl)
def RU  :=aU f252
def als  :=cL (cL (cR (cL (cR RU))))
def ma :Cfg:=⟨19,5,0,[(2,[0,1,7,8])],bc⟩
def acJ (a:af)(v i:Int):LSt:=⟨az 5 [(0,.d (.slice aa) a),(1,I v),(7,I (.ofNat a.length)),(8,I i)],[],0⟩
theorem auI (a:af) v:aB nP f252 5 [(2,[0,1,7,8])] [.d (.slice aa) a,I v] [] ah=(hlp nP ma) als _ (acJ a v 0) (aI 0 (aL nP ma [2] (hlp nP ma) (cR (cR RU)) (aV prog 0 f252.results.toList ah))):=(aW [2] ma rfl).trans (by obtain⟨b,h⟩:=aM nP ma;rw[h];kernel_rfl)
theorem auJ a v i n {R} (k:AEx->LSt->Option R):lp nP ma als (n+1) (acJ a v i) k=bif a7 (i<.ofNat a.length)then (idx a i).bind λb=>bif v==b then k .ret ⟨az 5 [(0,.d (aa).slice a),(1,I v),(4,I i),(5,I i),(7,I (.ofNat a.length)),(8,I i),(9,B bc),(10,I i),(11,I v),(12,.d (aa).slice a),(13,I i),(14,.ip aa b),(15,I b),(16,B bc),(17,I i)],[],0⟩else lp nP ma als n (acJ a v (i64.wrap (i+1))) k else k (.exit 0) ⟨az 5 [(0,.d (aa).slice a),(1,I v),(7,I (.ofNat a.length)),(8,I i),(9,B a8)],[],0⟩:=by kernel_rfl
theorem alu {a:af}{v}(b:a.length<=maxLen):aB nP f252 5 [(2,[0,1,7,8])] [.d (.slice aa) a,I v] [] ah=ar (.ret [I (cc (λw=>v==w) a)],[]):=by
 rw[auI];let c:=λi n=>auJ a v i n (aI 0 (aL nP ma [2] (hlp nP ma) (cR (cR RU)) (aV prog 0 f252.results.toList ah)))
 let h:=fF (T:=λn s=>lp nP ma als n s _) b c;refine h.trans ?_;unfold cc;cases e:a.findIdx? _ with|none=>kernel_rfl|some i=>let ⟨f,_⟩:=fk.1 e;simp only[dv f,aw];show _=_;kernel_rfl
def auK :List AV->LHp->Tq
 |[.d zS a,.d zI v],[]=>.br (a7 (a.length<=maxLen)) (.leaf (.ret [I (cc (λw=>v==w) a)]) []) .no
 |_,_=>.no
theorem alv :bq 252 (ay auK):=by
 refine dh nc cZ func252 call252 (depth:=5) (live:=[(2,[0,1,7,8])]) (by decide +kernel) rfl λb c p h=>?_
 unfold auK at h;split at h
 ·let ⟨a,h⟩:=eN h;cases h;let a:=bt a;exact alu a
 ·cases h
def aEx  :=g70.add 252 (ay auK)
theorem Vb :aEx.Good:=vu.add alv
theorem auL (a:af) v:aB aEx f212 4 [] [.d (.slice aa) a,I v] [] ah=bif a7 (a.length<=9223372036854775807)then ak [B (a7 (cc (λw=>v==w) a>=0))]else a6:=by kernel_rfl
def dZ (xs:af) v  :=xs.any λw=>v==w
def alw :List AV->LHp->Tq
 |[.d zS a,.d zI v],[]=>.br (a7 (a.length<=maxLen)) (.leaf (.ret [B (dZ a v)]) []) .no
 |_,_=>.no
theorem RV :bq 212 (ay alw):=by
 let c:=bM (d:=4) (l:=[]) Vb func212 call212;refine aY λb e f g a=>?_
 unfold alw at a;split at a
 ·refine c.okC ((auL _ _).trans ?_);rw[aEq];exact a
 ·cases a
def iI  :=aEv.add 212 (ay alw)
theorem Ow :iI.Good:=U8.add RV
def KNd  :=aI 0 (aL s8 jJ [4] (hlp s8 jJ) (cR (cR (cR (cR acE)))) (aV prog 0 f215.results.toList ah))
def Lz (c a b:Int)(l:af)(i:Int):LSt:=⟨az 6 [(3,I c),(4,I a),(5,I b),(14,.nils),(21,.d (.slice aa) l),(22,I (.ofNat l.length)),(23,I i)],[],0⟩
def Ox (o:af)(c a b:Int)(l:af)(i:Int):LSt:=⟨az 6 [(3,I c),(4,I a),(5,I b),(14,.os 0 0),(21,.d (.slice aa) l),(22,I (.ofNat l.length)),(23,I i)],[(0,.arr 3 aa 0 a8 o)],1⟩
theorem acK c b e l i n {R} (k:AEx->LSt->Option R):lp s8 jJ Hh (n+1) (Lz c b e l i) k=bif a7 (i<.ofNat l.length)then (idx l i).bind λa=>bif a7 (b<=a)then bif !decide (a<=e)then k (.panic 131 4) ⟨az 6 [(3,I c),(4,I b),(5,I e),(14,.nils),(16,I a),(21,.d (aa).slice l),(22,I (.ofNat l.length)),(23,I i),(24,B bc),(25,.ip aa a),(26,I a),(27,I b),(28,I a),(29,B (a7 (b<=a))),(30,B bc),(31,I a),(32,I e),(33,B (a7 (a<=e))),(34,B (a7 (a<=e)))],[],0⟩else lp s8 jJ Hh n (Ox [a] c b e l (i64.wrap (i+1))) k else k (.panic 131 4) ⟨az 6 [(3,I c),(4,I b),(5,I e),(14,.nils),(16,I a),(21,.d (aa).slice l),(22,I (.ofNat l.length)),(23,I i),(24,B bc),(25,.ip aa a),(26,I a),(27,I b),(28,I a),(29,B (a7 (b<=a))),(30,B a8),(31,.tup []),(32,.tup []),(33,.tup []),(34,B a8)],[],0⟩else k (.exit 0) ⟨az 6 [(3,I c),(4,I b),(5,I e),(14,.nils),(21,.d (aa).slice l),(22,I (.ofNat l.length)),(23,I i),(24,B a8)],[],0⟩:=by kernel_rfl
theorem acL v (o:af) c lo hi l i n {R} (k:AEx->LSt->Option R):lp s8 jJ Hh (n+1) (Ox (v::o) c lo hi l i) k=bif a7 (i<.ofNat l.length)then (idx l i).bind λa=>bif a7 (lo<=a)then bif !decide (a<=hi)then k (.panic 131 4) ⟨az 6 [(3,I c),(4,I lo),(5,I hi),(14,.os 0 0),(16,I a),(21,.d (aa).slice l),(22,I (.ofNat l.length)),(23,I i),(24,B bc),(25,.ip aa a),(26,I a),(27,I lo),(28,I a),(29,B (a7 (lo<=a))),(30,B bc),(31,I a),(32,I hi),(33,B (a7 (a<=hi))),(34,B (a7 (a<=hi)))],[(0,.arr 3 aa 0 a8 (v::o))],1⟩else (app (v::o) [a]).bind λb=>lp s8 jJ Hh n (Ox b c lo hi l (i64.wrap (i+1))) k else k (.panic 131 4) ⟨az 6 [(3,I c),(4,I lo),(5,I hi),(14,.os 0 0),(16,I a),(21,.d (aa).slice l),(22,I (.ofNat l.length)),(23,I i),(24,B bc),(25,.ip aa a),(26,I a),(27,I lo),(28,I a),(29,B (a7 (lo<=a))),(30,B a8),(31,.tup []),(32,.tup []),(33,.tup []),(34,B a8)],[(0,.arr 3 aa 0 a8 (v::o))],1⟩else k (.exit 0) ⟨az 6 [(3,I c),(4,I lo),(5,I hi),(14,.os 0 0),(21,.d (aa).slice l),(22,I (.ofNat l.length)),(23,I i),(24,B a8)],[(0,.arr 3 aa 0 a8 (v::o))],1⟩:=by kernel_rfl
theorem auM c a b (l:af) i:KNd (.exit 0) ⟨az 6 [(3,I c),(4,I a),(5,I b),(14,.nils),(21,.d (aa).slice l),(22,I (.ofNat l.length)),(23,I i),(24,B a8)],[],0⟩=bif !0==c then bF else ak [.nils]:=by kernel_rfl
theorem auN (o:af) c lo hi (l:af) i:KNd (.exit 0) ⟨az 6 [(3,I c),(4,I lo),(5,I hi),(14,.os 0 0),(21,.d (aa).slice l),(22,I (.ofNat l.length)),(23,I i),(24,B a8)],[(0,.arr 3 aa 0 a8 o)],1⟩=bif !.ofNat o.length==c then bF else ar (.ret [.os 0 0],[(0,.arr 3 aa 0 a8 o)]):=by kernel_rfl
def nj (g:af)(c:Int)(l:af)(i:Int):LSt:=⟨az 6 [(6,.d (.slice aa) g),(7,I c),(8,.nils),(39,.d (.slice aa) l),(40,I (.ofNat l.length)),(41,I i)],[],0⟩
def vE (o g:af)(c:Int)(l:af)(i:Int):LSt:=⟨az 6 [(6,.d (.slice aa) g),(7,I c),(8,.os 0 0),(39,.d (.slice aa) l),(40,I (.ofNat l.length)),(41,I i)],[(0,.arr 3 aa 0 a8 o)],1⟩
def KRe  :=aI 0 (aL iI fT [9] (hlp iI fT) (cR (cR (cR (cR (cR (cR (cR (cR apW)))))))) (aV prog 0 f150.results.toList ah))
theorem alx (f g:ao)(c:List ao)(e:ao)(a:bu) vs (b:af):aB iI f150 6 [(9,[6,7,8,39,40,41])] [iN (f,g,c,e,a,()) vs,.d (.slice aa) b] [] ah=bif a7 (0<=bd b.length/\bd b.length<=2147483648)then bif aE a then bif a7 ((fw (bd b.length).toNat).length<=2147483648)then bif f==qD then bif a7 (a.length<=9223372036854775807)then bif dj (.ofNat b.length) [aS a jG 0] []then bif a7 (a.length<=9223372036854775807)then bif aS a GL 1==0 then (hlp iI fT) qe _ (nj [kD (aS a jG 0) (.ofNat b.length)] (aS a GL 1) b 0) KRe else bif !aS a GL 1==1 then bF else (hlp iI fT) qe _ (nj [kD (aS a jG 0) (.ofNat b.length)] (aS a GL 1) b 0) KRe else a6 else bF else a6 else bif a7 ((aj a m9 (fw (bd b.length).toNat)).length<=2147483648)then bif dj (.ofNat b.length) (aj a m9 (fw (bd b.length).toNat)) []then bif a7 (a.length<=9223372036854775807)then bif aS a GL 1==0 then (hlp iI fT) qe _ (nj (jy (aj a m9 (fw (bd b.length).toNat)) (.ofNat b.length)) (aS a GL 1) b 0) KRe else bif !aS a GL 1==1 then bF else (hlp iI fT) qe _ (nj (jy (aj a m9 (fw (bd b.length).toNat)) (.ofNat b.length)) (aS a GL 1) b 0) KRe else a6 else bF else a6 else a6 else a6 else a6:=(aW [9] fT rfl).trans (by obtain⟨i,h⟩:=aM iI fT;rw[h];kernel_rfl)
theorem acN g c l i n {R} (k:AEx->LSt->Option R):lp iI fT qe (n+1) (nj g c l i) k=bif a7 (i<.ofNat l.length)then (idx l i).bind λa=>bif a7 (g.length<=9223372036854775807)then bif !dZ g i then lp iI fT qe n (vE [a] g c l (i64.wrap (i+1))) k else bif c==1 then lp iI fT qe n (vE [1] g c l (i64.wrap (i+1))) k else lp iI fT qe n (nj g c l (i64.wrap (i+1))) k else a6 else k (.exit 0) ⟨az 6 [(6,.d (aa).slice g),(7,I c),(8,.nils),(39,.d (aa).slice l),(40,I (.ofNat l.length)),(41,I i),(42,B a8)],[],0⟩:=by kernel_rfl
theorem acO v (o g:af) c l i n {R} (k:AEx->LSt->Option R):lp iI fT qe (n+1) (vE (v::o) g c l i) k=bif a7 (i<.ofNat l.length)then (idx l i).bind λa=>bif a7 (g.length<=9223372036854775807)then bif !dZ g i then (app (v::o) [a]).bind λb=>lp iI fT qe n (vE b g c l (i64.wrap (i+1))) k else bif c==1 then (app (v::o) [1]).bind λe=>lp iI fT qe n (vE e g c l (i64.wrap (i+1))) k else lp iI fT qe n (vE (v::o) g c l (i64.wrap (i+1))) k else a6 else k (.exit 0) ⟨az 6 [(6,.d (aa).slice g),(7,I c),(8,.os 0 0),(39,.d (aa).slice l),(40,I (.ofNat l.length)),(41,I i),(42,B a8)],[(0,.arr 3 aa 0 a8 (v::o))],1⟩:=by kernel_rfl
def yH (b:af)(a p:Int)(l:af)(i:Int):LSt:=⟨az 7 [(1,.d (.slice aa) b),(5,I a),(6,I p),(7,.nils),(13,.d (.slice aa) l),(14,I (.ofNat l.length)),(15,I i)],[],0⟩
def kf (o b:af)(a p:Int)(l:af)(i:Int):LSt:=⟨az 7 [(1,.d (.slice aa) b),(5,I a),(6,I p),(7,.os 0 0),(13,.d (.slice aa) l),(14,I (.ofNat l.length)),(15,I i)],[(0,.arr 3 aa 0 a8 o)],1⟩
def uM  :=aI 0 (aL iq cV [4] (hlp iq cV) (cR (cR (cR (cR acF)))) (aV prog 0 f216.results.toList ah))
theorem acP c a p l i n:lp iq cV jK (n+1) (yH c a p l i) uM=bif a7 (i<.ofNat l.length)then (idx l i).bind λb=>bif b== -1 then bif a7 (a<0)then bif !decide (i64.wrap (p*1)<=65536)then bF else lp iq cV jK n (kf [1] c i (i64.wrap (p*1)) l (i64.wrap (i+1))) uM else bif b==0 then bif a7 (i<.ofNat c.length)then (idx c i).bind λe=>bif a7 (e>=1)then bif !decide (e<=65536)then bF else bif !decide (i64.wrap (p*e)<=65536)then bF else lp iq cV jK n (kf [e] c a (i64.wrap (p*e)) l (i64.wrap (i+1))) uM else bF else bif a7 (b>=1)then bif !decide (b<=65536)then bF else bif !decide (i64.wrap (p*b)<=65536)then bF else lp iq cV jK n (kf [b] c a (i64.wrap (p*b)) l (i64.wrap (i+1))) uM else bF else bif a7 (b>=1)then bif !decide (b<=65536)then bF else bif !decide (i64.wrap (p*b)<=65536)then bF else lp iq cV jK n (kf [b] c a (i64.wrap (p*b)) l (i64.wrap (i+1))) uM else bF else bif b==0 then bif a7 (i<.ofNat c.length)then (idx c i).bind λd=>bif a7 (d>=1)then bif !decide (d<=65536)then bF else bif !decide (i64.wrap (p*d)<=65536)then bF else lp iq cV jK n (kf [d] c a (i64.wrap (p*d)) l (i64.wrap (i+1))) uM else bF else bif a7 (b>=1)then bif !decide (b<=65536)then bF else bif !decide (i64.wrap (p*b)<=65536)then bF else lp iq cV jK n (kf [b] c a (i64.wrap (p*b)) l (i64.wrap (i+1))) uM else bF else bif a7 (b>=1)then bif !decide (b<=65536)then bF else bif !decide (i64.wrap (p*b)<=65536)then bF else lp iq cV jK n (kf [b] c a (i64.wrap (p*b)) l (i64.wrap (i+1))) uM else bF else bif a7 (c.length<=9223372036854775807)then bif a7 (a>=0)then (if p=0 then a6 else ar ((aN c).tmod p)).bind λf=>bif !f==0 then bF else (if p=0 then a6 else ar (i64.wrap ((aN c).tdiv p))).bind λd=>a6 else bif !aN c==p then bF else ak [.nils]else a6:=by kernel_rfl
theorem acQ v (o c:af) a p l i n:lp iq cV jK (n+1) (kf (v::o) c a p l i) uM=bif a7 (i<.ofNat l.length)then (idx l i).bind λb=>bif b== -1 then bif a7 (a<0)then bif !decide (i64.wrap (p*1)<=65536)then bF else (app (v::o) [1]).bind λd=>lp iq cV jK n (kf d c i (i64.wrap (p*1)) l (i64.wrap (i+1))) uM else bif b==0 then bif a7 (i<.ofNat c.length)then (idx c i).bind λe=>bif a7 (e>=1)then bif !decide (e<=65536)then bF else bif !decide (i64.wrap (p*e)<=65536)then bF else (app (v::o) [e]).bind λf=>lp iq cV jK n (kf f c a (i64.wrap (p*e)) l (i64.wrap (i+1))) uM else bF else bif a7 (b>=1)then bif !decide (b<=65536)then bF else bif !decide (i64.wrap (p*b)<=65536)then bF else (app (v::o) [b]).bind λg=>lp iq cV jK n (kf g c a (i64.wrap (p*b)) l (i64.wrap (i+1))) uM else bF else bif a7 (b>=1)then bif !decide (b<=65536)then bF else bif !decide (i64.wrap (p*b)<=65536)then bF else (app (v::o) [b]).bind λh=>lp iq cV jK n (kf h c a (i64.wrap (p*b)) l (i64.wrap (i+1))) uM else bF else bif b==0 then bif a7 (i<.ofNat c.length)then (idx c i).bind λd=>bif a7 (d>=1)then bif !decide (d<=65536)then bF else bif !decide (i64.wrap (p*d)<=65536)then bF else (app (v::o) [d]).bind λg=>lp iq cV jK n (kf g c a (i64.wrap (p*d)) l (i64.wrap (i+1))) uM else bF else bif a7 (b>=1)then bif !decide (b<=65536)then bF else bif !decide (i64.wrap (p*b)<=65536)then bF else (app (v::o) [b]).bind λh=>lp iq cV jK n (kf h c a (i64.wrap (p*b)) l (i64.wrap (i+1))) uM else bF else bif a7 (b>=1)then bif !decide (b<=65536)then bF else bif !decide (i64.wrap (p*b)<=65536)then bF else (app (v::o) [b]).bind λj=>lp iq cV jK n (kf j c a (i64.wrap (p*b)) l (i64.wrap (i+1))) uM else bF else bif a7 (c.length<=9223372036854775807)then bif a7 (a>=0)then (if p=0 then a6 else ar ((aN c).tmod p)).bind λk=>bif !k==0 then bF else (if p=0 then a6 else ar (i64.wrap ((aN c).tdiv p))).bind λd=>(idx (v::o) a).bind λe=>(fR (v::o) a.toNat d).bind λj=>ar (.ret [.os 0 0],[(0,.arr 3 aa 0 a8 j)])else bif !aN c==p then bF else ar (.ret [.os 0 0],[(0,.arr 3 aa 0 a8 (v::o))])else a6:=by kernel_rfl
theorem auO k r:aB Oc f256 4 [] [I k,I r] [] ah=bif a7 (k<0)then ak [I (if (if r<i64.wrap (k+r)then r else i64.wrap (k+r))>0 then if r<i64.wrap (k+r)then r else i64.wrap (k+r)else 0)]else ak [I (if (if r<k then r else k)>0 then if r<k then r else k else 0)]:=by kernel_rfl
def stN (c a b:Int)(l:af)(i:Int)(o:af):LSt:=match o with|[]=>Lz c a b l i|v::o=>Ox (v::o) c a b l i
def nuN (a b:Int)(o:af)(x:Int):Nx af (aq×LHp):=bif a7 (a<=x)&&a7 (x<=b)then .go (o++[x])else .stop (ar (.panic 131 4,[]))
def LA c o  :=bif bd o.length==c then kE 3 o else ar (.panic 131 4,[])
theorem RW (c a b:Int):∀(l o:af),bG (nuN a b) (LA c) l o=bif cY a b l then LA c (o++l)else ar (.panic 131 4,[])
 |[],o=>by rw[bG,eT]<;>rfl
 |x::l,o=>by
  rw[bG];unfold nuN;have e:cY a b (x::l)=(a7 (a<=x)&&a7 (x<=b)&&cY a b l):=by unfold cY;rw[py]
  rw[e];cases a7 (a<=x)&&a7 (x<=b)with|false=>rfl|true=>show bG (nuN a b) _ l _=_;rw[RW c a b l,gl]<;>rfl
theorem auP {l c b d}(r:l.length<=2147483648):lp s8 jJ Hh fu (Lz c b d l 0) KNd=bif cA c b d l then kE 3 l else ar (.panic 131 4,[]):=by
 let t:maxLen=9223372036854775807:=by decide
 refine(cg (xs:=l) (T:=λn s=>lp s8 jJ Hh n s KNd) (st:=stN c b d l) (f:=nuN b d) (fin:=LA c) (λi o=>o.length=i) (by omega) ?_ ?_ (a:=[]) rfl).trans ?_
 ·intro i o x n h u w j k g
  unfold nuN;cases o with
  |nil=>
   show (∃m,_/\_/\lp _ _ _ _ (Lz c b d l i) _=_)\/∃p,_/\lp _ _ _ _ (Lz c b d l i) _=_;rw[acK,g,ai,j,aw,k];cases a7 (b<=x)with|false=>exact .inr ⟨_,rfl,by show _=_;kernel_rfl⟩|true=>cases a7 (x<=d)with|false=>exact .inr ⟨_,rfl,by show _=_;kernel_rfl⟩|true=>exact .inl ⟨_,rfl,by simp only[bK,eS,h],rfl⟩
  |cons v o=>
   let q:(v::o).length+[x].length<=lim:=by rw[h,eS,show lim=4294967296 from rfl];omega
   show (∃m,_/\_/\lp _ _ _ _ (Ox _ c b d l i) _=_)\/∃p,_/\lp _ _ _ _ (Ox _ c b d l i) _=_;rw[acL,g,ai,j,aw,k,eX q];cases a7 (b<=x)with|false=>exact .inr ⟨_,rfl,by kernel_rfl⟩|true=>cases a7 (x<=d)with|false=>exact .inr ⟨_,rfl,by kernel_rfl⟩|true=>exact .inl ⟨_,rfl,by simp only[bK,eS,h],rfl⟩
 ·intro o n h g;unfold LA;cases o with|nil=>show lp _ _ _ _ (Lz c b d l _) _=_;rw[acK,g,al];let e:=auM c b d l l.length;refine e.trans ?_;cases .ofNat [].length==c<;>rfl|cons v o=>show lp _ _ _ _ (Ox _ c b d l _) _=_;rw[acL,g,al];let e:=auN (v::o) c b d l l.length;refine e.trans ?_;cases .ofNat (v::o).length==c<;>rfl
 ·rw[RW,pb];unfold cA LA;cases cY b d l with|false=>rfl|true=>cases .ofNat _==c<;>rfl
theorem aEz c a b l:hlp s8 jJ Hh _ (Lz c a b l 0) KNd=lp s8 jJ Hh fu (Lz c a b l 0) KNd:=rfl
def nuD :List AV->LHp->Tq
 |[.d Y2 (_,_,_,_,b,_),.d .str a,.d zS e,.d zI c,.d zI f,.d zI g],[]=>.br (aE b) (.br (a7 (e.length<=2147483648)) (.br (cA c f g (aj b a e)) (dat (.slice aa) (aj b a e)) (pnc 131 4)) .no) .no
 |_,_=>.no
theorem auQ :bq 215 (ay nuD):=by
 have j:=bM (d:=6) (l:=[(4,[3,4,5,14,21,22,23])]) U7 func215 call215;refine aY λi f u v b=>?_
 unfold nuD at b;split at b
 ·rename_i k m g h n _ a o c p q;obtain⟨f,r⟩:=eN b;obtain⟨e,s⟩:=eN r;have e:=bt e;have t:=ni f a e;refine j.okO (.slice aa) (gp ?_ s);refine gp (congrArg (fv _) (auG k m g h n a o c p q)) ?_;rw[f,ai,aF e,ai];refine gp (congrArg (fv _) ((aEz _ _ _ _).trans (auP t))) ?_;rw[Lj,nh]<;>rfl
 ·cases b
noncomputable def aly  :=fC [Y2,.str,.slice aa,aa,aa,aa] (ay nuD)
theorem Hj :bq 215 aly:=cn auQ
def rJ (g:af)(c:Int):Nat->List Int->af
 |_,[]=>[]
 |i,d::r=>bif !dZ g i then d::rJ g c (i+1) r else bif c==1 then 1::rJ g c (i+1) r else rJ g c (i+1) r
def auR (g:af)(c:Int)(l:af)(i:Int)(a:Nat×af):LSt:=match a.2 with|[]=>nj g c l i|v::o=>vE (v::o) g c l i
def reN (g:af)(c:Int)(a:Nat×af)(x:Int):Nx (Nat×af) (aq×LHp):=.go (a.1+1,bif !dZ g a.1 then a.2++[x]else bif c==1 then a.2++[1]else a.2)
theorem RX (g:af)(c:Int):∀(l:af) (i:Nat) (o:af),bG (reN g c) (λa=>kE 3 a.2) l (i,o)=kE 3 (o++rJ g c i l)
 |[],i,o=>by rw[bG,rJ,eT]
 |x::l,i,o=>by
  rw[bG];show bG (reN g c) _ l (i+1,_)=_;rw[RX g c l,rJ];cases dZ g (i:Int)with|false=>show kE _ ((o++[x])++_)=_;rw[gl]<;>rfl|true=>cases c==1 with|true=>show kE _ ((o++[1])++_)=_;rw[gl]<;>rfl|false=>rfl
theorem auS {g l c}(k:g.length<=2147483648)(m:l.length<=2147483648):lp iI fT qe fu (nj g c l 0) KRe=kE 3 (rJ g c 0 l):=by
 let p:maxLen=9223372036854775807:=by decide
 refine(cg (T:=λn s=>lp iI fT qe n s KRe) (st:=auR g c l) (λi a=>a.1=i/\a.2.length<=i) (by omega) ?_ ?_ ⟨rfl,ep _⟩).trans (RX g c l 0 [])
 ·rintro i ⟨b,o⟩ x n ⟨rfl,e⟩ q r f h d
  let e:o.length<=b:=e;refine .inl ⟨_,rfl,⟨rfl,?_⟩,?_⟩
  ·show bk (bif _ then _ else _)<=b+1
   cases !dZ g b with|true=>rw[ai,bK,eS];omega|false=>cases c==1 with|true=>rw[al,ai,bK,eS];omega|false=>rw[al,al];omega
  ·cases o with
   |nil=>show lp _ _ _ _ (nj g c l b) _=_;rw[acN,d,ai,f,aw,h,aF (by omega:g.length<=9223372036854775807),ai];show _=lp _ _ _ n _ _;cases !dZ g b with|true=>rfl|false=>cases c==1<;>rfl
   |cons v o=>
    let j:∀y:Int,(v::o).length+[y].length<=lim:=λy=>by rw[eS,show lim=4294967296 from rfl];omega
    show lp _ _ _ _ (vE _ g c l b) _=_;rw[acO,d,ai,f,aw,h,aF (by omega:g.length<=9223372036854775807),ai,eX (j x),eX (j 1)];show _=lp _ _ _ n _ _;cases !dZ g b with|true=>rfl|false=>cases c==1<;>rfl
 ·rintro⟨b,o⟩ n ⟨e,_⟩ d
  cases o with|nil=>show lp _ _ _ _ (nj g c l _) _=_;rw[acN,d,al];show _=_;kernel_rfl|cons v o=>show lp _ _ _ _ (vE _ g c l l.length) _=_;rw[acO,d,al];show _=_;kernel_rfl
theorem aEA g c l:hlp iI fT qe _ (nj g c l 0) KRe=lp iI fT qe fu (nj g c l 0) KRe:=rfl
def bD :ao:=m9
def bE :ao:=jG
def bH :ao:=GL
def gS :ao:=qD
def Cn (b:ao)(a:bu)(c:af):af:=bif b==gS then [aS a bE 0]else aj a bD (fw c.length)
def LB c a b  :=dj (.ofNat b.length) (Cn c a b) []&&(aS a bH 1==0||aS a bH 1==1)
def auT c b a  :=rJ (jy (Cn c b a) (.ofNat a.length)) (aS b bH 1) 0 a
theorem jg N:(fw N).length=N:=by simp[fw]
theorem gr l r:(jy l r).length=l.length:=by simp[jy]
def auU :List AV->LHp->Tq
 |[.d Y7 ((c,_,_,_,a,_),_,_),.d zS b],[]=>.br (aE a) (.br (a7 (b.length<=2147483648)) (.br (LB c a b) (dat (.slice aa) (auT c a b)) (pnc 131 4)) .no) .no
 |_,_=>.no
theorem alz :bq 150 (ay auU):=by
 let r:=bM (d:=6) (l:=[(9,[6,7,8,39,40,41])]) Ow func150 call150;refine aY λo h x y i=>?_
 unfold auU at i;split at i
 ·rename_i j s m n a _ t _ b
  let ⟨h,u⟩:=eN i;let ⟨f,v⟩:=eN u;let f:=bt f;let p:=bz h;refine r.okO (.slice aa) (gp ?_ v);refine gp (congrArg _ (alx j s m n a t b)) ?_;let w:(bd _).toNat=b.length:=rfl;let q:=ni h bD (by rw[jg];exact f);let e:∀(g:af) (c:Int),g.length<=2147483648->fv _ _=ar _:=λg c k=>by refine gp (congrArg (fv _) ((aEA g c b).trans (auS k f))) ?_;exact nh _ _
  rw[aF (⟨by simp only[aK];omega,by simp only[aK];omega⟩),ai,h,ai,w,aF (by rw[jg];exact f:(fw b.length).length<=2147483648),ai,aF (by omega:a.length<=9223372036854775807),ai];show _=bif LB j a b then _ else _
  unfold LB auT Cn;change fv _ (bif j==gS then bif dj (.ofNat b.length) [aS a bE 0] []then (bif bc then (bif aS a bH 1==0 then _ else (bif !(aS a bH 1==1)then _ else _))else _)else _ else bif a7 ((aj a bD (fw b.length)).length<=2147483648)then (bif dj (.ofNat b.length) (aj a bD (fw b.length)) []then (bif bc then (bif aS a bH 1==0 then _ else (bif !(aS a bH 1==1)then _ else _))else _)else _)else _)=_;rw[aF q,ai,ai,ai]
  let key:∀(g:af),g.length<=2147483648->fv (.slice aa) (bif aS a bH 1==0 then hlp iI fT qe _ (nj g (aS a bH 1) b 0) KRe else bif !(aS a bH 1==1)then ar (.panic 131 4,[])else hlp iI fT qe _ (nj g (aS a bH 1) b 0) KRe)=bif (aS a bH 1==0||aS a bH 1==1)then (ar (.ret [.d (.slice aa) (rJ g (aS a bH 1) 0 b)],[]))else ar (.panic 131 4,[]):=λg k=>by
   cases aS a bH 1==0 with|true=>rw[ai,Bool.true_or,ai];exact e g _ k|false=>rw[al,IN];cases aS a bH 1==1 with|true=>rw[cy,al,ai];exact e g _ k|false=>rfl
  cases j==gS with
  |true=>rw[ai,ai];cases dj (.ofNat b.length) [aS a bE 0] []with|false=>rfl|true=>rw[ai,gb];exact key [kD (aS a bE 0) (.ofNat b.length)] (by simp)
  |false=>rw[al,al];cases dj (.ofNat b.length) (aj a bD (fw b.length)) []with|false=>rfl|true=>rw[ai,gb];exact key _ (by rw[gr];exact q)
 ·cases i
def aEB  :=fC [Y7,.slice aa] (ay auU)
theorem alA :bq 150 aEB:=cn alz
def jU k r  :=bif a7 (k<0)then if (if r<i64.wrap (k+r)then r else i64.wrap (k+r))>0 then if r<i64.wrap (k+r)then r else i64.wrap (k+r)else 0 else if (if r<k then r else k)>0 then if r<k then r else k else 0
def auV :List AV->LHp->Tq
 |[.d zI k,.d zI r],[]=>.leaf (.ret [I (jU k r)]) []
 |_,_=>.no
theorem alB :bq 256 (ay auV):=by
 let c  :=Q3;refine aY λb d e f a=>?_
 unfold auV at a;split at a
 ·rename_i k r;refine c.okC ((auO k r).trans (gp ?_ a));unfold jU;cases a7 (k<0)<;>rfl
 ·cases a
def oo  :=aEw.add 256 (ay auV)
theorem Oy :oo.Good:=Va.add alB
def yI (a b c l:af)(i:Int)(o:af):LSt:=⟨az 7 [(1,.d (.slice aa) a),(5,.d (.slice aa) b),(6,.d (.slice aa) c),(8,.os 0 0),(41,.d (.slice aa) l),(42,I (.ofNat l.length)),(43,I i)],[(0,.arr 3 aa 0 a8 o)],1⟩
theorem alC (f g:ao)(c:List ao)(e:ao)(a:bu) vs (b:af):aB oo f219 7 [(6,[1,5,6,8,41,42,43])] [iN (f,g,c,e,a,()) vs,.d (.slice aa) b] [] ah=bif aE a then bif aE a then bif a7 (0<=bd (aj a BP []).length/\bd (aj a BP []).length<=2147483648)then bif aE a then bif a7 ((fw (bd (aj a BP []).length).toNat).length<=2147483648)then bif a7 ((aj a m9 (fw (bd (aj a BP []).length).toNat)).length<=2147483648)then bif dj (.ofNat b.length) (aj a m9 (fw (bd (aj a BP []).length).toNat)) []then bif .ofNat (aj a BP []).length==bd (aj a [101,110,100,115] []).length then bif !.ofNat (aj a BP []).length==bd (jy (aj a m9 (fw (bd (aj a BP []).length).toNat)) (.ofNat b.length)).length then bF else bif a7 (b.length<=2147483648)then (hlp oo k9) Ou _ (yI b (aj a BP []) (aj a [101,110,100,115] []) (jy (aj a m9 (fw (bd (aj a BP []).length).toNat)) (.ofNat b.length)) 0 b) (aI 0 (aL oo k9 [6] (hlp oo k9) (cR (cR (cR (cR (cR (cR acG)))))) (aV prog 0 f219.results.toList ah)))else a6 else bF else bF else a6 else a6 else a6 else a6 else a6 else a6:=(aW [6] k9 rfl).trans (by obtain⟨i,h⟩:=aM oo k9;rw[h];kernel_rfl)
theorem acR b c e l i o n {R} (k:AEx->LSt->Option R):lp oo k9 Ou (n+1) (yI b c e l i o) k=bif a7 (i<bd l.length)then (idx l i).bind λa=>(idx e i).bind λf=>(idx b a).bind λg=>(idx c i).bind λh=>(idx b a).bind λj=>(idx o a).bind λq=>(fR o (j4 a) (i64.wrap (jU f g-jU h j))).bind λm=>(idx m a).bind λr=>(m[j4 a]?).bind λp=>bif !decide (p>0)then k (.panic 131 4) {fr:=az 7 [(1,.d (aa).slice b),(5,.d (aa).slice c),(6,.d (aa).slice e),(8,.os 0 0),(9,I i),(10,I a),(41,.d (aa).slice l),(42,I (.ofNat l.length)),(43,I i),(44,B bc),(45,I i),(46,.ip (aa) a),(47,I a),(48,.os 0 0),(49,I a),(50,eb (aa).slice e),(51,I i),(52,.ip (aa) f),(53,I f),(54,.d (aa).slice b),(55,I a),(56,.ip (aa) g),(57,I g),(58,I (jU f g)),(59,.d (aa).slice c),(60,I i),(61,.ip (aa) h),(62,I h),(63,.d (aa).slice b),(64,I a),(65,Zh (aa) j),(66,I j),(67,I (jU h j)),(68,I (i64.wrap (jU f g-jU h j))),(69,.oe 0 0 (j4 a)),(70,AV.os 0 0),(71,I a),(72,.oe 0 0 (j4 a)),(73,I p),(74,B (a7 (p>0)))],hp:=[(0,.arr 3 (aa) 0 a8 m),(0,.arr 3 (aa) 0 a8 o)],nx:=1}else lp oo k9 Ou n (yI b c e l (i64.wrap (i+1)) m) k else k (.exit 0) ⟨az 7 [(1,.d (aa).slice b),(5,.d (aa).slice c),(6,.d (aa).slice e),(8,.os 0 0),(41,.d (aa).slice l),(42,I (.ofNat l.length)),(43,I i),(44,B a8)],[(0,.arr 3 (aa) 0 a8 o)],1⟩:=by kernel_rfl
def jh  :=((Oc.add 149 (ay U4)).add 59 (ay Cb)).add 107 (ay Lx)
theorem Vc :jh.Good:=((pD.add Ad).add mA).add sH
theorem auW (g i:ao)(c:List ao)(e:ao)(b:bu) vs (a:af):aB jh f218 6 [(4,[1,5,6,21,22,23]),(8,[1,5,6,21,22,23,35,36,37])] [iN (g,i,c,e,b,()) vs,.d (.slice aa) a] [] ah=bif a7 (b.length<=9223372036854775807)then bif uf (aS b jG 0) (.ofNat a.length)then bif a7 (a.length<=2147483648)then (if (0:Int)<=1/\1<=bd vs.length/\.ofNat vs.length<=bd vs.length then ar (fb 1 (gy (bd vs.length).toNat vs))else a6).bind λf=>(hlp jh dk) zu _ ⟨az 6 [(1,.d (aa).slice a),(5,I (kD (aS b jG 0) (.ofNat a.length))),(6,.os 0 0),(21,.d Y3.slice f),(22,I (.ofNat f.length)),(23,I 0)],[(0,.arr 3 aa 0 a8 a)],1⟩ (aI 0 (aL jh dk [4,8] (hlp jh dk) (cR (cR (cR (cR E7)))) (aV prog 0 f218.results.toList ah)))else a6 else bF else a6:=(aW [4,8] dk rfl).trans (by obtain⟨j,h⟩:=aM jh dk;rw[h];kernel_rfl)
def vF  :=(zp.add 215 aly).add 107 (ay Lx)
theorem Vd :vF.Good:=(gq.add Hj).add sH
theorem auX (f g:ao)(c:List ao)(e:ao)(b:bu) vs (a:af):aB vF f221 6 [(4,[1,5,6,17,18])] [iN (f,g,c,e,b,()) vs,.d (.slice aa) a] [] ah=bif aE b then bif cA (i64.wrap (.ofNat (2*a.length))) 0 65536 (aj b cE [])then bif a7 (a.length<=2147483648)then (hlp vF lb) Ov _ ⟨az 6 [(1,.d (aa).slice a),(5,.d (aa).slice (aj b cE [])),(6,.os 0 0),(17,I (.ofNat a.length)),(18,I 0)],[(0,.arr 3 aa 0 a8 a)],1⟩ (aI 0 (aL vF lb [4] (hlp vF lb) (cR (cR (cR (cR acI)))) (aV prog 0 f221.results.toList ah)))else a6 else bF else a6:=(aW [4] lb rfl).trans (by obtain⟨i,h⟩:=aM vF lb;rw[h];kernel_rfl)
def aEC  :=zp.add 59 (ay Cb)
theorem Ve :aEC.Good:=gq.add mA
theorem auY (h i:ao)(f:List ao)(g:ao)(b:bu) vs (a:af):aB aEC f224 6 [] [iN (h,i,f,g,b,()) vs,.d (.slice aa) a] [] ah=bif a7 (b.length<=9223372036854775807)then bif a7 (i64.wrap (0-.ofNat a.length)<=aS b jG 1)then bif !decide (aS b jG 1<=.ofNat a.length)then bF else bif a7 (aS b jG 1<0)then (if (0:Int)<=0/\0<=i64.wrap (aS b jG 1+.ofNat a.length)/\i64.wrap (aS b jG 1+.ofNat a.length)<=.ofNat a.length then ar (fb 0 (gy (i64.wrap (aS b jG 1+.ofNat a.length)).toNat a))else a6).bind λc=>bif a7 (c.length<=9223372036854775807)then (if 0<=i64.wrap (aS b jG 1+.ofNat a.length)/\i64.wrap (aS b jG 1+.ofNat a.length)<=.ofNat a.length/\.ofNat a.length<=bd a.length then ar (fb (i64.wrap (aS b jG 1+.ofNat a.length)).toNat (gy (bd a.length).toNat a))else a6).bind λe=>bif a7 (e.length<=9223372036854775807)then ar (.ret [.os 0 0],[(0,.arr 3 aa 0 a8 [aN c,aN e])])else a6 else a6 else (if (0:Int)<=0/\0<=aS b jG 1/\aS b jG 1<=.ofNat a.length then ar (fb 0 (gy (aS b jG 1).toNat a))else a6).bind λc=>bif a7 (c.length<=9223372036854775807)then (if 0<=aS b jG 1/\aS b jG 1<=.ofNat a.length/\.ofNat a.length<=bd a.length then ar (fb (aS b jG 1).toNat (gy (bd a.length).toNat a))else a6).bind λe=>bif a7 (e.length<=9223372036854775807)then ar (.ret [.os 0 0],[(0,.arr 3 aa 0 a8 [aN c,aN e])])else a6 else a6 else bF else a6:=by kernel_rfl
def auZ :List AV->LHp->Tq
 |[.d zI m],[]=>.br (a7 (0<=m/\m<=2147483648)) (.leaf (.ret [.os 0 0]) [(0,.arr 2 aa 0 a8 (fw m.toNat))]) .no
 |_,_=>.no
theorem RY T a:(kE T a).bind (λp=>bif Ck p.1 then bif dG p.2.length p.2 then ah (.ret [.os p.2.length 0]) (p.2++[(p.2.length,.arr T aa 0 a8 [])])else a6 else ah p.1 p.2)=ar (.ret [.os 0 0],[(0,.arr T aa 0 a8 a)]):=by cases a<;>rfl
theorem alD :bq 210 (ay auZ):=by
 have c:=bM (d:=4) (l:=[(3,[3,5,6])]) nc func210 call210;have g:bq 210 (mkO 2 aa (aA nP f210 4 [(3,[3,5,6])])):=Cm c;refine aY λf o p q b=>?_
 unfold auZ at b;split at b
 ·rename_i m;let ⟨i,j⟩:=eN b;let ⟨k,n⟩:=bt i;cases j;obtain⟨N,rfl⟩:=q8 k;refine g.ok _ _ _ _ ?_;simp only[mkO];rw[c.eq];have e:(aA nP f210 4 [(3,[3,5,6])]).run [I N] [] (λa h=>ar (a,h))=kE 2 (fw N):=(abS _).trans ((apU _).trans (acu (Int.ofNat_le.1 n)));rw[e];exact RY _ _
 ·cases b
theorem Oz {k r}(c:0<=r)(d:r<=4294967296)(h:uf k r=bc):0<=kD k r/\kD k r<r:=by unfold uf at h;rw[aX]at h;let b:=bt h.1;let e:=bt h.2;unfold kD;rw[aH (by omega) (by omega)]at b;cases a:a7 (k<0)with|true=>let:=bt a;rw[ai,aH (by omega) (by omega)];omega|false=>let:=uQ a;rw[al];omega
theorem aP {xs:af}{i:Nat}(h:i<xs.length):idx xs ((i:Nat):Int)=ar (xs.getD i 0):=by unfold idx;rw[if_pos (by omega),b9,kM,dv h]<;>rfl
theorem Hk {xs:af}{k}(a:0<=k)(b:k<(xs.length:Int)):idx xs k=ar (xs.getD k.toNat 0):=by obtain⟨n,rfl⟩:=q8 a;exact aP (by omega)
def yJ (a b c:af)(i:Nat)(k:Int)  :=i64.wrap (jU (c.getD i 0) (a.getD k.toNat 0)-jU (b.getD i 0) (a.getD k.toNat 0))
def slD (a b c:af):Nat->List Int->List Int->Option (af)
 |_,[],o=>ar o
 |i,k::l,o=>bif a7 (yJ a b c i k>0)then slD a b c (i+1) l (o.set k.toNat (yJ a b c i k))else a6
def slN (b c d:af)(a:Nat×af)(k:Int):Nx (Nat×af) (aq×LHp):=bif a7 (yJ b c d a.1 k>0)then .go (a.1+1,a.2.set k.toNat (yJ b c d a.1 k))else .stop (ar (.panic 131 4,[]))
def Hm (T:Nat)(o:Option (af)):Option (aq×LHp):=match o with|some xs=>ar (.ret [.os 0 0],[(0,.arr T aa 0 a8 xs)])|none=>ar (.panic 131 4,[])
theorem RZ b c d:∀(l:af) (i) (o),bG (slN b c d) (λa=>Hm 3 (ar a.2)) l (i,o)=Hm 3 (slD b c d i l o)
 |[],i,o=>rfl
 |k::l,i,o=>by
  let e:slN b c d (i,o) k=bif decide _ then .go _ else .stop _:=rfl
  rw[bG,e,slD];cases a7 (yJ b c d i k>0)with|false=>rfl|true=>exact RZ b c d l _ _
noncomputable def KSl  :=aI 0 (aL oo k9 [6] (hlp oo k9) (cR (cR (cR (cR (cR (cR acG)))))) (aV prog 0 f219.results.toList ah))
theorem au0 {xs st c l:af}(D:xs.length<=2147483648)(E:st.length=l.length)(F:c.length=l.length)(G:l.length<=2147483648)(r:∀k∈l,0<=k/\k<(xs.length:Int)):lp oo k9 Ou fu (yI xs st c l 0 xs) KSl=Hm 3 (slD xs st c 0 l xs):=by
 have H:maxLen=9223372036854775807:=by decide
 refine(cg (xs:=l) (T:=λn s=>lp oo k9 Ou n s KSl) (st:=λ(i:Int) (a:Nat×af)=>yI xs st c l i a.2) (f:=slN xs st c) (fin:=λ(a:Nat×af)=>Hm 3 (ar a.2)) (λ(i:Nat) (a:Nat×af)=>a.1=i/\a.2.length=xs.length) (by omega) ?_ ?_ (a:=(0,xs)) ⟨rfl,rfl⟩).trans (RZ xs st c l 0 xs)
 ·rintro i ⟨b,o⟩ k n ⟨rfl,h⟩ p t u v m
  have h:o.length=xs.length:=h;have p:b<l.length:=p;obtain⟨q,w⟩:=r k (ik t);have d:k.toNat<o.length:=by omega
  have x:fR o k.toNat (yJ xs st c b k)=ar (o.set k.toNat (yJ xs st c b k)):=by unfold fR;rw[show h8 k.toNat o.length=bc from sc d]<;>rfl
  have y:(o.set k.toNat (yJ xs st c b k)).length=xs.length:=by rw[WB];exact h
  have g9:(o.set k.toNat (yJ xs st c b k))[k.toNat]?=ar (yJ xs st c b k):=by rw[List.getElem?_set_self d]
  have g8:idx (o.set k.toNat (yJ xs st c b k)) k=ar (yJ xs st c b k):=by unfold idx;rw[if_pos (by omega),g9]
  have e:slN xs st c (b,o) k=bif a7 (yJ xs st c b k>0)then .go (b+1,o.set k.toNat (yJ xs st c b k))else .stop (ar (.panic 131 4,[])):=rfl
  have z:i64.wrap (jU (c.getD b 0) (xs.getD k.toNat 0)-jU (st.getD b 0) (xs.getD k.toNat 0))=yJ xs st c b k:=rfl;have I:(b:Int)<(l.length:Int):=by omega
  have A:idx c (b:Int)=ar (c.getD b 0):=Hk (k:=(b:Int)) (by omega) (by omega);have B:idx st (b:Int)=ar (st.getD b 0):=Hk (k:=(b:Int)) (by omega) (by omega);have C:idx o k=ar (o.getD k.toNat 0):=Hk q (by omega);have g:=acR xs st c l (b:Int) o n KSl;rw[m,ai,u,aw,A,aw,Hk q w,aw,B,aw,aw,C,aw,z,x,aw,g8,aw,g9,aw,v]at g;cases j:a7 (yJ xs st c b k>0)with|true=>rw[j,cy,al]at g;rw[j,ai]at e;exact .inl ⟨_,e,⟨rfl,y⟩,g⟩|false=>rw[j,al]at e;rw[j,hX,ai]at g;exact .inr ⟨_,e,g.trans (by kernel_rfl)⟩
 ·rintro⟨b,o⟩ n ⟨h,_⟩ m
  show lp _ _ _ (n+1) (yI xs st c l (l.length:Int) o) _=_;rw[acR,m,al];show _=_;kernel_rfl
theorem aEE a b c l:hlp oo k9 Ou _ (yI a b c l 0 a) KSl=lp oo k9 Ou fu (yI a b c l 0 a) KSl:=rfl
def bw :ao:=BP
def lD :ao:=[101,110,100,115]
def IS a  :=aj a bD (fw (aj a bw []).length)
def OA a b  :=bif dj (.ofNat b.length) (IS a) []&&(.ofNat (aj a bw []).length==bd (aj a lD []).length&&.ofNat (aj a bw []).length==bd (IS a).length)then slD b (aj a bw []) (aj a lD []) 0 (jy (IS a) (.ofNat b.length)) b else a6
def Co (o:Option af):Tq:=.br o.isSome (dat (.slice aa) (o.getD [])) (pnc 131 4)
def ynT (k:Bool)(l:af):Tq:=.br k (dat (.slice aa) l) (pnc 131 4)
theorem nk T o:fv (.slice aa) (Hm T o)=(Co o).run ah:=by cases o<;>rfl
def aEF a b  :=(OA a b).isSome
def aEG a b  :=(OA a b).getD []
def au1 :List AV->LHp->Tq
 |[.d Y7 ((_,_,_,_,a,_),_,_),.d zS b],[]=>.br (aE a) (.br (a7 (b.length<=2147483648)) (ynT (aEF a b) (aEG a b)) .no) .no
 |_,_=>.no
theorem Cq {r}:∀{l o:af},dj r l o=bc->∀a∈l,uf a r=bc
 |[],_,_,_,h=>by cases h
 |a::l,o,h,b,c=>by
  rw[dj,aX,aX]at h;rcases List.mem_cons.1 c with rfl|c
  ·exact h.1
  ·exact Cq h.2.2 b c
theorem alG :bq 219 (ay au1):=by
 let p:=bM (d:=7) (l:=[(6,[1,5,6,8,41,42,43])]) Oy func219 call219;refine aY λm e D E f=>?_
 unfold au1 at f;split at f
 ·rename_i q s h i b _ t _ c
  let ⟨e,u⟩:=eN f;let ⟨g,v⟩:=eN u;let g:=bt g;refine p.okO (.slice aa) (gp ?_ (show (Co _).run ah=ar _ from v));refine gp (congrArg _ (alC q s h i b t c)) ?_;let n:=ni e bw (ot:=[]) (by decide);let o:=ni e bD (ot:=fw (aj b bw []).length) (by rw[jg];exact n);rw[←nk];unfold OA IS;change fv _ (bif aE b then bif aE b then (bif a7 (0<=bd (aj b bw []).length/\bd (aj b bw []).length<=2147483648)then (bif aE b then (bif a7 ((fw (aj b bw []).length).length<=2147483648)then (bif a7 ((aj b bD (fw (aj b bw []).length)).length<=2147483648)then (bif dj (.ofNat c.length) (aj b bD (fw (aj b bw []).length)) []then (bif .ofNat (aj b bw []).length==bd (aj b lD []).length then (bif !(.ofNat (aj b bw []).length==bd (jy (aj b bD (fw (aj b bw []).length)) (.ofNat c.length)).length)then _ else (bif a7 (c.length<=2147483648)then _ else _))else _)else _)else _)else _)else _)else _)else _ else _)=_;rw[e,ai,ai,aF (⟨by simp only[aK];omega,by simp only[aK];omega⟩),ai,ai,aF (by rw[jg];exact n:(fw (aj b bw []).length).length<=2147483648),ai,aF o,ai,aF g,ai,gr];cases w:dj (.ofNat c.length) (aj b bD (fw (aj b bw []).length)) []with
  |false=>rfl
  |true=>
   cases x:.ofNat (aj b bw []).length==bd (aj b lD []).length with
   |false=>rfl
   |true=>
    cases j:.ofNat (aj b bw []).length==bd (aj b bD (fw (aj b bw []).length)).length with
    |false=>rfl
    |true=>
     let e2:=eq_of_beq x;let e3:=eq_of_beq j;simp only[aK]at e2 e3;rw[ai,ai,cy,al];let y:∀k∈jy (aj b bD (fw (aj b bw []).length)) (.ofNat c.length),0<=k/\k<c.length:=by intro k z;obtain⟨a,A,rfl⟩:=List.mem_map.1 z;let B:=Oz (r:=.ofNat c.length) (by simp only[aK];omega) (by simp only[aK];omega) (Cq w a A);simpa using B
     let C:=(aEE c (aj b bw []) (aj b lD []) (jy (aj b bD (fw (aj b bw []).length)) (.ofNat c.length))).trans (au0 g (by rw[gr];omega) (by rw[gr];omega) (by rw[gr];exact o) y);exact congrArg (fv (.slice aa)) C
 ·cases f
noncomputable def aEH  :=fC [Y7,.slice aa] (ay au1)
theorem alH :bq 219 aEH:=cn alG
def OB (a b:af)(N i:Int)(o:af):LSt:=⟨az 6 [(1,.d (.slice aa) a),(5,.d (.slice aa) b),(6,.os 0 0),(17,I N),(18,I i)],[(0,.arr 3 aa 0 a8 o)],1⟩
theorem apX b a N i o n {R} (k:AEx->LSt->Option R):lp vF lb Ov (n+1) (OB b a N i o) k=bif a7 (i<N)then (idx o i).bind λh=>(o[i.toNat]?).bind λc=>(idx a i).bind λe=>(idx a (i64.wrap (.ofNat b.length+i))).bind λf=>(idx o i).bind λj=>(fR o i.toNat (i64.wrap (c+i64.wrap (e+f)))).bind λg=>lp vF lb Ov n (OB b a N (i64.wrap (i+1)) g) k else k (.exit 0) ⟨az 6 [(1,.d (aa).slice b),(5,.d (aa).slice a),(6,.os 0 0),(17,I N),(18,I i),(19,B a8)],[(0,.arr 3 aa 0 a8 o)],1⟩:=by kernel_rfl
def vG (c:af)(a:Int)(b:cm)(i:Int)(o:af):LSt:=⟨az 6 [(1,.d (.slice aa) c),(5,I a),(6,.os 0 0),(21,.d (.slice _) b),(22,I (.ofNat b.length)),(23,I i)],[(0,.arr 3 aa 0 a8 o)],1⟩
theorem apY e a b i o n {R} (k:AEx->LSt->Option R):lp jh dk zu (n+1) (vG e a b i o) k=bif a7 (i<.ofNat b.length)then (idx b i).bind λc=>bif !.ofNat (bk c.2.2.1)==bd e.length then k (.panic 131 4) ⟨az 6 [(1,.d (aa).slice e),(5,I a),(6,.os 0 0),(8,.op 1 [] 0),(21,.d Y3.slice b),(22,I (.ofNat b.length)),(23,I i),(24,B bc),(25,.ip Y3 c),(26,.d Y3 c),(27,.op 1 [2] 2),(28,.d (aa).slice c.2.2.1),(29,I (.ofNat (bk c.2.2.1))),(30,.d (aa).slice e),(31,I (.ofNat e.length)),(32,B (.ofNat (bk c.2.2.1)==bd e.length))],[(1,.box (.d Y3 c)),(1,.box ((eb .str []).pr ((I 0).pr (b5.pr (.d .unit bn))))),(0,.arr 3 aa 0 a8 o)],2⟩else (hlp jh dk) Ly _ ⟨az 6 [(1,.d (aa).slice e),(5,I a),(6,.os 0 0),(21,.d Y3.slice b),(22,I (.ofNat b.length)),(23,I i),(35,.d (aa).slice c.2.2.1),(36,I (.ofNat (bk c.2.2.1))),(37,I 0)],[(0,.arr 3 aa 0 a8 o)],1⟩ (aI 2 (aI 1 (aL jh dk [4,8] (hlp jh dk) (cR (cR (cR (cL (cL (cR (cL (cR (cR (cR E7)))))))))) (lJ jh dk [4,8] (hlp jh dk) zu n k))))else k (.exit 0) ⟨az 6 [(1,.d (aa).slice e),(5,I a),(6,.os 0 0),(21,.d Y3.slice b),(22,I (.ofNat b.length)),(23,I i),(24,B a8)],[(0,.arr 3 aa 0 a8 o)],1⟩:=by rw[j9 [4,8]];obtain⟨f,h⟩:=aM jh dk;rw[h];kernel_rfl
def LC (e:af)(a:Int)(b:cm)(j:Int)(c:af)(i:Int)(o:af):LSt:=⟨az 6 [(1,.d (.slice aa) e),(5,I a),(6,.os 0 0),(21,.d (.slice _) b),(22,I (.ofNat b.length)),(23,I j),(35,.d (.slice aa) c),(36,I (.ofNat c.length)),(37,I i)],[(0,.arr 3 aa 0 a8 o)],1⟩
theorem apZ c a e j b i o n {R} (k:AEx->LSt->Option R):lp jh dk Ly (n+1) (LC c a e j b i o) k=bif a7 (i<.ofNat b.length)then (idx b i).bind λf=>bif i==a then (idx o i).bind λg=>(o[i.toNat]?).bind λh=>(idx o i).bind λm=>(fR o i.toNat (i64.wrap (h+f))).bind λl=>lp jh dk Ly n (LC c a e j b (i64.wrap (i+1)) l) k else (idx c i).bind λg=>bif !f==g then k (.panic 131 4) ⟨az 6 [(1,.d (aa).slice c),(5,I a),(6,.os 0 0),(9,I i),(10,I f),(21,.d Y3.slice e),(22,I (.ofNat e.length)),(23,I j),(35,.d (aa).slice b),(36,I (.ofNat b.length)),(37,I i),(38,B bc),(39,I i),(40,.ip aa f),(41,I f),(42,I i),(43,I a),(44,B a8),(52,I f),(53,.d (aa).slice c),(54,I i),(55,.ip aa g),(56,I g),(57,B (f==g))],[(0,.arr 3 aa 0 a8 o)],1⟩else lp jh dk Ly n (LC c a e j b (i64.wrap (i+1)) o) k else k (.exit 2) ⟨az 6 [(1,.d (aa).slice c),(5,I a),(6,.os 0 0),(21,.d Y3.slice e),(22,I (.ofNat e.length)),(23,I j),(35,.d (aa).slice b),(36,I (.ofNat b.length)),(37,I i),(38,B a8)],[(0,.arr 3 aa 0 a8 o)],1⟩:=by kernel_rfl
abbrev DF :=af×Int×Int
def Hn (o:af)(a p d:Int):Nx DF (aq×LHp):=bif a7 (d>=1)then bif a7 (d<=65536)then (bif a7 (i64.wrap (p*d)<=65536)then .go (o++[d],a,i64.wrap (p*d))else .stop (ar (.panic 131 4,[])))else .stop (ar (.panic 131 4,[]))else .stop (ar (.panic 131 4,[]))
def Ho (a:af)(s:DF) x  :=bif x== -1&&a7 (s.2.1<0)then Hn s.1 s.1.length s.2.2 1 else bif x==0&&a7 (s.1.length<bd a.length)then Hn s.1 s.2.1 s.2.2 (a.getD s.1.length 0)else Hn s.1 s.2.1 s.2.2 x
def E8 (a:af)(s:DF)  :=bif a7 (s.2.1>=0)then bif (aN a).tmod s.2.2==0 then kE 3 (s.1.set s.2.1.toNat (i64.wrap ((aN a).tdiv s.2.2)))else ar (.panic 131 4,[])else bif aN a==s.2.2 then kE 3 s.1 else ar (.panic 131 4,[])
def OD (a l:af)(i:Int)(s:DF):LSt:=match s.1 with|[]=>yH a s.2.1 s.2.2 l i|v::o=>kf (v::o) a s.2.1 s.2.2 l i
def RsI (i:Nat)(s:DF)  :=s.1.length=i/\s.2.1<i/\1<=s.2.2/\s.2.2<=65536
theorem Ae {o a p d}{i:Nat}{s}(f:o.length=i)(n:a<(i:Int)+1)(g:1<=p)(j:p<=65536)(h:Hn o a p d=.go s):RsI (i+1) s:=by
 unfold Hn at h;cases b:a7 (d>=1)with
 |false=>rw[b]at h;cases h
 |true=>
  cases c:a7 (d<=65536)with|false=>rw[b,c]at h;cases h|true=>cases e:a7 (i64.wrap _<=65536)with|false=>rw[b,c,e]at h;cases h|true=>rw[b,c,e]at h;cases h;let k:=bt b;let l:=bt c;let m:=bt e;let q  :=Qb j l (by omega) (by omega);let r  :=Qb g k (by omega) (by omega);let w:i64.wrap _=p*d:=aH (by omega) (by omega);refine⟨by rw[bK,eS,f],by push_cast;omega,?_,m⟩;show 1<=i64.wrap _;omega
def rsT {X:Type}(P:X)(T:DF->X) o a p d  :=bif a7 (d>=1)then bif !decide (d<=65536)then P else bif !decide (i64.wrap (p*d)<=65536)then P else T (o++[d],a,i64.wrap (p*d))else P
theorem E9 {o a p d}{i:Nat}(k:o.length=i)(l:a<(i:Int)+1)(m:1<=p)(n:p<=65536){x}{s:Option (aq×LHp)}{T:DF->Option (aq×LHp)}(h:x=Hn o a p d)(j:s=rsT (ar (.panic 131 4,[])) T o a p d):
  (∃f,x=.go f/\RsI (i+1) f/\s=T f)\/∃r,x=.stop r/\s=r:=by
 cases b:Hn o a p d with
 |go f=>
  refine .inl ⟨f,h.trans b,Ae k l m n b,j.trans ?_⟩;unfold Hn at b;unfold rsT;cases c:a7 (d>=1)with
  |false=>rw[c]at b;cases b
  |true=>
   cases e:a7 (d<=65536)with|false=>rw[c,e]at b;cases b|true=>cases g:a7 (i64.wrap _<=65536)with|false=>rw[c,e,g]at b;cases b|true=>rw[c,e,g]at b;cases b;rfl
 |stop r=>
  refine .inr ⟨r,h.trans b,j.trans ?_⟩;unfold Hn at b;unfold rsT;cases c:a7 (d>=1)with
  |false=>rw[c]at b;cases b;rfl
  |true=>
   cases e:a7 (d<=65536)with|false=>rw[c,e]at b;cases b;rfl|true=>cases g:a7 (i64.wrap _<=65536)with|false=>rw[c,e,g]at b;cases b;rfl|true=>rw[c,e,g]at b;cases b
theorem Vf {b l:af}{a p i}(e:bk ([]:af)=i)(B:a<(i:Int))(g:1<=p)(h:p<=65536)(C:l.length<=2147483648){x n}(D:i<l.length)(u:idx l i=ar x)(v:i64.wrap (i+1)=(i+1:Nat))(w:a7 (i<bd l.length)=bc):
    (∃j,Ho b ([],a,p) x=.go j/\RsI (i+1) j/\lp iq cV jK (n+1) (yH b a p l i) uM=lp iq cV jK n (OD b l (i+1:Nat) j) uM)\/∃r,Ho b ([],a,p) x=.stop r/\lp iq cV jK (n+1) (yH b a p l i) uM=r:=by
  have c:=acP b a p l i n
  have z:∀y:Int,app [] [y]=ar ([]++[y]):=λy=>eX (by rw[e,eS,show lim=4294967296 from rfl];omega)
  have A:(bk ([]:af):Nat)=i:=by rw[e]
  have f:Ho b ([],a,p) x=bif x== -1&&a7 (a<0)then Hn [] i p 1 else bif x==0&&a7 (i<bd b.length)then Hn [] a p (b.getD i 0)else Hn [] a p x:=by unfold Ho;simp only[A,e]
  rw[w,ai,u,aw,v]at c
  simp only[z,aw]at c
  have m:a<i+1:=by omega
  have E:(λs=>lp iq cV jK n (OD b l (i+1:Nat) s) uM)=λs=>lp iq cV jK n (OD b l (i+1:Nat) s) uM:=rfl
  cases o:x== -1<;>cases q:a7 (a<0)<;>cases t:x==0<;>cases k:a7 (i<bd b.length)<;>
    (rw[o,q,t,k]at f
     rw[o]at c
     try rw[q]at c
     try rw[t]at c
     try rw[k]at c
     first
       |exact E9 e m g h f c
       | (refine E9 (d:=1) e (show i<(i:Int)+1 by omega) g h f (c.trans ?_)
          kernel_rfl)
       | (rw[aP (Int.ofNat_lt.1 (bt k))]at c
          exact E9 e m g h f c))
theorem Vg {b l:af}{a p i v}{o:af}(e:bk (v::o)=i)(D:a<(i:Int))(g:1<=p)(h:p<=65536)(E:l.length<=2147483648){x n}(F:i<l.length)(w:idx l i=ar x)(z:i64.wrap (i+1)=(i+1:Nat))(A:a7 (i<bd l.length)=bc):
    (∃j,Ho b (v::o,a,p) x=.go j/\RsI (i+1) j/\lp iq cV jK (n+1) (kf (v::o) b a p l i) uM=lp iq cV jK n (OD b l (i+1:Nat) j) uM)\/∃r,Ho b ((v::o),a,p) x=.stop r/\lp iq cV jK (n+1) (kf (v::o) b a p l i) uM=r:=by
  have c:=acQ v o b a p l i n
  have B:∀y:Int,app (v::o) [y]=ar (v::o++[y]):=λy=>eX (by rw[e,eS,show lim=4294967296 from rfl];omega)
  have C:(bk (v::o:af):Nat)=i:=by rw[e]
  have f:Ho b (v::o,a,p) x=bif x== -1&&a7 (a<0)then Hn (v::o) i p 1 else bif x==0&&a7 (i<bd b.length)then Hn (v::o) a p (b.getD i 0)else Hn (v::o) a p x:=by unfold Ho;simp only[C,e]
  rw[A,ai,w,aw,z]at c
  simp only[B,aw]at c
  have m:a<i+1:=by omega
  have G:(λs=>lp iq cV jK n (OD b l (i+1:Nat) s) uM)=λs=>lp iq cV jK n (OD b l (i+1:Nat) s) uM:=rfl
  cases q:x== -1<;>cases t:a7 (a<0)<;>cases u:x==0<;>cases k:a7 (i<bd b.length)<;>
    (rw[q,t,u,k]at f
     rw[q]at c
     try rw[t]at c
     try rw[u]at c
     try rw[k]at c
     first
       |exact E9 e m g h f c
       | (refine E9 (d:=1) e (show i<(i:Int)+1 by omega) g h f (c.trans ?_)
          kernel_rfl)
       | (rw[aP (Int.ofNat_lt.1 (bt k))]at c
          exact E9 e m g h f c))
theorem au2 {xs l:af}(D:xs.length<=2147483648)(w:l.length<=2147483648):lp iq cV jK fu (yH xs (-1) 1 l 0) uM=bG (Ho xs) (E8 xs) l ([],-1,1):=by
 have E:maxLen=9223372036854775807:=by decide
 refine cg (xs:=l) (T:=λn s=>lp iq cV jK n s uM) (st:=λ(i:Int) (s:DF)=>OD xs l i s) (f:=Ho xs) (fin:=E8 xs) (λ(i:Nat) (s:DF)=>RsI i s) (by omega) ?_ ?_ (a:=([],-1,1)) ⟨rfl,by decide,by decide,by decide⟩
 ·rintro i ⟨o,a,p⟩ x n ⟨b,c,d,h⟩ y F z A e
  cases o with|nil=>exact Vf b c d h w y z A e|cons v o=>exact Vg b c d h w y z A e
 ·rintro⟨o,a,p⟩ n ⟨b,c,d,h⟩ e
  have b:o.length=l.length:=b;have c:a<(l.length:Int):=c;have d:1<=p:=d;have hp:p≠0:=by omega
  have g:E8 xs (o,a,p)=bif a7 (a>=0)then (bif (aN xs).tmod p==0 then kE 3 (o.set a.toNat (i64.wrap ((aN xs).tdiv p)))else ar (.panic 131 4,[]))else bif aN xs==p then kE 3 o else ar (.panic 131 4,[]):=rfl
  rw[g];cases o with
  |nil=>have j:a7 (a>=0)=a8:=cq (by simp only[eO]at b;omega);show lp _ _ _ (n+1) (yH xs a p l (l.length:Int)) _=_;rw[acP,e,al];rw[aF (show xs.length<=9223372036854775807 by omega),ai,j,al,al];cases aN xs==p<;>rfl
  |cons v o=>
   show lp _ _ _ (n+1) (kf (v::o) xs a p l (l.length:Int)) _=_;rw[acQ,e,al];rw[aF (show xs.length<=9223372036854775807 by omega),ai];cases j:a7 (a>=0)with
   |false=>rw[al,al];cases aN xs==p<;>rfl
   |true=>
    have m:=bt j;rw[ai,ai,if_neg hp,aw,if_neg hp,aw];cases (aN xs).tmod p==0 with
    |false=>rfl
    |true=>
     have q:a.toNat<(v::o).length:=by omega
     have B:fR (v::o) a.toNat (i64.wrap ((aN xs).tdiv p))=ar ((v::o).set a.toNat (i64.wrap ((aN xs).tdiv p))):=by unfold fR;rw[show h8 a.toNat (v::o).length=bc from sc q]<;>rfl
     rw[cy,al,ai,Hk (xs:=v::o) (k:=a) m (by omega),aw,B,aw];have C:∃r t,(v::o).set a.toNat (i64.wrap ((aN xs).tdiv p))=r::t:=by cases u:(v::o).set a.toNat (i64.wrap ((aN xs).tdiv p))with|nil=>have:=congrArg bk u;simp at this|cons r t=>exact⟨_,_,rfl⟩
     obtain⟨r,t,u⟩:=C;rw[u]<;>rfl
def rsR (a:af):List Int->DF->Option DF
 |[],s=>ar s
 |x::l,s=>match Ho a s x with| .go b=>rsR a l b| .stop _=>a6
def yK (a:af)(s:DF):Option af:=bif a7 (s.2.1>=0)then bif (aN a).tmod s.2.2==0 then ar (s.1.set s.2.1.toNat (i64.wrap ((aN a).tdiv s.2.2)))else a6 else bif aN a==s.2.2 then ar s.1 else a6
def da :ao:=zo
def OE b a  :=(rsR a (aj b da []) ([],-1,1)).bind (yK a)
theorem acS {i s x r}(h:Ho i s x=.stop r):r=ar (.panic 131 4,[]):=by
 let key:∀{o:af} {a p d:Int},Hn o a p d=.stop r->r=ar _:=by
  intro o a p d h;unfold Hn at h;cases b:a7 (d>=1)with
  |false=>rw[b]at h;cases h;rfl
  |true=>
   cases c:a7 (d<=65536)with|false=>rw[b,c]at h;cases h;rfl|true=>cases e:a7 (i64.wrap _<=65536)with|false=>rw[b,c,e]at h;cases h;rfl|true=>rw[b,c,e]at h;cases h
 unfold Ho at h;cases f:x== -1&&a7 (s.2.1<0)with|true=>rw[f,ai]at h;exact key h|false=>rw[f,al]at h;cases g:x==0&&a7 ((s.1.length)<bd _)with|true=>rw[g,ai]at h;exact key h|false=>rw[g,al]at h;exact key h
theorem acT (a:af):∀(l:af) (s:DF),fv (.slice aa) (bG (Ho a) (E8 a) l s)=(Co ((rsR a l s).bind (yK a))).run ah
 |[],s=>by
  show fv _ (E8 a s)=(Co (yK a s)).run ah;unfold E8 yK;cases a7 (s.2.1>=0)with
  |true=>cases (aN a).tmod s.2.2==0 with|true=>exact nh _ _|false=>rfl
  |false=>cases aN a==s.2.2 with|true=>exact nh _ _|false=>rfl
 |x::l,s=>by rw[bG,rsR];cases b:Ho a s x with|go c=>exact acT a l c|stop r=>rw[acS b]<;>rfl
theorem aEI a l:hlp iq cV jK _ (yH a (-1) 1 l 0) uM=lp iq cV jK fu (yH a (-1) 1 l 0) uM:=rfl
def aEJ a b  :=(OE a b).isSome
def aEK a b  :=(OE a b).getD []
def au3 :List AV->LHp->Tq
 |[.d Y7 ((_,_,_,_,a,_),_,_),.d zS b],[]=>.br (aE a) (.br (a7 (b.length<=2147483648)) (ynT (aEJ a b) (aEK a b)) .no) .no
 |_,_=>.no
theorem alJ :bq 216 (ay au3):=by
 let i:=bM (d:=7) (l:=[(4,[1,5,6,7,13,14,15])]) U9 func216 call216;refine aY λh b s t a=>?_
 unfold au3 at a;split at a
 ·rename_i j k c e m _ n _ f;let ⟨b,o⟩:=eN a;let ⟨g,p⟩:=eN o;let g:=bt g;refine i.okO (.slice aa) (gp ?_ p);refine gp (congrArg _ (auH j k c e m n f)) ?_;let q:=ni b da (ot:=[]) (by decide);rw[b,ai];let r:=(aEI f _).trans (au2 g q);exact(congrArg _ r).trans (acT f _ _)
 ·cases a
noncomputable def aEL  :=fC [Y7,.slice aa] (ay au3)
theorem alK :bq 216 aEL:=cn alJ
abbrev LD (n:(Y2).den)(a:cm):AV:=.d Y7 (n,a,())
noncomputable def gWd  :=UI.add 215 (ay nuF)
theorem LF :gWd.Good:=ij.add abC
theorem au4 (r s:ao)(i:List ao)(j:ao)(c:bu) vs (a b h w k l:Int):aB gWd f214 5 [] [LD (r,s,i,j,c,()) vs,.d (.slice aa) [a,b,h,w],.d (.slice aa) [k,l]] [] ah=bif a7 (c.length<=9223372036854775807/\(aj c du [1,1]).length<=2147483648)then bif cA 2 1 100 (aj c du [1,1])then bif a7 (c.length<=9223372036854775807/\(aj c cE [0,0,0,0]).length<=2147483648)then bif cA 4 0 100 (aj c cE [0,0,0,0])then bif a7 (c.length<=9223372036854775807/\(aj c dw [1,1]).length<=2147483648)then bif cA 2 1 100 (aj c dw [1,1])then (idx (aj c cE [0,0,0,0]) 0).bind λA=>((aj c cE [0,0,0,0])[0]?).bind λm=>(idx (aj c cE [0,0,0,0]) 2).bind λB=>((aj c cE [0,0,0,0])[2]?).bind λn=>(idx (aj c dw [1,1]) 0).bind λt=>((aj c dw [1,1])[0]?).bind λe=>bif !decide (i64.wrap (i64.wrap (i64.wrap (i64.wrap (h+m)+n)-i64.wrap (e*i64.wrap (k-1)))-1)>=0)then bF else (idx (aj c du [1,1]) 0).bind λC=>((aj c du [1,1])[0]?).bind λo=>(if o=0 then a6 else ar (i64.wrap ((i64.wrap (i64.wrap (i64.wrap (i64.wrap (h+m)+n)-i64.wrap (e*i64.wrap (k-1)))-1)).tdiv o))).bind λu=>(idx (aj c cE [0,0,0,0]) 1).bind λv=>((aj c cE [0,0,0,0])[1]?).bind λp=>(idx (aj c cE [0,0,0,0]) 3).bind λD=>((aj c cE [0,0,0,0])[3]?).bind λq=>(idx (aj c dw [1,1]) 1).bind λx=>((aj c dw [1,1])[1]?).bind λf=>bif !decide (i64.wrap (i64.wrap (i64.wrap (i64.wrap (w+p)+q)-i64.wrap (f*i64.wrap (l-1)))-1)>=0)then bF else (idx (aj c du [1,1]) 1).bind λy=>((aj c du [1,1])[1]?).bind λg=>(if g=0 then a6 else ar (i64.wrap ((i64.wrap (i64.wrap (i64.wrap (i64.wrap (w+p)+q)-i64.wrap (f*i64.wrap (l-1)))-1)).tdiv g))).bind λz=>ak [I (i64.wrap (u+1)),I (i64.wrap (z+1))]else bF else a6 else bF else a6 else bF else a6:=by kernel_rfl
theorem au5 (r s:ao)(k:List ao)(l:ao)(c:bu) vs (a b h w e f:Int):aB gWd f214 5 [] [LD (r,s,k,l,c,()) vs,.d (.slice aa) [a,b,h,w],.os 0 0] [(0,.arr 3 aa 0 a8 [e,f])] ah=bif a7 (c.length<=9223372036854775807/\(aj c du [1,1]).length<=2147483648)then bif cA 2 1 100 (aj c du [1,1])then bif a7 (c.length<=9223372036854775807/\(aj c cE [0,0,0,0]).length<=2147483648)then bif cA 4 0 100 (aj c cE [0,0,0,0])then bif a7 (c.length<=9223372036854775807/\(aj c dw [1,1]).length<=2147483648)then bif cA 2 1 100 (aj c dw [1,1])then (idx (aj c cE [0,0,0,0]) 0).bind λA=>((aj c cE [0,0,0,0])[0]?).bind λm=>(idx (aj c cE [0,0,0,0]) 2).bind λB=>((aj c cE [0,0,0,0])[2]?).bind λn=>(idx (aj c dw [1,1]) 0).bind λt=>((aj c dw [1,1])[0]?).bind λg=>bif !decide (i64.wrap (i64.wrap (i64.wrap (i64.wrap (h+m)+n)-i64.wrap (g*i64.wrap (e-1)))-1)>=0)then ar (.panic 131 4,[(0,.arr 3 aa 0 a8 [e,f])])else (idx (aj c du [1,1]) 0).bind λC=>((aj c du [1,1])[0]?).bind λo=>(if o=0 then a6 else ar (i64.wrap ((i64.wrap (i64.wrap (i64.wrap (i64.wrap (h+m)+n)-i64.wrap (g*i64.wrap (e-1)))-1)).tdiv o))).bind λu=>(idx (aj c cE [0,0,0,0]) 1).bind λv=>((aj c cE [0,0,0,0])[1]?).bind λp=>(idx (aj c cE [0,0,0,0]) 3).bind λD=>((aj c cE [0,0,0,0])[3]?).bind λq=>(idx (aj c dw [1,1]) 1).bind λx=>((aj c dw [1,1])[1]?).bind λi=>bif !decide (i64.wrap (i64.wrap (i64.wrap (i64.wrap (w+p)+q)-i64.wrap (i*i64.wrap (f-1)))-1)>=0)then ar (.panic 131 4,[(0,.arr 3 aa 0 a8 [e,f])])else (idx (aj c du [1,1]) 1).bind λy=>((aj c du [1,1])[1]?).bind λj=>(if j=0 then a6 else ar (i64.wrap ((i64.wrap (i64.wrap (i64.wrap (i64.wrap (w+p)+q)-i64.wrap (i*i64.wrap (f-1)))-1)).tdiv j))).bind λz=>ar (.ret [I (i64.wrap (u+1)),I (i64.wrap (z+1))],[(0,.arr 3 aa 0 a8 [e,f])])else ar (.panic 131 4,[(0,.arr 3 aa 0 a8 [e,f])])else a6 else ar (.panic 131 4,[(0,.arr 3 aa 0 a8 [e,f])])else a6 else ar (.panic 131 4,[(0,.arr 3 aa 0 a8 [e,f])])else a6:=by kernel_rfl
def tE (o:Option (Int×Int×Int)):Option (aq×LHp):=o.bind λp=>bif p.2.2==0 then ar (.ret [I p.1,I p.2.1],[])else ar (.panic 131 p.2.2,[])
theorem Vh c a b:tE (bif c then a else b)=bif c then tE a else tE b:=by cases c<;>rfl
theorem OF {a:Type}(x:Option a) f:tE (x.bind f)=x.bind λv=>tE (f v):=by cases x<;>rfl
theorem OG :tE a6=a6:=rfl
theorem Vi x y:tE (ar (x,y,0))=ar (.ret [I x,I y],[]):=rfl
theorem acU :tE (ar (0,0,4))=ar (.panic 131 4,[]):=rfl
def pG (a:bu)(h w e f:Int):Option (Int×Int×Int):=
  bif a7 (a.length<=9223372036854775807/\(aj a du [1,1]).length<=2147483648)then  bif cA 2 1 100 (aj a du [1,1])then  bif a7 (a.length<=9223372036854775807/\(aj a cE [0,0,0,0]).length<=2147483648)then  bif cA 4 0 100 (aj a cE [0,0,0,0])then  bif a7 (a.length<=9223372036854775807/\(aj a dw [1,1]).length<=2147483648)then  bif cA 2 1 100 (aj a dw [1,1])then (idx (aj a cE [0,0,0,0]) 0).bind λs=>((aj a cE [0,0,0,0])[0]?).bind λg=>(idx (aj a cE [0,0,0,0]) 2).bind λt=>((aj a cE [0,0,0,0])[2]?).bind λi=>(idx (aj a dw [1,1]) 0).bind λm=>((aj a dw [1,1])[0]?).bind λb=>bif !decide (i64.wrap (i64.wrap (i64.wrap (i64.wrap (h+g)+i)-i64.wrap (b*i64.wrap (e-1)))-1)>=0)then ar (0,0,4)else (idx (aj a du [1,1]) 0).bind λu=>((aj a du [1,1])[0]?).bind λj=>(if j=0 then a6 else ar (i64.wrap ((i64.wrap (i64.wrap (i64.wrap (i64.wrap (h+g)+i)-i64.wrap (b*i64.wrap (e-1)))-1)).tdiv j))).bind λn=>(idx (aj a cE [0,0,0,0]) 1).bind λo=>((aj a cE [0,0,0,0])[1]?).bind λk=>(idx (aj a cE [0,0,0,0]) 3).bind λv=>((aj a cE [0,0,0,0])[3]?).bind λl=>(idx (aj a dw [1,1]) 1).bind λp=>((aj a dw [1,1])[1]?).bind λc=>bif !decide (i64.wrap (i64.wrap (i64.wrap (i64.wrap (w+k)+l)-i64.wrap (c*i64.wrap (f-1)))-1)>=0)then ar (0,0,4)else (idx (aj a du [1,1]) 1).bind λq=>((aj a du [1,1])[1]?).bind λd=>(if d=0 then a6 else ar (i64.wrap ((i64.wrap (i64.wrap (i64.wrap (i64.wrap (w+k)+l)-i64.wrap (c*i64.wrap (f-1)))-1)).tdiv d))).bind λr=>ar (i64.wrap (n+1),i64.wrap (r+1),0)else ar (0,0,4)else a6 else ar (0,0,4)else a6 else ar (0,0,4)else a6
theorem alL (j k:ao)(c:List ao)(e:ao)(f:bu) vs (a b h w g i:Int):aB gWd f214 5 [] [LD (j,k,c,e,f,()) vs,.d (.slice aa) [a,b,h,w],.d (.slice aa) [g,i]] [] ah=tE (pG f h w g i):=by rw[au4];unfold pG;simp only[Vh,OF,OG,Vi,acU]
def rK (a:LHp)(o:Option (Int×Int×Int)):Option (aq×LHp):=o.bind λp=>bif p.2.2==0 then ar (.ret [I p.1,I p.2.1],a)else ar (.panic 131 p.2.2,a)
theorem Vj d c a b:rK d (bif c then a else b)=bif c then rK d a else rK d b:=by cases c<;>rfl
theorem OH a {b:Type} (x:Option b) f:rK a (x.bind f)=x.bind λv=>rK a (f v):=by cases x<;>rfl
theorem OI a:rK a a6=a6:=rfl
theorem Vk a x y:rK a (ar (x,y,0))=ar (.ret [I x,I y],a):=rfl
theorem acV a:rK a (ar (0,0,4))=ar (.panic 131 4,a):=rfl
def alM (a:af):LHp:=[(0,.arr 3 aa 0 a8 a)]
theorem alN (j k:ao)(c:List ao)(e:ao)(i:bu) l (a b h w f g:Int):aB gWd f214 5 [] [LD (j,k,c,e,i,()) l,.d (.slice aa) [a,b,h,w],.os 0 0] (alM [f,g]) ah=rK (alM [f,g]) (pG i h w f g):=by refine(au5 j k c e i l a b h w f g).trans ?_;unfold pG;simp only[Vj,OH,OI,Vk,acV];rfl
def nq (c:bu)(a b:af)  :=(pG c (a.getD 2 0) (a.getD 3 0) (b.getD 0 0) (b.getD 1 0)).isSome
def LG (c:bu)(a b:af)  :=(pG c (a.getD 2 0) (a.getD 3 0) (b.getD 0 0) (b.getD 1 0)).getD (0,0,0)
def dp a b c  :=(LG a b c).2.2
def jV ag a b  :=(LG ag a b).1
def jW ag a b  :=(LG ag a b).2.1
theorem R1 {d a b c}:rK d (pG a (b.getD 2 0) (b.getD 3 0) (c.getD 0 0) (c.getD 1 0))=bif nq a b c then bif dp a b c==0 then ar (.ret [I (jV a b c),I (jW a b c)],d)else ar (.panic 131 (dp a b c),d)else a6:=by unfold nq dp jV jW LG;cases pG a _ _ _ _<;>rfl
theorem alO o:tE o=rK [] o:=rfl
theorem ap0 {e:af}(h:e.length=4):e=[e.getD 0 0,e.getD 1 0,e.getD 2 0,e.getD 3 0]:=by
 match e,h with|[a,b,c,d],_=>rfl
theorem ap1 {c:af}(h:c.length=2):c=[c.getD 0 0,c.getD 1 0]:=by
 match c,h with|[a,b],_=>rfl
def acW :List AV->LHp->Tq
 |[.d Y7 ((_,_,_,_,c,_),_,_),.d zS a,.d zS b],[]=>.br (a7 (a.length=4/\b.length=2)) (.br (nq c a b) (.br (dp c a b==0) (.leaf (.ret [I (jV c a b),I (jW c a b)]) []) (.leaf (.panic 131 (dp c a b)) [])) .no) .no
 |_,_=>.no
def acX :List AV->LHp->Tq
 |[.d Y7 ((_,_,_,_,c,_),_,_),.d zS b,.os 0 0],[(0,.arr 3 zI 0 a8 a)]=>.br (a7 (b.length=4/\a.length=2)) (.br (nq c b a) (.br (dp c b a==0) (.leaf (.ret [I (jV c b a),I (jW c b a)]) (alM a)) (.leaf (.panic 131 (dp c b a)) (alM a))) .no) .no
 |_,_=>.no
theorem acY :bq 214 (ay acW):=by
 let g:=bM (d:=5) (l:=[]) LF func214 call214;refine aY λf r s t a=>?_
 unfold acW at a;split at a
 ·rename_i h i b c j _ k _ e m;let ⟨n,o⟩:=eN a;let ⟨p,q⟩:=bt n;refine g.okC ?_;let key:=(alL h i b c j k (e.getD 0 0) (e.getD 1 0) _ (e.getD 3 0) _ (m.getD 1 0)).trans ((alO _).trans R1);rw[←ap0 p,←ap1 q]at key;exact key.trans o
 ·cases a
theorem acZ :bq 214 (ay acX):=by
 let g:=bM (d:=5) (l:=[]) LF func214 call214;refine aY λf r s t a=>?_
 unfold acX at a;split at a
 ·rename_i h i b c j _ k _ e m;let ⟨n,o⟩:=eN a;let ⟨p,q⟩:=bt n;refine g.okC ?_;let key:=(alN h i b c j k (e.getD 0 0) (e.getD 1 0) _ (e.getD 3 0) _ (m.getD 1 0)).trans R1;rw[←ap0 p,←ap1 q]at key;exact key.trans o
 ·cases a
def au6 a b  :=orT (acW a b) (acX a b)
theorem R2 :bq 214 (ay au6):=lK acY acZ
def ap2  :=aU f77
def Vl  :=cL (cL (cR (cL (cR (cR ap2)))))
def oQ :Cfg:=⟨26,5,0,[(4,[0,1,12,13])],bc⟩
def Fa (a b:af)(i:Int):LSt:=⟨az 5 [(0,.d (.slice aa) a),(1,.d (.slice aa) b),(12,I (.ofNat a.length)),(13,I i)],[],0⟩
def KEq  :=aI 0 (aL DD oQ [4] (hlp DD oQ) (cR (cR (cR ap2))) (aV prog 0 f77.results.toList ah))
theorem au7 (a b:af):aB DD f77 5 [(4,[0,1,12,13])] [.d (.slice aa) a,.d (.slice aa) b] [] ah=bif .ofNat a.length !=bd b.length then ak [B a8]else (hlp DD oQ) Vl _ (Fa a b 0) KEq:=(aW [4] oQ rfl).trans (by obtain⟨c,h⟩:=aM DD oQ;rw[h];kernel_rfl)
theorem ac0 a b i n {R} (k:AEx->LSt->Option R):lp DD oQ Vl (n+1) (Fa a b i) k=bif a7 (i<.ofNat a.length)then (idx a i).bind λc=>(idx b i).bind λe=>bif c !=e then k .ret ⟨az 5 [(0,.d (aa).slice a),(1,.d (aa).slice b),(4,B a8),(5,I i),(12,I (.ofNat a.length)),(13,I i),(14,B bc),(15,I i),(16,.d (aa).slice a),(17,I i),(18,.ip aa c),(19,I c),(20,.d (aa).slice b),(21,I i),(22,.ip aa e),(23,I e),(24,B bc)],[],0⟩else lp DD oQ Vl n (Fa a b (i64.wrap (i+1))) k else k (.exit 0) ⟨az 5 [(0,.d (aa).slice a),(1,.d (aa).slice b),(12,I (.ofNat a.length)),(13,I i),(14,B a8)],[],0⟩:=by kernel_rfl
theorem aEO (a b:af) i:KEq (.exit 0) ⟨az 5 [(0,.d (.slice aa) a),(1,.d (.slice aa) b),(12,I (.ofNat a.length)),(13,I i),(14,B a8)],[],0⟩=ak [B bc]:=by kernel_rfl
theorem au8 {c d}(m:c.length=d.length)(s:c.length<=maxLen):∀(r j e),j+r=c.length->r<e->
  lp DD oQ Vl e (Fa c d (j:Nat)) KEq=ar (.ret [B (c.drop j==d.drop j)],[]):=by
 let t:maxLen=9223372036854775807:=by decide
 intro r
 induction r with
 |zero=>intro j e n o;obtain⟨e,rfl⟩:∃f,e=f+1:=⟨e-1,by omega⟩;rw[ac0,cq (show¬((j:Nat))<bd c.length by simp only[aK];omega),al,ly (by omega),ly (by omega)];exact aEO c d _
 |succ r p=>
  intro j e n o;obtain⟨e,rfl⟩:∃f,e=f+1:=⟨e-1,by omega⟩;let key:=p (j+1) e (by omega) (by omega);let k:j<c.length:=by omega
  let l:j<d.length:=by omega
  have g1:idx c (j:Nat)=ar c[j]:=by unfold idx;rw[if_pos (by omega),b9,dv k]
  have g2:idx d (j:Nat)=ar d[j]:=by unfold idx;rw[if_pos (by omega),b9,dv l]
  have e1  :=sW k;have e2  :=sW l;let q:i64.wrap ((j:Nat)+1)=(j+1:Nat):=by rw[aH (by omega) (by omega)];omega
  generalize c[j]=a at*;generalize d[j]=b at*;rw[ac0,aF (show (j:Nat)<bd c.length by simp only[aK];omega),ai,g1,aw,g2,aw,q,e1,e2];cases g:a !=b with
  |true=>
   let:(a::c.drop (j+1)==b::d.drop (j+1))=a8:=by
    rw[beq_eq_false_iff_ne];intro h;injection h with h _
    rw[h,bne_self_eq_false]at g;cases g
   rw[this];show _=_;kernel_rfl
  |false=>
   let i  :=by simpa using g
   let:(a::c.drop (j+1)==b::d.drop (j+1))=(c.drop (j+1)==d.drop (j+1)):=by rw[i];simp
   rw[this];exact key
theorem aEP a b:hlp DD oQ Vl _ (Fa a b 0) KEq=lp DD oQ Vl fu (Fa a b 0) KEq:=rfl
theorem alP {a b:af}(c:a.length<=maxLen):aB DD f77 5 [(4,[0,1,12,13])] [.d (.slice aa) a,.d (.slice aa) b] [] ah=ar (.ret [B (a==b)],[]):=by
 rw[au7];by_cases h:a.length=b.length
 ·rw[(by rw[h];exact bne_self_eq_false _:(.ofNat _ !=bd _)=a8),al]
  let f:maxLen=9223372036854775807:=by decide
  let key:=au8 h c a.length 0 fu (by omega) (by unfold fu;omega);exact(aEP a b).trans key
 ·rw[(by rw[bne_iff_ne];simp only[aK];omega:(.ofNat _ !=bd _)=bc),ai]
  let:(a==b)=a8:=by rw[beq_eq_false_iff_ne];intro e;exact h (by rw[e])
  rw[this]
def ac1 :List AV->LHp->Tq
 |[.d zS a,.d zS b],[]=>.br (a7 (a.length<=maxLen)) (.leaf (.ret [B (a==b)]) []) .no
 |_,_=>.no
theorem Hq :bq 77 (ay ac1):=by
 refine dh jx cZ func77 call77 (depth:=5) (live:=[(4,[0,1,12,13])]) (by decide +kernel) rfl λb c p h=>?_
 unfold ac1 at h;split at h
 ·let ⟨a,h⟩:=eN h;cases h;let a:=bt a;exact alP a
 ·cases h
def ap3  :=aU f154
def vH  :=cL (cL (cR (cL (cR (cR (cR (cR ap3)))))))
def iB :Cfg:=⟨51,6,0,[(5,[1,5,6,7,26,27,28])],bc⟩
def Fb  :=((UI.add 214 (ay au6)).add 25 (ay asN)).add 215 (ay nuF)
theorem ac2 :Fb.Good:=((ij.add R2).add Rn).add abC
def Vn (b c a:af)(H W i:Int):LSt:=⟨az 6 [(1,.d (.slice aa) b),(5,.os 0 0),(6,I H),(7,I W),(26,.os 1 0),(27,I (.ofNat a.length)),(28,I i)],[(0,.arr 3 aa 0 a8 c),(1,.arr 2 aa 0 a8 a)],2⟩
def YZ  :=aI 0 (aL Fb iB [5] (hlp Fb iB) (cR (cR (cR (cR (cR ap3))))) (aV prog 0 f154.results.toList ah))
theorem au9 (g i:ao)(e:List ao)(f:ao)(b:bu) vs (c:af):aB Fb f154 6 [(5,[1,5,6,7,26,27,28])] [LD (g,i,e,f,b,()) vs,.d (.slice aa) c] [] ah=bif a7 (b.length<=9223372036854775807/\(aj b gX []).length<=2147483648)then bif cA 2 1 100 (aj b gX [])then bif !Int.ofNat c.length==4 then bF else bif a7 (c.length=4/\(aj b gX []).length=2)then bif nq b c (aj b gX [])then bif dp b c (aj b gX [])==0 then bif a7 (b.length<=9223372036854775807)then bif (te (λa=>a.fst==cE&&a.snd.fst==7) b).isNone then (hlp Fb iB) vH _ ⟨az 6 [(1,.d (aa).slice c),(5,.os 0 0),(6,I (jV b c (aj b gX []))),(7,I (jW b c (aj b gX []))),(26,.nils),(27,I 0),(28,I 0)],[(0,.arr 3 aa 0 a8 (aj b gX []))],1⟩ YZ else bif a7 (aj b cE []=[])then (hlp Fb iB) vH _ ⟨az 6 [(1,.d (aa).slice c),(5,.os 0 0),(6,I (jV b c (aj b gX []))),(7,I (jW b c (aj b gX []))),(26,.emp),(27,I 0),(28,I 0)],[(0,.arr 3 aa 0 a8 (aj b gX []))],1⟩ YZ else bif a7 ((aj b cE []).length<=2147483648)then (hlp Fb iB) vH _ (Vn c (aj b gX []) (aj b cE []) (jV b c (aj b gX [])) (jW b c (aj b gX [])) 0) YZ else a6 else a6 else ar (.panic 131 (dp b c (aj b gX [])),[])else a6 else a6 else bF else a6:=(aW [5] iB rfl).trans (by obtain⟨j,h⟩:=aM Fb iB;rw[h];kernel_rfl)
def Vo (a b:af)(H W:Int)(q:AV):LSt:=⟨az 6 [(1,.d (.slice aa) a),(5,.os 0 0),(6,I H),(7,I W),(26,q),(27,I 0),(28,I 0)],[(0,.arr 3 aa 0 a8 b)],1⟩
theorem ac3 e b a H W i n {R} (k:AEx->LSt->Option R):lp Fb iB vH (n+1) (Vn e b a H W i) k=bif a7 (i<.ofNat a.length)then (idx a i).bind λg=>(a[i.toNat]?).bind λc=>(idx b (i.tmod 2)).bind λh=>(b[(i.tmod 2).toNat]?).bind λf=>bif !decide (c<f)then k (.panic 131 4) ⟨az 6 [(1,.d (aa).slice e),(5,.os 0 0),(6,I H),(7,I W),(8,I i),(9,I c),(26,.os 1 0),(27,I (.ofNat a.length)),(28,I i),(29,B bc),(30,I i),(31,.oe 1 0 i.toNat),(32,I c),(33,I c),(34,.os 0 0),(35,I i),(36,I (i.tmod 2)),(37,.oe 0 0 (i.tmod 2).toNat),(38,I f),(39,B (a7 (c<f)))],[(0,.arr 3 aa 0 a8 b),(1,.arr 2 aa 0 a8 a)],2⟩else lp Fb iB vH n (Vn e b a H W (i64.wrap (i+1))) k else k (.exit 0) ⟨az 6 [(1,.d (aa).slice e),(5,.os 0 0),(6,I H),(7,I W),(26,.os 1 0),(27,I (.ofNat a.length)),(28,I i),(29,B a8)],[(0,.arr 3 aa 0 a8 b),(1,.arr 2 aa 0 a8 a)],2⟩:=by kernel_rfl
theorem ava a b H W n {R} (k:AEx->LSt->Option R):lp Fb iB vH (n+1) (Vo a b H W .nils) k=k (.exit 0) ⟨az 6 [(1,.d (aa).slice a),(5,.os 0 0),(6,I H),(7,I W),(26,.nils),(27,I 0),(28,I 0),(29,B a8)],[(0,.arr 3 aa 0 a8 b)],1⟩:=by kernel_rfl
theorem avb a b H W n {R} (k:AEx->LSt->Option R):lp Fb iB vH (n+1) (Vo a b H W .emp) k=k (.exit 0) ⟨az 6 [(1,.d (aa).slice a),(5,.os 0 0),(6,I H),(7,I W),(26,.emp),(27,I 0),(28,I 0),(29,B a8)],[(0,.arr 3 aa 0 a8 b)],1⟩:=by kernel_rfl
theorem avc (a c b:af) H W i:YZ (.exit 0) ⟨az 6 [(1,.d (.slice aa) a),(5,.os 0 0),(6,I H),(7,I W),(26,.os 1 0),(27,I (.ofNat b.length)),(28,I i),(29,B a8)],[(0,.arr 3 aa 0 a8 c),(1,.arr 2 aa 0 a8 b)],2⟩=(idx a 0).bind λe=>(idx a 1).bind λf=>ar (.ret [.os 0 0],[(0,.arr 3 aa 0 a8 [e,f,H,W])]):=by kernel_rfl
theorem ac4 (a b:af) H W q:YZ (.exit 0) ⟨az 6 [(1,.d (.slice aa) a),(5,.os 0 0),(6,I H),(7,I W),(26,q),(27,I 0),(28,I 0),(29,B a8)],[(0,.arr 3 aa 0 a8 b)],1⟩=(idx a 0).bind λc=>(idx a 1).bind λe=>ar (.ret [.os 0 0],[(0,.arr 3 aa 0 a8 [c,e,H,W])]):=by kernel_rfl
noncomputable def gIv  :=((UI.add 214 (ay au6)).add 59 (ay Cb)).add 77 (ay ac1)
theorem ac5 :gIv.Good:=((ij.add R2).add mA).add Hq
noncomputable def Hr (d:bu)(a:af)(b:Y3.den):Option (aq×LHp):=(if (0:Int)<=2/\2<=bd (bk b.2.2.1)/\.ofNat (bk b.2.2.1)<=bd (bk b.2.2.1)then ar (fb 2 (gy (bd (bk b.2.2.1)).toNat b.2.2.1))else a6).bind λc=>bif a7 (a.length=4/\c.length=2)then bif nq d a c then bif dp d a c==0 then (idx a 0).bind λe=>(idx b.2.2.1 0).bind λf=>ar (.ret [.os 0 0],[(0,.arr 3 aa 0 a8 [e,f,jV d a c,jW d a c])])else ar (.panic 131 (dp d a c),[])else a6 else a6
theorem avd (j k:ao)(e:List ao)(f:ao)(a:bu) vs (c:af):aB gIv f153 7 [] [LD (j,k,e,f,a,()) vs,.d (.slice aa) c] [] ah=(idx vs 1).bind λb=>bif a7 (a.length<=9223372036854775807)then bif bd c.length==4 then bif bd (bk b.2.2.1)==4 then bif a7 (aS a iM 1>=1)then bif !decide (aS a iM 1<=65536)then bF else (idx c 1).bind λl=>(if aS a iM 1=0 then a6 else ar (acM l (aS a iM 1))).bind λm=>bif m==0 then (idx b.2.2.1 0).bind λn=>(if aS a iM 1=0 then a6 else ar (acM n (aS a iM 1))).bind λg=>bif g==0 then (idx b.2.2.1 1).bind λh=>(idx c 1).bind λo=>(if aS a iM 1=0 then a6 else ar (i64.wrap (Int.tdiv o (aS a iM 1)))).bind λp=>bif !h==p then bF else bif a7 (bd vs.length<3)then Hr a c b else (idx vs 2).bind λi=>(if (0:Int)<=0/\(0:Int)<=1/\1<=bd (bk b.2.2.1)then ar (fb 0 (gy 1 b.2.2.1))else a6).bind λq=>bif a7 (bk i.2.2.1<=9223372036854775807)then bif !i.2.2.1==q then bF else Hr a c b else a6 else bF else bF else bF else bF else bF else a6:=by kernel_rfl
def D0 (o:Option (af⊕Int)):Option (aq×LHp):=o.bind λp=>match p with| .inl l=>ar (.ret [.os 0 0],[(0,.arr 3 aa 0 a8 l)])| .inr e=>ar (.panic 131 e,[])
theorem ac6 c a b:D0 (bif c then a else b)=bif c then D0 a else D0 b:=by cases c<;>rfl
theorem Vp {a:Type}(x:Option a) f:D0 (x.bind f)=x.bind λv=>D0 (f v):=by cases x<;>rfl
theorem Vq :D0 a6=a6:=rfl
theorem ac7 l:D0 (ar (.inl l))=ar (.ret [.os 0 0],[(0,.arr 3 aa 0 a8 l)]):=rfl
theorem ac8 e:D0 (ar (.inr e))=ar (.panic 131 e,[]):=rfl
def aEQ (o:Option (af⊕Int))  :=o.isSome
def aER (o:Option (af⊕Int)):Bool:=match o with|some (.inl _)=>bc|_=>a8
def aES (o:Option (af⊕Int)):af:=match o with|some (.inl l)=>l|_=>[]
def aET (o:Option (af⊕Int)):Int:=match o with|some (.inr e)=>e|_=>0
theorem ave o:D0 o=bif aEQ o then bif aER o then ar (.ret [.os 0 0],[(0,.arr 3 aa 0 a8 (aES o))])else ar (.panic 131 (aET o),[])else a6:=by rcases o with _|l|e<;>rfl
def oR (a:bu)(f:cm)(b:af):Option (af⊕Int):=
  (idx f 1).bind λc=>bif a7 (a.length<=9223372036854775807)then  bif bd b.length==4 then  bif bd (bk c.2.2.1)==4 then  bif a7 (aS a iM 1>=1)then  bif !decide (aS a iM 1<=65536)then ar (.inr 4)else (idx b 1).bind λj=>(if aS a iM 1=0 then a6 else ar (acM j (aS a iM 1))).bind λk=>bif k==0 then (idx c.2.2.1 0).bind λl=>(if aS a iM 1=0 then a6 else ar (acM l (aS a iM 1))).bind λg=>bif g==0 then (idx c.2.2.1 1).bind λh=>(idx b 1).bind λm=>(if aS a iM 1=0 then a6 else ar (i64.wrap (Int.tdiv m (aS a iM 1)))).bind λn=>bif !h==n then ar (.inr 4)else  bif a7 (bd f.length<3)then (if (0:Int)<=2/\2<=bd (bk c.2.2.1)/\.ofNat (bk c.2.2.1)<=bd (bk c.2.2.1)then ar (fb 2 (gy (bd (bk c.2.2.1)).toNat c.2.2.1))else a6).bind λe=>bif a7 (b.length=4/\e.length=2)then  bif nq a b e then  bif dp a b e==0 then (idx b 0).bind λd=>(idx c.2.2.1 0).bind λo=>ar (.inl [d,o,jV a b e,jW a b e])else ar (.inr (dp a b e))else a6 else a6 else (idx f 2).bind λe=>(if (0:Int)<=0/\(0:Int)<=1/\1<=bd (bk c.2.2.1)then ar (fb 0 (gy 1 c.2.2.1))else a6).bind λp=>bif a7 (bk e.2.2.1<=9223372036854775807)then  bif !e.2.2.1==p then ar (.inr 4)else (if (0:Int)<=2/\2<=bd (bk c.2.2.1)/\bd (bk c.2.2.1)<=bd (bk c.2.2.1)then ar (fb 2 (gy (bd (bk c.2.2.1)).toNat c.2.2.1))else a6).bind λd=>bif a7 (b.length=4/\d.length=2)then  bif nq a b d then  bif dp a b d==0 then (idx b 0).bind λq=>(idx c.2.2.1 0).bind λi=>ar (.inl [q,i,jV a b d,jW a b d])else ar (.inr (dp a b d))else a6 else a6 else a6 else ar (.inr 4)else ar (.inr 4)else ar (.inr 4)else ar (.inr 4)else ar (.inr 4)else a6
theorem alQ (g h:ao)(a:List ao)(b:ao)(c:bu) e (f:af):aB gIv f153 7 [] [LD (g,h,a,b,c,()) e,.d (.slice aa) f] [] ah=D0 (oR c e f):=by rw[avd];simp only[Hr];unfold oR;simp only[ac6,Vp,Vq,ac7,ac8]
def vI a b xs  :=aEQ (oR a b xs)
def lQ a b c  :=aER (oR a b c)
def Cr a b c  :=aES (oR a b c)
def vJ a b c  :=aET (oR a b c)
def avf :List AV->LHp->Tq
 |[.d Y7 ((_,_,_,_,a,_),b,_),.d zS c],[]=>.br (vI a b c) (.br (lQ a b c) (.leaf (.ret [.os 0 0]) [(0,.arr 3 aa 0 a8 (Cr a b c))]) (.leaf (.panic 131 (vJ a b c)) [])) .no
 |_,_=>.no
theorem alR :bq 153 (ay avf):=by
 let c:=bM (d:=7) (l:=[]) ac5 func153 call153;refine aY λb e f g a=>?_
 unfold avf at a;split at a
 ·exact c.okC (((alQ _ _ _ _ _ _ _).trans (ave _)).trans a)
 ·cases a
def R3  :=aU f49
def alS  :=cL (cL (cR (cL (cR R3))))
def mc :Cfg:=⟨19,5,0,[(2,[0,1,7,8])],bc⟩
theorem avg a:aB g12 f206 3 [] [.d Y1 a] [] ah=ak [B (a.1==aij)]:=by kernel_rfl
def gJ (a:(Y1).den)  :=a.1==di
def avh :List AV->LHp->Option (aq×LHp)
 |[.d Y1 a],[]=>ar (.ret [B (gJ a)],[])
 |_,_=>a6
theorem alT :bq 206 (fnE avh):=by
 refine jF BU cZ func206 call206 (depth:=3) (live:=[]) (by decide +kernel) rfl λa b p h=>?_
 unfold avh at h;split at h
 ·cases h;exact avg _
 ·cases h
def R4  :=g13.add 206 (fnE avh)
theorem ac9 :R4.Good:=vp.add alT
def ada (a:bu)(i:Int):LSt:=⟨az 5 [(0,.d (.slice _) a),(1,.fn (.func 206) [] []),(7,I (.ofNat a.length)),(8,I i)],[],0⟩
theorem avi (a:bu):aB R4 f49 5 [(2,[0,1,7,8])] [.d (.slice _) a,.fn (.func 206) [] []] [] ah=(hlp R4 mc) alS _ (ada a 0) (aI 0 (aL R4 mc [2] (hlp R4 mc) (cR (cR R3)) (aV prog 0 f49.results.toList ah))):=(aW [2] mc rfl).trans (by obtain⟨b,h⟩:=aM R4 mc;rw[h];kernel_rfl)
theorem avj a i n {R} (k:AEx->LSt->Option R):lp R4 mc alS (n+1) (ada a i) k=bif a7 (i<.ofNat a.length)then (idx a i).bind λb=>bif gJ b then k .ret ⟨az 5 [(0,.d Y1.slice a),(1,.fn (.func 206) [] []),(4,I i),(5,I i),(7,I (.ofNat a.length)),(8,I i),(9,B bc),(10,I i),(11,.fn (.func 206) [] []),(12,.d Y1.slice a),(13,I i),(14,.ip Y1 b),(15,.d Y1 b),(16,B bc),(17,I i)],[],0⟩else lp R4 mc alS n (ada a (i64.wrap (i+1))) k else k (.exit 0) ⟨az 5 [(0,.d Y1.slice a),(1,.fn (.func 206) [] []),(7,I (.ofNat a.length)),(8,I i),(9,B a8)],[],0⟩:=by kernel_rfl
theorem alU {a:bu}(b:a.length<=maxLen):aB R4 f49 5 [(2,[0,1,7,8])] [.d (.slice _) a,.fn (.func 206) [] []] [] ah=ar (.ret [I (cc gJ a)],[]):=by
 rw[avi];let c:=λi n=>avj a i n (aI 0 (aL R4 mc [2] (hlp R4 mc) (cR (cR R3)) (aV prog 0 f49.results.toList ah)))
 let h:=fF (T:=λn s=>lp R4 mc alS n s _) b c;refine h.trans ?_;unfold cc;cases e:a.findIdx? gJ with|none=>kernel_rfl|some i=>let ⟨f,_⟩:=fk.1 e;simp only[dv f,aw];show _=_;kernel_rfl
def avk :List AV->LHp->Tq
 |[.d (.slice Y1) a,.fn (.func 206) [] []],[]=>.br (a7 (a.length<=maxLen)) (.leaf (.ret [I (cc gJ a)]) []) .no
 |_,_=>.no
theorem alV :bq 49 (ay avk):=by
 refine dh ac9 cZ func49 call49 (depth:=5) (live:=[(2,[0,1,7,8])]) (by decide +kernel) rfl λb c p h=>?_
 unfold avk at h;split at h
 ·let ⟨a,h⟩:=eN h;cases h;let a:=bt a;exact alU a
 ·cases h
def gCn  :=g46.add 49 (ay avk)
theorem adb :gCn.Good:=KG.add alV
theorem avl (e f:ao)(b:List ao)(c:ao)(a:bu) vs:aB gCn f145 4 [] [iN (e,f,b,c,a,()) vs] [] ah=bif a7 (a.length<=9223372036854775807)then (idx a (cc gJ a)).bind λg=>ak [.d Y0 g.2.2.2.2.2.1]else a6:=by kernel_rfl
def alW :List AV->LHp->Tq
 |[.d Y7 ((_,_,_,_,b,_),_,_)],[]=>.br (a7 (b.length<=maxLen)) (.opt (b.find? gJ) λa=>.leaf (.ret [.d (Y0) a.2.2.2.2.2.1]) []) .no
 |_,_=>.no
theorem R5 :bq 145 (ay alW):=by
 have h:=bM (d:=4) (l:=[]) adb func145 call145;refine aY λg o p q c=>?_
 unfold alW at c;split at c
 ·rename_i i j e f a _ k _;obtain⟨m,n⟩:=eN c;refine h.okC ((avl i j e f a k).trans ?_);have e2:idx a (cc (λb=>gJ b) a)=a.find? gJ:=BS _ _;rw[aF (show a.length<=9223372036854775807 from bt m),ai];refine gp ?_ n;show (idx a (cc gJ a)).bind _=(a.find? gJ).bind _;rw[e2]<;>rfl
 ·cases c
def Vr  :=((((DD.add 146 (ay alk)).add 111 (ay acy)).add 147 (ay auE)).add 59 (ay Cb)).add 145 (ay alW)
theorem Vs :Vr.Good:=((((jx.add RR).add acz).add alr).add mA).add R5
def dW (c:ao)(b:cm)(a:Y3.den)  :=bif (oO c a.2.1).2 !=1 then bif a7 (b.length<=9223372036854775807)then bif !oP b a.2.1 then bF else ak [I a.2.1]else a6 else bF
def dF (b:ao)(a:Y3.den)  :=bif !(jq b a.2.1).2==0 then bF else ak [I a.2.1]
def qf (b:ao)(c:cm)(a:Y3.den)  :=bif b==vm then bif a7 (c.length<=9223372036854775807)then bif !oP c a.2.1 then bF else ak [I a.2.1]else a6 else bif b==qE then (idx c 1).bind λe=>bif e.2.1==6 then ak [I a.2.1]else (idx c 1).bind λd=>bif !d.2.1==7 then bF else ak [I a.2.1]else bif b==zg then ak [I a.2.1]else bif b==zh then ak [I a.2.1]else bif b==zi then ak [I a.2.1]else bif b==zj then ak [I a.2.1]else bif b==zk then ak [I a.2.1]else bif b==zl then ak [I a.2.1]else bif b==Ke then ak [I a.2.1]else bif a7 (c.length<=9223372036854775807)then bif !oP c 1 then bF else ak [I a.2.1]else a6
def ki (c:ao)(a:cm)(b:Y3.den)  :=bif (oO c b.2.1).2==0 then bif a7 (a.length<=9223372036854775807)then bif !oP a b.2.1 then bF else ak [I 9]else a6 else bF
def qg (a:bu):Option (aq×LHp):=bif a7 (a.length<=9223372036854775807)then bif !aQ (aS a [116,111] 0) 0 then ar (.panic 131 5,[])else ak [I (aS a [116,111] 0)]else a6
def qh (a:cm)(d:Y3.den)  :=bif d.2.1==9 then (idx a 1).bind λe=>(idx a 2).bind λb=>bif !e.2.1==b.2.1 then bF else (idx a 1).bind λc=>ak [I c.2.1]else bF
def qi (a:Y3.den)  :=bif a.2.1==7 then ak [I a.2.1]else bif !a.2.1==1 then bF else ak [I a.2.1]
theorem ug (a f:ao)(d:List ao)(e:ao)(c:bu) vs:aB Vr f104 8 [] [iN (a,f,d,e,c,()) vs] [] ah=bif a==oK then bif a7 (c.length<=9223372036854775807)then (te gJ c).bind λg=>ak [I g.2.2.2.2.2.1.1]else a6 else (idx vs 0).bind λb=>bif b.2.1==6 then bif a==aah then dF a b else bif a==DX then dF a b else bif a==BO then dF a b else bif a==aai then dF a b else bif a==aab then dF a b else bif a==aac then dF a b else bif a==aad then dF a b else bif a==aae then dF a b else bif a==aaf then dF a b else bif a==aag then dF a b else bif a==tY then ki a vs b else bif a==xk then ki a vs b else bif a==xm then ki a vs b else bif a==Uv then dW a vs b else bif a==zl5 then dW a vs b else bif a==Uy then dW a vs b else bif a==Ux then dW a vs b else bif a==Uw then dW a vs b else bif a==zl7 then dW a vs b else bif a==zl8 then dW a vs b else bif a==[79,114]then dW a vs b else bif a==zl9 then dW a vs b else bif a==nO then qh vs b else bif a==m8 then qg c else bif a==vk then ak [I b.2.1]else bif a==vl then ak [I b.2.1]else bif a==qD then ak [I 7]else qf a vs b else bif a==aah then dF a b else bif a==DX then dF a b else bif a==BO then dF a b else bif a==aai then dF a b else bif a==aab then dF a b else bif a==aac then dF a b else bif a==aad then dF a b else bif a==aae then dF a b else bif a==aaf then dF a b else bif a==aag then dF a b else bif a==tY then ki a vs b else bif a==xk then ki a vs b else bif a==xm then ki a vs b else bif a==Uv then dW a vs b else bif a==zl5 then dW a vs b else bif a==Uy then dW a vs b else bif a==Ux then dW a vs b else bif a==Uw then dW a vs b else bif a==zl7 then dW a vs b else bif a==zl8 then dW a vs b else bif a==[79,114]then dW a vs b else bif a==zl9 then dW a vs b else bif a==nO then qh vs b else bif a==m8 then qg c else bif a==vk then qi b else bif a==vl then qi b else bif a==qD then bif b.2.1==7 then ak [I 7]else bif !b.2.1==1 then bF else ak [I 7]else qf a vs b:=by kernel_rfl
def IT (r:Option (aq×LHp)):Option (Int×Int):=match r with|some (.ret [.d (.int .i64) a],[])=>ar (a,0)|some (.panic t c,[])=>bif dK t 131&& !(c==0)then ar (0,c)else a6|_=>a6
theorem alX c a b:IT (bif c then a else b)=bif c then IT a else IT b:=by cases c<;>rfl
theorem ade {a:Type}(x:Option a) f:IT (x.bind f)=x.bind λv=>IT (f v):=by cases x<;>rfl
theorem adf :IT a6=a6:=rfl
theorem alY a:IT (ar (.ret [I a],[]))=ar (a,0):=rfl
theorem avm :IT (ar (.panic 131 4,[]))=ar (0,4):=rfl
theorem avn :IT (ar (.panic 131 5,[]))=ar (0,5):=rfl
def Hs (a:ao)(b:bu) vs  :=IT (aB Vr f104 8 [] [iN (a,[],[],[],b,()) vs] [] ah)
theorem alZ (c f:ao)(a:List ao)(b:ao)(d:bu) e:aB Vr f104 8 [] [iN (c,f,a,b,d,()) e] [] ah=aB Vr f104 8 [] [iN (c,[],[],[],d,()) e] [] ah:=(ug c f a b d e).trans (ug c [] [] [] d e).symm
def s9 a b c  :=(Hs a b c).isSome
def hO a b c  :=((Hs a b c).getD (0,0)).1
def hU a b c  :=((Hs a b c).getD (0,0)).2
theorem adg {r}(h:(IT r).isSome=bc):r=bif ((IT r).getD (0,0)).2==0 then ar (.ret [I ((IT r).getD (0,0)).1],[])else ar (.panic 131 ((IT r).getD (0,0)).2,[]):=by
 unfold IT at h⊢;split at h
 ·rfl
 ·rename_i t c
  cases a:dK t 131&& ! c==0 with
  |false=>rw[a]at h;cases h
  |true=>
   rw[aX]at a;obtain rfl:=cb a.1;let:(c==0)=a8:=by simpa using a.2
   simp[this]
 ·cases h
def avo :List AV->LHp->Tq
 |[.d Y7 ((a,_,_,_,b,_),c,_)],[]=>.br (s9 a b c) (.br (hU a b c==0) (.leaf (.ret [I (hO a b c)]) []) (.leaf (.panic 131 (hU a b c)) [])) .no
 |_,_=>.no
theorem al0 :bq 104 (ay avo):=by
 let f:=bM (d:=8) (l:=[]) Vs func104 call104;refine aY λe n o p a=>?_
 unfold avo at a;split at a
 ·rename_i g h b c i _ j _;let ⟨k,m⟩:=eN a;exact f.okC (((alZ g h b c i j).trans (adg k)).trans m)
 ·cases a
def aEU  :=aU f106
def zw  :=cL (cL (cR (cR (cR aEU))))
def kj :Cfg:=⟨32,6,0,[(3,[1,16,17,18])],bc⟩
def M1  :=(zp.add 146 (ay alk)).add 144 (ay akH)
theorem adh :M1.Good:=(gq.add RR).add RG
def Vu (t:Int):LSt:=⟨az 6 [(1,I t),(16,.nils),(17,I 0),(18,I 0)],[],0⟩
def Vt (t:Int)(l:List ao)(i:Int):LSt:=⟨az 6 [(1,I t),(16,.d (.slice .str) l),(17,I (.ofNat l.length)),(18,I i)],[],0⟩
def KTm  :=aI 0 (aV prog 0 f106.results.toList ah)
theorem avp (d e:ao)(b:List ao)(c:ao)(a:bu) vs t:aB M1 f106 6 [(3,[1,16,17,18])] [iN (d,e,b,c,a,()) vs,I t] [] ah=bif aE a then bif kZ a then (hlp M1 kj) zw _ (Vu t) KTm else bif fY a then (hlp M1 kj) zw _ (Vu t) KTm else (hlp M1 kj) zw _ (Vt t (kI a) 0) KTm else a6:=(aW [3] kj rfl).trans (by obtain⟨f,h⟩:=aM M1 kj;rw[h];kernel_rfl)
theorem adi t l i n {R} (k:AEx->LSt->Option R):lp M1 kj zw (n+1) (Vt t l i) k=bif a7 (i<.ofNat l.length)then (idx l i).bind λa=>bif !(jq a t).2==0 then k (.panic 131 4) ⟨az 6 [(1,I t),(7,.d .str a),(8,I (jq a t).1),(9,I (jq a t).2),(16,.d fa.slice l),(17,I (.ofNat l.length)),(18,I i),(19,B bc),(20,.ip .str a),(21,.d .str a),(22,.tup [I (jq a t).1,I (jq a t).2]),(23,.d .str a),(24,I t),(25,.tup [I (jq a t).1,I (jq a t).2]),(26,I (jq a t).1),(27,I (jq a t).2),(28,I (jq a t).2),(29,B ((jq a t).2==0))],[],0⟩else lp M1 kj zw n (Vt t l (i64.wrap (i+1))) k else k (.exit 0) ⟨az 6 [(1,I t),(16,.d fa.slice l),(17,I (.ofNat l.length)),(18,I i),(19,B a8)],[],0⟩:=by kernel_rfl
theorem avq t n {R} (k:AEx->LSt->Option R):lp M1 kj zw (n+1) (Vu t) k=k (.exit 0) ⟨az 6 [(1,I t),(16,.nils),(17,I 0),(18,I 0),(19,B a8)],[],0⟩:=by kernel_rfl
theorem ap4 t q i n:KTm (.exit 0) ⟨az 6 [(1,I t),(16,q),(17,I n),(18,I i),(19,B a8)],[],0⟩=ak []:=by kernel_rfl
noncomputable def okU t o  :=(jq o t).2==0
theorem avr {t l}(m:l.length<=2147483648):∀(r j a),j+r=l.length->r<a->
  lp M1 kj zw a (Vt t l (j:Nat)) KTm=bif (l.drop j).all (okU t)then ar (.ret [],[])else ar (.panic 131 4,[]):=by
 intro r
 induction r with
 |zero=>intro j a c d;obtain⟨a,rfl⟩:∃b,a=b+1:=⟨a-1,by omega⟩;rw[adi,cq (by simp only[aK];omega:¬(((j:Nat))<bd _)),al,ly (by omega)];exact ap4 t _ _ _
 |succ r e=>
  intro j a c d;obtain⟨a,rfl⟩:∃b,a=b+1:=⟨a-1,by omega⟩;let key:=e (j+1) a (by omega) (by omega);let f:j<l.length:=by omega
  have g:idx l (j:Nat)=ar l[j]:=by unfold idx;rw[if_pos (by omega),b9,dv]
  have h  :=sW f;let i:i64.wrap ((j:Nat)+1)=(j+1:Nat):=by rw[aH (by omega) (by omega)];omega
  generalize l[j]=o at*;rw[adi,aF (by simp only[aK];omega:((j:Nat))<bd l.length),ai,g,aw,i,h,py];let k:okU t o=((jq o t).2==0):=rfl;rw[k];cases n:(jq o t).2==0 with|true=>rw[cy,al,gb];exact key|false=>show _=_;kernel_rfl
theorem avs t l:hlp M1 kj zw _ (Vt t l 0) KTm=lp M1 kj zw fu (Vt t l 0) KTm:=rfl
theorem adj t:hlp M1 kj zw _ (Vu t) KTm=lp M1 kj zw fu (Vu t) KTm:=rfl
noncomputable def iT a t  :=kZ a||fY a||(kI a).all (okU t)
theorem al1 {f g:ao}{c:List ao}{d:ao}{b i t}(h:aE b=bc):aB M1 f106 6 [(3,[1,16,17,18])] [iN (f,g,c,d,b,()) i,I t] [] ah=bif iT b t then ar (.ret [],[])else ar (.panic 131 4,[]):=by
 let ⟨m,j⟩:∃n,fu=n+1:=⟨_,rfl⟩;let e:lp M1 kj zw fu _ KTm=ar _:=by rw[j,avq];exact ap4 t _ _ _
 rw[avp,h,ai];unfold iT;cases kZ b with
 |true=>exact(adj t).trans e
 |false=>
  rw[al];cases fY b with
  |true=>exact(adj t).trans e
  |false=>
   rw[al];let k:(kI b).length<=2147483648:=by unfold kI;cases l:b.find? _ with|none=>simp|some a=>let:=jI h (kq l);let o:=sG a.2.2.2.2.1;show (cJ a.2.2.2.2.1).length<=_;omega
   let key:=avr (t:=t) k (kI b).length 0 fu (by omega) (by unfold fu;omega);exact(avs t _).trans key
noncomputable def avt :List AV->LHp->Tq
 |[.d Y7 ((_,_,_,_,a,_),_,_),.d zI t],[]=>.br (aE a) (.br (iT a t) (.leaf (.ret []) []) (.leaf (.panic 131 4) [])) .no
 |_,_=>.no
theorem al2 :bq 106 (ay avt):=by
 let c:=bM (d:=6) (l:=[(3,[1,16,17,18])]) adh func106 call106;refine aY λb g h i a=>?_
 unfold avt at a;split at a
 ·let ⟨e,f⟩:=eN a;exact c.okC ((al1 e).trans f)
 ·cases a
def bZ :ao:=gX
def kJ :ao:=cE
def mj (a:af):Nat->List Int->Bool
 |_,[]=>bc
 |i,p::r=>decide (p<a.getD (i % 2) 0)&&mj a (i+1) r
def plL (xs:af)(H W:Int):Option (aq×LHp):=ar (.ret [.os 0 0],[(0,.arr 3 aa 0 a8 [xs.getD 0 0,xs.getD 1 0,H,W])])
theorem xE {xs:af}{i:Nat}(h:i<xs.length):idx xs ((i:Nat):Int)=ar (xs.getD i 0):=by unfold idx;rw[if_pos (by omega),b9,kM,dv h]<;>rfl
theorem plx {xs:af}(c:xs.length=4)(H W:Int):((idx xs 0).bind λa=>(idx xs 1).bind λb=>ar (aq.ret [AV.os 0 0],[(0,au.arr 3 aa 0 a8 [a,b,H,W])]))=plL xs H W:=by have e0:=xE (xs:=xs) (i:=0) (by omega);have e1:=xE (xs:=xs) (i:=1) (by omega);have e0:idx xs 0=ar (xs.getD 0 0):=e0;have e1:idx xs 1=ar (xs.getD 1 0):=e1;rw[e0,e1]<;>rfl
theorem avu {d b a:af}{H W:Int}(h:d.length=4)(s:b.length=2)(hp:a.length<=2147483648):∀(r j c:Nat),j+r=a.length->r<c->
  lp Fb iB vH c (Vn d b a H W ((j:Nat):Int)) YZ=bif mj b j (a.drop j)then plL d H W else ar (.panic 131 4,[]):=by
 intro r
 induction r with
 |zero=>intro j c i k;obtain⟨c,rfl⟩:∃e,c=e+1:=⟨c-1,by omega⟩;rw[ac3,cq (show¬(((j:Nat):Int)<bd a.length) by simp only[aK];omega),al,ly (by omega)];exact(avc d b a H W _).trans (plx h H W)
 |succ r l=>
  intro j c i k;obtain⟨c,rfl⟩:∃e,c=e+1:=⟨c-1,by omega⟩;have key:=l (j+1) c (by omega) (by omega);have f:j<a.length:=by omega
  have g1:idx a ((j:Nat):Int)=ar (a[j]):=by unfold idx;rw[if_pos (by omega),b9,dv f]
  have g2:a[j]?=ar (a[j]):=dv f;have m:a.drop j=a[j]::a.drop (j+1):=sW f;have n:i64.wrap (((j:Nat):Int)+1)=((j+1:Nat):Int):=by rw[aH (by omega) (by omega)];omega
  have o:((j:Nat):Int).tmod 2=((j % 2:Nat):Int):=(Int.ofNat_tmod _ _).symm;have g:j % 2<b.length:=by omega
  have g3:=xE g;have g4:b[j % 2]?=ar (b.getD (j % 2) 0):=by rw[kM,dv g]<;>rfl
  generalize a[j]=p at*;rw[ac3,aF (show ((j:Nat):Int)<bd a.length by simp only[aK];omega),ai,g1,aw,b9,g2,aw,o,g3,aw,b9,g4,aw,n,m];have q:mj b j (p::a.drop (j+1))=(a7 (p<b.getD (j % 2) 0)&&mj b (j+1) (a.drop (j+1))):=rfl;rw[q];cases t:a7 (p<b.getD (j % 2) 0)with|true=>rw[cy,al,gb];exact key|false=>show _=_;kernel_rfl
theorem avv a b c H W:hlp Fb iB vH _ (Vn a b c H W 0) YZ=lp Fb iB vH fu (Vn a b c H W 0) YZ:=rfl
theorem adk a b H W q:hlp Fb iB vH _ (Vo a b H W q) YZ=lp Fb iB vH fu (Vo a b H W q) YZ:=rfl
theorem aEV {a}(c:a.length=4) b H W:lp Fb iB vH fu (Vo a b H W .nils) YZ=plL a H W:=by let ⟨e,d⟩:∃n,fu=n+1:=⟨_,rfl⟩;rw[d,ava];exact(ac4 a b H W _).trans (plx c H W)
theorem aEW {a}(c:a.length=4) b H W:lp Fb iB vH fu (Vo a b H W .emp) YZ=plL a H W:=by let ⟨e,d⟩:∃n,fu=n+1:=⟨_,rfl⟩;rw[d,avb];exact(ac4 a b H W _).trans (plx c H W)
theorem LH {b}(h:aE b=bc) name:(aj b name []).length<=2147483648:=by unfold aj;cases c:b.find? _ with|none=>simp|some a=>exact(jI h (kq c)).2.2
theorem fi {c a b l}(h:cA c a b l=bc):.ofNat l.length=c:=by unfold cA at h;rw[aX]at h;exact eq_of_beq h.2
def avw (a:bu)(b:af):Tq:=
 .br (aE a) (.br (cA 2 1 100 (aj a bZ [])) (.br (bd b.length==4) (.br (nq a b (aj a bZ [])) (.br (dp a b (aj a bZ [])==0)
  (.br (mj (aj a bZ []) 0 (aj a kJ [])) (.leaf (.ret [.os 0 0]) [(0,.arr 3 aa 0 a8 [b.getD 0 0,b.getD 1 0,jV a b (aj a bZ []),jW a b (aj a bZ [])])]) (.leaf (.panic 131 4) []))
  (.leaf (.panic 131 (dp a b (aj a bZ []))) [])) .no) (.leaf (.panic 131 4) [])) (.leaf (.panic 131 4) [])) .no
theorem al3 {m n:ao}{f:List ao}{g:ao}{b o}{c:af}(j:aE b=bc):aB Fb f154 6 [(5,[1,5,6,7,26,27,28])] [LD (m,n,f,g,b,()) o,.d (.slice aa) c] [] ah=(avw b c).run ah:=by
 let q:=bz j;let u:=LH j bZ;let k:=LH j kJ;refine gp (au9 m n f g b o c) ?_;change (bif decide _ then bif cA 2 1 100 (aj b bZ [])then _ else _ else _)=bif aE b then (bif cA 2 1 100 _ then _ else _)else _
 rw[j,aF (⟨by omega,u⟩),ai,ai];cases v:cA 2 1 100 _ with
 |false=>rfl
 |true=>
  let r:(aj b bZ []).length=2:=by let:=fi v;simp only[aK]at this;omega
  rw[ai,ai];change (bif ! bd _==4 then _ else bif decide _ then (bif nq b c (aj b bZ [])then (bif dp b c (aj b bZ [])==0 then _ else _)else _)else _)=bif bd _==4 then (bif nq b c _ then (bif dp b c _==0 then _ else _)else _)else _
  cases w:bd _==4 with
  |false=>rfl
  |true=>
   let e:c.length=4:=by let:=eq_of_beq w;simp only[aK]at this;omega
   rw[cy,al,ai,aF (⟨e,r⟩),ai];cases nq b c _ with
   |false=>rfl
   |true=>
    cases dp b c _==0 with
    |false=>rfl
    |true=>
     rw[ai,ai,ai,ai,aF (by omega:b.length<=9223372036854775807),ai];change (bif (b.find? (ie kJ 7)).isNone then _ else bif a7 (aj b kJ []=[])then _ else (bif a7 ((aj b kJ []).length<=2147483648)then _ else _))=bif mj _ 0 _ then _ else _
     cases s:(b.find? _).isNone with
     |true=>
      let x:aj b kJ []=[]:=by unfold aj;cases l:b.find? _ with|none=>rfl|some a=>rw[l]at s;cases s
      rw[x,ai];exact(adk c _ _ _ .nils).trans (aEV e _ _ _)
     |false=>rw[al];cases h:aj b kJ []with|nil=>rw[show decide _=bc from rfl,ai];exact(adk c _ _ _ .emp).trans (aEW e _ _ _)|cons p t=>let i:aj b cE []=p::t:=h;rw[h]at k;rw[show decide _=a8 from rfl,al,aF k,ai,i];exact avu e r k (p::t).length 0 fu (by omega) (by unfold fu;omega)
def avx :List AV->LHp->Tq
 |[.d Y7 ((_,_,_,_,a,_),_,_),.d zS xs],[]=>avw a xs
 |_,_=>.no
theorem al4 :bq 154 (ay avx):=by
 let c:=bM (d:=6) (l:=[(5,[1,5,6,7,26,27,28])]) ac2 func154 call154;refine aY λb g h i a=>?_
 unfold avx at a;split at a
 ·let e:=a;let ⟨f,_⟩:=eN e;exact c.okC ((al3 f).trans a)
 ·cases a
def OJ (xs a:af) i  :=i64.wrap (xs.getD i 0+i64.wrap (a.getD i 0+a.getD (xs.length+i) 0))
def pdL (xs a:af):af:=(hW xs.length).map (OJ xs a)
def pdA (xs a:af)(i:Nat):af:=(hW i).map (OJ xs a)++xs.drop i
noncomputable def KPd  :=aI 0 (aL vF lb [4] (hlp vF lb) (cR (cR (cR (cR acI)))) (aV prog 0 f221.results.toList ah))
theorem avy {xs b:af}(v:xs.length<=2147483648)(hp:b.length=2*xs.length):lp vF lb Ov fu (OB xs b (bd xs.length) 0 xs) KPd=Hm 3 (ar (pdL xs b)):=by
 have w:maxLen=9223372036854775807:=by decide
 have h:=cg (xs:=xs) (T:=λn s=>lp vF lb Ov n s KPd) (st:=λ(i:Int) (_:Unit)=>OB xs b (bd xs.length) i (pdA xs b i.toNat)) (f:=λ(a:Unit) (_:Int)=>.go a) (fin:=λ(_:Unit)=>(ar (.ret [.os 0 0],[(0,.arr 3 aa 0 a8 (pdL xs b))]):Option (aq×LHp))) (λ(_:Nat) (_:Unit)=>True) (by omega) ?_ ?_ (a:=()) trivial
 ·have e:∀l:af,bG (λ(a:Unit) (_:Int)=>Nx.go a) (λ(_:Unit)=>(ar (.ret [.os 0 0],[(0,.arr 3 aa 0 a8 (pdL xs b))]):Option (aq×LHp))) l ()=ar (.ret [.os 0 0],[(0,.arr 3 aa 0 a8 (pdL xs b))]):=by
   intro l
   induction l with|nil=>rfl|cons _ l o=>exact o
  exact h.trans (e xs)
 ·intro i _ x n _ k c y p d
  refine .inl ⟨(),rfl,trivial,?_⟩;have q:xs.drop i=x::xs.drop (i+1):=by rw[dv k]at c;rw[←hY c];exact sW k
  have g:((hW i).map (OJ xs b)).length=i:=by simp
  have ex:x=xs.getD i 0:=by rw[kM,c]<;>rfl
  have j:pdA xs b i=(hW i).map (OJ xs b)++x::xs.drop (i+1):=by unfold pdA;rw[q]
  have g1:=sF ((hW i).map (OJ xs b)) x (xs.drop (i+1));rw[g,←j]at g1;have g2:(pdA xs b i)[i]?=ar x:=by rw[j,uN (by omega),g,M7]<;>rfl
  have g3:=Aa ((hW i).map (OJ xs b)) x (OJ xs b i) (xs.drop (i+1));rw[g,←j]at g3;have g4:idx b (i:Int)=ar (b.getD i 0):=aP (by omega);have r:i64.wrap (bd xs.length+(i:Int))=((xs.length+i:Nat):Int):=by simp only[aK];rw[aH (by omega) (by omega)];omega
  have g5:idx b ((xs.length+i:Nat):Int)=ar (b.getD (xs.length+i) 0):=aP (by omega);have t:(hW i).map (OJ xs b)++OJ xs b i::xs.drop (i+1)=pdA xs b (i+1):=by unfold pdA;rw[List.range_succ,Cp,gl]<;>rfl
  have u:i64.wrap (x+i64.wrap (b.getD i 0+b.getD (xs.length+i) 0))=OJ xs b i:=by rw[ex]<;>rfl
  have m:=apX xs b (bd xs.length) (i:Int) (pdA xs b i) n KPd;rw[d,ai,g1,aw,b9,g2,aw,g4,aw,r,g5,aw,aw,u,g3,aw,p,t]at m;exact m
 ·intro _ n _ d
  have e:pdA xs b xs.length=pdL xs b:=by unfold pdA pdL;rw[ly (ep _),eT]
  show lp _ _ _ (n+1) (OB xs b (bd xs.length) (xs.length:Int) (pdA xs b xs.length)) _=_;rw[apX,d,al,e];show _=_;kernel_rfl
theorem aEY a b:hlp vF lb Ov _ (OB a b (.ofNat a.length) 0 a) KPd=lp vF lb Ov fu (OB a b (.ofNat a.length) 0 a) KPd:=rfl
def bl :ao:=cE
def OL a b  :=bif cA (.ofNat (2*b.length)) 0 65536 (aj a bl [])then ar (pdL b (aj a bl []))else a6
def al6 a b  :=(OL a b).isSome
def avz a b  :=(OL a b).getD []
def avA :List AV->LHp->Tq
 |[.d Y7 ((_,_,_,_,a,_),_,_),.d zS b],[]=>.br (aE a) (.br (a7 (b.length<=2147483648)) (ynT (al6 a b) (avz a b)) .no) .no
 |_,_=>.no
theorem al7 :bq 221 (ay avA):=by
 let k:=bM (d:=6) (l:=[(4,[1,5,6,17,18])]) Vd func221 call221;refine aY λi j t u b=>?_
 unfold avA at b;split at b
 ·rename_i m n f g h _ o _ c
  let ⟨j,p⟩:=eN b;let ⟨e,q⟩:=eN p;let e:=bt e;refine k.okO (.slice aa) (gp ?_ (show (Co _).run ah=ar _ from q));refine gp (congrArg _ (auX m n f g h o c)) ?_;let w:i64.wrap (.ofNat _)=.ofNat (2*c.length):=by simp only[aK];exact aH (by omega) (by omega)
  rw[j,ai,w,aF e,ai];rw[←nk];unfold OL;change fv _ (bif cA _ 0 65536 (aj h bl [])then _ else _)=_;cases r:cA _ 0 65536 _ with
  |false=>rfl
  |true=>
   let a:=fi r;let a:(aj h bl []).length=2*c.length:=by simp only[aK]at a;omega
   let s:=(aEY c _).trans (avy e a);rw[ai,ai];exact congrArg _ s
 ·cases b
noncomputable def aEZ  :=fC [Y7,.slice aa] (ay avA)
theorem al8 :bq 221 aEZ:=cn al7
noncomputable def KCc  :=aI 0 (aL jh dk [4,8] (hlp jh dk) (cR (cR (cR (cR E7)))) (aV prog 0 f218.results.toList ah))
noncomputable def KCi n  :=aI 2 (aI 1 (aL jh dk [4,8] (hlp jh dk) (cR (cR (cR (cL (cL (cR (cL (cR (cR (cR E7)))))))))) (lJ jh dk [4,8] (hlp jh dk) zu n KCc)))
theorem aE0 (c:af) a (b:cm) j (e:af) i (o:af) n:KCi n (.exit 2) ⟨az 6 [(1,.d (aa).slice c),(5,I a),(6,.os 0 0),(21,.d (.slice _) b),(22,I (.ofNat b.length)),(23,I j),(35,.d (aa).slice e),(36,I (.ofNat e.length)),(37,I i),(38,B a8)],[(0,.arr 3 aa 0 a8 o)],1⟩=lp jh dk zu n (vG c a b (i64.wrap (j+1)) o) KCc:=by rw[←kU (ids:=[4,8])];kernel_rfl
def M3 (b:af)(a:Int):Nat->List Int->List Int->Option (af)
 |_,[],o=>ar o
 |i,d::r,o=>bif i==a then M3 b a (i+1) r (o.set i (i64.wrap (o.getD i 0+d)))else bif d==b.getD i 0 then M3 b a (i+1) r o else a6
def coR (b:af)(a:Int):cm->List Int->Option (af)
 |[],o=>ar o
 |v::c,o=>bif .ofNat (bk v.2.2.1)==bd b.length then (M3 b a 0 v.2.2.1 o).bind (coR b a c)else a6
def coN (b:af)(a:Int)(s:Nat×af)(d:Int):Nx (Nat×af) (aq×LHp):=bif s.1==a then .go (s.1+1,s.2.set s.1 (i64.wrap (s.2.getD s.1 0+d)))else bif d==b.getD s.1 0 then .go (s.1+1,s.2)else .stop (ar (.panic 131 4,[]))
theorem Ht b a (fin:List Int->Option (aq×LHp)):∀(c:af) (i) (o),bG (coN b a) (λs=>fin s.2) c (i,o)=match M3 b a i c o with|some f=>fin f|none=>ar (.panic 131 4,[])
 |[],i,o=>rfl
 |d::r,i,o=>by
  let e:coN b a (i,o) d=bif i==a then .go _ else bif d==b.getD i 0 then .go _ else .stop _:=rfl
  rw[bG,e,M3];cases i==a with|true=>exact Ht b a fin r _ _|false=>cases d==b.getD i 0 with|true=>exact Ht b a fin r _ _|false=>rfl
theorem Af {c a}:∀{g:af} {i} {o b:af},M3 c a i g o=ar b->b.length=o.length
 |[],i,o,b,h=>by cases h;rfl
 |d::r,i,o,b,h=>by
  rw[M3]at h;cases e:i==a with|true=>rw[e,ai]at h;rw[Af h,WB]|false=>rw[e,al]at h;cases f:d==c.getD i 0 with|true=>rw[f,ai]at h;exact Af h|false=>rw[f]at h;cases h
theorem avB {xs c o:af}{a:Int}{g:cm}{j n:Nat}(p:xs.length<=2147483648)(y:c.length=xs.length)(z:o.length=xs.length)(q:i64.wrap ((j:Int)+1)=((j+1:Nat):Int)):
  lp jh dk Ly fu (LC xs a g (j:Int) c 0 o) (KCi n)=match M3 xs a 0 c o with|some r=>lp jh dk zu n (vG xs a g ((j+1:Nat):Int) r) KCc|none=>ar (.panic 131 4,[]):=by
 have E:maxLen=9223372036854775807:=by decide
 refine(cg (xs:=c) (T:=λk s=>lp jh dk Ly k s (KCi n)) (st:=λ(i:Int) (s:Nat×af)=>LC xs a g (j:Int) c i s.2) (f:=coN xs a) (fin:=λ(s:Nat×af)=>lp jh dk zu n (vG xs a g ((j+1:Nat):Int) s.2) KCc) (λ(i:Nat) (s:Nat×af)=>s.1=i/\s.2.length=xs.length) (by omega) ?_ ?_ (a:=(0,o)) ⟨rfl,z⟩).trans (Ht xs a (λr=>lp jh dk zu n (vG xs a g ((j+1:Nat):Int) r) KCc) c 0 o)
 ·rintro i ⟨b,o⟩ d k ⟨rfl,l⟩ w F A B t
  have l:o.length=xs.length:=l;have w:b<c.length:=w;have e:coN xs a (b,o) d=bif (b:Int)==a then .go (b+1,o.set b (i64.wrap (o.getD b 0+d)))else bif d==xs.getD b 0 then .go (b+1,o)else .stop (ar (.panic 131 4,[])):=rfl
  have h:=apZ xs a g (j:Int) c (b:Int) o k (KCi n);have C:idx o (b:Int)=ar (o.getD b 0):=aP (by omega);have u:idx xs (b:Int)=ar (xs.getD b 0):=aP (by omega);have v:o[b]?=ar (o.getD b 0):=by rw[kM,dv (by omega)]<;>rfl
  have D:fR o b (i64.wrap (o.getD b 0+d))=ar (o.set b (i64.wrap (o.getD b 0+d))):=by unfold fR;rw[show h8 b o.length=bc from sc (by omega)]<;>rfl
  rw[t,ai,A,aw,C,aw,b9,v,aw,aw,D,aw,u,aw,B]at h;cases x:(b:Int)==a with|true=>rw[x,ai]at h e;exact .inl ⟨_,e,⟨rfl,by show bk (o.set b _)=_;rw[WB];exact l⟩,h⟩|false=>rw[x,al]at h e;cases m:d==xs.getD b 0 with|true=>rw[m,ai]at e;rw[m,cy,al]at h;exact .inl ⟨_,e,⟨rfl,l⟩,h⟩|false=>rw[m,al]at e;rw[m,hX,ai]at h;exact .inr ⟨_,e,h.trans (by kernel_rfl)⟩
 ·rintro⟨b,o⟩ k ⟨_,_⟩ t
  show lp _ _ _ (k+1) (LC xs a g (j:Int) c (c.length:Int) o) _=_;rw[apZ,t,al];have p:=aE0 xs a g (j:Int) c (c.length:Int) o n;rw[q]at p;exact p
theorem avC b c o a d j n:hlp jh dk Ly _ (LC b a d j c 0 o) (KCi n)=lp jh dk Ly fu (LC b a d j c 0 o) (KCi n):=rfl
theorem avD {xs a b}(m:xs.length<=2147483648)(w:b.length<=2147483648):lp jh dk zu fu (vG xs a b 0 xs) KCc=Hm 3 (coR xs a b xs):=by
 let x:maxLen=9223372036854775807:=by decide
 let p:∀(l:cm) (o:af),bG (λo v=>bif .ofNat (bk v.2.2.1)==bd _ then match M3 xs a 0 v.2.2.1 o with|some c=>.go c|none=>.stop _ else .stop _) (λo=>Hm 3 (ar o)) l o=Hm 3 (coR xs a l o):=by
  intro l;induction l with
  |nil=>intro o;rfl
  |cons v l q=>
   intro o;rw[bG,coR];cases .ofNat _==bd _ with|false=>rfl|true=>rw[ai,ai];cases M3 xs a 0 v.2.2.1 o with|none=>rfl|some c=>exact q c
 refine(cg (xs:=b) (T:=λn s=>lp jh dk zu n s KCc) (λ_ o=>o.length=xs.length) (by omega) ?_ ?_ rfl).trans (p b xs)
 ·intro i o v n g y z r t h
  let d:=apY xs a b i o n KCc;rw[h,ai,r,aw]at d;cases j:.ofNat _==bd _ with
  |false=>rw[j,hX,ai]at d;refine .inr ⟨_,rfl,d.trans ?_⟩;kernel_rfl
  |true=>
   let e:bk v.2.2.1=xs.length:=by let:=eq_of_beq j;simp only[aK]at this;omega
   rw[j,cy,al]at d;let u:=(avC xs v.2.2.1 o a b i n).trans (avB m e g t);let f:=d.trans u;simp only[ai];cases k:M3 xs a 0 v.2.2.1 o with|none=>rw[k]at f;exact .inr ⟨_,rfl,f⟩|some c=>rw[k]at f;exact .inl ⟨c,rfl,(Af k).trans g,f⟩
 ·intro o n g h;rw[apY,h,al];show _=_;kernel_rfl
theorem aE1 b a c:hlp jh dk zu _ (vG b a c 0 b) KCc=lp jh dk zu fu (vG b a c 0 b) KCc:=rfl
def OM (a:bu)(b:cm) xs  :=bif uf (aS a bE 0) (.ofNat xs.length)then coR xs (kD (aS a bE 0) (.ofNat xs.length)) (b.drop 1) xs else a6
def aE2 a b c  :=(OM a b c).isSome
def aE3 a b c  :=(OM a b c).getD []
def avE :List AV->LHp->Tq
 |[.d Y7 ((_,_,_,_,b,_),a,_),.d zS c],[]=>.br (aE b) (.br (a7 (c.length<=2147483648)) (.br (a7 (1<=a.length/\a.length<=2147483648)) (ynT (aE2 b a c) (aE3 b a c)) .no) .no) .no
 |_,_=>.no
theorem al9 :bq 218 (ay avE):=by
 let m:=bM (d:=6) (l:=[(4,[1,5,6,21,22,23]),(8,[1,5,6,21,22,23,35,36,37])]) Vc func218 call218;refine aY λi j u v e=>?_
 unfold avE at e;split at e
 ·rename_i n o g h b _ a _ c
  let ⟨j,p⟩:=eN e;let ⟨f,q⟩:=eN p;let ⟨r,s⟩:=eN q;let f:=bt f;let ⟨w,x⟩:=bt r;let k:=bz j;refine m.okO (.slice aa) (gp ?_ (show (Co _).run ah=ar _ from s));refine gp (congrArg _ (auW n o g h b a c)) ?_;let ev:(if (0:Int)<=1/\1<=bd a.length/\.ofNat a.length<=bd a.length then ar (fb 1 (gy (bd _).toNat a))else a6)=ar (a.drop 1):=by rw[if_pos (by simp only[aK];omega)];rw[show (bd a.length).toNat=a.length from rfl,hP (ep _)]
  rw[aF (by omega:b.length<=9223372036854775807),ai,ev,aw,aF f,ai,←nk];unfold OM;change fv _ (bif uf (aS b bE 0) (.ofNat c.length)then _ else _)=_;cases y:uf (aS b bE 0) (.ofNat c.length)with|false=>rfl|true=>let t:=(aE1 c (kD (aS b bE 0) (.ofNat c.length)) (a.drop 1)).trans (avD f (by rw[km];omega));rw[ai,ai];exact congrArg (fv (.slice aa)) t
 ·cases e
noncomputable def aE4  :=fC [Y7,.slice aa] (ay avE)
theorem ama :bq 218 aE4:=cn al9
theorem eL {a}(h:aC a=0):(∀x∈a,1<=x)/\a.length<=6/\cM a<=65536/\aN a=cM a:=by
 unfold aC at h;unfold aN;cases b:a7 (cc _ a>=0)with
 |true=>rw[b]at h;exact absurd (show (4:Int)=0 from h)<|by decide
 |false=>
  rw[b]at h;cases c:a7 (bd _>6)with
  |true=>rw[c]at h;exact absurd (show (6:Int)=0 from h)<|by decide
  |false=>
   rw[c]at h;cases d:xp a with
   |true=>rw[d]at h;exact absurd h<|by decide
   |false=>
    refine⟨λx f=>?_,?_,?_,rfl⟩
    ·rw[vh,v7]at b;let:=b x f;simp only[decide_eq_true_eq]at this;omega
    ·let:=uQ c;let e:bd _=a.length:=rfl;omega
    ·let:=uQ d;omega
theorem rL {t a c}(h:gz t a c=0):aQ t 0=bc/\aC a=0/\c.length=aN a/\∀x∈c,aQ t x=bc:=by
 unfold gz at h;cases f:aQ t 0 with
 |false=>rw[f]at h;exact absurd (show (5:Int)=0 from h)<|by decide
 |true=>
  rw[f]at h;cases b:aC a !=0 with
  |true=>rw[b]at h;let g:aC a=0:=h;rw[g]at b;exact absurd b<|by decide
  |false=>
   rw[b]at h;cases d:.ofNat _ !=aN a with|true=>rw[d]at h;exact absurd (show (4:Int)=0 from h)<|by decide|false=>rw[d]at h;cases e:c.any _ with|true=>rw[e]at h;exact absurd (show (4:Int)=0 from h)<|by decide|false=>refine⟨rfl,by simpa using b,by simpa using d,λx i=>?_⟩;rw[v7]at e;simpa using e x i
structure aKF (a b c d:Int):Prop where
 a1:1<=a
 b1:1<=b
 c1:1<=c
 d1:1<=d
 ab:1<=a*b/\a*b<=65536
 cd:1<=c*d/\c*d<=65536
 all:a*b*(c*d)<=65536
 c2:c<=65536
 d2:d<=65536
def Hu (c:Int)(l:af):Tq:=.br (c==0) (dat (.slice aa) l) (pnc 131 c)
def ON a r  :=a7 (i64.wrap (0-r)<=a)&&a7 (a<=r)
def Hv a r  :=bif a7 (a<0)then i64.wrap (a+r)else a
def adl (b:bu)(a:af):Option af:=bif ON (aS b bE 1) (.ofNat a.length)then ar [aN (a.take (Hv (aS b bE 1) (.ofNat a.length)).toNat),aN (a.drop (Hv (aS b bE 1) (.ofNat a.length)).toNat)]else a6
def avF a b  :=(adl a b).isSome
def avG a b  :=(adl a b).getD []
def avH :List AV->LHp->Tq
 |[.d Y7 ((_,_,_,_,a,_),_,_),.d zS b],[]=>.br (aE a) (.br (a7 (b.length<=2147483648)) (ynT (avF a b) (avG a b)) .no) .no
 |_,_=>.no
theorem yL {xs:af}{k:Int}(a:0<=k)(b:k<=(xs.length:Int)):(if (0:Int)<=0/\0<=k/\k<=bd xs.length then ar (fb 0 (gy k.toNat xs))else a6)=ar (xs.take k.toNat):=by rw[if_pos ⟨by omega,a,by simp only[aK];exact b⟩]<;>rfl
theorem ap6 {a:af}{k}(b:0<=k)(c:k<=(a.length:Int)):(if 0<=k/\k<=.ofNat a.length/\.ofNat a.length<=bd a.length then ar (fb k.toNat (gy (bd a.length).toNat a))else a6)=ar (a.drop k.toNat):=by rw[if_pos ⟨b,by exact c,Int.le_refl _⟩,show (bd _).toNat=a.length from rfl,hP (ep _)]
theorem amb :bq 224 (ay avH):=by
 have r:=bM (d:=6) (l:=[]) Ve func224 call224;refine aY λh i s t c=>?_
 unfold avH at c;split at c
 ·rename_i u v f g e _ x _ b
  obtain⟨i,y⟩:=eN c;obtain⟨j,z⟩:=eN y;have j:=bt j;have m:=bz i;refine r.okO (.slice aa) (gp ?_ (show (Co (adl e b)).run ah=ar (s,t)from z));refine gp (congrArg (fv _) (auY u v f g e x b)) ?_;have A:(jG:ao)=bE:=rfl;rw[A,aF (show e.length<=9223372036854775807 by omega),ai,←nk 3];unfold adl ON Hv;generalize F:aS e bE 1=a;cases B:a7 (i64.wrap (0-bd b.length)<=a)with
  |false=>rfl
  |true=>
   cases C:a7 (a<=bd b.length)with
   |false=>rfl
   |true=>
    have n:=bt B;have D:=bt C;simp only[aK]at n D;rw[aH (by omega) (by omega)]at n;have fin:∀k:Int,0<=k->k<=(b.length:Int)->fv (.slice aa) ((ar (b.take k.toNat)).bind λo=>bif a7 (o.length<=9223372036854775807)then (ar (b.drop k.toNat)).bind λp=>(bif a7 (p.length<=9223372036854775807)then ar (aq.ret [AV.os 0 0],[(0,au.arr 3 (aa) 0 a8 [aN o,aN p])])else a6)else a6)=fv (.slice aa) (Hm 3 (ar [aN (b.take k.toNat),aN (b.drop k.toNat)])):=λk _ _=>by rw[aw,aF (show (b.take k.toNat).length<=9223372036854775807 by rw[fl];omega),ai,aw,aF (show (b.drop k.toNat).length<=9223372036854775807 by rw[km];omega)]<;>rfl
    rw[ai,cy,al,uu,ai];cases q:a7 (a<0)with
    |true=>
     have E:=bt q;have w:i64.wrap (a+bd b.length)=a+(b.length:Int):=by simp only[aK];exact aH (by omega) (by omega)
     rw[ai,ai,w,yL (by omega) (by omega),ap6 (by omega) (by omega)];exact fin _ (by omega) (by omega)
    |false=>have E:=uQ q;rw[al,al,yL (by omega) (by omega),ap6 (by omega) (by omega)];exact fin _ (by omega) (by omega)
 ·cases c
def aE5  :=fC [Y7,.slice aa] (ay avH)
theorem amc :bq 224 aE5:=cn amb
def ir (a b:af):af:=bif E2 a b then []else M0 a b
def avI :List AV->LHp->Tq
 |[.d zS a,.d zS b],[]=>.br (a7 (a.length<=2147483648/\b.length<=2147483648)) (Hu (dY a b) (ir a b)) .no
 |_,_=>.no
theorem amd :bq 148 (ay avI):=by
 let e:bq 148 (aj9 (.slice aa) _):=G3 RB;refine aY λd h i j a=>?_
 unfold avI at a;split at a
 ·rename_i b c;let ⟨f,g⟩:=eN a;refine e.ok _ _ _ _ (gp ?_ g);show (Oj b c).run _=_;unfold Oj Hu ir;rw[f];cases dY b c==0 with|false=>rfl|true=>cases E2 b c<;>rfl
 ·cases a
def ame  :=fC [.slice aa,.slice aa] (ay avI)
theorem Hw :bq 148 ame:=cn amd
def avJ :List AV->LHp->Tq
 |[.d zS a,.d zS b],[]=>.br (a7 (a.length<=2147483648/\b.length<=2147483648)) (.br (dY a b==0) (.leaf (.ret [.os 0 0]) [(0,.arr 3 aa 0 a8 (ir a b))]) (pnc 131 (dY a b))) .no
 |_,_=>.no
theorem amf :bq 148 (ay avJ):=by
 let e:bq 148 (mkO 3 aa _):=Cm RB;refine aY λd h i j a=>?_
 unfold avJ at a;split at a
 ·rename_i b c;let ⟨f,g⟩:=eN a;refine e.ok _ _ _ _ (gp ?_ g);show (Oj b c).run _=_;unfold Oj ir;rw[f];cases dY b c==0 with|false=>rfl|true=>cases E2 b c<;>rfl
 ·cases a
def aE6  :=UI.add 148 (ay avJ)
theorem Vv :aE6.Good:=ij.add amf
theorem adm (a b:af):aB aE6 f151 6 [] [.d (.slice aa) a,.d (.slice aa) b] [] ah=bif a7 (bd a.length>=2)then bif !decide (bd b.length>=2)then bF else (idx a (i64.wrap (i64.wrap (.ofNat a.length-2)+1))).bind λi=>(idx b (i64.wrap (.ofNat b.length-2))).bind λj=>bif !i==j then bF else (if (0:Int)<=0/\0<=i64.wrap (.ofNat a.length-2)/\i64.wrap (.ofNat a.length-2)<=.ofNat a.length then ar (fb 0 (gy (i64.wrap (.ofNat a.length-2)).toNat a))else a6).bind λe=>(if (0:Int)<=0/\0<=i64.wrap (.ofNat b.length-2)/\i64.wrap (.ofNat b.length-2)<=.ofNat b.length then ar (fb 0 (gy (i64.wrap (.ofNat b.length-2)).toNat b))else a6).bind λf=>bif a7 (e.length<=2147483648/\f.length<=2147483648)then bif dY e f==0 then (idx a (i64.wrap (.ofNat a.length-2))).bind λh=>(idx b (i64.wrap (i64.wrap (.ofNat b.length-2)+1))).bind λc=>(app (ir e f) [h,c]).bind λg=>ar (.ret [.os 0 0],[(0,.arr 3 aa 0 a8 g)])else (idx a (i64.wrap (.ofNat a.length-2))).bind λh=>(idx b (i64.wrap (i64.wrap (.ofNat b.length-2)+1))).bind λc=>ar (.panic 131 (dY e f),[])else a6 else bF:=by kernel_rfl
def aE7  :=UI.add 59 (ay Cb)
theorem Vw :aE7.Good:=ij.add mA
theorem avK (h i:ao)(e:List ao)(f:ao)(c:bu) vs (a:ao) (b:af):aB aE7 f213 6 [] [iN (h,i,e,f,c,()) vs,.d .str a,.d (.slice aa) b] [] ah=bif a7 (c.length<=9223372036854775807)then bif bd b.length==2 then bif aS c a 0==0 then bif aS c a 0==1 then (idx b 1).bind λj=>(idx b 0).bind λg=>ar (.ret [.os 0 0],[(0,.arr 3 aa 0 a8 [j,g])])else ak [.d (aa).slice b]else bif !aS c a 0==1 then bF else bif aS c a 0==1 then (idx b 1).bind λg=>(idx b 0).bind λk=>ar (.ret [.os 0 0],[(0,.arr 3 aa 0 a8 [g,k])])else ak [.d (aa).slice b]else bF else a6:=by kernel_rfl
def uh (a b:af)  :=bif a7 (2<=a.length)&&a7 (2<=b.length)then bif a.getD (a.length-1) 0==b.getD (b.length-2) 0 then dY (a.take (a.length-2)) (b.take (b.length-2))else 4 else 4
def qj (a b:af)  :=ir (a.take (a.length-2)) (b.take (b.length-2))++[a.getD (a.length-2) 0,b.getD (b.length-1) 0]
theorem nr {a b}(h:dY a b=0):(ir a b).length<=6:=by
 unfold dY at h;unfold ir;cases c:aC a !=0 with
 |true=>rw[c,ai]at h;rw[h]at c;cases c
 |false=>
  rw[c,al]at h;cases d:aC b !=0 with
  |true=>rw[d,ai]at h;rw[h]at d;cases d
  |false=>
   rw[d,al]at h;cases f:E2 a b with|true=>simp|false=>rw[f,al]at h;cases e:bcN a b with|true=>rw[e,ai]at h;cases h|false=>rw[e,al]at h;exact(eL h).2.1
def avL :List AV->LHp->Tq
 |[.d zS a,.d zS b],[]=>.br (a7 (a.length<=2147483648/\b.length<=2147483648)) (Hu (uh a b) (qj a b)) .no
 |_,_=>.no
theorem amg :bq 151 (ay avL):=by
 have m:=bM (d:=6) (l:=[]) Vv func151 call151;refine aY λg u v w e=>?_
 unfold avL at e;split at e
 ·rename_i a b
  obtain⟨n,o⟩:=eN e;obtain⟨h,i⟩:=bt n;have h:a.length<=2147483648:=h;have i:b.length<=2147483648:=i;refine m.okO (.slice aa) (gp ?_ o);refine gp (congrArg (fv _) (adm a b)) ?_;unfold Hu uh;by_cases j:2<=a.length
  ·by_cases k:2<=b.length
   ·have c:a7 (bd a.length>=2)=bc:=aF (by simp only[aK];omega)
    have f:a7 (bd b.length>=2)=bc:=aF (by simp only[aK];omega);have p:i64.wrap (bd a.length-2)=((a.length-2:Nat):Int):=by simp only[aK];rw[aH (by omega) (by omega)];omega
    have q:i64.wrap (bd b.length-2)=((b.length-2:Nat):Int):=by simp only[aK];rw[aH (by omega) (by omega)];omega
    have r:i64.wrap (((a.length-2:Nat):Int)+1)=((a.length-1:Nat):Int):=by rw[aH (by omega) (by omega)];omega
    have s:i64.wrap (((b.length-2:Nat):Int)+1)=((b.length-1:Nat):Int):=by rw[aH (by omega) (by omega)];omega
    have g1:idx a ((a.length-1:Nat):Int)=ar (a.getD (a.length-1) 0):=aP (by omega);have g2:idx b ((b.length-2:Nat):Int)=ar (b.getD (b.length-2) 0):=aP (by omega);have g3:idx a ((a.length-2:Nat):Int)=ar (a.getD (a.length-2) 0):=aP (by omega);have g4:idx b ((b.length-1:Nat):Int)=ar (b.getD (b.length-1) 0):=aP (by omega);rw[c,ai,f,cy,al,p,q,r,s,g1,aw,g2,aw,aF j,aF k,uu,ai];cases x:a.getD (a.length-1) 0==b.getD (b.length-2) 0 with|false=>rfl|true=>rw[cy,al,ai,yL (by omega) (by omega),aw,yL (by omega) (by omega),aw,b9,b9,aF (show (a.take (a.length-2)).length<=2147483648/\(b.take (b.length-2)).length<=2147483648 by rw[fl,fl];omega),ai];cases t:dY (a.take (a.length-2)) (b.take (b.length-2))==0 with|false=>rw[al,g3,aw,g4,aw]<;>rfl|true=>have y:=nr (eq_of_beq t);rw[ai,g3,aw,g4,aw,eX (show (ir (a.take (a.length-2)) (b.take (b.length-2))).length+[a.getD (a.length-2) 0,b.getD (b.length-1) 0].length<=lim by rw[show lim=4294967296 from rfl];simp only[bs,eO];omega),aw];exact nk 3 (ar (qj a b))
   ·have c:a7 (bd a.length>=2)=bc:=aF (by simp only[aK];omega);have f:a7 (bd b.length>=2)=a8:=cq (by simp only[aK];omega);rw[c,f,cq k,Bool.and_false]<;>rfl
  ·have c:a7 (bd a.length>=2)=a8:=cq (by simp only[aK];omega);rw[c,cq j,so]<;>rfl
 ·cases e
noncomputable def avM  :=fC [.slice aa,.slice aa] (ay avL)
theorem R6 :bq 151 avM:=cn amg
def xF (c:bu)(a:ao)(b:af):Option af:=bif bd b.length==2&&(aS c a 0==0||aS c a 0==1)then ar (bif aS c a 0==1 then [b.getD 1 0,b.getD 0 0]else b)else a6
def xG b a c  :=(xF b a c).isSome
def fG b a c  :=(xF b a c).getD []
def avN :List AV->LHp->Tq
 |[.d Y7 ((_,_,_,_,b,_),_,_),.d .str a,.d zS c],[]=>.br (aE b) (ynT (xG b a c) (fG b a c)) .no
 |_,_=>.no
theorem amh :bq 213 (ay avN):=by
 let m:=bM (d:=6) (l:=[]) Vw func213 call213;refine aY λh j t u b=>?_
 unfold avN at b;split at b
 ·rename_i n o e f c _ p _ a g
  let ⟨j,q⟩:=eN b;let k:=bz j;refine m.okO (.slice aa) (gp ?_ (show (Co _).run ah=ar _ from q));refine gp (congrArg _ (avK n o e f c p a g)) ?_;rw[aF (by omega:c.length<=9223372036854775807),ai];unfold xF;cases r:bd _==2 with
  |false=>rfl
  |true=>
   let v  :=by let:=eq_of_beq r;simp only[aK]at this;omega
   let s:idx g 0=ar _:=aP (i:=0) (by omega);let g1:idx g 1=ar _:=aP (i:=1) (by omega);rw[ai,g1,aw,s,aw];cases aS c a 0==0<;>cases aS c a 0==1<;>rfl
 ·cases b
noncomputable def aE8  :=fC [Y7,.str,.slice aa] (ay avN)
theorem ami :bq 213 aE8:=cn amh
noncomputable def aE9  :=(((UI.add 213 aE8).add 151 avM).add 148 ame).add 77 (fC [.slice aa,.slice aa] (ay ac1))
theorem Vx :aE9.Good:=(((ij.add ami).add R6).add Hw).add (cn Hq)
theorem avO (h i:ao)(f:List ao)(g:ao)(a:bu) vs:aB aE9 f152 6 [] [iN (h,i,f,g,a,()) vs] [] ah=(idx vs 0).bind λc=>bif aE a then bif xG a vn c.2.2.1 then (idx vs 1).bind λb=>bif aE a then bif xG a vo b.2.2.1 then bif a7 ((fG a vn c.2.2.1).length<=2147483648/\(fG a vo b.2.2.1).length<=2147483648)then bif uh (fG a vn c.2.2.1) (fG a vo b.2.2.1)==0 then bif bd vs.length==3 then (idx vs 2).bind λe=>bif a7 (bk e.2.2.1<=2147483648/\(qj (fG a vn c.2.2.1) (fG a vo b.2.2.1)).length<=2147483648)then bif dY e.2.2.1 (qj (fG a vn c.2.2.1) (fG a vo b.2.2.1))==0 then bif a7 ((ir e.2.2.1 (qj (fG a vn c.2.2.1) (fG a vo b.2.2.1))).length<=9223372036854775807)then bif !ir e.2.2.1 (qj (fG a vn c.2.2.1) (fG a vo b.2.2.1))==qj (fG a vn c.2.2.1) (fG a vo b.2.2.1)then bF else ak [.d (aa).slice (qj (fG a vn c.2.2.1) (fG a vo b.2.2.1))]else a6 else ar (.panic 131 (dY e.2.2.1 (qj (fG a vn c.2.2.1) (fG a vo b.2.2.1))),[])else a6 else ak [.d (aa).slice (qj (fG a vn c.2.2.1) (fG a vo b.2.2.1))]else ar (.panic 131 (uh (fG a vn c.2.2.1) (fG a vo b.2.2.1)),[])else a6 else bF else a6 else (idx vs 1).bind λb=>bF else a6:=by kernel_rfl
theorem rv0 (u:Unit):aB Oc f255 5 [(1,[0,2,3])] [.os 0 0] [(0,.arr 2 aa 0 a8 [])] ah=ar (.ret [],[(0,.arr 2 aa 0 a8 [])]):=by kernel_rfl
theorem rv1 (a:Int):aB Oc f255 5 [(1,[0,2,3])] [.os 0 0] [(0,.arr 2 aa 0 a8 [a])] ah=ar (.ret [],[(0,.arr 2 aa 0 a8 [a])]):=by kernel_rfl
theorem rv2 (a b:Int):aB Oc f255 5 [(1,[0,2,3])] [.os 0 0] [(0,.arr 2 aa 0 a8 [a,b])] ah=ar (.ret [],[(0,.arr 2 aa 0 a8 [b,a])]):=by kernel_rfl
theorem rv3 (a b c:Int):aB Oc f255 5 [(1,[0,2,3])] [.os 0 0] [(0,.arr 2 aa 0 a8 [a,b,c])] ah=ar (.ret [],[(0,.arr 2 aa 0 a8 [c,b,a])]):=by kernel_rfl
theorem rv4 (a b c d:Int):aB Oc f255 5 [(1,[0,2,3])] [.os 0 0] [(0,.arr 2 aa 0 a8 [a,b,c,d])] ah=ar (.ret [],[(0,.arr 2 aa 0 a8 [d,c,b,a])]):=by kernel_rfl
theorem rv5 (a b c d e:Int):aB Oc f255 5 [(1,[0,2,3])] [.os 0 0] [(0,.arr 2 aa 0 a8 [a,b,c,d,e])] ah=ar (.ret [],[(0,.arr 2 aa 0 a8 [e,d,c,b,a])]):=by kernel_rfl
theorem rv6 (a b c d e f:Int):aB Oc f255 5 [(1,[0,2,3])] [.os 0 0] [(0,.arr 2 aa 0 a8 [a,b,c,d,e,f])] ah=ar (.ret [],[(0,.arr 2 aa 0 a8 [f,e,d,c,b,a])]):=by kernel_rfl
def ek :ao:=vn
def eu :ao:=vo
def cD (a:cm)(i:Nat):af:=match a[i]? with|some v=>v.2.2.1|none=>[]
theorem ui {α:Type}{vs:cm}{i:Nat}(h:i<vs.length)(f:(Y3).den->Option α):∃v,vs[i]?=ar v/\cD vs i=v.2.2.1/\(idx vs ((i:Nat):Int)).bind f=f v:=by refine⟨vs[i],dv h,by unfold cD;rw[dv h],?_⟩;unfold idx;rw[if_pos (by omega),b9,dv h]<;>rfl
def uj (vs:cm)  :=vs.all λv=>bk v.2.2.1<=2147483648
theorem xH {vs}(h:uj vs=bc) i:(cD vs i).length<=2147483648:=by unfold cD;cases a:vs[i]? with|none=>simp|some v=>exact bt<|gv.1 h v<|ik a
def OO a b  :=uh (fG a ek<|cD b 0)<|fG a eu<|cD b 1
def tc a b  :=qj (fG a ek<|cD b 0)<|fG a eu<|cD b 1
def OP b a  :=bif xG b ek (cD a 0)then bif xG b eu (cD a 1)then (bif OO b a==0 then (bif bd a.length==3 then (bif dY (cD a 2) (tc b a)==0 then (bif ir (cD a 2) (tc b a)==tc b a then 0 else 4)else dY (cD a 2)<|tc b a)else 0)else OO b a)else 4 else 4
def avP :List AV->LHp->Tq
 |[.d Y7 ((_,_,_,_,a,_),vs,_)],[]=>.br (aE a) (.br (a7 (2<=vs.length)) (.br (uj vs) (Hu (OP a vs) (tc a vs)) .no) .no) .no
 |_,_=>.no
theorem vK {b a d}(h:xG b a d=bc):(fG b a d).length=2:=by
 unfold xG xF at h;unfold fG xF;cases c:bd _==2&&(aS b a 0==0||aS b a 0==1)with|false=>rw[c]at h;cases h|true=>rw[aX]at c;let:=eq_of_beq c.1;simp only[aK]at this;cases aS b a 0==1 with|true=>rfl|false=>show d.length=2;omega
theorem LI c l:(Hu c l).run ah=bif c==0 then (ar (.ret [.d (.slice aa) l],[]):Option<|aq×LHp)else ar (.panic 131 c,[]):=rfl
theorem amj :bq 152 (ay avP):=by
 have t:=bM (d:=6) (l:=[]) Vx func152 call152;refine aY λm n T U c=>?_
 unfold avP at c;split at c
 ·rename_i u w f g a _ vs _
  obtain⟨n,x⟩:=eN c;obtain⟨o,y⟩:=eN x;obtain⟨j,z⟩:=eN y;have o:2<=vs.length:=bt o;have V:=xH j 0;have W:=xH j 1;have A:=xH j 2;refine t.okC ((avO u w f g a vs).trans (gp ?_ z));rw[LI];obtain⟨B,C,D,X⟩:=ui (α:=aq×LHp) (vs:=vs) (i:=0) (by omega) (λv=>a6);obtain⟨E,F,G,Y⟩:=ui (α:=aq×LHp) (vs:=vs) (i:=1) (by omega) (λv=>a6);have H:idx vs 0=ar B:=by unfold idx;rw[if_pos (by omega)];exact C
  have I:idx vs 1=ar E:=by unfold idx;rw[if_pos (by omega)];exact F
  have J:(vn:ao)=ek:=rfl;have K:(vo:ao)=eu:=rfl;rw[H,aw,I,aw,n,ai,J,K,←D,←G];unfold OP;cases L:xG a ek (cD vs 0)with
  |false=>rfl
  |true=>
   rw[ai,ai,ai];cases M:xG a eu (cD vs 1)with
   |false=>rfl
   |true=>
    have Z:=vK L;have l2:=vK M;rw[ai,ai,aF (show (fG a ek (cD vs 0)).length<=2147483648/\(fG a eu (cD vs 1)).length<=2147483648 by omega),ai];have p:uh (fG a ek (cD vs 0)) (fG a eu (cD vs 1))=OO a vs:=rfl;have q:qj (fG a ek (cD vs 0)) (fG a eu (cD vs 1))=tc a vs:=rfl
    have b:(tc a vs).length<=2147483648\/(OO a vs==0)=a8:=by
     cases N:OO a vs==0 with
     |false=>exact .inr rfl
     |true=>
      left;rw[←q];unfold qj;rw[bK]
      have:(ir ((fG a ek (cD vs 0)).take ((fG a ek (cD vs 0)).length-2)) ((fG a eu (cD vs 1)).take ((fG a eu (cD vs 1)).length-2))).length<=6:=by
       refine nr ?_;have e:=eq_of_beq N;rw[←p]at e;unfold uh at e;rw[aF (show 2<=(fG a ek (cD vs 0)).length by omega),aF (show 2<=(fG a eu (cD vs 1)).length by omega),uu,ai]at e
       revert e
       cases (fG a ek (cD vs 0)).getD ((fG a ek (cD vs 0)).length-1) 0==(fG a eu (cD vs 1)).getD ((fG a eu (cD vs 1)).length-2) 0 with|true=>exact id|false=>intro h;cases h
      simp only[bs,eO];omega
    rw[p,q];cases r:OO a vs==0 with
    |false=>rw[al,al,r]<;>rfl
    |true=>
     rw[r]at b;have b:(tc a vs).length<=2147483648:=b.resolve_right (by decide);rw[ai,ai];cases O:bd vs.length==3 with
     |false=>rfl
     |true=>
      have k:2<vs.length:=by have:=eq_of_beq O;simp only[aK]at this;omega
      obtain⟨P,Q,R,z2⟩:=ui (α:=aq×LHp) (vs:=vs) (i:=2) k (λv=>a6);have S:idx vs 2=ar P:=by unfold idx;rw[if_pos (by omega)];exact Q
      rw[ai,ai,S,aw,←R,aF (show (cD vs 2).length<=2147483648/\(tc a vs).length<=2147483648 from⟨A,b⟩),ai];cases s:dY (cD vs 2) (tc a vs)==0 with|false=>rw[al,al,s]<;>rfl|true=>have h6:=nr (eq_of_beq s);rw[ai,ai,aF (show (ir (cD vs 2) (tc a vs)).length<=9223372036854775807 by omega),ai];cases ir (cD vs 2) (tc a vs)==tc a vs<;>rfl
 ·cases c
noncomputable def aFa  :=fC [Y7]<|ay avP
theorem amk :bq 152 aFa:=cn amj
def avQ :List AV->LHp->Tq
 |[.os 0 0],[(0,.arr 2 zI 0 a8 a)]=>.br (a7 (a.length<=6)) (.leaf (.ret []) [(0,.arr 2 aa 0 a8 a.reverse)]) .no
 |_,_=>.no
theorem aml :bq 255 (ay avQ):=by
 let h:=bM (d:=5) (l:=[(1,[0,2,3])]) pD func255 call255;refine aY λk n o p j=>?_
 unfold avQ at j;split at j
 ·rename_i m
  let ⟨i,g⟩:=eN j;let i  :=bt i
  match m,i,g with|[],_,g=>exact h.okC<|(rv0 ()).trans g|[a],_,g=>exact h.okC<|(rv1 a).trans g|[a,b],_,g=>exact h.okC<|(rv2 a b).trans g|[a,b,c],_,g=>exact h.okC<|(rv3 a b c).trans g|[a,b,c,d],_,g=>exact h.okC<|(rv4 a b c d).trans g|[a,b,c,d,e],_,g=>exact h.okC<|(rv5 a b c d e).trans g|[a,b,c,d,e,f],_,g=>exact h.okC<|(rv6 a b c d e f).trans g|_::_::_::_::_::_::_::_,i,_=>simp only[bs]at i;omega
 ·cases j
noncomputable def tf  :=(((Oc.add 210<|ay auZ).add 255<|ay avQ).add 215 aly).add 212<|ay alw
theorem Vy :tf.Good:=(((pD.add alD).add aml).add Hj).add RV
theorem avR (f g:ao)(c:List (ao))(e:ao)(b:bu)(i:cm)(a:af):aB tf f217 6 [(6,[1,6,7,24,25,26])] [iN (f,g,c,e,b,()) i,.d (.slice aa) a] [] ah=bif a7 (0<=bd a.length/\bd a.length<=2147483648)then bif a7 ((fw (bd a.length).toNat).length<=6)then bif aE b then bif a7 ((fw (bd a.length).toNat).reverse.length<=2147483648)then bif cA (bd a.length) 0 (i64.wrap (bd a.length-1)) (aj b Uz (fw (bd a.length).toNat).reverse)then (hlp tf jL) Hi _ {fr:=az 6 [(1,eb (aa).slice a),(6,eb (aa).slice (aj b Uz (fw (bd a.length).toNat).reverse)),(7,b5),(24,eb (aa).slice (aj b Uz (fw (bd a.length).toNat).reverse)),(25,I (bd (aj b Uz (fw (bd a.length).toNat).reverse).length)),(26,I 0)],hp:=[],nx:=0} (aI 0 (aL tf jL [6] (hlp tf jL) (cR (cR (cR (cR (cR (cR acH)))))) (aV prog 0 f217.results.toList ah)))else bF else a6 else a6 else a6 else a6:=(aW [6] jL rfl).trans (by obtain⟨j,h⟩:=aM tf jL;rw[h];kernel_rfl)
noncomputable def KTp  :=aI 0<|aL tf jL [6] (hlp tf jL) (cR<|cR<|cR<|cR<|cR<|cR acH)<|aV prog 0 f217.results.toList ah
def Fc (a l:af)(i:Int):LSt:=⟨az 6 [(1,.d (.slice aa) a),(6,.d (.slice aa) l),(7,.nils),(24,.d (.slice aa) l),(25,I<| .ofNat l.length),(26,I i)],[],0⟩
def LJ (o a l:af)(i:Int):LSt:=⟨az 6 [(1,.d (.slice aa) a),(6,.d (.slice aa) l),(7,.os 0 0),(24,.d (.slice aa) l),(25,I<| .ofNat l.length),(26,I i)],[(0,.arr 3 aa 0 a8 o)],1⟩
theorem adn b l i n {R} (k:AEx->LSt->Option R):lp tf jL Hi (n+1) (Fc b l i) k=bif i<.ofNat l.length then (idx l i).bind λa=>(if (0:Int)<=0/\0<=i/\i<=.ofNat l.length then ar (fb 0<|gy i.toNat l)else a6).bind λc=>bif c.length<=9223372036854775807 then bif !!dZ c a then k (.panic 131 4) ⟨az 6 [(1,.d (aa).slice b),(6,.d (aa).slice l),(7,.nils),(8,I i),(9,I a),(24,.d (aa).slice l),(25,I<| .ofNat l.length),(26,I i),(27,B bc),(28,I i),(29,.ip aa a),(30,I a),(31,.d (aa).slice l),(32,I i),(33,.d (aa).slice c),(34,I a),(35,B<|dZ c a),(36,B !dZ c a)],[],0⟩else (idx b a).bind λe=>lp tf jL Hi n (LJ [e] b l<|i64.wrap<|i+1) k else a6 else k (.exit 0) ⟨az 6 [(1,.d (aa).slice b),(6,.d (aa).slice l),(7,.nils),(24,.d (aa).slice l),(25,I<| .ofNat l.length),(26,I i),(27,B a8)],[],0⟩:=by kernel_rfl
theorem ado v (o b l:af) i n {R} (k:AEx->LSt->Option R):lp tf jL Hi (n+1) (LJ (v::o) b l i) k=bif i<.ofNat l.length then (idx l i).bind λa=>(if (0:Int)<=0/\0<=i/\i<=.ofNat l.length then ar (fb 0<|gy i.toNat l)else a6).bind λc=>bif c.length<=9223372036854775807 then bif !!dZ c a then k (.panic 131 4) ⟨az 6 [(1,.d (aa).slice b),(6,.d (aa).slice l),(7,.os 0 0),(8,I i),(9,I a),(24,.d (aa).slice l),(25,I<| .ofNat l.length),(26,I i),(27,B bc),(28,I i),(29,.ip aa a),(30,I a),(31,.d (aa).slice l),(32,I i),(33,.d (aa).slice c),(34,I a),(35,B<|dZ c a),(36,B !dZ c a)],[(0,.arr 3 aa 0 a8<|v::o)],1⟩else (idx b a).bind λe=>(app (v::o) [e]).bind λf=>lp tf jL Hi n (LJ f b l<|i64.wrap<|i+1) k else a6 else k (.exit 0) ⟨az 6 [(1,.d (aa).slice b),(6,.d (aa).slice l),(7,.os 0 0),(24,.d (aa).slice l),(25,I<| .ofNat l.length),(26,I i),(27,B a8)],[(0,.arr 3 aa 0 a8<|v::o)],1⟩:=by kernel_rfl
def Hx :List Int->List Int->Bool
 |_,[]=>bc
 |pre,p::r=>!dZ pre p&&Hx (pre++[p]) r
def tpN (a:af)(s:af×af)(p:Int):Nx (af×af) (aq×LHp):=bif !dZ s.1 p then .go (s.1++[p],s.2++[a.getD p.toNat 0])else .stop (ar (.panic 131 4,[]))
def aJk (a l:af)(i:Int)(s:af×af):LSt:=match s.2 with|[]=>Fc a l i|v::o=>LJ (v::o) a l i
theorem R7 (b:af):∀(l a o:af),bG (tpN b) (λs=>kE 3 s.2) l (a,o)=bif Hx a l then kE 3 (o++l.map λp=>b.getD p.toNat 0)else ar (.panic 131 4,[])
 |[],a,o=>by rw[bG,Hx,Dr,eT]<;>rfl
 |p::l,a,o=>by
  have e:tpN b (a,o) p=bif !dZ a p then .go (a++[p],o++[b.getD p.toNat 0])else .stop (ar (.panic 131 4,[])):=rfl
  rw[bG,e,Hx];cases dZ a p with|true=>rfl|false=>show bG (tpN b) _ l _=_;rw[R7 b l,gl]<;>rfl
theorem avS {xs l}(A:xs.length<=2147483648)(B:l.length<=2147483648)(hp:∀p∈l,0<=p/\p<xs.length):lp tf jL Hi fu (Fc xs l 0) KTp=bif Hx [] l then kE 3 (l.map λp=>xs.getD p.toNat 0)else ar (.panic 131 4,[]):=by
 let C:maxLen=9223372036854775807:=by decide
 refine(cg (T:=λn s=>lp tf jL Hi n s KTp) (st:=λi s=>aJk xs l i s) (λi s=>s.1=l.take i/\s.2.length=i) (by omega) ?_ ?_ ⟨rfl,rfl⟩).trans<|R7 xs l [] []
 ·rintro i ⟨h,o⟩ p n ⟨j,a⟩ w m q r f
  have j  :=j;let a  :=a;subst j;let ⟨x,y⟩:=hp p<|ik m
  let t  :=Hk x y;let u:l.take _=l.take i++[p]:=by rw[dv]at m;rw[←hY m];exact(YW w).symm
  let e:tpN xs (l.take i,o) p=bif !dZ _ p then .go _ else .stop (ar (.panic 131 4,[])):=rfl
  let g:(l.take i).length<=9223372036854775807:=by rw[fl];omega
  let d:=yL (xs:=l) (k:=i) (by omega)<|by omega
  rw[b9]at d;cases o with
  |nil=>let b:=adn xs l i n KTp;rw[f,ai,q,aw,b9,d,aw,aF g,ai,r]at b;cases c:dZ (l.take i) p with|true=>rw[c,cy,al]at e;rw[c]at b;exact .inr ⟨_,e,b.trans<|by show _=_;kernel_rfl⟩|false=>rw[c,hX,ai]at e;rw[c,hX,cy,al,t,aw]at b;exact .inl ⟨_,e,⟨u.symm,by rw[bK,a];rfl⟩,b⟩
  |cons v o=>
   let z:(v::o).length+[xs.getD p.toNat 0].length<=lim:=by rw[a,eS,show lim=4294967296 from rfl];omega
   let b:=ado v o xs l i n KTp;rw[f,ai,q,aw,b9,d,aw,aF g,ai,r]at b;cases c:dZ (l.take i) p with|true=>rw[c,cy,al]at e;rw[c]at b;exact .inr ⟨_,e,b.trans<|by show _=_;kernel_rfl⟩|false=>rw[c,hX,ai]at e;rw[c,hX,cy,al,t,aw,eX z,aw]at b;exact .inl ⟨_,e,⟨u.symm,by rw[bK,a];rfl⟩,b⟩
 ·rintro⟨h,o⟩ n ⟨_,_⟩ f
  cases o with|nil=>show lp _ _ _ (n+1) (Fc xs l l.length) _=_;rw[adn,f,al];show _=_;kernel_rfl|cons v o=>show lp _ _ _ (n+1) (LJ (v::o) xs l l.length) _=_;rw[ado,f,al];show _=_;kernel_rfl
theorem aFc a l:hlp tf jL Hi _ (Fc a l 0) KTp=lp tf jL Hi fu (Fc a l 0) KTp:=rfl
def dI :ao:=Uz
def uk a r  :=aj a dI (fw r).reverse
def Hy (b:bu)(a:af)  :=cA (.ofNat a.length) 0 (i64.wrap<| .ofNat a.length-1) (uk b a.length)&&Hx [] (uk b a.length)
def aFd (b:bu)(a:af):af:=(uk b a.length).map λp=>a.getD p.toNat 0
def avT :List AV->LHp->Tq
 |[.d Y7 ((_,_,_,_,a,_),_,_),.d zS b],[]=>.br (aE a) (.br (a7 (b.length<=6)) (ynT (Hy a b) (aFd a b)) .no) .no
 |_,_=>.no
theorem lE {c a b l}(h:cA c a b l=bc):∀p∈l,a<=p/\p<=b:=by unfold cA cY at h;rw[aX]at h;intro p hp;let:=gv.1 h.1 p hp;simp only[aX,decide_eq_true_eq]at this;exact this
theorem amm :bq 217 (ay avT):=by
 have m:=bM (d:=6) (l:=[(6,[1,6,7,24,25,26])]) Vy func217 call217;refine aY λj e z A c=>?_
 unfold avT at c;split at c
 ·rename_i n o f g b _ q _ a
  obtain⟨e,r⟩:=eN c;obtain⟨h,s⟩:=eN r;have h:a.length<=6:=bt h;refine m.okO (.slice aa) (gp ?_ s);refine gp (congrArg (fv _) (avR n o f g b q a)) ?_;have t:(bd a.length).toNat=a.length:=rfl;have u:aj b Uz (fw a.length).reverse=uk b a.length:=rfl;have k:(fw a.length).reverse.length<=2147483648:=by rw[Nd,jg];omega
  have v:(uk b a.length).length<=2147483648:=ni e dI k;rw[aF (show 0<=bd a.length/\bd a.length<=2147483648 from⟨by simp only[aK];omega,by simp only[aK];omega⟩),ai,t,aF (show (fw a.length).length<=6 by rw[jg];exact h),ai,e,ai,aF k,ai,u];show _=(bif Hy b a then _ else _);unfold Hy;cases x:cA (bd a.length) 0 (i64.wrap (bd a.length-1)) (uk b a.length)with
  |false=>rfl
  |true=>
   have w:i64.wrap (bd a.length-1)=(a.length:Int)-1:=by simp only[aK];exact aH (by omega) (by omega)
   have i:=lE x;rw[w]at i;have y:=(aFc a (uk b a.length)).trans (avS (by omega) v (λp hp=>⟨(i p hp).1,by have:=(i p hp).2;omega⟩));rw[ai,gb];refine(congrArg (fv (.slice aa)) y).trans ?_;rw[Lj,nh]<;>rfl
 ·cases c
noncomputable def aFe  :=fC [Y7,.slice aa]<|ay avT
theorem amn :bq 217 aFe:=cn amm
end
end Go.Proofs.XRT
set_option maxRecDepth 100000
set_option maxHeartbeats 4000000
namespace Go.Proofs.XRT
open Go.Vm Go Go.Shelf Tryz IntKind
noncomputable section
def adp :Ren:=⟨λk=>match k with|23=>259|_=>0,λk=>match k with|0=>0|3=>3|4=>4|22=>31|_=>0,λk=>k⟩
theorem amo :Lays2.n23 prog adp:=by
 constructor
 ·exact cZ
 ·exact func259
 ·exact agr
 ·exact Tryz.isAgg0
 ·exact aif
 ·exact ahe
 ·exact ae2
 ·exact Tryz.isAgg3
 ·exact aih
 ·exact ahf
 ·exact ag7
 ·exact Tryz.isAgg4
 ·exact aii
 ·exact ahg
 ·exact II
 ·exact aik
 ·exact ahx
 ·exact ag8
 ·rfl
def kl :Ren:=⟨λk=>match k with|21=>260|27=>280|28=>281|35=>298|39=>258|_=>0,λk=>match k with|0=>0|3=>3|4=>4|22=>31|_=>0,λk=>k⟩
theorem vL :Lays2.n21 prog kl:=by
 constructor
 ·exact cZ
 ·exact func260
 ·exact func280
 ·exact func281
 ·exact func298
 ·exact func258
 ·exact agr
 ·exact Tryz.isAgg0
 ·exact aif
 ·exact ahe
 ·exact ae2
 ·exact Tryz.isAgg3
 ·exact aih
 ·exact ahf
 ·exact ag7
 ·exact Tryz.isAgg4
 ·exact aii
 ·exact ahg
 ·exact II
 ·exact aik
 ·exact ahx
 ·exact ag8
 ·rfl
def OQ :Ren:=⟨λk=>match k with|125=>243|128=>273|129=>274|189=>188|215=>290|216=>270|257=>242|294=>264|295=>265|296=>266|297=>267|298=>268|299=>269|300=>271|301=>272|328=>285|329=>286|330=>287|331=>288|332=>289|343=>302|_=>0,λk=>match k with|0=>0|3=>3|4=>4|5=>5|9=>9|28=>31|46=>165|51=>199|53=>205|131=>86|182=>252|183=>253|218=>269|222=>158|228=>279|229=>118|_=>0,λk=>k⟩
theorem R8 :Lays.n189 prog OQ:=by
 constructor
 ·exact cZ
 ·exact func243
 ·exact func273
 ·exact func274
 ·exact func188
 ·exact func290
 ·exact func270
 ·exact func242
 ·exact func264
 ·exact func265
 ·exact func266
 ·exact func267
 ·exact func268
 ·exact func269
 ·exact func271
 ·exact func272
 ·exact func285
 ·exact func286
 ·exact func287
 ·exact func288
 ·exact func289
 ·exact func302
 ·exact agr
 ·exact Tryz.isAgg0
 ·exact aif
 ·exact ahe
 ·exact ae2
 ·exact Tryz.isAgg3
 ·exact aih
 ·exact ahf
 ·exact ag7
 ·exact Tryz.isAgg4
 ·exact aii
 ·exact ahg
 ·exact Tryz.underlying5
 ·exact Tryz.isAgg5
 ·exact Tryz.sizeOf5
 ·exact Tryz.zeroValue5
 ·exact Tryz.underlying9
 ·exact Tryz.isAgg9
 ·exact Tryz.sizeOf9
 ·exact Tryz.zeroValue9
 ·exact II
 ·exact aik
 ·exact ahx
 ·exact ag8
 ·exact Tryz.underlying165
 ·exact Tryz.isAgg165
 ·exact Tryz.sizeOf165
 ·exact Tryz.zeroValue165
 ·exact Tryz.underlying199
 ·exact Tryz.isAgg199
 ·exact Tryz.sizeOf199
 ·exact Tryz.zeroValue199
 ·exact Tryz.underlying205
 ·exact Tryz.isAgg205
 ·exact Tryz.sizeOf205
 ·exact Tryz.zeroValue205
 ·exact Tryz.underlying86
 ·exact Tryz.isAgg86
 ·exact Tryz.sizeOf86
 ·exact Tryz.zeroValue86
 ·exact Tryz.underlying252
 ·exact Tryz.isAgg252
 ·exact Tryz.sizeOf252
 ·exact Tryz.zeroValue252
 ·exact Tryz.underlying253
 ·exact Tryz.isAgg253
 ·exact Tryz.sizeOf253
 ·exact Tryz.zeroValue253
 ·exact Tryz.underlying269
 ·exact Tryz.isAgg269
 ·exact Tryz.sizeOf269
 ·exact Tryz.zeroValue269
 ·exact Tryz.underlying158
 ·exact Tryz.isAgg158
 ·exact Tryz.sizeOf158
 ·exact Tryz.zeroValue158
 ·exact Tryz.underlying279
 ·exact Tryz.isAgg279
 ·exact Tryz.sizeOf279
 ·exact Tryz.zeroValue279
 ·exact Tryz.underlying118
 ·exact Tryz.isAgg118
 ·exact Tryz.sizeOf118
 ·exact Tryz.zeroValue118
def OR :Ren:=⟨λk=>match k with|112=>258|_=>0,λk=>match k with|0=>0|3=>3|4=>4|28=>31|_=>0,λk=>k⟩
theorem R9 :Lays.n112 prog OR:=by
 constructor
 ·exact cZ
 ·exact func258
 ·exact agr
 ·exact Tryz.isAgg0
 ·exact aif
 ·exact ahe
 ·exact ae2
 ·exact Tryz.isAgg3
 ·exact aih
 ·exact ahf
 ·exact ag7
 ·exact Tryz.isAgg4
 ·exact aii
 ·exact ahg
 ·exact II
 ·exact aik
 ·exact ahx
 ·exact ag8
end
end Go.Proofs.XRT
namespace Go.Vm
theorem sI {w im}:∀{a} {b:af},bO (bm w im (.int .i64)) a b↔a=b.map (.int .i64)
 |a,[]=>Iff.rfl
 |a,x::b=>by
  constructor
  ·rintro⟨c,d,rfl,rfl,h⟩
   rw[(sI (w:=w) (im:=im)).1 h];rfl
  ·intro h;exact⟨_,_,h,rfl,(sI (w:=w) (im:=im)).2 rfl⟩
structure Cs (w w':World)(b:Nat)(T:TypeId)(ys:List Int)(b' cap':Nat):Prop where
 os:w'.os=w.os
 tape:w'.tape=w.tape
 output:w'.output=w.output
 grow:w.heap.size<=w'.heap.size
 old:∀c,c<w.heap.size->c≠b->w'.heap[c]?=w.heap[c]?
 place:(b'=b/\b<w.heap.size)\/(w.heap.size<=b'/\b'<w'.heap.size)
 row:∃cells:Array Value,w'.heap[b']?=ar (.cells cells T (0,0))/\ys.length<=cap'/\cap'<=maxLen/\cells.size=cap'/\cells.toList.take ys.length=ys.map (nw .i64)
theorem sJ {W y s k v z T m m' q}{J ys:af}{b n A a}
  (i:∀b,s b->b<W.heap.size) (d:mX W s k (aD v)) (O:aD v q=ar (.arr T (.int .i64) m a8 J)) (r:k q=.row b A\/b=W.heap.size/\m<m')
  (G:aD z q=ar (.arr T (.int .i64) m' a8 ys)) (p:∀o,o≠q->aD z o=aD v o) (j:Cs W y b T ys n a) (Q:m'=m/\ys.length=J.length/\n=b/\a=A\/m<m'):
  gk W s k (aD v) y s (λo=>if o=q then .row n a else k o) (aD z):=by
 let K:∀c,s c->c≠b:=λc f e=>by
  rcases r with h|⟨h,_⟩
  ·exact(d.sep q b (by rw[h];rfl)).1 (e▸f)
  grind
 let P:∀c,c<W.heap.size->(∀o,(k o).blk≠ar c)->c≠b:=λc f H e=>by
  rcases r with h|⟨h,_⟩
  ·exact H q (by rw[h,e];rfl)
  ·omega
 let R:b<W.heap.size->(k q).blk=ar b:=λS=>by
  rcases r with h|⟨h,_⟩
  ·rw[h];rfl
  ·omega
 let L:∀o c,o≠q->(k o).blk=ar c->c≠b:=λo c l f e=>by
  rcases r with h|⟨h,_⟩
  ·exact l (d.inj o q c f (by rw[h,e];rfl))
  ·let:=(d.sep o c f).2;omega
 have B:(λo=>if o=q then Pl.row n a else k o) q=.row n a:=if_pos rfl
 have t:∀o,o≠q->(λo=>if o=q then Pl.row n a else k o) o=k o:=λo h=>if_neg h
 generalize (λo=>if o=q then Pl.row n a else k o)=I at B t
 have u:∀o C,aD v o=ar C->∃M,aD z o=ar M/\fo C (k o) M (I o):=by
  intro o C l;by_cases e:o=q
  ·subst e;rw[O]at l;cases l;refine⟨_,G,m',a8,ys,rfl,?_⟩;grind
  grind [fo.refl]
 let D:n<y.heap.size:=by
  rcases j.place with ⟨g1,g2⟩|⟨_,g⟩
  ·let:=j.grow;omega
  ·exact g
 let ev:Ev W s k (aD v) y s I (aD z):=⟨λ_ h=>h,λc f=>j.old c (i c f) (K c f),u⟩
 refine⟨j.os,j.tape,j.output,j.grow,λc f H=>j.old c f (P c f H),λ_ h=>h,λ_ h=>.inl h,λc f=>by let:=i c f;let:=j.grow;omega,λo c f=>?_,u,⟨λo c f=>?_,λo w c E F=>?_,λo l=>?_,λo C l=>?_⟩⟩
 ·by_cases e:o=q
  ·subst e
   rw[B]at f;cases f;rcases j.place with ⟨g1,g2⟩|⟨g,_⟩
   all_goals grind
  grind
 ·by_cases e:o=q
  ·subst e
   rw[B]at f;cases f;refine⟨λN=>?_,D⟩;rcases j.place with ⟨g1,_⟩|⟨g,_⟩
   ·exact K _ N g1
   ·let:=i _ N;omega
  ·rw[t o e]at f;let ⟨g1,g2⟩:=d.sep o c f;exact⟨g1,by let:=j.grow;omega⟩
 ·let key:∀o,o≠q->(I q).blk=ar c->(k o).blk=ar c->False:=λo e g1 g2=>by
   rw[B]at g1
   cases g1
   rcases j.place with ⟨g3,_⟩|⟨g3,_⟩
   ·exact L o n e g2 g3
   ·let:=(d.sep o n g2).2;omega
  by_cases e:o=q
  ·by_cases x:w=q
   ·rw[e,x]
   ·subst e;rw[t w x]at F;exact(key w x E F).elim
  ·by_cases x:w=q
   ·subst x;rw[t o e]at E;exact(key o e F E).elim
   ·rw[t o e]at E;rw[t w x]at F;exact d.inj o w c E F
 ·let e:o≠q:=λe=>by subst e;rw[G]at l;cases l
  rw[t o e];exact d.dom o ((p o e).symm.trans l)
 ·by_cases e:o=q
  ·subst e;rw[G]at l;cases l;let ⟨cells,g1,g2,g3,g4,g5⟩:=j.row;refine .inr (.inl ⟨rfl,n,a,cells,B,g1,g2,g3,by rw[g4];show a=a*1;omega,?_⟩);show bO (bm y s (.int .i64)) (cells.toList.take (ys.length*1)) ys;rw[Nat.mul_one];exact sI.2 g5
  ·rw[t o e]
   refine(d.obj o C ((p o e).symm.trans l)).ev ev λc f=>?_
   exact j.old c (d.sep o c f).2 (L o c e f)
theorem Ct {W g d hp o T m}{c:af}(h:mP W g d hp (d o) (.arr T (.int .i64) m a8 c)):
  (∃a,d o=.nil a/\c=[])\/∃b cap cells,d o=.row b cap/\W.heap[b]?=ar (.cells cells T (0,0))/\c.length<=cap/\cap<=maxLen/\cells.size=cap/\cells.toList.take c.length=c.map (.int .i64):=by
 rcases h with ⟨a,e,f⟩|⟨_,b,cap,cells,e,f,i,j,k,l⟩|⟨e,_⟩
 ·grind
 ·refine .inr ⟨b,cap,_,e,f,i,j,by rw[k];show cap*1=cap;omega,?_⟩;let n:bO _ (cells.toList.take (c.length*1)) c:=l;grind [sI]
 ·cases e
theorem Ag {W:World}{b cells T a}(h:W.heap[b]?=ar (.cells cells T a)) k:W.cell? ⟨b,k,a6⟩=cells[k]?:=by simp[World.cell?,h]
theorem pH {W:World}{b cells T}(h:W.heap[b]?=ar (.cells cells T (0,0))) k:W.frozen? ⟨b,k,a6⟩=a8:=by simp[World.frozen?,h]
theorem Hz {cells:Array _}{a:af}(h:cells.toList.take a.length=a.map (nw .i64)){j}(b:j<a.length):cells[j]?=ar (.int .i64 (a[j]'b)):=by
 let c:(cells.toList.take _)[j]?=(a.map _)[j]?:=by rw[h]
 grind
theorem Cu {W b cells T}{a:af}(h:W.heap[b]?=ar (.cells cells T (0,0)))(e:cells.toList.take a.length=a.map (.int .i64)):Sort.Holds (.int .i64) W b 0 a.toArray:=by
 intro j d;let c  :=by simpa using d
 refine⟨?_,pH h _⟩;rw[Ag h,hM,Hz e c,getElem!_pos _ j d];simp
theorem rM {W b a n cells T os}{zs ys:af}(h:W.heap[b]?=ar (.cells cells T (0,0)))(f:cells.size=a)(k:a<=maxLen)(m:zs.length<=a)(o:ys.length<=zs.length)(hp:zs.take ys.length=ys):
  Cs W (Sort.grow (Sort.putRow (.int .i64) (Sort.ahead W n) b 0 zs.toArray) os) b T ys b a:=by
 let g  :=(om.1 h).1
 let p:(Sort.putRow (.int .i64) (Sort.ahead W n) b 0 zs.toArray).heap.size=W.heap.size:=by simp
 let d:∀c,c<W.heap.size->(Sort.grow (Sort.putRow (.int .i64) (Sort.ahead W n) b 0 zs.toArray) os).heap[c]?=(Sort.putRow (.int .i64) (Sort.ahead W n) b 0 zs.toArray).heap[c]?:=λc f=>by show (_++os)[c]?=_;grind
 refine⟨rfl,rfl,rfl,?_,λc f q=>?_,.inl ⟨rfl,g⟩,Sort.putCells (.int .i64) 0 zs.toArray cells,?_,by omega,k,by simp[Sort.putCells,f],?_⟩
 ·simp
 ·rw[d c f];show (W.heap.modify b _)[c]?=_;grind
 ·rw[d b g];show (W.heap.modify b _)[b]?=_;rw[Array.getElem?_modify,if_pos rfl,h];rfl
 ·apply List.ext_getElem?
  intro j;by_cases i:j<ys.length
  ·let l  :=by omega
   let e:zs[j]?=ys[j]?:=by rw[←hp,T1,if_pos i]
   rw[T1,if_pos i,Array.getElem?_toList];simp only[Sort.putCells,Array.getElem?_mapIdx];grind
  grind
theorem Fe {v}(h:bS v=a8):v.cells.toList=[v]:=by cases v<;>first|rfl|cases h
theorem pI {w c a hp o m T e z b v}(d:hp o=ar (.arr T e m z b))(h:RepA w c a hp (.os o m) v.cells.toList)(f:bS v=a8):fe (a o) b.length v:=by grind [RepA,Fe]
theorem HA {w a b hp}{n:Int}{v}(h:RepA w a b hp (.d (.int .i64) n) v.cells.toList)(c:bS v=a8):v=.int .i64 n:=by grind [RepA,bm,Fe]
def Cv :Array Value->Nat->List Value->Array Value
 |c,_,[]=>c
 |c,o,v::r=>Cv (c.setIfInBounds o v) (o+1) r
theorem sK :∀(a) (c) (o),(Cv c o a).size=c.size
 |[],_,_=>rfl
 |v::r,c,o=>by rw[Cv,sK];simp
theorem rN :∀(a) (c) (o k),o+a.length<=c.size->(Cv c o a)[k]?=if o<=k/\k<o+a.length then a[k-o]? else c[k]?
 |[],c,o,k,_=>by rw[Cv,if_neg (by simp only[eO];omega)]
 |v::r,c,o,k,h=>by simp only[bs]at h;rw[Cv,rN r _ _ k (by simp only[Array.size_setIfInBounds];omega)];grind
theorem ix :∀(a) (o) (w:World) (b),(∀c,c≠b->(w.setCells b o a).heap[c]?=w.heap[c]?)/\(∀cells T d,w.heap[b]?=ar (.cells cells T d)->(w.setCells b o a).heap[b]?=ar (.cells (Cv cells o a) T d))/\(w.setCells b o a).heap.size=w.heap.size/\(w.setCells b o a).os=w.os/\(w.setCells b o a).tape=w.tape/\(w.setCells b o a).output=w.output
 |[],o,w,b=>⟨λ_ _=>rfl,λ_ _ _ h=>h,rfl,rfl,rfl,rfl⟩
 |v::r,o,w,b=>by
  let ⟨g,i,j,k,l,m⟩:=ix r (o+1) (w.setCell ⟨b,o,a6⟩ v) b;let e:=Sort.setCell_eq w b o v;let n:∀c,c≠b->(w.setCell _ v).heap[c]?=w.heap[c]?:=λc f=>by rw[e];show (w.heap.modify b _)[c]?=_;grind
  refine⟨λc f=>(g c f).trans (n c f),λcells T d h=>i _ T d ?_,j.trans (by show (w.heap.modify b _).size=_;simp),k,l,m⟩;show (w.heap.modify b _)[b]?=_;rw[Array.getElem?_modify,if_pos rfl,h];rfl
def jz (a:af)(i:Nat) v  :=a.take i++v::a.drop i
theorem vM {a i v}(h:i<=a.length):(jz a i v).length=a.length+1:=by grind [jz]
theorem adq {a i v}(h:i<=a.length) k:(jz a i v)[k]?=if k<i then a[k]? else if k=i then ar v else a[k-1]?:=by grind [jz]
theorem HB {c b a i v}(f:i<=a.length)(h:a.length+1<=c.size)(l:∀j,j<i->c[j]?=(a[j]?).map (.int .i64))
  (d:b=Cv (Cv c (i+1) ((a.map (.int .i64)).drop i)) i [.int .i64 v]\/b=Cv (Cv c i [.int .i64 v]) (i+1) ((a.map (.int .i64)).drop i)):
  b.size=c.size/\b.toList.take (jz a i v).length=(jz a i v).map (.int .i64):=by
 let e:((a.map (nw .i64)).drop i).length=a.length-i:=by rw[km,vb]
 let aD:∀k,k<a.length+1->b[k]?=((jz a i v)[k]?).map (.int .i64):=by
  intro k m;rw[adq f];rcases d with rfl|rfl
  ·rw[rN _ _ _ _ (by rw[sK];simp only[eS];omega)]
   simp only[eS];by_cases n:k=i
   ·grind
   grind [rN]
  ·rw[rN _ _ _ _ (by rw[sK,e];omega),e];grind [rN]
 let g:b.size=c.size:=by grind [sK]
 refine⟨g,?_⟩
 apply List.ext_getElem?
 grind [vM]
end Go.Vm
set_option maxRecDepth 100000
set_option maxHeartbeats 4000000
namespace Go.Proofs.XRT
open Go.Vm Go Go.Shelf Tryz IntKind
noncomputable section
def jA (a:af):af:=a.mergeSort λx y=>x<=y
def amp :List AV->LHp->Tq
 |[.os 0 0],[(0,.arr 3 zI 0 a8 a)]=>.br (a7 (a.length<=2147483648)) (.leaf (.ret []) [(0,.arr 3 aa 0 a8 (jA a))]) .no
 |_,_=>.no
theorem Sa :bq 188 (ay amp):=by
 refine aY λs C D E k=>?_
 unfold amp at k;split at k
 ·rename_i i
  let ⟨t,m⟩:=eN k;let t  :=bt t;cases m;refine⟨call188,λW u x w d _ f j=>?_⟩;let p:aD [(0,.arr 3 _ 0 _ i)] 0=ar (.arr 3 _ 0 a8 i):=rfl;obtain⟨v,F,rfl,y,m,rfl⟩:=j;let l:=pI p y m;rcases Ct (f.obj 0 _ p)with ⟨a,g1,rfl⟩|⟨b,q,cells,g1,g2,g3,g4,g5,g6⟩
  ·rw[g1]at l
   obtain rfl  :=l;refine(Any.slices_Sort_int_none R8 a 0 W).mono ?_
   rintro e z ⟨rfl,rfl⟩
   refine⟨_,_,u,x,⟨rfl,rfl⟩,⟨rfl,rfl,rfl,ep _,λ_ _ _=>rfl,λ_ h=>h,λ_ h=>.inl h,d,λo c h=>.inl ⟨o,h⟩,λo A r=>⟨A,?_,fo.refl _ _⟩,?_⟩,[],rfl,rfl⟩
   ·let:jA []=[]:=by simp[jA]
    rw[this];exact r
   ·let:jA []=[]:=by simp[jA]
    rw[this];exact f
  ·rw[g1]at l
   obtain rfl  :=l;let g:(jA i).length=bk i:=List.length_mergeSort _;refine(Any.slices_Sort_int R8 b 0 q i W (Cu g2 g6) (om.1 g2).1<|by omega).mono ?_
   rintro e z ⟨rfl,n,G,rfl⟩
   refine⟨_,_,u,_,⟨rfl,rfl⟩,sJ d f p (.inl g1) rfl ?_ (rM (zs:=jA i) g2 g5 g4 (by rw[g];exact g3) (ep _)<|hP<|ep _)<| .inl ⟨rfl,g,rfl,rfl⟩,[],rfl,rfl⟩;intro o r;let e1:dK 0 o=a8:=by rw[←np];intro B;exact r (cb B).symm
   simp only[aD,e1,al]
 ·cases k
def avU :List AV->LHp->Tq
 |[.os 0 0],[(0,.arr 3 zI 0 a8 a)]=>.br (a7 (a.length<=2147483648)) (.leaf (.ret []) [(0,.arr 3 aa 0 a8 a.reverse)]) .no
 |_,_=>.no
theorem amq :bq 258 (ay avU):=by
 refine aY λs D E F k=>?_
 unfold avU at k;split at k
 ·rename_i i
  let ⟨t,m⟩:=eN k;let t  :=bt t;cases m;refine⟨call258,λW u x w d _ f j=>?_⟩;let p:aD [(0,.arr 3 _ 0 _ i)] 0=ar (.arr 3 _ 0 a8 i):=rfl;obtain⟨v,G,rfl,y,m,rfl⟩:=j;let l:=pI p y m;rcases Ct (f.obj 0 _ p)with ⟨a,g1,rfl⟩|⟨b,q,cells,g1,g2,g3,g4,g5,g6⟩
  ·rw[g1]at l
   obtain rfl  :=l;refine(Any.slices_Reverse_int_empty R9 a 0 W).mono ?_
   rintro e z ⟨rfl,rfl⟩
   refine⟨_,_,u,x,⟨rfl,rfl⟩,⟨rfl,rfl,rfl,ep _,λ_ _ _=>rfl,λ_ h=>h,λ_ h=>.inl h,d,λo c h=>.inl ⟨o,h⟩,λo A r=>⟨A,?_,fo.refl _ _⟩,?_⟩,[],rfl,rfl⟩
   ·exact r
   ·exact f
  ·rw[g1]at l
   obtain rfl  :=l;let g:i.reverse.length=bk i:=Nd;refine(Any.slices_Reverse_int R9 b 0 q i W (Cu g2 g6)<|by omega).mono ?_
   rintro e z ⟨rfl,n,rfl⟩
   let B:=rM (n:=n) (os:= #[]) g2 g5 g4 (by rw[g];exact g3) (ep _)<|hP<|ep _
   refine⟨_,_,u,_,⟨rfl,rfl⟩,sJ d f p (.inl g1) rfl ?_ B<| .inl ⟨rfl,g,rfl,rfl⟩,[],rfl,rfl⟩;intro o r;let e1:dK 0 o=a8:=by rw[←np];intro C;exact r (cb C).symm
   simp only[aD,e1,al]
 ·cases k
def nQ (a:af)(i:Nat):af:=a.take i++a.drop (i+1)
def avV :List AV->LHp->Tq
 |[.os 0 0,.d zI i,.d zI j],[(0,.arr 3 zI 0 a8 a)]=>.br (a7 (0<=i/\i<(bk a:Int)/\j=i+1)) (.leaf (.ret [.os 0 1]) [(0,.arr 3 aa 1 a8 (nQ a i.toNat))]) .no
 |_,_=>.no
theorem amr :bq 259 (ay avV):=by
 refine aY λu O P Q p=>?_
 unfold avV at p;split at p
 ·rename_i i j c
  let ⟨z,q⟩:=eN p;let ⟨A,r,s⟩:=bt z;cases q;have s  :=s;subst s;obtain⟨k,rfl⟩:=q8 A;let r:k<bk c:=by let:k<(bk c:Int):=r;omega
  refine⟨call259,λW B C w h _ d f=>?_⟩;let t:aD [(0,.arr 3 (.int .i64) 0 a8 c)] 0=ar (.arr 3 (.int .i64) 0 a8 c):=rfl;simp only[RepFs]at f;obtain⟨v,R,rfl,D,q,S,E,rfl,F,G,T,H,rfl,I,J,rfl⟩:=f;let x:=pI t D q;obtain rfl:=HA F G;obtain rfl:=HA I J;rcases Ct (d.obj 0 _ t)with ⟨a,g1,rfl⟩|⟨b,l,cells,g1,g2,g3,g4,g5,g6⟩
  ·simp at r
  ·rw[g1]at x
   obtain rfl  :=x;let K:=Any.slices_Delete_int (ρ:=adp) amo b 0 l k (k+1) c W (Cu g2 g6) g3 (by rw[show maxLen=9223372036854775807 by decide]at g4;exact g4) (by omega)<|by omega
   let g:(nQ c k).length=bk c-1:=by unfold nQ;rw[bK,fl,km];omega
   let L:bk c-(k+1-k)=(nQ c k).length:=by rw[g];omega
   let m:(c.take k++c.drop (k+1)++eo (k+1-k) 0).length=bk c:=by rw[bK,List.length_replicate];show (nQ c k).length+_=_;omega
   refine K.mono ?_
   rintro e U ⟨rfl,n,rfl⟩
   let y:=rM (n:=n) (os:= #[]) (zs:=c.take k++c.drop (k+1)++eo (k+1-k) 0) (ys:=nQ c k) g2 g5 g4 (by rw[m];exact g3) (by rw[m,g];omega)<|by
    unfold nQ;rw[List.take_append_of_le_length<|ep _,hP<|ep _]
   rw[Sort.grow_empty]at y;refine⟨_,_,B,_,⟨rfl,rfl⟩,sJ (m':=1) (ys:=nQ c k) h d t (.inl g1) rfl ?_ y<| .inr<|by decide,_,rfl,?_,rfl⟩
   ·intro o M
    let e1:dK 0 o=a8:=by rw[←np];intro N;exact M (cb N).symm
    simp only[aD,e1,al]
   ·simp only[RepA];refine⟨3,.int .i64,1,a8,nQ c k,rfl,ep _,_,rfl,rfl,λ_=>?_⟩;show fe (if 0=0 then .row b l else C 0) _ _;rw[if_pos rfl];show al5 _ _ _=al5 _ _ _;rw[←L]
 ·cases p
def avW :List AV->LHp->Tq
 |[.os 1 0,.d zI i,.os 0 0],[(0,.arr 3 zI 0 a8 a),(1,.arr 3 zI 0 a8 b)]=>.br (a7 (0<=i/\i<=(bk b:Int)/\bk b<=2147483648)) (.br (dK (bk a) 1) (.leaf (.ret [.os 1 1]) [(0,.arr 3 aa 0 a8 a),(1,.arr 3 aa 1 a8 (jz b i.toNat (List.headD a 0)))]) .no) .no
 |_,_=>.no
theorem Cw :∀(a:af),∀v∈a.map (nw .i64),v.oneCell'=bc:=by intro a v b;obtain⟨x,_,rfl⟩:=List.mem_map.1 b;rfl
theorem LK {l}{Z:Array Value}{n}(h:l.length=n):(l.toArray++Z).toList.take n=l:=by subst h;rw[Array.toList_append,List.take_append_of_le_length<|ep _,hP<|ep _]
theorem ams :bq 260 (ay avW):=by
 refine aY λargs hs ae aJ h'=>?_
 unfold avW at h';split at h'
 ·rename_i i vs d
  obtain⟨hb,O⟩:=eN h';obtain⟨b1,E,b3⟩:=bt hb;obtain⟨b4,O⟩:=eN O;have b4:bk vs=1:=cb b4;cases O;obtain⟨k,rfl⟩:=q8 b1;have E:k<=bk d:=by have:(k:Int)<=(bk d:Int):=E;omega
  obtain⟨v,rfl⟩:∃v:Int,vs=[v]:=by
   match vs,b4 with|[v],_=>exact⟨v,rfl⟩
  refine⟨call260,λW im μ vals F _ g A=>?_⟩;have h0:aD [(0,au.arr 3 (.int .i64) 0 a8 [v]),(1,au.arr 3 (.int .i64) 0 a8 d)] 1=ar (.arr 3 (.int .i64) 0 a8 d):=rfl;have P9:aD [(0,au.arr 3 (.int .i64) 0 a8 [v]),(1,au.arr 3 (.int .i64) 0 a8 d)] 0=ar (.arr 3 (.int .i64) 0 a8 [v]):=rfl;simp only[RepFs]at A;obtain⟨u,us,rfl,P,O,u2,us2,rfl,h3,h4,u3,us3,rfl,h5,h6,rfl⟩:=A;have hv:=pI h0 P O;obtain rfl:=HA h3 h4;have Q:=pI P9 h5 h6;have H:=Ct (g.obj 0 _ P9);rcases H with ⟨a,_,h⟩|⟨B,M,y,q1,q2,q3,q4,q5,q6⟩
  ·cases h
  rw[q1]at Q;obtain rfl:u3=.slice (ar ⟨B,0,a6⟩) 1 M:=Q
  have I:∀o,o≠1->aD [(0,au.arr 3 aa 0 a8 [v]),(1,au.arr 3 aa 1 a8 (jz d k v))] o=aD [(0,au.arr 3 (.int .i64) 0 a8 [v]),(1,au.arr 3 (.int .i64) 0 a8 d)] o:=by
   intro o ho;have e1:dK 1 o=a8:=by rw[←np];intro nM;exact ho (cb nM).symm
   simp only[aD,e1];rfl
  have R:∀j u,[nw .i64 v][j]?=ar u->W.cell? ⟨B,0+j,a6⟩=ar u:=by
   intro j u z
   match j with|0=>cases z;rw[Ag q2,Hz q6 (j:=0) (by simp)]<;>rfl|j+1=>cases z
  have r:∀u∈[nw .i64 v],u.oneCell'=bc:=Cw [v];have s:=vM (v:=v) E
  have fin:∀{b cap b' l:Nat} {e:Ending} {f:World},(μ 1=.row b cap\/(b=W.heap.size/\(0:Nat)<1))->Cs W f b 3 (jz d k v) b' l->e=.returned (.slice (ar ⟨b',0,a6⟩) (bk d+1) l)->
    ∃ae P cX ca,(ae=aq.ret [.os 1 1]/\P=aD [(0,au.arr 3 aa 0 a8 [v]),(1,au.arr 3 aa 1 a8 (jz d k v))])/\gk W im μ (aD [(0,au.arr 3 (.int .i64) 0 a8 [v]),(1,au.arr 3 (.int .i64) 0 a8 d)]) f cX ca P/\gP f cX ca P ae e:=by
   intro b cap b' l e f hμ ht he
   refine⟨_,_,im,_,⟨rfl,rfl⟩,sJ (m':=1) (ys:=jz d k v) F g h0 hμ rfl I ht (.inr (by decide)),_,he,?_,rfl⟩
   simp only[RepA]
   refine⟨3,.int .i64,1,a8,jz d k v,rfl,ep _,_,rfl,rfl,λ_=>?_⟩
   show fe (if 1=1 then Pl.row b' l else μ 1) _ _
   rw[if_pos rfl]
   show al5 _ _ _=al5 _ _ _
   rw[s]
  have mx:maxLen=9223372036854775807:=by decide
  have J:∀{b cap:Nat} {cells:Array Value} {f:World},(∀c,c<W.heap.size->f.heap[c]?=W.heap[c]?)->f.os=W.os->f.tape=W.tape->f.output=W.output->f.heap.size=W.heap.size+1->f.heap[W.heap.size]?=ar (.cells cells 3 (0,0))->cells.size=cap->bk d+1<=cap->cap<=maxLen->cells.toList.take (jz d k v).length=(jz d k v).map (nw .i64)->Cs W f b 3 (jz d k v) W.heap.size cap:=
   λg1 g2 g3 g4 g5 g6 g7 g8 g9 g10=>⟨g2,g3,g4,by omega,λc q _=>g1 c q,.inr ⟨ep _,by omega⟩,_,g6,by rw[s];exact g8,g9,g7,g10⟩
  rcases Ct (g.obj 1 _ h0)with ⟨a,g1,rfl⟩|⟨b,cap,cells,g1,g2,g3,g4,g5,g6⟩
  ·rw[g1]at hv
   obtain rfl:u=.slice a 0 0:=hv;obtain rfl:k=0:=by simpa using E
   refine(alE (ρ:=kl) vL a 0 0 B 0 1 M [] [.int .i64 v] W (by decide) (ep _) (by decide) (by decide) rfl rfl (λ_=>rfl) (λ_ _ j u z=>by cases z) R r).mono ?_
   rintro e f ⟨rfl,rfl⟩
   have N:=grownCap_ge W (0+1) 0 (kl.t 3);have m:=grownCap_le_maxLen W (0+1) 0 (kl.t 3) (by rw[mx];decide);refine fin (b:=W.heap.size) (cap:=0) (.inr ⟨rfl,by decide⟩) (J (λc q=>heap_alloc_old W.drew _ q) rfl rfl rfl (by show (W.heap.push _).size=_;simp) (heap_alloc_new W.drew _) ?_ N m ?_) rfl
   ·have K:(tl (nw .i64 0).cells (grownCap W (0+1) 0 (kl.t 3)-(0+1))).size=grownCap W (0+1) 0 (kl.t 3)-(0+1):=by simp[tl,gI]
    rw[F1,K];show 1+_=_;omega
   ·exact LK rfl
  ·rw[g1]at hv
   obtain rfl:u=.slice (ar ⟨b,0,a6⟩) (bk d) cap:=hv;have hbW:b<W.heap.size:=(om.1 g2).1;have sX:∀j,j<bk d->cells[j]?=(d[j]?).map (nw .i64):=λj p=>by rw[Hz g6 p,dv p]<;>rfl
   have zJ:∀j u,(d.map (nw .i64))[j]?=ar u->W.cell? ⟨b,0+j,a6⟩=ar u:=λj u z=>by
    have p:j<bk d:=by have:=(List.getElem?_eq_some_iff.1 z).1;simpa using this
    rw[Ag g2,hM,sX j p,←List.getElem?_map];exact z
   have w:∀j,j<cap->(W.cell? ⟨b,0+j,a6⟩).isSome=bc:=λj p=>by rw[Ag g2,hM,Array.getElem?_eq_getElem (by omega)]<;>rfl
   have hvb:B≠b:=λe=>by have:=g.inj 0 1 b (by rw[q1,e]<;>rfl) (by rw[g1]<;>rfl);cases this
   have I1:(d.map (nw .i64)).length=bk d:=vb _;by_cases hr:bk d+1<=cap
   ·have x:∀{f:World} {c':Array Value},f.os=W.os->f.tape=W.tape->f.output=W.output->f.heap.size=W.heap.size->(∀c,c≠b->f.heap[c]?=W.heap[c]?)->f.heap[b]?=ar (.cells c' 3 (0,0))->(c'.size=cells.size/\c'.toList.take (jz d k v).length=(jz d k v).map (nw .i64))->Cs W f b 3 (jz d k v) b cap:=
     λg7 g8 g9 g10 g11 g12 g13=>⟨g7,g8,g9,by omega,λc _ q=>g11 c q,.inl ⟨rfl,hbW⟩,_,g12,by rw[s];exact hr,g4,by rw[g13.1,g5],g13.2⟩
    by_cases hk:k<bk d
    ·refine(Any2.slices_Insert_int_shift (ρ:=kl) vL b 0 (bk d) cap k B 0 1 M (d.map (nw .i64)) [.int .i64 v] W hk (by decide) hr (by rw[mx]at g4;exact g4) hvb I1 rfl zJ (λj p=>w j (by omega)) (λj _=>pH g2 _) R (Cw d) r 3 3 y.size cap (by simp[World.shape?,q2]) (by simp[World.shape?,g2,g5]) (by omega) (pH q2 _) (pH q2 _)).mono ?_
     rintro e f ⟨rfl,rfl⟩
     obtain⟨s1,s2,s3,s4,s5,s6⟩:=ix ((d.map (nw .i64)).drop k) (0+(k+1)) W.drew b;obtain⟨S,T,U,V,X,Y⟩:=ix [nw .i64 v] (0+k) (W.drew.setCells b (0+(k+1)) ((d.map (nw .i64)).drop k)) b;have e1:=s2 cells 3 (0,0) g2;have e2:=T _ 3 (0,0) e1;rw[hM,hM]at e2;exact fin (.inl g1) (x (V.trans s4) (X.trans s5) (Y.trans s6) (U.trans s3) (λc q=>(S c q).trans (s1 c q)) (by rw[hM,hM];exact e2) (HB E (by omega) (λj p=>sX j (by omega)) (.inl rfl))) rfl
    ·obtain rfl:k=bk d:=by omega
     refine(Any2.slices_Insert_int_end_room (ρ:=kl) vL b 0 (bk d) cap B 0 1 M [.int .i64 v] W (by decide) hr (by rw[mx]at g4;exact g4) rfl (λj p=>by rw[Nat.add_assoc];exact w _ (by omega)) (λj _=>pH g2 _) R r).mono ?_
     rintro e f ⟨rfl,rfl⟩
     obtain⟨S,T,U,V,X,Y⟩:=ix [nw .i64 v] (0+bk d) W b;have e2:=T cells 3 (0,0) g2;rw[hM]at e2;refine fin (.inl g1) (x V X Y U S (by rw[hM];exact e2) (HB E (by omega) (λj p=>sX j p) (.inr ?_))) rfl;have ed:(d.map (nw .i64)).drop (bk d)=[]:=ly (by rw[I1];omega);rw[ed]<;>rfl
   ·have hcap:cap=bk d:=by omega
    have N:=grownCap_ge W (bk d+1) cap (kl.t 3);have m:=grownCap_le_maxLen W (bk d+1) cap (kl.t 3) (by rw[mx];omega);by_cases hk:k<bk d
    ·refine(Any2.slices_Insert_int_grow (ρ:=kl) vL b 0 (bk d) cap k B 0 1 M (d.map (nw .i64)) [.int .i64 v] W hk (by decide) g3 (by omega) (by omega) I1 rfl zJ R (Cw d) r).mono ?_
     rintro e f ⟨rfl,rfl⟩
     generalize hG:grownCap W (bk d+1) cap (kl.t 3)=G at N m⊢;generalize hC:((d.map (nw .i64)).take k).toArray++tl (nw .i64 0).cells (bk d+1-k)++tl (nw .i64 0).cells (G-(bk d+1))=C;have K:∀n,(tl (nw .i64 0).cells n).size=n:=λn=>by simp[tl,gI]
     have L:((d.map (nw .i64)).take k).toArray.size=k:=by simp;omega
     have hCs:C.size=G:=by rw[←hC,F1,F1,L,K,K];omega
     have Z:∀j,j<k->C[j]?=(d[j]?).map (nw .i64):=λj p=>by rw[←hC,Array.getElem?_append_left (by rw[F1,L,K];omega),Array.getElem?_append_left (by rw[L];exact p)];simp[p]
     obtain⟨s1,s2,s3,s4,s5,s6⟩:=ix [nw .i64 v] k (W.alloc (.cells C 3)).drew W.heap.size;obtain⟨S,T,U,V,X,Y⟩:=ix ((d.map (nw .i64)).drop k) (k+1) (((W.alloc (.cells C 3)).drew.setCells W.heap.size k [nw .i64 v]).drew) W.heap.size;have e0:(W.alloc (.cells C 3)).drew.heap[W.heap.size]?=ar (.cells C 3 (0,0)):=heap_alloc_new W _;have e1:=s2 C 3 (0,0) e0;have e2:=T _ 3 (0,0) e1;have D:=HB (c:=C) (v:=v) E (by omega) Z (.inr rfl);refine fin (.inl g1) (J (λc q=>(S c (by omega)).trans ((s1 c (by omega)).trans (heap_alloc_old W _ q))) (V.trans s4) (X.trans s5) (Y.trans s6) (U.trans (s3.trans (by show (W.heap.push _).size=_;simp))) e2 (by rw[D.1,hCs]) N m D.2) rfl
    ·obtain rfl:k=bk d:=by omega
     refine(alE (ρ:=kl) vL (ar ⟨b,0,a6⟩) (bk d) cap B 0 1 M (d.map (nw .i64)) [.int .i64 v] W (by decide) g3 (by omega) (by omega) I1 rfl (λh=>by cases h) (λa ha j u z=>by cases ha;rw[Addr.add_lit];exact zJ j u z) R r).mono ?_
     rintro e f ⟨rfl,rfl⟩
     generalize hG:grownCap W (bk d+1) cap (kl.t 3)=G at N m⊢;have K:∀n,(tl (nw .i64 0).cells n).size=n:=λn=>by simp[tl,gI]
     refine fin (.inl g1) (J (λc q=>heap_alloc_old W.drew _ q) rfl rfl rfl (by show (W.heap.push _).size=_;simp) (heap_alloc_new W.drew _) ?_ N m ?_) rfl
     ·rw[F1,K];simp;omega
     ·have ei:jz d (bk d) v=d++[v]:=by unfold jz;rw[hP (ep _),ly (ep _)]
      rw[ei,Cp];exact LK (by simp)
 ·cases h'
end
end Go.Proofs.XRT
set_option maxRecDepth 100000
set_option maxHeartbeats 4000000
namespace Go.Proofs.XRT
open Go.Vm Go Tryz IntKind
noncomputable section
def adr  :=aU f223
def OS :Code:=cL (cL (cR (cL (cR (cR (cR (cR (cR adr))))))))
def ld :Cfg:=⟨36,6,0,[(6,[7,24,25,26])],bc⟩
def ads  :=aU f222
def OT :Code:=cL (cL (cR (cL (cR (cR (cR (cR (cR ads))))))))
def lf :Cfg:=⟨40,6,0,[(6,[6,21,22,23])],bc⟩
def amt :List AV->LHp->Tq
 |[.d zS l,.d zI r],[]=>.br (a7 (l.length<=2147483648)) (.br (dj r l []) (.leaf (.ret [.os 0 0]) [(0,.arr 3 aa 0 a8 (jy l r))]) (pnc 131 4)) .no
 |_,_=>.no
theorem Sb :bq 211 (ay amt):=by
 have c:=bM (d:=5) (l:=[(3,[1,5,9,10,11])]) E4 func211 call211;have g:bq 211 (mkO 3 aa (aA s7 f211 5 [(3,[1,5,9,10,11])])):=Cm c;refine aY λf k m n b=>?_
 unfold amt at b;split at b
 ·rename_i l r
  obtain⟨i,j⟩:=eN b;refine g.ok _ _ _ _ (gp ?_ j);simp only[mkO];rw[c.eq];have e:(aA s7 f211 5 [(3,[1,5,9,10,11])]).run [.d (.slice aa) l,I r] [] (λa h=>ar (a,h))=bif dj r l []then kE 3 (jy l r)else ar (.panic 131 4,[]):=(acq _ _).trans ((apV _ _).trans (acv (bt i)))
  rw[e];show _=(bif dj r l []then _ else _);cases dj r l []with|true=>exact RY _ _|false=>rfl
 ·cases b
def vN  :=((((zp.add 25 zt).add 211<|ay amt).add 188<|ay amp).add 107<|ay Lx).add 260<|ay avW
theorem Vz :vN.Good:=((((gq.add kc).add Sb).add Sa).add sH).add ams
def LL (l:af)(i:Int)(o:af):LSt:=⟨az 6 [(7,.os 0 0),(24,.os 1 0),(25,I<| .ofNat l.length),(26,I i)],[(0,.arr 3 aa 0 a8 o),(1,.arr 3 aa 0 a8 l)],2⟩
theorem avX (f g:ao)(c:List<|ao)(e:ao)(a:bu) vs (b:af):aB vN f223 6 [(6,[7,24,25,26])] [iN (f,g,c,e,a,()) vs,.d (.slice aa) b] [] ah=bif aE a then bif (aj a m9 []).length<=2147483648 then bif dj (i64.wrap<| .ofNat b.length+.ofNat (aj a m9 []).length) (aj a m9 []) []then bif (jy (aj a m9 [])<|i64.wrap<| .ofNat b.length+.ofNat (aj a m9 []).length).length<=2147483648 then bif b.length<=2147483648 then (hlp vN ld) OS _ (LL (jA<|jy (aj a m9 [])<|i64.wrap<| .ofNat b.length+.ofNat (aj a m9 []).length) 0 b) (aI 0<|aL vN ld [6] (hlp vN ld) (cR<|cR<|cR<|cR<|cR<|cR adr)<|aV prog 0 f223.results.toList ah)else a6 else a6 else bF else a6 else a6:=(aW [6] ld rfl).trans<|by obtain⟨i,h⟩:=aM vN ld;rw[h];kernel_rfl
def vO :Env:=(((((zp.add 25 zt).add 211 (ay amt)).add 188 (ay amp)).add 258 (ay avU)).add 107 (ay Lx)).add 259 (ay avV)
theorem VA :vO.Good:=(((((gq.add kc).add Sb).add Sa).add amq).add sH).add amr
def LM (l:af)(i:Int)(o:af):LSt:=⟨az 6 [(6,.os 0 0),(21,.os 1 0),(22,I<| .ofNat l.length),(23,I i)],[(0,.arr 3 aa 0 a8 o),(1,.arr 3 aa 0 a8 l)],2⟩
theorem avY (f g:ao)(c:List<|ao)(e:ao)(a:bu) vs (b:af):aB vO f222 6 [(6,[6,21,22,23])] [iN (f,g,c,e,a,()) vs,.d (.slice aa) b] [] ah=bif aE a then bif (aj a m9 []).length<=2147483648 then bif dj (.ofNat b.length) (aj a m9 []) []then bif (jy (aj a m9 [])<| .ofNat b.length).length<=2147483648 then bif (jA<|jy (aj a m9 [])<| .ofNat b.length).length<=2147483648 then bif b.length<=2147483648 then (hlp vO lf) OT _ (LM (jA<|jy (aj a m9 [])<| .ofNat b.length).reverse 0 b) (aI 0<|aL vO lf [6] (hlp vO lf) (cR<|cR<|cR<|cR<|cR<|cR ads)<|aV prog 0 f222.results.toList ah)else a6 else a6 else a6 else bF else a6 else a6:=(aW [6] lf rfl).trans<|by obtain⟨i,h⟩:=aM vO lf;rw[h];kernel_rfl
theorem ap7 l i o n {R} (k:AEx->LSt->Option R):lp vN ld OS (n+1) (LL l i o) k=bif i<.ofNat l.length then (idx l i).bind λb=>(l[i.toNat]?).bind λa=>bif 0<=a/\a<=.ofNat o.length/\o.length<=2147483648 then lp vN ld OS n (LL l (i64.wrap<|i+1)<|jz o (j4 a) 1) k else a6 else k (.exit 0) ⟨az 6 [(7,.os 0 0),(24,.os 1 0),(25,I<| .ofNat l.length),(26,I i),(27,B a8)],[(0,.arr 3 aa 0 a8 o),(1,.arr 3 aa 0 a8 l)],2⟩:=by kernel_rfl
theorem ap8 l i o n {R} (k:AEx->LSt->Option R):lp vO lf OT (n+1) (LM l i o) k=bif i<.ofNat l.length then (idx l i).bind λb=>(l[i.toNat]?).bind λa=>(idx o a).bind λc=>(o[j4 a]?).bind λv4=>bif !v4==1 then k (.panic 131 4) ⟨az 6 [(6,.os 0 0),(8,I a),(21,.os 1 0),(22,I<| .ofNat l.length),(23,I i),(24,B bc),(25,.oe 1 0 i.toNat),(26,I a),(27,.os 0 0),(28,I a),(29,.oe 0 0<|j4 a),(30,I v4),(31,B<|v4==1)],[(0,.arr 3 aa 0 a8 o),(1,.arr 3 aa 0 a8 l)],2⟩else bif 0<=a/\a<.ofNat o.length/\i64.wrap (a+1)=a+1 then lp vO lf OT n (LM l (i64.wrap<|i+1)<|nQ o<|j4 a) k else a6 else k (.exit 0) ⟨az 6 [(6,.os 0 0),(21,.os 1 0),(22,I<| .ofNat l.length),(23,I i),(24,B a8)],[(0,.arr 3 aa 0 a8 o),(1,.arr 3 aa 0 a8 l)],2⟩:=by kernel_rfl
end
end Go.Proofs.XRT
