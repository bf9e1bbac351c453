/- Part O of the abstract machine: the executor's other operations. -/
import Derived.Test.YtnkhoojomojbpaaGreatDoorC1
import Derived.Lib.AppendZerosOnto
import Derived.Laws.IdiomCopy
import Derived.Lib.Bytealg
import Derived.Recover
import Derived.Deep.DeepHandedRow
import Derived.LaidLaws
import Derived.Lib.LaidTab
import Derived.OpenShut
import Derived.RowKit3
import Derived.Carry
import Derived.Lib.SliceRun
import Derived.Lib.Walk
import Derived.Shelf.RegionOpenPlain
import Derived.Test.YtnkhoojomojbpaaGreatDoorProg
import Derived.WalkKit
open Array renaming empty_append→ahD,ext'→yl,getD_eq_getD_getElem?→ke,toList_append→Nc
open BitVec renaming ofInt→q9,ofNat→ahB
open Bool renaming cond_eq_ite→gi,eq_iff_iff→vc,false→a8,not_eq_true→np,true→bc
open Decidable renaming decide→a7
open Eq renaming trans→gp
open Go.Builtin renaming zeroCells→tl
open Go.Call renaming operands→pd
open Go.Calls renaming mono→aha
open Go.DataW renaming TrodAll→aht,trod→ahE
open Go.Deferred renaming ofValue→WV
open Go.Extern renaming findNext→Dq,find→WC
open Go.FloatKind renaming f32→b8,f64→p3
open Go.Instr renaming sliceAt→yb,sliceBounds→xe,slice→AF
open Go.IntKind renaming i64→ahc
open Go.Lib renaming indexByte→js,run_eql_slice_nil→P7
open Go.Op renaming operands→cx
open Go.Proofs.Tryz renaming underlying31→II,underlying32→aie
open Go.Region renaming wanted→w0
open Go.Result renaming andThen_ok→eE
open Go.Sem renaming run_bind→hF
open Go.Value renaming cells→gI
open Go.Vm.AV renaming isAgg→alF,nils→b5
open Go.Vm.LSt renaming toA→WM
open Go.Vm.Le renaming refl→WS
open Go.Vm.Sg renaming get→WZ
open Go.Vm.Tr renaming get_set→ahi
open Ieee renaming Datum→zb
open Ieee.Datum renaming isNaN→wN,order→WH
open Int renaming eq_ofNat_of_zero_le→q8,le_refl→DC,lt_irrefl→ahA,ofNat_lt→ahr,ofNat→bd,tdiv_eq_ediv_of_nonneg→AB,tdiv→P8,toNat_natCast→b9
open List renaming all_cons→py,all_eq_true→gv,any_eq_false→v7,any_eq_true→tr,append_nil→eT,drop_drop→MX,drop_eq_nil_of_le→ly,find?_eq_none→YT,find?_eq_some_iff_getElem→alI,find?→te,findIdx?_eq_none_iff→yd,findIdx?_eq_some_iff_getElem→fk,getElem?_cons_succ→QB,getElem?_cons_zero→o3,getElem?_drop→Qf,getElem?_eq_getElem→dv,getElem?_map→yp,getElem?_take→T1,getElem?_toArray→ahj,getElem_mem→rm,length_append→bK,length_drop→km,length_nil→eO,length_take→fl,length→bk,map_append→Cp,map_cons→ox,mem_append→q7,mem_cons→kt,mem_of_getElem?→ik,range→hW,replicate→eo,take_length→yf,take_of_length_le→hP
open Nat renaming add_assoc→Nf,add_mul→nY,beq→dK,ble→AD,blt→h8,le_of_ble_eq_true→gx,le_refl→ep,lt_of_lt_of_le→xd,lt_or_ge→TE,mul_assoc→yk,zero_add→hM,zero_le→k7
open Option renaming bind_assoc→nb,isNone_iff_eq_none→WR,map_eq_some_iff→zn,map_some→ahb,none→a6,some→ar
open Option.some renaming inj→hY
open PUnit renaming unit→bn
namespace Go.Vm
variable {R:Type}
section
variable {P:Program}{C:Ctx}{s:ASt}
variable {dst:Option Tmp}{ty:TypeId}{pos:String}{dD:Array Edge}{gd:Option (Nat×Bool)}
theorem NK {t x n z e}{f:List _}{l h}(D:lI s.hp (s.ev C x) (.slice e) f) YR (F:∀k∈(s.ev C x).osl,k∈YR) (G:SlT P t e.size) (I:jv C s n 0 l) (J:jv C s z f.length h)
  (K:l<=h) (h2:h<=f.length):cG P C ⟨dst,.slice t x n z a6,ty,pos,dD,gd⟩ ⟨dst,.d (.slice e)<|(f.take h).drop l,YR,[]⟩ s:=
 gm YR λw im μ hp ρ p L M=>by
  let a  :=D.congr λk h=>L k (F k h)
  let ⟨q,A⟩:=(p x (by simp[cx])).toA a.plain;rw[a.agg]at A;let N:=a.sound M _ q;let ⟨c,cap,O,h3,h4,S,g⟩:=N;let T:=bj O A;let ⟨et,i,U,V,W⟩:=G;let X:=iP (P:=P) w (cap:=cap) (fX I λo u=>p o (by subst u;simp[cx])) (fX J λo u=>p o (by subst u;cases n<;>simp[cx])) K (by omega) bc;refine⟨.slice (if cap=l then c else c.map (·.add (l*e.size))) (h-l) (cap-l),w,?_,rfl,rfl,rfl,rfl,?_,rfl⟩
  ·simp[execOp,T,yb,AF,run_underlying U,X,sizeOf,typeInfo,V,W]
  ·simp only[RepA,bm,gI]
   let Y:((f.take h).drop l).length=h-l:=by rw[km,fl];omega
   refine⟨_,_,by rw[Y],by omega,by omega,?_,?_⟩
   ·grind [Option.map_eq_none_iff]
   ·by_cases B:cap=l
    ·let:(f.take h).drop l=[]:=by
      grind
     rw[if_pos B,this]
     cases c with|none=>rfl|some c=>exact .inl rfl
    ·rw[if_neg B]
     cases c with
     |none=>let y  :=g;rw[y];simp[pX]
     |some c=>
      rcases g with g|⟨Z,lX,cs,h6,h7⟩
      ·rw[g];exact .inl (by simp)
      ·let ⟨b,off,sp⟩:=c
       subst Z;simp only[ahb,fP,pX];refine .inr ⟨trivial,lX,_,?_,bO.drop (bm.length e) (bO.take (bm.length e) h7 h) l⟩;intro j v m;rw[Qf,T1]at m;split at m
       ·let:=h6 _ _ m;rw[Nf];exact this
       ·cases m
theorem JB w {b hi mx:Option Value} {len cap l h m:Nat} (e:match b with|none=>l=0|some v=>∃k z,v=.int k z/\0<=z/\z.toNat=l) (i:match hi with|none=>h=0|some v=>∃k z,v=.int k z/\0<=z/\z.toNat=h)
  (c:match mx with|none=>m=0|some v=>∃k z,v=.int k z/\0<=z/\z.toNat=m) (p:l<=h) (q:h<=m) (t:m<=cap):hi.isSome=bc->mx.isSome=bc->(xe bc len cap b hi mx).run P w=.ok (l,h,m) w:=by
 intro j n
 cases hi with
 |none=>cases j
 |some v=>
  cases mx with|none=>cases n|some u=>obtain⟨k,z,rfl,f,rfl⟩:=i;obtain⟨x,a,rfl,g,rfl⟩:=c;cases b with|none=>subst e;simp[xe,dc w g (by omega:a<=cap),dc w f (by omega:z<=(a.toNat:Nat))]|some y=>obtain⟨A,o,rfl,d,rfl⟩:=e;simp[xe,dc w g (by omega:a<=cap),dc w f (by omega:z<=(a.toNat:Nat)),dc w d (by omega:o<=(z.toNat:Nat))]
theorem JC {t x D F n m e}{a:List _}{l h}(K:lI s.hp (s.ev C x) (.slice e) a) YR (L:∀k∈(s.ev C x).osl,k∈YR) (M:SlT P t e.size) (N:jv C s n 0 l) (O:jv C s (ar D) 0 h) (u:jv C s (ar F) 0 m) (y:h<=m) (S:m<=a.length)
  (T:l<=h) (h2:h<=a.length):cG P C ⟨dst,.slice t x n (ar D)<|some F,ty,pos,dD,gd⟩ ⟨dst,.d (.slice e)<|(a.take h).drop l,YR,[]⟩ s:=
 gm YR λw im μ hp ρ p U V=>by
  let c  :=K.congr λk h=>U k (L k h)
  let ⟨z,G⟩:=(p x (by simp[cx])).toA c.plain;rw[c.agg]at G;let I:=c.sound V _ z;simp only[bm]at I;let ⟨f,cap,W,h3,h4,X,A⟩:=I;let Y:=bj W G;let ⟨et,i,Z,gh,kF⟩:=M;let hb:=JB (P:=P) w (hi:=ar _) (mx:=ar _) (len:=a.length) (cap:=cap) (fX N λo g=>p o (by subst g;simp[cx])) (fX O λo g=>p o (by cases g;cases n<;>simp[cx])) (fX u λo g=>p o (by cases g;cases n<;>simp[cx])) T y (by omega) rfl rfl;refine⟨.slice (if m=l then f else f.map (·.add (l*e.size))) (h-l) (m-l),w,?_,rfl,rfl,rfl,rfl,?_,rfl⟩
  ·simp[execOp,Y,yb,AF,run_underlying Z,hb,sizeOf,typeInfo,gh,kF]
  ·simp only[RepA,bm,gI]
   let hl:((a.take h).drop l).length=h-l:=by rw[km,fl];omega
   refine⟨_,_,by rw[hl],by omega,by omega,?_,?_⟩
   ·grind [Option.map_eq_none_iff]
   ·by_cases J:m=l
    ·let:(a.take h).drop l=[]:=by
      grind
     rw[if_pos J,this]
     cases f with|none=>rfl|some f=>exact .inl rfl
    ·rw[if_neg J]
     cases f with
     |none=>let B  :=A;rw[B];simp[pX]
     |some f=>
      rcases A with A|⟨hs,lX,cs,h6,h7⟩
      ·grind
      ·let ⟨b,off,sp⟩:=f
       subst hs;simp only[ahb,fP,pX];refine .inr ⟨trivial,lX,_,?_,bO.drop (bm.length e) (bO.take (bm.length e) h7 h) l⟩;intro j v q;rw[Qf,T1]at q;split at q
       ·let:=h6 _ _ q;rw[Nf];exact this
       ·cases q
end
section
variable {E:Env}{C:Ctx}{s:LSt}{k:E1->Option R}{r:R}{dst:Option Tmp}{ty:TypeId}{pos:String}{dD:Array Edge}{gd:Option (Nat×Bool)}
def fR {a:Type}(xs:List a) i y  :=bif h8 i xs.length then ar (xs.set i y)else a6
theorem Ub {d a c i}{y:d}(h:fR a i y=ar c):i<a.length/\a.set i y=c:=by unfold fR at h;cases b:h8 i _ with|false=>rw[b]at h;cases h|true=>rw[b]at h;cases h;exact⟨gx b,rfl⟩
theorem gZ.frozen {o}{e:E1} l (a:k ⟨e.av,e.rd,e.wr++dq s.hp l,e.nx⟩=ar r) (h:cG E.P C o (e.eff o.dst) ⟨s.fr.get,aT (aD s.hp)<|dq s.hp l⟩):gZ E C o s k r:=
 ⟨_,a,OpW.frozen l h.w⟩
theorem rh {E C}(a:C.Γ=E.gam)(s:LSt) hp x:(⟨s.fr.get,hp⟩:ASt).ev C x=s.ev E x:=cK a s x
def sk (E:Env)(t:TypeId)(x y:Operand)(s:LSt)(k:E1->Option R):Option R:=
 match s.ev E x with
 | .op o p b=>
  (match aD s.hp o with|some (.box v)=>bif (s.ev E y).plain then jm v p (s.ev E y) (λa d=>bif dK a b&&tyN E.P t (s.ev E y).asize then k ⟨.undef,[],[(o,.box d)],s.nx⟩else a6)else a6|_=>a6)
 | .oe o m i=>
  let l:=(s.ev E y).osl;let c:=dq s.hp l
  (match aD (c++s.hp) o with
  |some (.arr T e f a8 g)=>
   bif dK m f&&tyN E.P t e.size then
    (match toD (c++s.hp) (s.ev E y) e with
    |some z=>(fR g i z).bind λh=>k ⟨.undef,l,[(o,.arr T e m a8 h)]++c,s.nx⟩
    |none=>a6)
   else a6
  |_=>a6)
 |_=>a6
theorem NL (d:C.Γ=E.gam){t x y}(h:sk E t x y s k=ar r):gZ E C ⟨a6,.store t x y,ty,pos,dD,gd⟩ s k r:=by
 unfold sk at h;let ex:=cK d s x;let D:=cK d s y;split at h
 ·rename_i o p l n
  rw[n]at ex;split at h
  ·rename_i v g
   cases q:(s.ev E y).plain with|false=>rw[q]at h;cases h|true=>rw[q]at h;let ⟨f,J,F,j⟩:=si v p _ _ r h;cases a:dK f l&&tyN E.P t (s.ev E y).asize with|false=>rw[a]at j;cases j|true=>rw[a]at j;simp only[aX]at a;let ⟨b,c⟩:=Jz a.2;exact .of _ j<|Jn ex D q g F (cb a.1) c
  ·cases h
 ·rename_i o m i n
  simp only at h;split at h
  ·rename_i T e G K g
   cases a:dK m G&&tyN E.P t _ with|false=>rw[a]at h;cases h|true=>rw[a]at h;simp only[aX]at a;have I:=cb a.1;subst I;let ⟨b,c⟩:=Jz a.2;cases u:toD (dq s.hp (s.ev E y).osl++s.hp) (s.ev E y) e with|none=>simp only[ai,u]at h;cases h|some z=>simp only[ai,u]at h;let ⟨L,A,h⟩:=bC h;obtain⟨g1,rfl⟩:=Ub A;refine .frozen (e:=⟨_,_,_,s.nx⟩) (s.ev E y).osl h ?_;let B:=pg u;rw[bV]at B g;exact Gj (by rw[rh d,n]) g g1 (by rw[rh d];exact B) _ (by rw[rh d];exact λ_ h=>h) c
  ·cases h
 ·cases h
def arX (P:Program)(t:TypeId)(f:Nat):Option Nat:=
 match P.underlying t with|some (.struct b)=>(match b[f]? with|some a=>(match P.info? a.type with|some i=>bif dK i.size 0 then a6 else ar a.offset|none=>a6)|none=>a6)|_=>a6
theorem Be {P t f o}(h:arX P t f=ar o):Jk P t f o:=by
 unfold arX at h;split at h
 ·rename_i d a
  split at h
  ·rename_i e b
   split at h
   ·rename_i i g;cases c:dK _ 0 with|true=>rw[c]at h;cases h|false=>rw[c]at h;cases h;exact⟨d,e,i,a,b,rfl,g,lY c⟩
   ·cases h
  ·cases h
 ·cases h
def ZK (P:Program)(t:TypeId)(f:Nat):Option (Nat×Nat×Bool):=
 match P.underlying t with|some (.struct c)=>(match c[f]? with|some a=>(match ZF P a.type with|some (n,b)=>ar (a.offset,n,b)|none=>a6)|none=>a6)|_=>a6
theorem Uc {P t f o n b}(h:ZK P t f=ar (o,n,b)):aCk P t f o n b:=by
 unfold ZK at h;split at h
 ·rename_i d a
  split at h
  ·rename_i e c
   split at h
   ·rename_i i j g;cases h;exact⟨d,e,a,c,rfl,Ba g⟩
   ·cases h
  ·cases h
 ·cases h
theorem Gk {P s t x f kk a o m i T e g p z q}(D:s.ev C x=.oe o m i)(F:s.hp o=ar (.arr T e m bc p))(y:p[i]?=ar z)
  (G:Jk P t f kk) (I:Sub (.d e z) [f] a<| .d g q) (j:a=kk):cG P C ⟨dst,.fieldAddr t x f,ty,pos,dD,gd⟩ ⟨dst,.ip g q,[o],[]⟩ s:=
 gm [o] λw im μ hp A h J K=>by
  subst j;let ⟨L,M⟩:=D▸h x<|by simp[cx]
  let N  :=(J o<|by simp).trans F;obtain⟨T',e',m',z',yc,iy,O,u,S,h1,iv⟩:=L;let U  :=(List.getElem?_eq_some_iff.1 y).1;rcases K o _ N with ⟨ad,V,rfl⟩|⟨l,_⟩|⟨_,n,B,cs,V,W,_,_,X,Y⟩
  ·simp at U
  ·cases l
  ·let Z:A x=.pointer (ar ⟨n,i*e.size,a6⟩):=by
    generalize A x=v at S M
    cases v<;>simp_all[gI,bS,alF]
   let ⟨hg,hgl⟩:=bO.get (bm.length e) Y y
   let b:=X.sub (i*e.size) e.size
   rw[hM]at b
   obtain⟨c1,c2,c3,zJ,Zi,hu⟩:=I.sound (μ:=μ) (hp:=hp) _<|by exact hg
   rw[zJ]at b
   let c:=(dJ.append b).2
   rw[Zi]at c
   refine⟨.pointer<|some ⟨n,i*e.size+a,a6⟩,w,?_,rfl,rfl,rfl,rfl,?_,rfl⟩
   ·simp only[execOp,Z,hF,qW G,eE];rfl
   ·exact⟨n,_,rfl,W,c2,(dJ.append c).1,hu⟩
def jO (E:Env)(t:TypeId)(x:Operand)(f:Nat)(s:LSt)(k:E1->Option R):Option R:=
 match arX E.P t f with
 |some kk=>
  (match s.ev E x with
  | .op o p c=>k (s.pv (.op o (p++[f]) (c+kk)))
  | .ip j y=>jE j y [f] (λa u=>match u with| .d b g=>bif dK a kk then k (s.pv (.ip b g))else a6|_=>a6)
  | .oe o m i=>
   let h:=dq s.hp [o]
   (match aD (h++s.hp) o with
   |some (.arr _ e l bc n)=>
    bif dK m l then
     (match n[i]? with|some z=>jE e z [f] (λa u=>match u with| .d b g=>bif dK a kk then k ⟨.ip b g,[o],h,s.nx⟩else a6|_=>a6)|none=>a6)
    else a6
   |_=>a6)
  |_=>a6)
 |none=>a6
theorem Bf (l:C.Γ=E.gam){t x f}(h:jO E t x f s k=ar r):gZ E C ⟨dst,.fieldAddr t x f,ty,pos,dD,gd⟩ s k r:=by
 unfold jO at h;let ex:=cK l s x;split at h
 ·rename_i kk g
  split at h
  ·rename_i o p q d;rw[d]at ex;exact .of _ h<|Jl ex (Be g) rfl rfl
  ·rename_i v y d
   rw[d]at ex;let ⟨b,u,j,a⟩:=mH v y [f] _ r h;split at a
   ·cases c:dK b kk with|false=>rw[c]at a;cases a|true=>rw[c]at a;exact .of _ a<|Jm ex (Be g) j<|cb c
   ·cases a
  ·rename_i o m i d
   simp only at h;split at h
   ·rename_i T e A F n
    cases c:dK m A with
    |false=>rw[c]at h;cases h
    |true=>
     rw[c]at h;have B:=cb c;subst B;split at h
     ·rename_i z D
      let ⟨b,u,j,a⟩:=mH e z [f] _ r h;split at a
      ·cases c:dK b kk with|false=>rw[c]at a;cases a|true=>rw[c]at a;refine .frozen (e:=⟨_,[o],[],s.nx⟩) [o] a ?_;rw[bV]at n;exact Gk (by rw[rh l,d]) n D (Be g) j<|cb c
      ·cases a
     ·cases h
   ·cases h
  ·cases h
 ·cases h
def sl (E:Env)(t:TypeId)(x:Operand)(f:Nat)(s:LSt)(k:E1->Option R):Option R:=
 match ZK E.P t f with
 |some (kk,n,b)=>
  bif (s.ev E x).plain&&(s.ev E x).isAgg then
   fQ (s.ev E x) [f] λa u=>bif dK a kk&&(dK u.asize n&&bif u.isAgg then b else !b)then k (s.pv u)else a6
  else a6
 |none=>a6
theorem NM (i:C.Γ=E.gam){t x f}(h:sl E t x f s k=ar r):gZ E C ⟨dst,.field t x f,ty,pos,dD,gd⟩ s k r:=by
 unfold sl at h;let ex:=cK i s x;split at h
 ·rename_i kk n b j
  cases a:(s.ev E x).plain&&(s.ev E x).isAgg with
  |false=>rw[a]at h;cases h
  |true=>
   rw[a]at h;simp only[aX]at a;let ⟨c,u,l,d⟩:=ph _ [f] _ r h;cases e:dK c kk&&(dK _ n&&bif u.isAgg then b else !b)with
   |false=>rw[e]at d;cases d
   |true=>
    rw[e]at d;simp only[aX]at e;let ⟨m,o,p⟩:=e;let g:=Uc j;rw[←cb o]at g;let:b=u.isAgg:=by cases q:u.isAgg<;>rw[q]at p<;>cases b<;>simp_all
    rw[this]at g;exact .of _ d<|TR ex a.1 a.2 l g<|cb m
 ·cases h
def jP (E:Env)(t:TypeId)(x y:Operand)(s:LSt)(k:E1->Option R):Option R:=
 match s.ev E x,s.ev E y with
 | .d (.slice e) a,.d (.int _) n=>bif mz E.P t e.size then (idx a n).bind λz=>k (s.pv (.ip e z))else a6
 | .ip (.arr m e) a,.d (.int _) n=>bif TZ E.P t m e.size then (idx a n).bind λz=>k (s.pv (.ip e z))else a6
 | .os o m,.d (.int _) n=>
  (match aD s.hp o with
  |some (.arr _ e b _ a)=>bif dK m b&&mz E.P t e.size then (idx a n).bind λ_=>k (s.pr (.oe o m n.toNat) [o])else a6
  |_=>a6)
 | .ow o m j q,.d (.int _) n=>
  (match aD s.hp o with
  |some (.arr _ e b _ a)=>bif dK m b&&(mz E.P t e.size&&(a7 (0<=n)&&a7 (n<q)))then (a[j+n.toNat]?).bind λ_=>k (s.pr (.oe o m (j+n.toNat)) [o])else a6
  |_=>a6)
 | .op o p c,.d (.int _) n=>
  (match aD s.hp o with|some (.box v)=>fQ v p (λ_ u=>match u with| .d (.arr m e) a=>bif TZ E.P t m e.size then (idx a n).bind λ_=>k (s.pr (.op o (p++[n.toNat]) (c+n.toNat*e.size)) [o])else a6|_=>a6)|_=>a6)
 |_,_=>a6
theorem Bg (D:C.Γ=E.gam){t x y}(h:jP E t x y s k=ar r):gZ E C ⟨dst,.indexAddr t x y,ty,pos,dD,gd⟩ s k r:=by
 unfold jP at h;let ex:=cK D s x;let c:=cK D s y;split at h
 ·rename_i e l kk n d f;rw[d]at ex;rw[f]at c;cases a:mz E.P t _ with|false=>rw[a]at h;cases h|true=>rw[a]at h;let ⟨z,b,h⟩:=bC h;exact .of _ h<|Nz ex c (gQ a) (j6 b).1 (j6 b).2
 ·rename_i m e l kk n d f;rw[d]at ex;rw[f]at c;cases a:TZ E.P t m _ with|false=>rw[a]at h;cases h|true=>rw[a]at h;let ⟨z,b,h⟩:=bC h;exact .of _ h<|AU ex c (Eu a) (j6 b).1 (j6 b).2
 ·rename_i o m kk n d f
  rw[d]at ex;rw[f]at c;split at h
  ·rename_i T e A G l i;cases a:dK m A&&mz E.P t _ with|false=>rw[a]at h;cases h|true=>rw[a]at h;simp only[aX]at a;have B:=cb a.1;subst B;let ⟨z,b,h⟩:=bC h;exact .of _ h<|Jp ex i c (gQ a.2) (j6 b).1 (j6 b).2
  ·cases h
 ·rename_i o m j q kk n d f
  rw[d]at ex;rw[f]at c;split at h
  ·rename_i T e A G l i;cases a:dK m A&&(mz E.P t _&&(0<=n&&n<q))with|false=>rw[a]at h;cases h|true=>rw[a]at h;simp only[aX,decide_eq_true_eq]at a;have B:=cb a.1;subst B;let ⟨z,b,h⟩:=bC h;exact .of _ h<|Jq ex i c (gQ a.2.1) a.2.2.1 a.2.2.2
  ·cases h
 ·rename_i o p I kk n d f
  rw[d]at ex;rw[f]at c;split at h
  ·rename_i v i
   let ⟨F,u,J,g⟩:=ph v p _ r h;split at g
   ·rename_i m e l;cases a:TZ E.P t m _ with|false=>rw[a]at g;cases g|true=>rw[a]at g;let ⟨z,b,g⟩:=bC g;exact .of _ g<|AX ex i J c (Eu a) (j6 b).1 (j6 b).2 rfl rfl
   ·cases g
  ·cases h
 ·cases h
def yv (P:Program)(t:TypeId):Bool:=match P.underlying t with|some .string=>bc|_=>a8
theorem tO {P t}(h:yv P t=bc):P.underlying t=ar .string:=by grind [yv]
def Ud (E:Env)(t:TypeId)(m:Nat)(e:Ty):Bool:=
 match E.P.underlying t with|some (.array a T)=>dK a m&&Bb E.P T e.size e.isAgg&&(match lk E.ty t with|some b=>decide (b=.arr m e)|none=>a8)|_=>a8
theorem JD (c:E.OK){t m e}(h:Ud E t m e=bc):ArE E.P t m e:=by
 unfold Ud at h;split at h
 ·rename_i j T d
  simp only[aX]at h;let ⟨⟨f,g⟩,a⟩:=h;split at a
  ·rename_i l b;have:=bt a;subst this;let ⟨i,z,g1,g2,g3,g4,g5⟩:=(c.ty _<|jn b).info;rw[←cb f]at*;exact⟨⟨T,d,pj g⟩,i,z,g1,g4,g5⟩
  ·cases a
 ·cases h
def sm (E:Env)(t:TypeId)(x y:Operand)(s:LSt)(k:E1->Option R):Option R:=
 match s.ev E x,s.ev E y with
 | .d .str l,.d (.int _) n=>bif yv E.P t then (wV l n).bind λz=>k (s.pv (.d (.int .u8) z))else a6
 | .d (.arr m e) a,.d (.int _) n=>bif Ud E t m e then (idx a n).bind λz=>k (s.pv (.d e z))else a6
 |_,_=>a6
theorem NN (j:E.OK)(i:C.Γ=E.gam){t x y}(h:sm E t x y s k=ar r):gZ E C ⟨dst,.index t x y,ty,pos,dD,gd⟩ s k r:=by
 unfold sm at h;let ex:=cK i s x;let c:=cK i s y;split at h
 ·rename_i l kk n d f;rw[d]at ex;rw[f]at c;cases a:yv E.P t with|false=>rw[a]at h;cases h|true=>rw[a]at h;let ⟨z,g,h⟩:=bC h;obtain⟨o,b,p,rfl⟩:=TW g;exact .of _ h<|Gg ex c (tO a) o p
 ·rename_i m e q kk n d f;rw[d]at ex;rw[f]at c;cases a:Ud E t m e with|false=>rw[a]at h;cases h|true=>rw[a]at h;let ⟨z,g,h⟩:=bC h;exact .of _ h<|Gi ex c (JD j a) g
 ·cases h
def qC (E:Env)(s:LSt)(x:Option Operand)(a:Int):Option Int:=
 match x with|none=>ar a|some x=>(match s.ev E x with| .d (.int _) n=>ar n|_=>a6)
theorem jo (b:C.Γ=E.gam){x}{a:Nat}{z}(h:qC E s x a=ar z)(c:0<=z) hp:jv C ⟨s.fr.get,hp⟩ x a z.toNat:=by
 unfold qC at h;split at h
 ·cases h;simp[jv]
 ·split at h
  ·rename_i kk n d;cases h;exact⟨kk,z,by rw[rh b];exact d,c,rfl⟩
  ·cases h
def w8 (E:Env)(s:LSt)(x:Operand):Bool:=match s.ev E x with| .d (.int .i64) n=>n==0|_=>a8
theorem yw (a:C.Γ=E.gam){x}(h:w8 E s x=bc):s.toA.ev C x=.d (.int .i64) 0:=by grind [w8,cK]
theorem DP {P s t x a e b}(f:s.ev C x=.nils)(g:SlT P t b)(h:jv C s a 0 0)(j:jv C s e 0 0):
  cG P C ⟨dst,.slice t x a e a6,ty,pos,dD,gd⟩ ⟨dst,.nils,[],[]⟩ s:=
 bJ λw v y hp z c=>by
  let ⟨l,m⟩:=f▸c x<|by simp[cx]
  let n:=bj l m;let ⟨A,i,p,q,B⟩:=g;let u:=iP (P:=P) w (fX h λo d=>c o<|by subst d;simp[cx]) (fX j λo d=>c o<|by subst d;cases a<;>simp[cx]) (ep _) (ep _) bc;refine⟨.slice a6 0 0,?_,by simp only[RepA,gI],rfl⟩;simp[execOp,n,yb,AF,run_underlying p,u,sizeOf,typeInfo,q]
theorem Bh {P s t x l o n kk T e d}(hx:s.ev C x=.os o n)(ho:s.hp o=ar (.arr T e n a8 d))(ht:SlT P t e.size)
  (S:jv C s l d.length kk) (G:kk<=d.length):cG P C ⟨dst,.slice t x a6 l a6,ty,pos,dD,gd⟩ ⟨dst,.os o (n+1),[],[(o,.arr T e (n+1) a8 (d.take kk))]⟩ s:=by
 intro U V jY W h a w f hd
 let uL  :=(V x (by simp[cx])).trans hx
 let I  :=(jY o (.inr (by simp))).trans ho
 let m:jv C U l d.length kk:=by cases l with|none=>exact S|some y=>let ⟨k,z,X,p,q⟩:=S;exact⟨k,z,(V y (by simp[cx])).trans X,p,q⟩
 let ⟨Y,fx⟩:=uL▸f.ev x
 simp only[RepA]at Y
 obtain⟨T',e',m',z',yc,Z,hle,u,hc,X,iv⟩:=Y
 rw[I]at Z
 cases Z
 have c:=iv rfl
 clear iv
 let F:a.eval x=u:=by have  :=hc;generalize a.eval x=v at this fx;cases v<;>simp_all[gI,bS,alF]
 let ⟨et,i,J,K,L⟩:=ht
 let dA:(d.take kk).length=kk:=by rw[fl];omega
 let key:∃g,(execOp a.eval ⟨dst,.slice t x a6 l a6,ty,pos,dD,gd⟩).run P w=.ok (.value g) w/\g.oneCell'=bc/\fe (h o) kk g/\
   ((∃a,h o=.nil a/\d.take kk=[])\/a8=a8/\∃b cap cells,h o=.row b cap/\w.heap[b]?=ar (.cells cells T (0,0))/\(d.take kk).length<=cap/\cap<=maxLen/\cells.size=cap*e.size/\bO (bm w W e) (cells.toList.take ((d.take kk).length*e.size)) (d.take kk)):=by
  rcases f.obj o _ I with ⟨ad,M,rfl⟩|⟨_,b,cap,cells,M,j,hcap,A,B,hl⟩|⟨hz,_⟩
  ·simp only[eO,Nat.le_zero]at G;subst G;rw[M]at c⊢;simp only[fe]at c;subst c;let j:=iP (P:=P) w (lo:=a6) (len:=0) (cap:=0) rfl (fX m λo _=>f.ev o) (ep _) (ep _) bc;refine⟨.slice ad 0 0,?_,rfl,rfl,.inl ⟨ad,rfl,rfl⟩⟩;simp[execOp,F,yb,AF,run_underlying J,j,sizeOf,typeInfo,K,L]
  ·rw[M]at c⊢
   simp only[fe]at c;subst c;let N:=iP (P:=P) w (lo:=a6) (len:=d.length) (cap:=cap) rfl (fX m λo _=>f.ev o) (k7 kk) (by omega) bc;refine⟨.slice (ar ⟨b,0,a6⟩) kk cap,?_,rfl,rfl,.inr ⟨rfl,b,cap,cells,rfl,j,by omega,A,B,?_⟩⟩
   ·by_cases D:cap=0
    ·rw[D]at N F⊢;simp[execOp,F,yb,AF,run_underlying J,N,sizeOf,typeInfo,K,L]
    ·simp[execOp,F,yb,AF,run_underlying J,N,sizeOf,typeInfo,K,L,D,fP]
   ·let:=bO.take (bm.length e) hl kk;rw[List.take_take]at this;rw[dA];rw[Nat.min_eq_left (Nat.mul_le_mul_right _ G)]at this;exact this
  ·cases hz
 let ⟨g,g1,g2,g3,g4⟩:=key
 let kB:∀O,U.hp o=ar O->fo O (h o) (.arr T e (n+1) a8 (d.take kk)) (h o):=by intro O iF;rw[I]at iF;obtain rfl:=hY iF;exact⟨_,_,_,rfl,.inr (Nat.lt_succ_self _)⟩
 let hw:n4 w w (h o).blk:=⟨rfl,rfl,rfl,ep _,λ_ _ _=>rfl⟩
 let ev:=f.evObj kB hw
 refine⟨g,w,W,_,.inl g1,f.obj1 kB hw (λb j=>⟨(f.sep o b j).2.1,.inl j⟩) ?_ hd ?_⟩
 ·rcases g4 with ⟨b,p,q⟩|⟨h0,b,cap,cells,p,q,h4,h5,h6,h7⟩
  ·exact .inl ⟨b,p,q⟩
  ·exact .inr (.inl ⟨rfl,b,cap,cells,p,q,h4,h5,h6,bO.mono (bm.mono ev.fim ev.fheap e) _ _ h7⟩)
 ·refine cr.ofA ?_ (by cases g<;>simp_all[Value.oneCell',bS,alF]);simp only[RepA];exact⟨T,e,_,_,_,gO _ _ _,ep _,g,by rw[(sf g2).1],g2,λ_=>by rw[cU,dA];exact g3⟩
theorem Gl {P s t x j q o n l h T e v d}(A:s.ev C x=.os o n)(f:s.hp o=ar (.arr T e n v d))(B:SlT P t e.size)
  (D:jv C s j 0 l) (F:jv C s q d.length h) (G:l<h) (h2:h<=d.length):cG P C ⟨dst,.slice t x j q a6,ty,pos,dD,gd⟩ ⟨dst,.ow o n l<|h-l,[o],[]⟩ s:=
 gm [o] λw im μ hp ρ m I J=>by
  let ⟨K,L⟩:=A▸m x<|by simp[cx]
  let p  :=(I o<|by simp).trans f;let ⟨T',e',m',z',yc,y,M,u,N,O,S⟩:=K;rw[p]at y;cases y;have a:=S rfl;let ⟨et,i,U,V,W⟩:=B;rcases(J o _ p).arr with ⟨ad,c,rfl⟩|⟨b,cap,cs,c,z,_⟩
  ·grind
  ·have g:u=.slice (ar ⟨b,0,a6⟩) d.length cap:=by rcases c with c|c<;>rw[c]at a<;>exact a
   subst g;let X:=bj N L;let Y:=iP (P:=P) w (cap:=cap) (fX D λo f=>m o<|by subst f;simp[cx]) (fX F λo f=>m o<|by subst f;cases j<;>simp[cx]) (Nat.le_of_lt G) (by omega) bc;let Z:¬cap=l:=by omega
   refine⟨.slice (ar ⟨b,l*e.size,a6⟩) (h-l)<|cap-l,w,?_,rfl,rfl,rfl,rfl,?_,rfl⟩
   ·simp[execOp,X,yb,AF,run_underlying U,Y,sizeOf,typeInfo,V,W,Z,fP]
   ·exact⟨T,e,n,v,d,p,ep _,_,rfl,rfl,λ_=>⟨b,cap,c,rfl⟩⟩
theorem JE {P s t x d v o n j q l h T e y f}(D:s.ev C x=.ow o n j q)(c:s.hp o=ar (.arr T e n y f))(F:SlT P t e.size)
  (G:jv C s d 0 l) (I:jv C s v q h) (J:l<h) (h2:j+h<=f.length):cG P C ⟨dst,.slice t x d v a6,ty,pos,dD,gd⟩ ⟨dst,.ow o n (j+l)<|h-l,[o],[]⟩ s:=
 gm [o] λw im μ hp ρ g K L=>by
  let ⟨M,N⟩:=D▸g x<|by simp[cx]
  let m  :=(K o<|by simp).trans c;let ⟨T',e',m',z',yc,z,O,u,S,U,V⟩:=M;rw[m]at z;cases z;obtain⟨b,cap,qN,rfl⟩:=V rfl;let ⟨et,i,W,X,Y⟩:=F;rcases(L o _ m).arr with ⟨ad,A,rfl⟩|⟨p,a,cs,A,B,_⟩
  ·grind
  ·obtain⟨rfl,rfl⟩:p=b/\a=cap:=by
    grind
   let Z:=bj S N
   let hb:=iP (P:=P) w (cap:=a-j) (fX G λo c=>g o<|by subst c;simp[cx]) (fX I λo c=>g o<|by subst c;cases d<;>simp[cx]) (Nat.le_of_lt J) (by omega) bc
   let kC:¬a-j=l:=by omega
   refine⟨.slice (ar ⟨p,(j+l)*e.size,a6⟩) (h-l)<|a-(j+l),w,?_,rfl,rfl,rfl,rfl,?_,rfl⟩
   ·simp[execOp,Z,yb,AF,run_underlying W,hb,sizeOf,typeInfo,X,Y,kC,fP,nY,Nat.sub_sub]
   ·exact⟨T,e,n,y,f,m,ep _,_,rfl,rfl,λ_=>⟨p,a,A,rfl⟩⟩
def win (len:Nat)(l h:Int)  :=bif 0<=l&&(l<h&&h<=len)then ar (l.toNat,(h-l).toNat)else a6
theorem JF {len l h p}(a:win len l h=ar p):0<=l/\l<h/\h<=len/\p=(l.toNat,h.toNat-l.toNat):=by grind [win]
def arY pos  :=pos== "linear.go:45" ||pos== "move.go:92" ||pos== "slices.go:528"
def ahY pos  :=pos== "slices.go:428"
def po (E:Env)(t:TypeId)(x:Operand)(g:Option Operand)(h i:Operand)(s:LSt)(k:E1->Option R):Option R:=
 let c:=dq s.hp (s.ev E x).osl
 match TY (c++s.hp) (s.ev E x) a6 with
 |some ⟨e,_⟩=>
  bif mz E.P t e.size then
   (match toD (c++s.hp) (s.ev E x) (.slice e),qC E s g 0,qC E s (ar h) 0,qC E s (ar i) 0 with
   |some f,ar a,ar b,ar m=>bif a7 (0<=m)&&a7 (b<=m)&&a7 (m<=f.length)then (cut f a b).bind λj=>k ⟨.d (.slice e) j,(s.ev E x).osl,c,s.nx⟩else a6
   |_,_,_,_=>a6)
  else a6
 |none=>a6
theorem JG (c:C.Γ=E.gam){t x i j l}(h:po E t x l i j s k=ar r):gZ E C ⟨dst,.slice t x l (ar i)<|some j,ty,pos,dD,gd⟩ s k r:=by
 unfold po at h;simp only at h;split at h
 ·cases f:mz E.P t _ with
  |false=>rw[f]at h;cases h
  |true=>
   rw[f]at h;split at h
   ·rename_i o a b m p q u g;cases d:0<=m&&b<=m&&m<=o.length with|false=>rw[d]at h;cases h|true=>rw[d]at h;simp only[aX,decide_eq_true_eq]at d;let ⟨D,v,h⟩:=bC h;obtain⟨y,z,A,B,rfl⟩:=rb v;refine .frozen (e:=⟨_,_,[],s.nx⟩) (s.ev E x).osl h ?_;let n:=pg p;rw[bV]at n;exact JC (by rw[rh c];exact n) _ (by rw[rh c];exact λ_ h=>h) (gQ f) (jo c q y _) (jo c u A _) (jo c g d.1.1 _) (by omega) (by omega) z B
   ·cases h
 ·cases h
def sn (E:Env)(v kp:Bool)(t:TypeId)(x:Operand)(f g y:Option Operand)(s:LSt)(k:E1->Option R):Option R:=
 match y with
 |none=>
  (match s.ev E x with
  | .nils=>bif (match E.P.underlying t with|some (.slice e)=>(match E.P.info? e with|some _=>bc|none=>a8)|_=>a8)then
    (match qC E s f 0 with|some a=>(match qC E s g 0 with|some b=>bif (a==0)&&(b==0)then k (s.pv .nils)else a6|none=>a6)|none=>a6)
   else a6
  | .d .str l=>
   bif yv E.P t then
    (match qC E s f 0 with|some a=>(match qC E s g l.length with|some b=>(cut l a b).bind λi=>k (s.pv (.d .str i))|none=>a6)|none=>a6)
   else a6
  | .d (.slice e) c=>
   bif mz E.P t e.size then
    (match qC E s f 0 with|some a=>(match qC E s g c.length with|some b=>(cut c a b).bind λi=>k (s.pv (.d (.slice e) i))|none=>a6)|none=>a6)
   else a6
  | .os o n=>
   bif v then
    (match f with
    |some _=>a6
    |none=>
     (match aD s.hp o with
     |some (.arr T e m a8 c)=>
      bif dK n m&&mz E.P t e.size then
       (match qC E s g c.length with
       |some b=>(cut c 0 b).bind λi=>k ⟨.os o (n+1),[],[(o,.arr T e (n+1) a8 i)],s.nx⟩
       |none=>a6)
      else a6
     |_=>a6))
   else bif kp then
    (match aD s.hp o with
    |some (.arr _ e m _ c)=>
     bif dK n m&&mz E.P t e.size then
      (match qC E s f 0 with|some a=>(match qC E s g c.length with|some b=>(win c.length a b).bind λp=>k (s.pr (.ow o n p.1 p.2) [o])|none=>a6)|none=>a6)
     else a6
    |_=>a6)
   else
   let u:=dq s.hp [o]
   (match aD (u++s.hp) o with
   |some (.arr _ e m bc c)=>
    bif dK n m&&mz E.P t e.size then
     (match qC E s f 0 with|some a=>(match qC E s g c.length with|some b=>(cut c a b).bind λi=>k ⟨.d (.slice e) i,[o],u,s.nx⟩|none=>a6)|none=>a6)
    else a6
   |_=>a6)
  | .ow o n j q=>
   (match aD s.hp o with
   |some (.arr _ e m _ c)=>
    bif dK n m&&mz E.P t e.size then
     (match qC E s f 0 with|some a=>(match qC E s g q with|some b=>(win q a b).bind λp=>bif AD (j+q) c.length then k (s.pr (.ow o n (j+p.1) p.2) [o])else a6|none=>a6)|none=>a6)
    else a6
   |_=>a6)
  |_=>a6)
 |some m=>
  (match g with
  |none=>a6
  |some h=>
   bif w8 E s h&&w8 E s m then
    (match f with
    |some _=>a6
    |none=>
     (match E.P.underlying t with|some (.slice T)=>(match TY s.hp (s.ev E x) (lk E.ty T)with|some ⟨e,_⟩=>bif mz E.P t e.size then k (s.pr .emp (s.ev E x).objs)else a6|none=>a6)|_=>a6))
   else po E t x f h m s k)
theorem NO (d:C.Γ=E.gam){N kp t x O S U}(h:sn E N kp t x O S U s k=ar r):gZ E C ⟨dst,.slice t x O S U,ty,pos,dD,gd⟩ s k r:=by
 unfold sn at h;let ex:=cK d s x;split at h
 ·split at h
  ·rename_i u
   rw[u]at ex;cases c:match E.P.underlying t with|some (.slice e)=>(match E.P.info? e with|some _=>bc|none=>a8)|_=>a8 with
   |false=>rw[c]at h;cases h
   |true=>
    rw[c]at h;simp only[ai]at h;split at h
    ·rename_i a v
     split at h
     ·rename_i b g
      cases A:a==0&&b==0 with
      |false=>rw[A]at h;cases h
      |true=>
       rw[A]at h;simp only[aX,beq_iff_eq]at A;obtain⟨rfl,rfl⟩:=A;split at c
       ·rename_i e V
        split at c
        ·rename_i i W;exact .of _ h<|DP ex ⟨e,i,V,W,rfl⟩ (jo d v (DC 0) _)<|jo d g (DC 0) _
        ·cases c
       ·cases c
     ·cases h
    ·cases h
  ·rename_i l u
   rw[u]at ex;cases c:yv E.P t with
   |false=>rw[c]at h;cases h
   |true=>
    rw[c]at h;simp only[ai]at h;split at h
    ·rename_i a v
     split at h
     ·rename_i b g;let ⟨M,y,h⟩:=bC h;obtain⟨z,D,B,G,rfl⟩:=rb y;exact .of _ h<|F8 ex (tO c) (jo d v z _) (jo d g B _) D G
     ·cases h
    ·cases h
  ·rename_i e I u
   rw[u]at ex;cases c:mz E.P t _ with
   |false=>rw[c]at h;cases h
   |true=>
    rw[c]at h;simp only[ai]at h;split at h
    ·rename_i a v
     split at h
     ·rename_i b g;let ⟨M,y,h⟩:=bC h;obtain⟨z,D,B,G,rfl⟩:=rb y;exact .of _ h<|NB ex (gQ c) (jo d v z _) (jo d g B _) D G
     ·cases h
    ·cases h
  ·rename_i o n u
   cases K:N with
   |true=>
    rw[K]at h;simp only[ai]at h;rw[u]at ex;split at h
    ·cases h
    ·split at h
     ·rename_i T e m I F
      cases c:dK n m&&mz E.P t _ with
      |false=>rw[c]at h;cases h
      |true=>
       rw[c]at h;simp only[aX]at c;have J:=cb c.1;subst J;simp only[ai]at h;split at h
       ·rename_i b g;let ⟨M,y,h⟩:=bC h;obtain⟨z,D,B,G,rfl⟩:=rb y;let:=Bh (dst:=dst) (ty:=ty) (pos:=pos) (dD:=dD) (gd:=gd) ex F (gQ c.2) (jo d g B _) G;rw[(rfl:(I.take _).drop (0:Int).toNat=I.take _)]at h;exact .of _ h this
       ·cases h
     ·cases h
   |false=>
   rw[K]at h;simp only[al]at h;cases L:kp with
   |true=>
    rw[L]at h;simp only[ai]at h;rw[u]at ex;split at h
    ·rename_i T e m X I F
     cases c:dK n m&&mz E.P t _ with
     |false=>rw[c]at h;cases h
     |true=>
      rw[c]at h;simp only[aX]at c;have J:=cb c.1;subst J;split at h
      ·rename_i a v
       split at h
       ·rename_i b g;let ⟨p,y,h⟩:=bC h;obtain⟨z,D,B,rfl⟩:=JF y;exact .of _ h<|Gl ex F (gQ c.2) (jo d v z _) (jo d g (by omega) _) (by omega)<|by omega
       ·cases h
      ·cases h
    ·cases h
   |false=>
   rw[L]at h;simp only[al]at h;split at h
   ·rename_i T e m I F
    cases c:dK n m&&mz E.P t _ with
    |false=>rw[c]at h;cases h
    |true=>
     rw[c]at h;simp only[aX]at c;have J:=cb c.1;subst J;split at h
     ·rename_i a v
      split at h
      ·rename_i b g;let ⟨M,y,h⟩:=bC h;obtain⟨z,D,B,G,rfl⟩:=rb y;refine .frozen (e:=⟨_,[o],[],s.nx⟩) [o] h ?_;rw[bV]at F;exact NK (by rw[rh d,u];exact .os F) _ (by rw[rh d,u];exact λ_ h=>h) (gQ c.2) (jo d v z _) (jo d g B _) D G
      ·cases h
     ·cases h
   ·cases h
  ·rename_i o n j q u
   rw[u]at ex;split at h
   ·rename_i T e m X I F
    cases c:dK n m&&mz E.P t _ with
    |false=>rw[c]at h;cases h
    |true=>
     rw[c]at h;simp only[aX]at c;have J:=cb c.1;subst J;split at h
     ·rename_i a v
      split at h
      ·rename_i b g;let ⟨p,y,h⟩:=bC h;obtain⟨z,D,B,rfl⟩:=JF y;cases f:AD _ _ with|false=>rw[f]at h;cases h|true=>rw[f]at h;let:=gx f;exact .of _ h<|JE ex F (gQ c.2) (jo d v z _) (jo d g (by omega) _) (by omega)<|by omega
      ·cases h
     ·cases h
   ·cases h
  ·cases h
 ·rename_i m
  split at h
  ·cases h
  ·rename_i Y
   cases c:w8 E s Y&&w8 E s m with
   |false=>rw[c]at h;exact JG d h
   |true=>
    rw[c]at h;simp only[aX]at c;split at h
    ·cases h
    ·split at h
     ·split at h
      ·rename_i e I Z;cases f:mz E.P t _ with|false=>rw[f]at h;cases h|true=>rw[f]at h;exact .of _ h<|F9 ex (sg Z) (gQ f) rfl (yw d c.1)<|yw d c.2
      ·cases h
     ·cases h
def Gm :Operand->Operand->Bool
 | .tmp a,.tmp b=>dK a b
 |_,_=>a8
theorem JH {x y}(h:Gm x y=bc):x=y:=by unfold Gm at h;grind [cb]
def w9 (E:Env)(t:TypeId)(x y:Operand)(s:LSt)(k:E1->Option R):Option R:=
 match T0 E t,s.ev E x,s.ev E y with
 |some (T,e),.d (.int _) n,.d (.int _) a=>bif Gm x y||n==a then (mk n (pf e)).bind λl=>qw s.hp s.nx (k ⟨.os s.nx 0,[],[(s.nx,.arr T e 0 a8 l)],s.nx+1⟩)else a6
 |_,_,_=>a6
theorem Ue (g:E.OK)(a:C.Γ=E.gam){d:Nat}{t x y}(h:w9 E t x y s k=ar r):gZ E C ⟨ar d,.makeSlice t x y,ty,pos,dD,gd⟩ s k r:=by
 unfold w9 at h;let ex:=cK a s x;let b:=cK a s y;split at h
 ·rename_i T e z n A c i j m
  rw[j]at ex;rw[m]at b;cases f:Gm x y||n==c with
  |false=>rw[f]at h;cases h
  |true=>
   rw[f]at h;let ⟨l,o,h⟩:=bC h;let ⟨p,h⟩:=kQ h;obtain⟨q,u,rfl⟩:=ahP o;have v:c=n:=by grind [JH]
   subst v;exact .of _ h<|Gb (m4 g i) p ex b q u
 ·cases h
def apD (e a:Ty)(b:List e.den):Option (List a.den):=if h:e=a then ar (h▸b)else a6
theorem Bi {P s x t T}(c:s.ev C x=.nils\/s.ev C x=.emp)(g:P.underlying t=ar (.slice T)):
  cG P C ⟨dst,.call ⟨.builtin .cap, #[x], #[t]⟩,ty,pos,dD,gd⟩ ⟨dst,.d (.int .i64) 0,[],[]⟩ s:=
 bJ λw l m hp i h=>by
  let ⟨e,j⟩:∃e,i x=.slice e 0 0:=by
   let a:=h x<|by simp[cx,pd]
   rcases c with c|c<;>rw[c]at a<;>let ⟨b,f⟩:=a<;>simp only[RepA]at b
   ·exact⟨a6,bj b f⟩
   ·let ⟨e,b⟩:=b;exact⟨e,bj b f⟩
  refine⟨.int .i64 0,?_,by simp[RepA,bm,gI],rfl⟩;simp[execOp,resolve,invoke,builtin,j,Builtin.cap_,run_underlying g,goInt]
theorem zf {P s d o t T l x y e G I}{n:Int}(p:ElT P t T e)(q:P.underlying l=ar (.int G))(M:s.hp o=a6)(N:s.ev C x=.nils)(O:s.ev C y=.d (.int I) n)
  (u:0<n) (S:n<=lim):cG P C ⟨ar d,.call ⟨.builtin .append, #[x,y], #[t,l]⟩,ty,pos,dD,gd⟩ ⟨ar d,.os o 0,[],[(o,.arr T e 0 a8<|eo n.toNat<|pf e)]⟩ s:=by
 intro s1 J U K μ a w v V
 let W  :=(J x<|by simp[cx,pd]).trans N
 let X  :=(U o<| .inr<|by simp).trans M
 let e2:=iO<|(J y<|by simp[cx,pd]).trans O▸v.ev y
 let ⟨Y,Z⟩:=W▸v.ev x
 let hv:=bj Y Z
 let ⟨i,z,jZ,qA,Dz,A,L⟩:=p.info
 obtain⟨m,rfl⟩:=q8<|Int.le_of_lt u
 let hm:m<=4294967296:=by unfold lim at S;omega
 let B:0<m:=by omega
 let b:z.cells.size=e.size:=by rw[←Array.length_toList,L,(dR default (λ_=>True) e).length]
 let j  :=Nat.mul_le_mul hm Dz
 let c:=Go.Lib.run_append_grow_zeros w t l ty T i z I G p.und q jZ A a6 0 0 [] (run_firstCells_none _ _ _ _ _) m B (by rw[qA];exact p.pos) (by omega) (by omega) (by omega)<|growslice_fits (by omega)<|by rw[hM];omega
 simp only[hM]at c
 let MW:=grownCap_ge w m 0 T
 let M8:=grownCap_le_maxLen w m 0 T<|by unfold maxLen;omega
 let D:=oE L m
 let F:(tl _ m).toList=(eo m _).flatten:=by rw[←D];unfold tl;rw[b]
 let f:=bO.replicate (dR w K e) m
 let h:=f.length<|bm.length e
 let g:=v.newArr (w1:=w.drew) rfl rfl rfl rfl (V d rfl) X (cells:= #[]++tl z.cells m++tl z.cells (grownCap w m 0 T-m)) (T:=T) (xs:=eo m _) (by simpa using MW) M8 (by
   simp only[Array.size_append,size_zeroCells,b,←nY,Array.size_empty,hM];congr 1;omega)<|by
   simp only[Nc,F,List.nil_append];rw[←h,List.take_left];exact f
 rw[List.length_replicate]at g
 refine⟨_,_,K,_,.inl ?_,g⟩
 simp only[execOp,resolve,invoke,builtin,hF,Sem.run_pure,eE,List.map_toArray,ox,List.map_nil,hv,e2,c]
def EB (E:Env)(t:TypeId)(x:Operand)(s:LSt)(k:E1->Option R):Option R:=
 match E.P.underlying t with|some (.slice _)=>(match s.ev E x with| .nils=>k (s.pv (.d (.int .i64) 0))| .emp=>k (s.pv (.d (.int .i64) 0))|_=>a6)|_=>a6
theorem ZL (c:C.Γ=E.gam){t x}(h:EB E t x s k=ar r):gZ E C ⟨dst,.call ⟨.builtin .cap, #[x], #[t]⟩,ty,pos,dD,gd⟩ s k r:=by
 unfold EB at h;let ex:=cK c s x;split at h
 ·rename_i T b
  split at h
  ·rename_i a;exact .of _ h<|Bi (.inl<|ex.trans a) b
  ·rename_i a;exact .of _ h<|Bi (.inr<|ex.trans a) b
  ·cases h
 ·cases h
def mI (E:Env)(t a:TypeId)(x y:Operand)(s:LSt)(k:E1->Option R):Option R:=
 match E.P.underlying a with
 |some (.int _)=>
  (match T0 E t with
  |some (T,e)=>
   (match s.ev E x,s.ev E y with| .nils,.d (.int _) n=>bif a7 (0<n)&&a7 (n<=lim)then qw s.hp s.nx (k ⟨.os s.nx 0,[],[(s.nx,.arr T e 0 a8 (eo n.toNat (pf e)))],s.nx+1⟩)else a6|_,_=>a6)
  |none=>a6)
 |_=>a6
theorem Gn (g:E.OK)(b:C.Γ=E.gam){d t c x y}(h:mI E t c x y s k=ar r):gZ E C ⟨ar d,.call ⟨.builtin .append, #[x,y], #[t,c]⟩,ty,pos,dD,gd⟩ s k r:=by
 unfold mI at h;let ex:=cK b s x;let f:=cK b s y;split at h
 ·rename_i p i
  split at h
  ·rename_i T e j
   split at h
   ·rename_i kk n l m;rw[l]at ex;rw[m]at f;cases a:0<n&&n<=lim with|false=>rw[a]at h;cases h|true=>rw[a]at h;simp only[aX,decide_eq_true_eq]at a;let ⟨o,h⟩:=kQ h;exact .of _ h<|zf (m4 g j) i o ex f a.1 a.2
   ·cases h
  ·cases h
 ·cases h
def pq (E:Env)(t d:TypeId)(x y:Operand)(s:LSt)(k:E1->Option R):Option R:=
 bif dK t d then
  (match T0 E t with
  |some (T,e)=>
   (match arU s.hp (s.ev E y) e with
   |some b=>
    (match s.ev E x with
    | .nils=>(app [] b).bind λa=>qw s.hp s.nx (k ⟨.os s.nx 0,(s.ev E y).objs,[(s.nx,.arr T e 0 a8 a)],s.nx+1⟩)
    | .emp=>(app [] b).bind λa=>qw s.hp s.nx (k ⟨.os s.nx 0,(s.ev E y).objs,[(s.nx,.arr T e 0 a8 a)],s.nx+1⟩)
    | .os o n=>
     (match aD s.hp o with
     |some (.arr f g m a8 c)=>
      bif dK T f&&dK n m then
       (match apD g e c with
       |some c=>(app c b).bind λa=>k ⟨.os o (n+1),(s.ev E y).objs,[(o,.arr T e (n+1) a8 a)],s.nx⟩
       |none=>a6)
      else a6
     |_=>a6)
    |_=>a6)
   |none=>a6)
  |none=>a6)
 else a6
theorem JI (g:E.OK)(v:C.Γ=E.gam){t i x y}(h:pq E t i x y s k=ar r):gZ E C ⟨dst,.call ⟨.builtin .append, #[x,y], #[t,i]⟩,ty,pos,dD,gd⟩ s k r:=by
 unfold pq at h;let ex:=cK v s x;let j:=cK v s y;cases l:dK t i with
 |false=>rw[l]at h;cases h
 |true=>
  rw[l]at h;have:=cb l;subst this;split at h
  ·rename_i T e p
   split at h
   ·rename_i J q
    let a:=TX q;split at h
    ·rename_i b;rw[b]at ex;let ⟨z,c,h⟩:=bC h;let ⟨u,h⟩:=kQ h;obtain⟨d,rfl⟩:=A3 c;exact .of _ h<|tv (m4 g p) u (.inl ex) j a<|by simpa using d
    ·rename_i b;rw[b]at ex;let ⟨z,c,h⟩:=bC h;let ⟨u,h⟩:=kQ h;obtain⟨d,rfl⟩:=A3 c;exact .of _ h<|tv (m4 g p) u (.inr ex) j a<|by simpa using d
    ·rename_i o n b
     rw[b]at ex;split at h
     ·rename_i A B m K D
      cases f:dK T A&&dK n m with
      |false=>rw[f]at h;cases h
      |true=>
       rw[f]at h;simp only[aX]at f;have F:=cb f.1;have G:=cb f.2;subst F G;unfold apD at h;by_cases I:B=e
       ·subst I;simp only[dite_true]at h;let ⟨z,c,h⟩:=bC h;obtain⟨d,rfl⟩:=A3 c;exact .of _ h<|Gc (m4 g p) ex D j a d
       grind
     ·cases h
    ·cases h
   ·cases h
  ·cases h
def EC (E:Env)(t:TypeId)(x:Operand)(s:LSt)(k:E1->Option R):Option R:=
 match s.ev E x with
 | .d .str l=>bif yv E.P t then k (s.pv (.d (.int .i64) (l.length:Int)))else a6
 |a=>
  (match E.P.underlying t with|some (.slice T)=>(match TY s.hp a (lk E.ty T)with|some ⟨e,b⟩=>bif mz E.P t e.size then k (s.pr (.d (.int .i64) (b.length:Int)) a.objs)else a6|none=>a6)|_=>a6)
theorem ZM (b:C.Γ=E.gam){t x}(h:EC E t x s k=ar r):gZ E C ⟨dst,.call ⟨.builtin .len, #[x], #[t]⟩,ty,pos,dD,gd⟩ s k r:=by
 unfold EC at h;let ex:=cK b s x;split at h
 ·rename_i l c;rw[c]at ex;cases a:yv E.P t with|false=>rw[a]at h;cases h|true=>rw[a]at h;exact .of _ h<|Ny ex<|tO a
 ·split at h
  ·split at h
   ·rename_i e f d;cases a:mz E.P t _ with|false=>rw[a]at h;cases h|true=>rw[a]at h;exact .of _ h<|F7 ex (sg d)<|gQ a
   ·cases h
  ·cases h
def ED (E:Env)(x y:Operand)(s:LSt)(k:E1->Option R):Option R:=
 match s.ev E x,s.ev E y with| .d (.int c) a,.d (.int _) b=>k (s.pv (.d (.int c) (if b>a then b else a)))|_,_=>a6
theorem ZN (c:C.Γ=E.gam){e x y}(h:ED E x y s k=ar r):gZ E C ⟨dst,.call ⟨.builtin .max, #[x,y],e⟩,ty,pos,dD,gd⟩ s k r:=by
 unfold ED at h;let ex:=cK c s x;let d:=cK c s y;split at h
 ·rename_i i a j b f g;rw[f]at ex;rw[g]at d;exact .of _ h<|arS ex d
 ·cases h
def EE (E:Env)(x y:Operand)(s:LSt)(k:E1->Option R):Option R:=
 match s.ev E x,s.ev E y with| .d (.int c) a,.d (.int _) b=>k (s.pv (.d (.int c) (if b<a then b else a)))|_,_=>a6
theorem ZO (c:C.Γ=E.gam){e x y}(h:EE E x y s k=ar r):gZ E C ⟨dst,.call ⟨.builtin .min, #[x,y],e⟩,ty,pos,dD,gd⟩ s k r:=by
 unfold EE at h;let ex:=cK c s x;let d:=cK c s y;split at h
 ·rename_i i a j b f g;rw[f]at ex;rw[g]at d;exact .of _ h<|arT ex d
 ·cases h
def zL (P:Program):List Field->Option (List (Nat×Nat))
 |[]=>ar []
 |f::l=>match P.info? f.type with|some i=>(match zL P l with|some r=>ar ((f.offset,i.size)::r)|none=>a6)|none=>a6
theorem ri {P}:∀{l} {a},zL P l=ar a->l.length=a.length/\∀(i:Nat) (f) (p),l[i]?=ar f->a[i]?=ar p->f.offset=p.1/\∃b,P.info? f.type=ar b/\b.size=p.2
 |[],a,h=>by cases h;exact⟨rfl,λi f p c=>by simp at c⟩
 |f::l,a,h=>by
  simp only[zL]at h;split at h
  ·split at h
   ·rename_i e d;let ⟨g,j⟩:=ri d;grind
   ·cases h
  ·cases h
def bld (E:Env)(s:LSt)(c:List (Nat×Nat)):List (Nat×Operand)->AV->(AV->Option R)->Option R
 |[],v,k=>k v
 |(i,x)::l,v,k=>
  bif (s.ev E x).plain then
   (match c[i]? with|some (b,d)=>bif dK (s.ev E x).asize d then jm v [i] (s.ev E x) (λa e=>bif dK a b then bld E s c l e k else a6)else a6|none=>a6)
  else a6
theorem JJ (m:C.Γ=E.gam){n}:∀{l} {v} {k},bld E s n l v k=ar r->∃c,wW C s.toA n l v c/\k c=ar r
 |[],v,k,h=>⟨v,.nil,h⟩
 |(i,x)::l,v,k,h=>by
  simp only[bld]at h;cases hp:(s.ev E x).plain with
  |false=>rw[hp]at h;cases h
  |true=>
   rw[hp]at h;split at h
   ·rename_i d o e
    cases f:dK (s.ev E x).asize o with|false=>rw[f]at h;cases h|true=>rw[f]at h;let ⟨a,c,p,b⟩:=si v [i] _ _ r h;cases g:dK a d with|false=>rw[g]at b;cases b|true=>rw[g]at b;let ⟨j,q,t⟩:=JJ m b;exact⟨j,.cons (cK m s x) hp e (cb f) p (cb g) q,t⟩
   ·cases h
def Gp (E:Env)(s:LSt)(e:Ty)(n:Nat):List (Nat×Operand)->Option (List (Nat×e.den))
 |[]=>ar []
 |(i,x)::l=>bif h8 i n then (match s.ev E x with| .d a y=>(if h:a=e then (match Gp E s e n l with|some r=>ar ((i,h▸y)::r)|none=>a6)else a6)|_=>a6)else a6
theorem yx {e n}:∀{l} {a},Gp E s e n l=ar a->l.length=a.length/\∀(k i:Nat) (x),l[k]?=ar (i,x)->∃y,a[k]?=ar (i,y)/\s.ev E x=.d e y/\i<n
 |[],a,h=>by cases h;exact⟨rfl,λk i x b=>by simp at b⟩
 |(i,x)::l,a,h=>by
  simp only[Gp]at h;cases c:h8 i n with
  |false=>rw[c]at h;cases h
  |true=>
   rw[c]at h;split at h
   ·split at h
    ·split at h
     ·rename_i o f;cases h;let ⟨g,m⟩:=yx f;refine⟨by simp[g],λk j u b=>?_⟩;cases k with|zero=>simp_all|succ k=>exact m k j u<|by simpa using b
     ·cases h
    ·cases h
   ·cases h
def sq (E:Env)(t:TypeId)(a:Array (Nat×Operand))(s:LSt)(k:E1->Option R):Option R:=
 match E.P.underlying t,lk E.ty t with
 |some (.struct b),ar c=>
  (match zL E.P b.toList with|some f=>bld E s f a.toList (uW c) (λv=>bif v.isAgg then k (s.pv v)else a6)|none=>a6)
 |some (.array _ _),ar (.arr n e)=>bif Ud E t n e then (match Gp E s e n a.toList with|some g=>k (s.pv (.d (.arr n e) (mV (eo n (pf e)) g)))|none=>a6)else a6
 |_,_=>a6
theorem NP (o:E.OK)(p:C.Γ=E.gam){t a}(h:sq E t a s k=ar r):gZ E C ⟨dst,.build t a,ty,pos,dD,gd⟩ s k r:=by
 unfold sq at h;split at h
 ·rename_i u B q c
  split at h
  ·rename_i D d;let ⟨v,f,b⟩:=JJ p h;let ⟨i,z,g1,g2,g3,g4,g5⟩:=(o.ty _<|jn c).info;cases g:v.isAgg with|false=>rw[g]at b;cases b|true=>rw[g]at b;exact .of _ b<|ZD ⟨u,q,(ri d).1,(ri d).2⟩ ⟨i,z,g1,g4,g5⟩ f g
  ·cases h
 ·rename_i T m n e q c
  cases j:Ud E t n e with
  |false=>rw[j]at h;cases h
  |true=>
   rw[j]at h;split at h
   ·rename_i F l;let ⟨f,b⟩:=yx l;exact .of _ h<|Jw (JD o j) f λk i x A=>by let ⟨y,g1,g2,g3⟩:=b k i x A;let ex:=cK p s x;exact⟨y,g1,by rw[←g2];exact ex,g3⟩
   ·cases h
 ·cases h
def Gq (E:Env)(hp:LHp)(s:LSt)(e:Ty)(n:Nat):List (Nat×Operand)->Option (List<|Nat×e.den)
 |[]=>ar []
 |(i,x)::l=>bif h8 i n then match toD hp (s.ev E x) e with|some y=>(match Gq E hp s e n l with|some r=>ar ((i,y)::r)|none=>a6)|none=>a6 else a6
theorem yz {hp e n}:∀{l} {a},Gq E hp s e n l=ar a->l.length=a.length/\∀(k i:Nat) (x),l[k]?=ar (i,x)->∃y,a[k]?=ar (i,y)/\lI (aD hp) (s.ev E x) e y/\i<n
 |[],a,h=>by cases h;exact⟨rfl,λk i x b=>by simp at b⟩
 |(i,x)::l,a,h=>by
  simp only[Gq]at h;cases c:h8 i n with
  |false=>rw[c]at h;cases h
  |true=>
   rw[c]at h;split at h
   ·split at h
    ·rename_i o d;cases h;let ⟨f,g⟩:=yz d;refine⟨by simp[f],λk j m b=>?_⟩;cases k with|zero=>simp_all[pg]|succ k=>simpa using g k j m<|by simpa using b
    ·cases h
   ·cases h
def tP (E:Env)(s:LSt):List (Nat×Operand)->List Nat
 |[]=>[]
 |(_,x)::l=>(s.ev E x).osl++tP E s l
theorem Bj {x}:∀{l} {k i:Nat},l[k]?=ar (i,x)->∀o∈(s.ev E x).osl,o∈tP E s l
 |[],_,_,h,_,_=>by simp at h
 |(j,y)::l,0,i,h,o,a=>by grind [tP]
 |(j,y)::l,k+1,i,h,o,a=>by simp only[tP,q7];exact .inr<|Bj (by simpa using h) o a
def EF (E:Env)(t:TypeId)(n:Nat)(a:Array (Nat×Operand))(s:LSt)(k:E1->Option R):Option R:=
 match T0 E t with
 |some (T,e)=>
  bif dK n 0&&a.toList.isEmpty then k (s.pv .emp)else
   let c:=tP E s a.toList;let b:=dq s.hp c
   (match Gq E (b++s.hp) s e n a.toList with|some d=>bif AD (n*e.size) (2 ^ 24)then qw (b++s.hp) s.nx (k ⟨.os s.nx 0,c,[(s.nx,.arr T e 0 a8 (mV (eo n (pf e)) d))]++b,s.nx+1⟩)else a6|none=>a6)
 |none=>a6
theorem ZP (g:E.OK)(j:C.Γ=E.gam){d:Nat}{t n a}(h:EF E t n a s k=ar r):gZ E C ⟨ar d,.buildSlice t n a,ty,pos,dD,gd⟩ s k r:=by
 unfold EF at h;split at h
 ·rename_i T e l
  cases b:dK n 0&&a.toList.isEmpty with
  |true=>
   simp only[aX]at b;have p:=cb b.1;subst p;have hp  :=by simpa using b.2
   subst hp;exact .of _ h<|ahV<|m4 g l
  |false=>
   rw[b]at h;simp only at h;split at h
   ·rename_i z c;cases f:AD _ _ with|false=>rw[f]at h;cases h|true=>rw[f]at h;let ⟨m,h⟩:=kQ h;let ⟨g1,g2⟩:=yz c;refine .frozen (e:=⟨_,_,_,_⟩) _ h ?_;rw[bV]at m g2;exact A9 _ (m4 g l) m (gx f) g1 (λk i x o=>by let ⟨y,q,u,v⟩:=g2 k i x o;exact⟨y,q,by rw[rh j];exact u,by rw[rh j];exact Bj o,v⟩) rfl
   ·cases h
 ·cases h
def mJ (E:Env)(x:Operand)(i:Nat)(s:LSt)(k:E1->Option R):Option R:=
 match s.ev E x with| .tup l=>(match l[i]? with|some a=>k (s.pv a)|none=>a6)|_=>a6
theorem Gr (b:C.Γ=E.gam){x i}(h:mJ E x i s k=ar r):gZ E C ⟨dst,.extract x i,ty,pos,dD,gd⟩ s k r:=by
 unfold mJ at h;let ex:=cK b s x;split at h
 ·rename_i l c
  rw[c]at ex;split at h
  ·rename_i a d;exact .of _ h<|Nw ex d
  ·cases h
 ·cases h
def evs (E:Env)(s:LSt):List Operand->List AV
 |[]=>[]
 |x::l=>s.ev E x::evs E s l
theorem p7 (a:C.Γ=E.gam):∀l,l.map (s.toA.ev C)=evs E s l
 |[]=>rfl
 |x::l=>by simp only[ox,evs,cK a,p7 a l]
def ZQ (l:List AV)  :=l.all AV.plain
def xa (E:Env)(f:Fn)(first a:Array Operand)(s:LSt)(k:E1->Option R):Option R:=
 match first.toList with|[]=>bif ZQ (evs E s a.toList)then k (s.pv (.fn f [] (evs E s a.toList)))else a6|_=>a6
theorem Uf (d:C.Γ=E.gam){f first b}(h:xa E f first b s k=ar r):gZ E C ⟨dst,.makeFunc f first b,ty,pos,dD,gd⟩ s k r:=by
 unfold xa at h;split at h
 ·rename_i e
  have  :=by simpa using e
  subst this;cases c:ZQ _ with|false=>rw[c]at h;cases h|true=>rw[c]at h;exact .of _ h<|Ju (p7 d _) λa g=>gv.1 c a g
 ·cases h
def Ug (P:Program)(t:TypeId):Bool:=match P.underlying t with|some (.interface _)=>a8|some _=>bc|none=>a8
theorem EG {P t}(h:Ug P t=bc):arR P t:=by
 unfold Ug at h;split at h
 ·cases h
 ·rename_i d b a;exact⟨d,a,by split<;>simp_all⟩
 ·cases h
def sr E t x (s:LSt) (k:E1->Option R)  :=
 bif (s.ev E x).plain&&Ug E.P t then k (s.pv<| .iface t<|s.ev E x)else a6
theorem NQ (b:C.Γ=E.gam){t x}(h:sr E t x s k=ar r):gZ E C ⟨dst,.makeInterface t x,ty,pos,dD,gd⟩ s k r:=by unfold sr at h;cases a:(s.ev E x).plain&&Ug E.P t with|false=>rw[a]at h;cases h|true=>rw[a]at h;simp only[aX]at a;exact .of _ h<|Gh (cK b s x) a.1<|EG a.2
def pt (E:Env)(x:Operand)(t:TypeId)(ok:Bool)(s:LSt)(k:E1->Option R):Option R:=
 match s.ev E x,ok with| .iface a (.d (.int kk) n),bc=>bif dK a t&&Ug E.P t then k (s.pv (.tup [.d (.int kk) n,.d .bool bc]))else a6|_,_=>a6
theorem JK (b:C.Γ=E.gam){x c t ok}(h:pt E x t ok s k=ar r):gZ E C ⟨dst,.typeAssert x c t ok,ty,pos,dD,gd⟩ s k r:=by
 unfold pt at h;let ex:=cK b s x;split at h
 ·rename_i d kk n e;rw[e]at ex;cases a:dK d t&&Ug E.P t with|false=>rw[a]at h;cases h|true=>rw[a]at h;simp only[aX]at a;have:=cb a.1;subst this;exact .of _ h<|DO ex<|EG a.2
 ·cases h
theorem Bk {P s x o m i T e f g}(j:s.ev C x=.oe o m i)(l:s.hp o=ar (.arr T e m f g)):cG P C ⟨dst,.nilCheck x,ty,pos,dD,gd⟩ ⟨dst,.oe o m i,[o],[]⟩ s:=
 gm [o] λw G I hp c h n J=>by
  let a  :=j▸h x<|by simp[cx]
  let p:=a;let ⟨q,t⟩:=p;let y  :=(n o<|by simp).trans l;let ⟨K,L,M,N,O,d,z,u,A,S,B⟩:=q;rw[y]at d;cases d;obtain⟨b,D,U,rfl⟩:=B rfl;let F:c x=.pointer (ar ⟨b,i*e.size,a6⟩):=by generalize c x=v at A t;cases v<;>simp_all[gI,bS,alF]
  exact⟨c x,w,by simp[execOp,F],rfl,rfl,rfl,rfl,a⟩
def EH (E:Env)(x:Operand)(s:LSt)(k:E1->Option R):Option R:=
 match s.ev E x with| .op o p a=>k (s.pv (.op o p a))| .ip b y=>k (s.pv (.ip b y))| .oe o m i=>(match aD s.hp o with|some (.arr _ _ c _ _)=>bif dK m c then k (s.pr (.oe o m i) [o])else a6|_=>a6)|_=>a6
theorem ZR (c:C.Γ=E.gam){x}(h:EH E x s k=ar r):gZ E C ⟨dst,.nilCheck x,ty,pos,dD,gd⟩ s k r:=by
 unfold EH at h;let ex:=cK c s x;split at h
 ·rename_i o p d a;rw[a]at ex;exact .of _ h<|A4 ex
 ·rename_i j y a;rw[a]at ex;exact .of _ h<|A5 ex
 ·rename_i o m i a
  rw[a]at ex;split at h
  ·rename_i T e f l n g;cases b:dK m f with|false=>rw[b]at h;cases h|true=>rw[b]at h;have:=cb b;subst this;exact .of _ h<|Bk ex g
  ·cases h
 ·cases h
end
end Go.Vm
namespace Go.Vm
universe u
variable {R:Type}{E:Env}{P:Program}{C:Ctx}{s:LSt}{r:R}{k:E1->Option R}
variable {dst:Option Tmp}{ty:TypeId}{pos:String}{dD:Array Edge}{gd:Option (Nat×Bool)}
inductive NR (hp:Hp):AV->(e:Ty)->List e.den->Prop
 |s {a:AV} {e:Ty} {xs:List e.den}:Src hp a e xs->NR hp a e xs
 |w {o n j q:Nat} {T:TypeId} {e:Ty} {z:Bool} {xs:List e.den}:hp o=ar (.arr T e n z xs)->j+q<=xs.length->NR hp (.ow o n j q) e ((xs.drop j).take q)
theorem NR.hp {hp b a e c}(h:NR hp a e c)(d:∀k∈a.objs,b k=hp k):NR b a e c:=by cases h with|s h=>exact .s (h.hp d)|w f g=>exact .w ((d _ (by simp[AV.objs])).trans f) g
theorem NR.sound {w d μ hp a e i v}(h:NR hp a e i)(l:cr w d μ hp a v)
  (m:∀k p,hp k=ar p->mP w d μ hp (μ k) p):arP w d e i v:=by
 cases h with
 |s h=>exact h.sound l m
 | @w o n j q T e z B t x=>
  let ⟨D,F⟩:=l;let ⟨O,S,U,V,W,y,G,u,I,X,J⟩:=D;rw[t]at y;cases y;obtain⟨b,cap,Y,rfl⟩:=J rfl;rcases(m o _ t).arr with ⟨Z,K,rfl⟩|⟨A,c,L,K,I0,IM,f,M⟩
  ·grind
  ·let g:A=b/\c=cap:=by
    grind
   obtain⟨rfl,rfl⟩:=g
   let N:((B.drop j).take q).length=q:=by rw[fl,km];omega
   refine⟨_,_,by rw[N];exact bj I F,by omega,.inr ⟨A,_,(L.drop (j*e.size)).take (q*e.size),rfl,?_,?_⟩⟩
   ·let:=f.sub (j*e.size) (q*e.size);grind
   grind [bO.take,bm.length,bO.drop]
end Go.Vm
namespace Go.Vm
variable {R:Type}
mutual
def AV.refs :AV->List Nat
  | .op o _ _=>[o]
  | .os o _=>[o]
  | .oe o _ _=>[o]
  | .ow o _ _ _=>[o]
  | .pr a b=>a.refs++b.refs
  | .fn _ first c=>refsL first++refsL c
  | .iface _ v=>v.refs
  | .tup l=>refsL l
  | .ref o=>[o]
  |_=>[]
def refsL :List AV->List Nat
  |[]=>[]
  |a::l=>a.refs++refsL l
end
def apE :List (ao×AV)->List Nat
 |[]=>[]
 |(_,a)::l=>a.refs++apE l
def apF :List (Nat×AV)->List Nat
 |[]=>[]
 |(_,a)::l=>a.refs++apF l
def j3.refs :j3->List Nat
 | .map l=>apE l
 | .loop _ a _=>apF a
def ji (hp:LHp):Nat->List Nat->List Nat->List Nat
 |0,_,seen=>seen
 |_+1,[],seen=>seen
 |n+1,o::a,seen=>
  bif seen.any (dK o)then ji hp n a seen else
   match aD hp o with|some (.box v)=>ji hp n (v.refs++a) (o::seen)|some (.arr _ _ _ _ _)=>ji hp n a (o::seen)|some (.rc r)=>ji hp n (r.refs++a) (o::seen)|none=>ji hp n a seen
def JL (hp:LHp)(o:Nat):jw:=match aD hp o with|some (.arr _ _ m _ _)=>.reset m|_=>.keep
def Gs (hp:LHp)(o:Nat):jw:=match aD hp o with|some (.arr _ _ m _ _)=>.shift m|_=>.keep
def nN (hp:LHp)(a:Sg):Sg->Option LHp
 |[]=>ar []
 |(o,b,c)::r=>
  match aD hp o with|some d=>(match d.ren a c with|some e=>(match nN hp a r with|some l=>ar ((b,e)::l)|none=>a6)|none=>a6)|none=>a6
theorem EI {hp a o b c}{r:Sg}{l}(h:nN hp a ((o,b,c)::r)=ar l):∃d e f,aD hp o=ar d/\d.ren a c=ar e/\nN hp a r=ar f/\l=(b,e)::f:=by grind [nN]
theorem Sg.inv_of_get' :∀{d:Sg} {o c} {e},d.get o=ar (c,e)->∃p,d.inv c=ar p
 |[],_,_,_,h=>by cases h
 |(a,b,i)::r,o,c,e,h=>by
  simp only[WZ]at h;simp only[Sg.inv];cases f:dK c b with|true=>exact⟨a,rfl⟩|false=>cases g:dK o a with|true=>rw[g]at h;cases h;rw[Nat.beq_refl]at f;cases f|false=>rw[g]at h;exact Sg.inv_of_get' h
theorem m5 {hp j}:∀{d} {l},nN hp j d=ar l->d.good=bc->∀{o e} {f},d.get o=ar (e,f)->∃g i,aD hp o=ar g/\g.ren j f=ar i/\aD l e=ar i
 |[],_,_,_,_,_,_,h=>by cases h
 |(a,b,q)::r,l,h,m,o,e,f,c=>by obtain⟨g,i,t,u,v,n,rfl⟩:=EI h;simp only[Sg.good,aX]at m;let ⟨_,g3⟩:=m;simp only[WZ]at c;cases p:dK o a with|true=>simp_all[cb,aD]|false=>rw[p]at c;let ⟨x,y,z,A,B⟩:=m5 n g3 c;grind [aD,dK,Sg.inv_of_get',cb]
theorem su {hp g}:∀{d} {l},nN hp g d=ar l->∀{c},d.inv c=a6->aD l c=a6
 |[],l,h,c,_=>by cases h;rfl
 |(a,b,m)::r,l,h,c,e=>by
  obtain⟨n,o,p,q,t,i,rfl⟩:=EI h;simp only[Sg.inv]at e;cases f:dK c b with
  |true=>rw[f]at e;cases e
  |false=>
   rw[f]at e;let j:dK b c=a8:=by grind [cb]
   simp only[aD,j,al];exact su i e
theorem Bl :∀{l:LHp} {o},o∈l.map (·.1)->∃b,aD l o=ar b
 |[],_,h=>by cases h
 |(a,b)::r,o,h=>by
  simp only[aD];cases c:dK a o with
  |true=>exact⟨b,rfl⟩
  |false=>
   simp only[ox,kt]at h;rcases h with rfl|h
   ·simp_all
   ·exact Bl h
theorem pw :∀{l} {o} {b},aD l o=ar b->o∈l.map (·.1)
 |[],_,_,h=>by cases h
 |(a,d)::r,o,b,h=>by simp only[aD]at h;cases c:dK a o with|true=>rw[cb c];simp|false=>rw[c]at h;simp[pw h]
theorem tz {hp a o b}(h:aD a o=ar b):aT hp a o=ar b:=by grind [wX,aT]
theorem kR {hp h0 a}(b:a.good=bc)(h:nN hp a a=ar h0):fg a (aD hp) (aD h0):=
 ⟨b,λo c m d=>by let ⟨e,f,g,i,j⟩:=m5 h b d;exact⟨e,f,g,i,j⟩,λc l=>su h l⟩
def m6 (hp:LHp):List Nat->Nat->Sg
 |[],_=>[]
 |o::l,i=>(o,i,JL hp o)::m6 hp l (i+1)
def gY (hp:LHp):List Nat->Nat->Sg
 |[],_=>[]
 |o::l,i=>(i,o,Gs hp o)::gY hp l (i+1)
def gH (k a:Nat):LHp->Sg
 |[]=>[]
 |(j,_)::r=>bif h8 j k then gH k a r else (j,a+(j-k),.keep)::gH k a r
def iG (hp:LHp):Sg->Bool
 |[]=>bc
 |(_,o,_)::r=>(match aD hp o with|none=>bc|some _=>a8)&&iG hp r
theorem Bm hp:∀(L) (i) (o b) (c),(m6 hp L i).get o=ar (b,c)->i<=b/\(gY hp L i).get b=ar (o,Gs hp o)/\c=JL hp o
 |[],_,_,_,_,h=>by cases h
 |a::L,i,o,b,c,h=>by
  simp only[m6,WZ]at h;cases d:dK o a with
  |true=>simp_all[cb,gY,WZ]
  |false=>
   rw[d]at h;let ⟨e,f,g⟩:=Bm hp L _ o b c h;simp only[gY,WZ];let:dK b i=a8:=by rw[←np];intro h;let:=cb h;omega
   grind
theorem Bn hp:∀(L) (i) (o b) (c),(gY hp L i).get b=ar (o,c)->(m6 hp L i).inv b=ar o
 |[],_,_,_,_,h=>by cases h
 |a::L,i,o,b,c,h=>by simp only[gY,WZ]at h;simp only[m6,Sg.inv];cases d:dK b i with|true=>rw[d]at h;cases h;rfl|false=>rw[d]at h;exact Bn hp L _ o b c h
theorem Bo hp:∀(L) (i) (b),i+L.length<=b->(m6 hp L i).inv b=a6
 |[],_,_,_=>rfl
 |a::L,i,b,h=>by
  simp only[List.length_cons]at h;simp only[m6,Sg.inv];let:dK b i=a8:=by rw[←np];intro h;let:=cb h;omega
  rw[this];exact Bo hp L _ b<|by omega
theorem Sg.get_append :∀(a b) (o),(a++b:Sg).get o=match a.get o with|some x=>ar x|none=>b.get o
 |[],_,_=>rfl
 |(x,y)::a,b,o=>by simp only[List.cons_append,WZ];cases dK o x with|true=>rfl|false=>exact Sg.get_append a b o
theorem sv k c:∀(l) (j o) (b),(gH k c l).get j=ar (o,b)->k<=j
 |[],_,_,_,h=>by cases h
 |(a,f)::r,j,o,b,h=>by
  simp only[gH]at h;cases d:h8 a k with|true=>rw[d]at h;exact sv k c r j o b h|false=>rw[d]at h;simp only[al,WZ]at h;cases e:dK j a with|true=>grind [cb,TE,h8,Nat.ble_eq_true_of_le]|false=>rw[e]at h;exact sv k c r j o b h
theorem rj {hp}:∀{c},iG hp c=bc->∀{j o} {d},c.get j=ar (o,d)->aD hp o=a6
 |[],_,_,_,_,h=>by cases h
 |(a,b,g)::r,e,j,o,d,h=>by simp only[iG,aX]at e;simp only[WZ]at h;cases f:dK j a with|true=>grind|false=>rw[f]at h;exact rj e.2 h
theorem JM {hp o m v}(h:(JL hp o).app m=ar v):(Gs hp o).app v=ar m:=by unfold JL at h;grind [Gs,aD,jw.app,dK,cb]
structure FnE.OK (P:Program)(Γ:Nat->Option AV)(f:FuncId)(g:FnE):Prop where
 eq:∀{R:Type} (args:List AV) (hs:LHp) (k:aq->LHp->Option R),g.run args hs k=(g.run args hs λa h=>ar (a,h)).bind λp=>k p.1 p.2
 ok:∀(args:List AV) (hs:LHp) (ae:aq) (aJ:LHp),g.run args hs (λa h=>ar (a,h))=ar (ae,aJ)->FnH P Γ f args (aD hs) (λqQ h1=>qQ=ae/\h1=aD aJ)
theorem FnE.OK.nat {P d f g}(h:FnE.OK P d f g){R} args hs k (r:R) (e:g.run args hs k=ar r):∃b c,g.run args hs (λa h=>ar (a,h))=ar (b,c)/\k b c=ar r:=by rw[h.eq]at e;let ⟨p,i,j⟩:=bC e;grind
structure p6.OK (P:Program)(f:FuncId)(g:p6):Prop where
 eq:∀{R:Type} (args:List AV) (k:AV->Option R),g.run args k=(g.run args ar).bind k
 ok:∀{R:Type} (args:List AV) (k:AV->Option R) (r:R),g.run args k=ar r->∃av,k av=ar r/\
  ∀(w:World) (im:Nat->Prop) (μ:Mu) (hp:Hp) (vals:List Value),vals.length=args.length->(∀(i:Nat) (a:AV) (v:Value),args[i]?=ar a->vals[i]?=ar v->cr w im μ hp a v)->
   ∃v w',(callFunc f vals.toArray).run P w=.ok (.value v) w'/\w'.heap=w.heap/\w'.os=w.os/\w'.tape=w.tape/\w'.output=w.output/\cr w im μ hp av v
structure iA.OK (P:Program)(Γ:Nat->Option AV)(g:iA):Prop where
 eq:∀{R:Type} (o:Nat) (args:List AV) (hs:LHp) (k:Bool->LHp->Option R),g.run o args hs k=(g.run o args hs λa h=>ar (a,h)).bind λp=>k p.1 p.2
 ok:∀(o:Nat) (args:List AV) (hs:LHp) (c:Bool) (aJ:LHp),g.run o args hs (λa h=>ar (a,h))=ar (c,aJ)->NC P Γ o args (aD hs) (λc' h1=>c'=c/\h1=aD aJ)
theorem iA.OK.nat {P d g}(h:iA.OK P d g){R} o args hs k (r:R) (e:g.run o args hs k=ar r):∃c b,g.run o args hs (λa h=>ar (a,h))=ar (c,b)/\k c b=ar r:=by rw[h.eq]at e;let ⟨p,f,i⟩:=bC e;grind
structure Env.Good (E:Env):Prop extends Env.OK E where
 gf:∀g v,E.gam g=ar v->v.free=bc
 calls:∀p∈E.calls,FnE.OK E.P E.gam p.1 p.2
 exts:∀p∈E.exts,p6.OK E.P p.1 p.2
 round:∀g,E.round=ar g->iA.OK E.P E.gam g
def fA  :=1000000
def rk (g:FnE)(a:List AV)(s:LSt)(k:E1->Option R)(kp:TypeId->Int->LHp->Option R):Option R:=
 let L:=ji s.hp fA (refsL a) [];let c:=m6 s.hp L 0
 bif c.good then
  (match rens c a with
  |some b=>
   (match nN s.hp c c with
   |some i=>g.run b i λj e=>
    let f:=gH L.length s.nx e;let d:=gY s.hp L 0++f
    bif d.good&&iG s.hp f then
     (match nN e d d with
     |some h=>
      (match j with| .ret l=>(match rens d l with|some m=>k ⟨AZ m,[],h,s.nx+e.length⟩|none=>a6)| .panic t n=>kp t n h)
     |none=>a6)
    else a6
   |none=>a6)
  |none=>a6)
 else a6
theorem Gt {hp L b a c}(f:(gY hp L 0++gH L.length b a).good=bc)(m:iG hp (gH L.length b a)=bc)
  (g:nN a (gY hp L 0++gH L.length b a) (gY hp L 0++gH L.length b a)=ar c):
  uU (m6 hp L 0) (gY hp L 0++gH L.length b a) (aD hp) (aD a) c:=by
 refine⟨f,?_,?_,?_,?_⟩
 ·grind [m5,tz]
 ·intro o d h i;let ⟨_,n,p⟩:=Bm hp L 0 o d h i;grind [Sg.get_append,JM]
 ·grind [Sg.get_append,gY,Bn,sv,Bo,rj]
 ·intro o j;let ⟨q,e⟩:=Bl j;cases l:(gY hp L 0++gH _ b a).inv o with|none=>rw[su g l]at e;cases e|some d=>grind [Sg.get_of_inv]
theorem Bp {P}{A:Nat->Option AV}{f g}{d:List AV}{s}{k:E1->Option R}{kp:TypeId->Int->LHp->Option R}{r}(B:FnE.OK P A f g)(h:rk g d s k kp=ar r):
  ∃x y a q i j l,rens x d=ar a/\fg x (aD s.hp) (aD q)/\FnH P A f a (aD q) (λJ D=>J=i/\D=aD j)/\uU x y (aD s.hp) (aD j) l/\(∀F o G,y.get F=ar (o,G)->o∈l.map (·.1))/\
   ((∃u v,i=.ret u/\rens y u=ar v/\k ⟨AZ v,[],l,s.nx+j.length⟩=ar r)\/(∃t n,i=.panic t n/\kp t n l=ar r)):=by
 unfold rk at h
 generalize S:ji s.hp _ _ []=L at h
 simp only at h
 cases b:(m6 s.hp L 0).good with
 |false=>rw[b]at h;cases h
 |true=>
  rw[b]at h;split at h
  ·rename_i a e
   split at h
   ·rename_i q z
    let ⟨i,j,p,c⟩:=B.nat _ _ _ _ h;let K:=B.ok _ _ _ _ p;cases m:(gY s.hp L 0++gH _ s.nx j).good&&iG s.hp _ with
    |false=>rw[m]at c;cases c
    |true=>
     rw[m]at c;simp only[aX]at m;split at c
     ·rename_i l I
      refine⟨_,_,_,q,i,j,l,e,kR b z,K,Gt m.1 m.2 I,(λF o G M=>by let ⟨T,U,D,V,N⟩:=m5 I m.1 M;exact pw N),?_⟩;cases i with
      |ret u=>
       simp only at c;split at c
       ·rename_i v O;exact .inl ⟨u,v,rfl,O,c⟩
       ·cases c
      |panic t n=>exact .inr ⟨t,n,rfl,c⟩
     ·cases c
   ·cases h
  ·cases h
def sw (g:iA)(q:Nat)(a:List AV)(s:LSt)(k:E1->Option R):Option R:=
 match aD s.hp q with
 |some (.rc j)=>
  bif j.isMap then a6 else
  let L:=ji s.hp fA (refsL (.ref q::a)) [];let e:=m6 s.hp L 0
  bif e.good then
   (match rens e (.ref q::a)with
   |some (.ref l::b)=>
    (match nN s.hp e e with
    |some m=>g.run l b m λc f=>
     let i:=gH L.length s.nx f;let h:=gY s.hp L 0++i
     bif h.good&&iG s.hp i then
      (match nN f h h with|some n=>k ⟨.d .bool c,[],n,s.nx+f.length⟩|none=>a6)
     else a6
    |none=>a6)
   |_=>a6)
  else a6
 |_=>a6
theorem NS {E C s k}{r:R}(A:E.Good)(i:C.Γ=E.gam){o x j l q g}(B:o.op=.call ⟨.value x,j,l⟩)
  (D:s.ev E x=.ref q) (u:iA.OK E.P E.gam g) (h:sw g q (evs E s j.toList) s k=ar r):gZ E C o s k r:=by
 unfold sw at h
 split at h
 ·rename_i F G
  cases m:F.isMap with
  |true=>rw[m]at h;cases h
  |false=>
   rw[m]at h;simp only[al]at h;generalize T:ji s.hp _ _ []=L at h;cases a:(m6 s.hp L 0).good with
   |false=>rw[a]at h;cases h
   |true=>
    rw[a]at h;split at h
    ·rename_i I n b
     split at h
     ·rename_i U p
      let ⟨c,J,f,d⟩:=u.nat _ _ _ _ _ h;let y:=u.ok _ _ _ _ _ f;cases e:(gY s.hp L 0++gH _ s.nx J).good&&iG s.hp _ with
      |false=>rw[e]at d;cases d
      |true=>
       rw[e]at d;simp only[aX]at e;split at d
       ·rename_i V z
        let t  :=λK v M=>A.gf K v<|by rw[←i];exact M
        let N:rens _ (.ref q::j.toList.map _)=ar _:=by rw[p7 i];exact b
        rw[←i]at y;exact⟨_,d,TV B t ((cK i s x).trans D) G m N (kR a p) y (Gt e.1 e.2 z) λI o W O=>by let ⟨X,Y,Z,h2,S⟩:=m5 z e.1 O;exact pw S⟩
       ·cases d
     ·cases h
    ·cases h
 ·cases h
def JN (E:Env) C (o:Oper) (s:LSt) t n (c:LHp)  :=
 ∀b:ASt,(∀x∈o.op.operands.toList,b.ev C x=s.toA.ev C x)->(∀k,k∈c.map (·.1)->b.hp k=aD s.hp k)->∀a w,Rel C b a w->(∀d,o.dst=ar d->d<C.n)->∀(K) (Q),(∀e f,Rel C ⟨b.fr,aT b.hp c⟩ e f->Q (.panic [{v:=.iface t<| .int .i64 n,recovered:=a8}]) e f)->o.wpIn (fen C.rd) 0 E.P a w K Q
theorem JN.at {E C o s t n b}(h:JN E C o s t n b) a w (c:Rel C s.toA a w) (e:∀d,o.dst=ar d->d<C.n) K Q (f:Q (.panic t n) ⟨s.fr.get,aT (aD s.hp) b⟩):o.wpIn (fen C.rd) 0 E.P a w K (lft C Q):=
 h _ (λ_ _=>rfl) (λ_ _=>rfl) a w c e K _ λ_ _ g=>⟨_,_,rfl,f,g⟩
theorem ZS {E C s k kp}{r:R}(U:E.Good)(q:C.Γ=E.gam){o x A B f d g}(I:o.op=.call ⟨.value x,A,B⟩)
  (V:s.ev E x=.fn (.func f) [] d) (J:FnE.OK E.P E.gam f g) (h:rk g (evs E s A.toList++d) s k kp=ar r):gZ E C o s k r\/∃t n j,kp t n j=ar r/\JN E C o s t n j:=by
 unfold rk at h
 generalize hL:ji s.hp _ _ []=L at h
 simp only at h
 cases b:(m6 s.hp L 0).good with
 |false=>rw[b]at h;cases h
 |true=>
  rw[b]at h;split at h
  ·rename_i D i
   split at h
   ·rename_i hs F
    let ⟨W,u,l,c⟩:=J.nat _ _ _ _ h;let G:=J.ok _ _ _ _ l;cases y:(gY s.hp L 0++gH _ s.nx u).good&&iG s.hp _ with
    |false=>rw[y]at c;cases c
    |true=>
     rw[y]at c;simp only[aX]at y;split at c
     ·rename_i j X
      let m  :=λY v Z=>U.gf Y v<|by rw[←q];exact Z
      let M:=kR b F
      let N:uU (m6 s.hp L 0) _ (aD s.hp) (aD u) j:=by
       refine⟨y.1,?_,?_,?_,?_⟩
       ·grind [m5,tz]
       ·intro o p z O;let ⟨_,h2,h3⟩:=Bm s.hp L 0 o p z O;grind [Sg.get_append,JM]
       ·grind [Sg.get_append,gY,Bn,sv,Bo,rj]
       ·intro o hm;let ⟨ob,S⟩:=Bl hm;cases hi:(gY s.hp L 0++gH _ s.nx u).inv o with|none=>rw[su X hi]at S;cases S|some p=>grind [Sg.get_of_inv]
      let e:∀p o z,(gY s.hp L 0++gH L.length s.nx u).get p=ar (o,z)->o∈j.map (·.1):=λp o z O=>by grind [m5,pw]
      let ex:s.toA.ev C x=.fn _ [] d:=by rw[cK q,V]
      let T:rens _ (A.toList.map _++d)=ar _:=by rw[p7 q];exact i
      rw[←q]at G;cases W with
      |ret rs=>
       simp only at c;split at c
       ·rename_i j0 DA;exact .inl ⟨_,c,ZA I m ex T M G N e DA⟩
       ·cases c
      |panic t n=>exact .inr ⟨t,n,j,c,λs1 gN jY a w hr hd K Q hQ=>qZ I m ex T M G N e gN jY hr hd K hQ⟩
     ·cases c
   ·cases h
  ·cases h
def uZ (hp a:LHp)(o:Nat):Bool:=
 match aD a o with|some (.arr _ _ m bc _)=>(match aD hp o with|some (.arr _ _ b bc _)=>dK m b|_=>a8)|_=>a8
def u5 (hp a:LHp):LHp->LHp
 |[]=>[]
 |(o,b)::r=>bif uZ hp a o then u5 hp a r else (o,b)::u5 hp a r
def JO (hp a:LHp):LHp->List Nat
 |[]=>[]
 |(o,_)::r=>bif uZ hp a o then o::JO hp a r else JO hp a r
def ZT (hp:LHp)(e:E1):E1:=⟨e.av,JO hp e.wr e.wr,u5 hp e.wr e.wr,e.nx⟩
theorem tQ h (a:LHp) o:aT h a o=match aD a o with|some b=>ar b|none=>h o:=by grind [wX,aT,dK]
theorem xb hp b:∀(l) (o),aD (u5 hp b l) o=bif uZ hp b o then a6 else aD l o
 |[],o=>by cases uZ hp b o<;>rfl
 |(a,c)::r,o=>by simp only[u5];cases d:uZ hp b a with|true=>simp only[ai];rw[xb];grind [uZ,aD,dK,cb]|false=>simp only[al,aD];rw[xb];grind [dK,cb,uZ]
theorem Bq hp b:∀(l:LHp) (k),k∈l.map (·.1)->k∈JO hp b l\/k∈(u5 hp b l).map (·.1)
 |[],_,h=>by cases h
 |(a,c)::r,k,h=>by
  simp only[JO,u5];simp only[ox,kt]at h;cases d:uZ hp b a with
  |true=>
   simp only[ai,kt];rcases h with rfl|h
   ·simp
   ·exact(Bq hp b r k h).imp .inr id
  |false=>
   simp only[al,ox,kt];rcases h with rfl|h
   ·simp
   ·exact(Bq hp b r k h).imp id .inr
theorem ahZ {hp a:LHp} h1 (g:∀k∈a.map (·.1),h1 k=aD hp k) o:aT h1 (u5 hp a a) o=aT h1 a o\/∃T e m b c d f,h1 o=ar (.arr T e m bc b)/\aT h1 a o=ar (.arr c d m bc f)/\aT h1 (u5 hp a a) o=h1 o:=by grind [tQ,xb,uZ,cb,pw]
theorem Uh {E C s k kp}{r:R}(D:E.Good)(m:C.Γ=E.gam){o x p q f b g}(y:o.op=.call ⟨.value x,p,q⟩)
  (F:s.ev E x=.fn (.func f) [] b) (G:FnE.OK E.P E.gam f g) (h:rk g (evs E s p.toList++b) s (λe=>k<|ZT s.hp e) kp=ar r):gZ E C o s k r\/∃t n i,kp t n i=ar r/\JN E C o s t n i:=by
 let ⟨I,X,_,Y,Z,aJ,i,d,z,u,A,c,j⟩:=Bp G h
 let l  :=λJ v L=>D.gf J v<|by rw[←m];exact L
 let ex:s.toA.ev C x=.fn _ [] b:=by rw[cK m,F]
 let B:rens I (p.toList.map _++b)=ar _:=by rw[p7 m];exact d
 rw[←m]at u
 rcases j with ⟨rs,j0,rfl,M,j⟩|⟨t,n,rfl,j⟩
 ·exact .inl ⟨_,j,TU y l ex B z u A c M (Bq s.hp i i) λN O o=>ahZ N O o⟩
 ·exact .inr ⟨t,n,i,j,λs1 S T a w U V K Q W=>qZ y l ex B z u A c S T U V K W⟩
end Go.Vm
namespace Go.Vm
variable {R:Type}
def Br (E:Env)(dst:Option Tmp)(c:Call)(s:LSt)(k:E1->Option R)(kp:TypeId->Int->LHp->Option R):Option R:=
 match c.callee with
 | .value x=>
  (match s.ev E x with
  | .fn (.func f) [] a=>
   (match lk E.calls f with
   |some g=>rk g (evs E s c.args.toList++a) s k kp
   |none=>
    (match a,lk E.exts f with
    |[],ar g=>g.run (evs E s c.args.toList) λe=>k (s.pv e)
    |_,_=>a6))
  | .ref q=>(match E.round with|some g=>sw g q (evs E s c.args.toList) s k|none=>a6)
  |_=>a6)
 | .builtin b=>
  (match b,c.args.toList,c.argTypes.toList with| .len,[x],[t]=>EC E t x s k| .append,[x,y],[t,d]=>bif dK t d then pq E t d x y s k else (match dst with|some _=>mI E t d x y s k|none=>a6)| .cap,[x],[t]=>EB E t x s k| .max,[x,y],_=>ED E x y s k| .min,[x,y],_=>EE E x y s k|_,_,_=>a6)
 | .invoke _ _=>a6
def op1 (E:Env)(o:Oper)(s:LSt)(k:E1->Option R)(kp:TypeId->Int->LHp->Option R):Option R:=
 match o.op with| .move x=>k (s.pv (s.ev E x))| .assign x=>k (s.pv (s.ev E x))| .pick c x y=>wY E c x y s k| .alloc t=>(match o.dst with|some _=>sj E t s k|none=>a6)| .box _ x=>(match o.dst with|some _=>EA E x s k|none=>a6)| .build t e=>sq E t e s k| .buildSlice t n e=>(match o.dst with|some _=>EF E t n e s k|none=>a6)| .load t x=>w6 E t x s k| .store t x y=>(match o.dst with|some _=>a6|none=>sk E t x y s k)| .nilCheck x=>EH E x s k| .binOp b g x y _=>Ez E b g x y s k| .unOp u _ x=>T7 E u x s k| .convert h j x=>wZ E h j x s k| .makeInterface t x=>sr E t x s k| .makeFunc f a b=>xa E f a b s k| .makeSlice t x y=>(match o.dst with|some _=>w9 E t x y s k|none=>a6)| .slice t x l m p=>sn E (ahY o.pos) (arY o.pos) t x l m p s k| .fieldAddr t x f=>jO E t x f s k| .field t x f=>sl E t x f s k| .indexAddr t x y=>jP E t x y s k| .index t x y=>sm E t x y s k| .typeAssert x _ t ok=>pt E x t ok s k| .extract x i=>mJ E x i s k| .call c=>Br E o.dst c s k kp| .panic x=>(match s.ev E x with| .iface t (.d (.int .i64) n)=>kp t n []|_=>a6)|_=>a6
section
variable {E:Env}{C:Ctx}{s:LSt}{k:E1->Option R}{kp:TypeId->Int->LHp->Option R}{r:R}
theorem Gu (l:E.Good)(j:C.Γ=E.gam){o:Oper}(h:op1 E o s k kp=ar r):gZ E C o s k r\/∃t n V,kp t n V=ar r/\JN E C o s t n V:=by
 obtain⟨dst,op,ty,pos,dD,gd⟩:=o;unfold op1 at h;cases op with
 |move x=>exact .inl (.of _ h (ahL (cK j s x)))
 |assign x=>exact .inl (.of _ h (TP (cK j s x)))
 |pick c x y=>exact .inl (T8 j h)
 |alloc t=>cases dst with|none=>cases h|some d=>exact .inl (NJ l.toOK h)
 |box t x=>cases dst with|none=>cases h|some d=>exact .inl (ZJ j h)
 |build t ps=>exact .inl (NP l.toOK j h)
 |buildSlice t n ps=>cases dst with|none=>cases h|some d=>exact .inl (ZP l.toOK j h)
 |load t x=>exact .inl (Ua j h)
 |store t x y=>cases dst with|none=>exact .inl (NL j h)|some d=>cases h
 |nilCheck x=>exact .inl (ZR j h)
 |binOp b W x y yt=>exact .inl (ZI j h)
 |unOp u W x=>exact .inl (ahX j h)
 |convert st dt x=>exact .inl (T9 j h)
 |makeInterface t x=>exact .inl (NQ j h)
 |makeFunc f a b=>exact .inl (Uf j h)
 |makeSlice t x y=>cases dst with|none=>cases h|some d=>exact .inl (Ue l.toOK j h)
 |slice t x lo X mx=>exact .inl (NO j h)
 |fieldAddr t x f=>exact .inl (Bf j h)
 |field t x f=>exact .inl (NM j h)
 |indexAddr t x y=>exact .inl (Bg j h)
 |index t x y=>exact .inl (NN l.toOK j h)
 |typeAssert x W t ok=>exact .inl (JK j h)
 |extract x i=>exact .inl (Gr j h)
 |panic x=>
  simp only at h;split at h
  ·rename_i t n G
   refine .inr ⟨t,n,[],h,λS gN jY a w J hd K Q hQ=>?_⟩;have hrr:=J;obtain⟨Y,Z,X⟩:=J;have I:a.eval x=.iface t (.int .i64 n):=A6 (((gN x (by simp[cx])).trans ((cK j s x).trans G))▸X.ev x);refine⟨λf _=>tK _ f,?_⟩;rw[Oper.semAt_eq _ _ _ (by intro c hc;cases hc)];have m:(execOp a.eval ⟨dst,.panic x,ty,pos,dD,gd⟩).run E.P w=.halt (.panic (.iface t (.int .i64 n))) w:=by simp only[execOp,I,Instr.panic];rfl
   rw[m,Oper.uponIn_panic];have he:(⟨S.fr,aT S.hp []⟩:ASt)=S:=by rfl
   grind
  ·cases h
 |call c=>
  obtain⟨z,A,B⟩:=c;simp only[Br]at h;cases z with
  |value x=>
   simp only at h;split at h
   ·rename_i f cap G
    split at h
    ·rename_i g L;exact ZS l j rfl G (l.calls _ (jn L)) h
    ·split at h
     ·rename_i g L
      obtain⟨av,hk,m⟩:=(l.exts _ (jn L)).ok _ _ _ h;refine .inl (.of _ hk (gm [] λw Y Z hp M J _ _=>?_));have N:=J x (by simp[cx,pd]);rw[cK j,G]at N;obtain⟨I3,fx⟩:=N;simp only[RepA,RepFs]at I3;obtain⟨vs,us,D,rfl,rfl⟩:=I3;have I:M x=.func (.func f) #[] #[]:=by generalize M x=v at D fx;cases v<;>simp_all[gI,bS,alF]
      obtain⟨v,w',p,F,h3,h4,h5,h6⟩:=m w Y Z hp (A.toList.map M) (by rw[←p7 j];simp) (by intro i a v T I;rw[←p7 j]at T;rw[yp,zn]at T I;obtain⟨y,hy,rfl⟩:=T;obtain⟨y',U,rfl⟩:=I;obtain rfl:y=y':=hY (hy.symm.trans U);exact J y (by simp only[cx,pd,Nc];exact q7.2 (.inr (ik hy))));refine⟨v,w',?_,F,h3,h4,h5,h6⟩;have e:A.map M++ #[]=(A.toList.map M).toArray:=by apply yl;simp
      simp only[execOp,resolve,I,WV,hF,Sem.run_pure,eE,invoke,ahD];rw[e];exact p
     ·cases h
   ·rename_i q G
    split at h
    ·rename_i g L;exact .inl (NS l j rfl G (l.round _ L) h)
    ·cases h
   ·cases h
  |builtin b=>
   simp only at h;split at h
   ·rename_i x t p F
    have e1:A= #[x]:=by apply yl;simpa using p
    have e2:B= #[t]:=by apply yl;simpa using F
    subst e1 e2;exact .inl (ZM j h)
   ·rename_i x y t t2 p F
    have e1:A= #[x,y]:=by apply yl;simpa using p
    have e2:B= #[t,t2]:=by apply yl;simpa using F
    subst e1 e2;cases O:dK t t2 with|true=>rw[O]at h;exact .inl (JI l.toOK j h)|false=>rw[O]at h;simp only[al]at h;cases dst with|none=>cases h|some d=>exact .inl (Gn l.toOK j h)
   ·rename_i x t p F
    have e1:A= #[x]:=by apply yl;simpa using p
    have e2:B= #[t]:=by apply yl;simpa using F
    subst e1 e2;exact .inl (ZL j h)
   ·rename_i x y p
    have e1:A= #[x,y]:=by apply yl;simpa using p
    subst e1;exact .inl (ZN j h)
   ·rename_i x y p
    have e1:A= #[x,y]:=by apply yl;simpa using p
    subst e1;exact .inl (ZO j h)
   ·cases h
  |invoke a b=>cases h
 |_=>cases h
end
def LSt.set (s:LSt)(x:Nat)(a:AV):LSt:=⟨s.fr.set x a,s.hp,s.nx⟩
def xc (ops:Array Oper)(j:Nat):Option Nat:=match ops[j]? with|some a=>a.dst|none=>a6
theorem Bs {ops:Array Oper}{j g}(h:xc ops j=ar g):(ops[j]?).bind (·.dst)=ar g:=by grind [xc]
def tR (n:Nat)(ops:Array Oper)(o:Oper)(s:LSt)(e c:LSt->Option R):Option R:=
 match o.guard with
 |none=>e s
 |some (j,a)=>
  (match xc ops j with
  |some g=>
   bif h8 g n then
    (match s.fr.get g with| .d .bool b=>bif b then (bif a then e (s.set g (.d .bool bc))else c (s.set g (.d .bool bc)))else (bif a then c (s.set g (.d .bool a8))else e (s.set g (.d .bool a8)))| .tup []=>c s|_=>a6)
   else a6
  |none=>a6)
def Bt (s:LSt):E1:=⟨.tup [],[],[],s.nx⟩
def JP (E:Env)(n:Nat)(ops:Array Oper):List Oper->LSt->(LSt->Option R)->(TypeId->Int->LSt->Option R)->Option R
 |[],s,k,_=>k s
 |o::l,s,k,kp=>
  tR n ops o s (λa=>op1 E o a (λe=>JP E n ops l (a.app o.dst e) k kp) λt m b=>kp t m ⟨a.fr,b++a.hp,a.nx⟩)
   λa=>JP E n ops l (a.app o.dst<|Bt a) k kp
def NT (E:Env)(o:Oper)(s:LSt)(k:E1->Option R)(kp:TypeId->Int->LHp->Option R):Option R:=
 match o.op with
 | .call ⟨.value x,b,_⟩=>
  (match s.ev E x with
  | .fn (.func f) [] a=>
   (match lk E.calls f with|some g=>rk g (evs E s b.toList++a) s (λe=>k (ZT s.hp e)) kp|none=>op1 E o s k kp)
  |_=>op1 E o s k kp)
 |_=>op1 E o s k kp
theorem Qq {E C s k kp}{r:R}(a:E.Good)(b:C.Γ=E.gam){o}(h:NT E o s k kp=ar r):gZ E C o s k r\/∃t n c,kp t n c=ar r/\JN E C o s t n c:=by
 unfold NT at h;split at h
 ·rename_i x l m d
  split at h
  ·rename_i f e i
   split at h
   ·rename_i g j;exact Uh a b d i (a.calls _<|jn j) h
   ·exact Gu a b h
  ·exact Gu a b h
 ·exact Gu a b h
def ah0 (ops:Array Oper)(o:Oper)(b:List Eff)  :=
 o.guard.isNone&&iz ops (b.reverse++Eff.bad o.dst::((ops.toList.drop<|b.length+1).map (·.dst)).map Eff.bad2) (ops.toList.foldl (λa o=>a++[uR o a]) [])&&
 ((hW ops.size).all λj=>AD j b.length||((ops.toList.foldl (λa o=>a++[uR o a]) []).getD j 0).testBit b.length)&&
 (hW b.length).all λj=>((ops.toList.foldl (λa o=>a++[uR o a]) []).getD b.length 0).testBit j
def JQ (E:Env)(ops:Array Oper)(b:List Nat)(m q:Nat):List Oper->Nat->LSt->List Nat->List Eff->(List Eff->Option R)->Option R
 |[],_,_,_,a,k=>k a
 |o::l,i,s,c,a,k=>
  bif (b.getD i 0).testBit m then JQ E ops b m q l (i+1) s (Jc o.dst++c) (TK q o.dst::a) k
  else bif o.guard.isNone&&(o.looksAt ops).all λx=>!c.any (dK x)then
   NT E o s (λe=>bif e.rd.all (λx=>!Nat.beq x q)&&e.wr.all λp=>!Nat.beq p.1 q then JQ E ops b m q l (i+1) (s.app o.dst e) c ((e.eff o.dst).key::a) k else a6) λ_ _ _=>a6
  else a6
def NU :List Nat->List Nat->List Nat
 |[],b=>b
 |a::l,b=>bif b.any (dK a)then NU l b else NU l (a::b)
def DQ (l:List Nat):Sg:=l.map λo=>(o,o,.keep)
def Ui (E:Env)(ops:Array Oper)(o:Oper)(l:List Oper)(s:LSt)(b:List Eff)(e:LHp)(kp:LSt->Option R):Option R:=
 let hp:=e++s.hp;let L:=NU (hp.map (·.1)) [];let d:=ops.toList.foldl (λa o=>a++[uR o a]) [];let q:=s.nx+1000000
 bif o.guard.isNone&&(DQ L).good then
  (match nN hp (DQ L) (DQ L)with
  |some f=>JQ E ops d b.length q l (b.length+1) s (Jc o.dst) [] λc=>
   bif iz ops (b.reverse++DJ q L o.dst::c.reverse) d then kp ⟨s.fr.clr,f,s.nx⟩else a6
  |none=>a6)
 else a6
def DR (E:Env)(n:Nat)(ops:Array Oper):List Oper->LSt->List Eff->(LSt->Option R)->(TypeId->Int->LSt->Option R)->Option R
 |[],s,b,k,_=>bif iz ops b.reverse (ops.toList.foldl (λc o=>c++[uR o c]) [])then k s else a6
 |o::l,s,b,k,kp=>
  tR n ops o s (λa=>NT E o a (λe=>DR E n ops l (a.app o.dst e) ((e.eff o.dst).key::b) k kp) λt m d=>bif ah0 ops o b then kp t m ⟨a.fr,d++a.hp,a.nx⟩else Ui E ops o l a b d<|kp t m)
   λa=>DR E n ops l (a.app o.dst<|Bt a) (((Bt a).eff o.dst).key::b) k kp
def LSt.fits (s:LSt) n  :=∀x,x<n->s.fr.has x=bc
theorem u6 {s:LSt}{n}(a:s.fits n){dst}(b:∀d,dst=ar d->d<n) e:(s.app dst e).toA=(e.eff dst).app s.toA:=by
 unfold LSt.app WM Eff.app E1.eff;congr 1
 ·cases dst with|none=>rfl|some d=>funext x;simp only[ASt.put,qB];rw[ahi _ _ _ _<|a d<|b d rfl]
 ·exact bV _ _
theorem rl {s:LSt}{n}(a:s.fits n) dst e:(s.app dst e).fits n:=by intro x b;unfold LSt.app;cases dst with|none=>exact a x b|some d=>simp only[Tr.has_set];exact a x b
theorem j7 {s:LSt}{n}(b:s.fits n) x a:(s.set x a).fits n:=by intro y c;simp only[LSt.set,Tr.has_set];exact b y c
theorem u7 {s:LSt}{n x a}(b:s.fits n)(c:x<n)(d:s.fr.get x=a):(s.set x a).toA=s.toA:=by unfold LSt.set WM;congr 1;funext y;rw[ahi _ _ _ _<|b x c];grind [dK,cb]
section
variable {E:Env}{C:Ctx}{r:R}{Q:AEx->ASt->Prop}{ops:Array Oper}
theorem yA {n o}{s:LSt}{v m:LSt->Option R}(p:C.n=n)(f:s.fits n)(h:tR n ops o s v m=ar r):
  (∃l,l.toA=s.toA/\l.fits n/\v l=ar r/\(o.guard=a6\/∃j a g,o.guard=ar (j,a)/\(ops[j]?).bind (·.dst)=ar g/\g<C.n/\s.toA.fr g=.d .bool a))\/
  (∃l,l.toA=s.toA/\l.fits n/\m l=ar r/\∃j a g,o.guard=ar (j,a)/\(ops[j]?).bind (·.dst)=ar g/\g<C.n/\(s.toA.fr g=.d .bool (!a)\/s.toA.fr g=.tup [])):=by
 unfold tR at h
 split at h
 ·grind
 ·rename_i j a q
  split at h
  ·rename_i g t
   cases u:h8 g n with
   |false=>rw[u]at h;cases h
   |true=>
    rw[u]at h;let i  :=gx u;let c:=Bs t;split at h
    ·rename_i b e
     cases b with
     |true=>cases a with|true=>exact .inl ⟨_,u7 f i e,j7 f _ _,h,.inr ⟨j,bc,g,q,c,(by rw[p];exact i),e⟩⟩|false=>exact .inr ⟨_,u7 f i e,j7 f _ _,h,j,_,g,q,c,(by rw[p];exact i),.inl e⟩
     |false=>cases a with|true=>exact .inr ⟨_,u7 f i e,j7 f _ _,h,j,bc,g,q,c,(by rw[p];exact i),.inl e⟩|false=>exact .inl ⟨_,u7 f i e,j7 f _ _,h,.inr ⟨j,_,g,q,c,(by rw[p];exact i),e⟩⟩
    ·rename_i e;exact .inr ⟨s,rfl,f,h,j,a,g,q,c,(by rw[p];exact i),.inr e⟩
    ·cases h
  ·cases h
theorem tS {i}{o:Oper}{e:Eff}{s}(b:ops[i]?=ar o)(c:e.dst=o.dst)(h:OpW E.P C o e s)
  (f:o.guard=a6\/∃j a g,o.guard=ar (j,a)/\(ops[j]?).bind (·.dst)=ar g/\g<C.n/\s.fr g=.d .bool a):mQ E.P C ops i s e:=by
 grind [Nl,ahK]
theorem tA {i}{o:Oper}{s}(b:ops[i]?=ar o)
  (c:∃j a g,o.guard=ar (j,a)/\(ops[j]?).bind (·.dst)=ar g/\g<C.n/\(s.fr g=.d .bool (!a)\/s.fr g=.tup [])):mQ E.P C ops i s ⟨o.dst,.tup [],[],[]⟩:=by
 grind [Zu,TO]
theorem ZU {K:ASt->Prop}{i}{o:Oper}{s t n h}(m:fp ops C.n=bc)(c:ops[i]?=ar o)
  (e:o.guard=a6\/∃j b g,o.guard=ar (j,b)/\(ops[j]?).bind (·.dst)=ar g/\g<C.n/\s.toA.fr g=.d .bool b)
  (hp:JN E C o s t n h) (p:Q (.panic t n) ⟨s.fr.get,aT (aD s.hp) h⟩):Ng E.P C ops Q i s.toA K:=by
 intro a w l
 let B  :=(Array.getElem?_eq_some_iff.1 c).1
 rw[(by omega:ops.size-i=(ops.size-(i+1))+1),List.range'_succ,wpOpsIn_cons]
 let f:=l
 let ⟨D,F,q⟩:=l
 let u:w0 o (yielded ops a.tmps)=bc:=by
  rcases e with e|⟨j,b,g,v,x,y,z⟩
  ·exact nZ e _
  ·let A:=tL x y z q;simp[w0,v,A]
 unfold wpOpIn
 simp only[c,u,if_true]
 let:=hp.at a w f (db m c) (wpOpsIn (fen C.rd) 0 E.P ops (lft C<|AEx.thn K Q)<|List.range' (i+1)<|ops.size-(i+1)) (AEx.thn K Q) p
 exact this
theorem Gv {K}(u:E.Good)(v:C.Γ=E.gam){n}(f:C.n=n)(a:fp ops C.n=bc):∀(l) (i) (s) (k) (kp),ops.toList.drop i=l->i<=ops.size->s.fits n->
  JP E n ops l s k kp=ar r->(∀t m x,kp t m x=ar r->x.fits n->Q (.panic t m) x.toA)->(∀y,y.fits n->k y=ar r->K y.toA)->Ng E.P C ops Q i s.toA K
 |[],i,s,k,kp,g,I,z,h,_,j=>by
  have:i=ops.size:=by let:=congrArg bk g;grind
  subst this;exact Zq<|j s z h
 |o::l,i,s,k,kp,g,I,z,h,hp,j=>by
  let p:i<ops.size:=by grind [TE,ly]
  let q:ops[i]?=ar o:=by
   let:(ops.toList.drop i)[0]?=ar o:=by rw[g];rfl
   grind
  let G:ops.toList.drop (i+1)=l:=by rw[←MX,g];rfl
  let c  :=λd J=>f▸db a q d J
  rcases yA f z h with ⟨A,e1,f1,B,b⟩|⟨A,e1,f1,B,b⟩
  ·rw[←e1]at b⊢
   rcases Gu u v B with ⟨e,D,F⟩|⟨t,m,L,D,F⟩
   ·refine Ed p a (tS q rfl F b) ?_;rw[←u6 f1 c];exact Gv u v f a l _ _ k kp G p (rl f1 _ _) D hp j
   ·refine ZU a q b F ?_;let:=hp t m _ D f1;grind [WM,bV]
  ·rw[←e1]at b⊢;refine Ed p a (tA q b) ?_;let:(⟨_,.tup [],[],[]⟩:Eff).app _=(A.app _ _).toA:=(u6 f1 c<|Bt A).symm;rw[this];exact Gv u v f a l _ _ k kp G p (rl f1 _ _) B hp j
theorem Gw (z:E.Good)(A:C.Γ=E.gam){n}(B:C.n=n)(a:fp ops C.n=bc){D m q}:∀(l) (i) (s) (f) (g) (k),ops.toList.drop i=l->s.fits n->JQ E ops D m q l i s f g k=ar r->
  ∃j,mR E.P C ops D m q i s.toA f j/\k ((j.map Eff.key).reverse++g)=ar r
 |[],i,s,f,g,k,_,_,h=>⟨[],.nil,h⟩
 |o::l,i,s,f,g,k,K,F,h=>by
  let u:ops[i]?=ar o:=by
   let:(ops.toList.drop i)[0]?=ar o:=by rw[K];rfl
   grind
  let L:ops.toList.drop (i+1)=l:=by rw[←MX,K];rfl
  let G  :=λd N=>B▸db a u d N
  simp only[JQ]at h;cases M:(D.getD i 0).testBit m with
  |true=>rw[M,ai]at h;let ⟨j,v,I⟩:=Gw z A B a l _ s _ _ k L F h;exact⟨_,.beh u v,by simpa [TK,Eff.key] using I⟩
  |false=>
   rw[M,al]at h;cases y:o.guard.isNone&&(o.looksAt ops).all _ with
   |false=>rw[y]at h;cases h
   |true=>
    rw[y,ai]at h;simp only[aX,gv]at y;rcases Qq z A h with ⟨e,b,O⟩|⟨t,S,T,b,_⟩
    ·simp only at b
     cases c:e.rd.all _&&e.wr.all _ with
     |false=>rw[c]at b;cases b
     |true=>
      rw[c,ai]at b;simp only[aX,gv]at c;let ⟨j,v,I⟩:=Gw z A B a l _ _ _ _ k L (rl F _ _) b;rw[u6 F G]at v;refine⟨_,.free u ?_ ?_ (tS u rfl O<| .inl<|WR.1 y.1) v,by simpa using I⟩
      ·grind [j5]
      ·rintro x (J|J) rfl
       ·have:=c.1 x J;simp_all
       ·let ⟨p,hp,e1⟩:=List.mem_map.1 J;have:=c.2 p hp;simp_all
    ·cases b
theorem Bu {a}:∀(l c),a∈l\/a∈c->a∈NU l c
 |[],c,h=>h.elim (λh=>by cases h) id
 |b::l,c,h=>by simp only[NU];cases d:c.any _ with|true=>refine Bu l c ?_;grind [tr,cb]|false=>refine Bu l _ ?_;grind
theorem JR {o}:∀{l},o∈l->WZ (DQ l) o=ar (o,.keep)
 |a::l,h=>by show (bif dK o a then ar _ else WZ _ o)=_;cases b:dK o a with|true=>rw[cb b];rfl|false=>refine JR ?_;grind [Nat.beq_refl]
theorem JS {o d e}:∀{l},WZ (DQ l) o=ar (d,e)->o∈l
 |[],h=>by cases h
 |a::l,h=>by let b:(bif dK o a then ar _ else WZ _ o)=ar _:=h;cases c:dK o a with|true=>rw[cb c];exact List.mem_cons_self ..|false=>rw[c,al]at b;exact List.mem_cons_of_mem _<|JS b
theorem ah1 {K}(z:E.Good)(A:C.Γ=E.gam){n}(G:C.n=n)(b:fp ops C.n=bc){o l s f t m p kp}(q:ops[f.length]?=ar o)(I:ops.toList.drop (f.length+1)=l)(B:s.fits n)
  (J:JN E C o s t m p) (h:Ui E ops o l s f p kp=ar r) (hp:∀u,kp u=ar r->u.fits n->Q (.panic t m) u.toA):yh E.P C Q ops (ops.toList.foldl (λg o=>g++[uR o g]) []) f.length f s.toA K:=by
 unfold Ui at h
 simp only at h
 generalize M:NU _ []=L at h
 cases i:o.guard.isNone&&(DQ L).good with
 |false=>rw[i]at h;cases h
 |true=>
  rw[i,ai]at h;simp only[aX]at i;split at h
  ·rename_i cT N
   let ⟨DI,D,e⟩:=Gw z A G b l _ s _ _ _ I B h;simp only[eT,List.reverse_reverse]at e;generalize y9:ops.toList.foldl _ []=O at D e⊢;cases y:iz ops _ O with
   |false=>rw[y]at e;cases e
   |true=>
    rw[y,ai]at e;let S:=hp _ e λx d=>by rw[Tr.has_clr];exact B x d
    let c:∀x,x∈(p++s.hp).map _->x∈L:=λx d=>M▸Bu _ _<| .inl d
    refine Nk q rfl D y λj T U F a w V W=>?_
    unfold wpOpIn;simp only[q,nZ<|WR.1 i.1,if_true];refine J T (AJ U) (λk X=>F k<|c k<|by rw[Cp];exact q7.2<| .inl X) a w V (db b q) W _ λY Z I3=>⟨_,_,rfl,S,?_⟩
    refine Ql (λgg v hv=>z.gf gg v<|by rw[←A];exact hv) ((kR i.2 N).of_agree ?_) (λx=>.inl<|Tr.get_clr s.fr x) ?_ Y Z I3
    ·intro x x' φ d;rw[bV];show aT _ p x=_;rw[tQ,tQ,F x<|JS d];rfl
    ·intro x ob d;let ⟨eU,h3⟩:=j x ob d;exact JR<|c x<|by rw[Cp];exact q7.2<| .inr<|pw h3
  ·cases h
theorem Gx {K}(z:E.Good)(A:C.Γ=E.gam){n}(v:C.n=n)(b:fp ops C.n=bc):∀(l) (i) (s) (f) (k) (kp),ops.toList.drop i=l->i<=ops.size->f.length=i->s.fits n->
  DR E n ops l s f k kp=ar r->(∀t m B,kp t m B=ar r->B.fits n->Q (.panic t m) B.toA)->(∀D,D.fits n->k D=ar r->K D.toA)->yh E.P C Q ops (ops.toList.foldl (λp o=>p++[uR o p]) []) i f s.toA K
 |[],i,s,f,k,kp,F,T,c,M,h,hp,G=>by grind [DR,iz,uR,TL]
 |o::l,i,s,f,k,kp,F,T,c,M,h,hp,G=>by
  let N:i<ops.size:=by grind [TE,ly]
  let g:ops[i]?=ar o:=by
   let:(ops.toList.drop i)[0]?=ar o:=by rw[F];rfl
   grind
  let O:ops.toList.drop (i+1)=l:=by rw[←MX,F];rfl
  let q  :=λd U=>v▸db b g d U
  rcases yA v M h with ⟨I,e1,f1,J,u⟩|⟨I,e1,f1,J,u⟩
  ·rw[←e1]at u⊢
   rcases Qq z A J with ⟨e,x,L⟩|⟨t,m,wr,x,L⟩
   ·refine AI (tS g rfl L u) ?_;rw[←u6 f1 q];exact Gx z A v b l _ _ _ k kp O N (by simp[c]) (rl f1 _ _) x hp G
   ·cases y:ah0 ops o f with
    |false=>grind [ah1]
    |true=>
     rw[y,ai]at x;unfold ah0 at y;simp only[aX,gv,List.mem_range]at y;let ⟨⟨⟨V,S⟩,W⟩,X⟩:=y;rw[c]at S
     refine TM g (λj Y Z=>by
      let:=W j Z;rw[Bool.or_eq_true,c]at this;rcases this with h|h
      ·let:=gx h;omega
      ·exact h) c (λj Y=>by let:=X j (by omega);rwa[c]at this) S ?_
     intro a w hr K';unfold wpOpIn;simp only[g,nZ<|WR.1 V,if_true];refine L.at a w hr (db b g) K' Q ?_;let:=hp t m _ x f1;simp only[WM,bV]at this;exact this
  ·rw[←e1]at u⊢;refine AI (tA g u) ?_;let:(⟨_,.tup [],[],[]⟩:Eff).app _=(I.app _ _).toA:=(u6 f1 q<|Bt I).symm;rw[this];exact Gx z A v b l _ _ _ k kp O N (by simp[c]) (rl f1 _ _) J hp G
end
end Go.Vm
namespace Go.Vm
universe u
variable {R:Type}
def NV (hp:LHp)(a:Nat):List Nat->Nat->Sg
 |[],_=>[]
 |o::l,j=>bif h8 o a then (o,o,.keep)::NV hp a l j else (o,j,JL hp o)::NV hp a l (j+1)
def ZV :Nat->Nat->List Nat
 |0,_=>[]
 |n+1,i=>i::ZV n (i+1)
def tT (a:Sg):Nat->Bool
 |0=>bc
 |n+1=>(match a.get n with|some (b,.keep)=>dK b n|_=>a8)&&tT a n
theorem rp {a}:∀{n},tT a n=bc->∀o,o<n->a.get o=ar (o,.keep)
 |0,_,o,b=>by omega
 |n+1,h,o,b=>by
  simp only[tT,aX]at h;by_cases e:o=n
  ·grind [cb]
  ·exact rp h.2 o (by omega)
def rev :List Nat->List Nat->List Nat
 |[],b=>b
 |a::l,b=>rev l (a::b)
def Gy hp a b  :=
 NV hp a (rev (ji hp fA (ZV a 0++b) []) []) a
def NW (s:LSt):List Nat->List Nat
 |[]=>[]
 |x::l=>(s.fr.get x).refs++NW s l
def zM (b:Sg):AV->AV
 | .tup l=>(match rens b l with|some c=>.tup c|none=>.undef)
 |a=>(match a.ren b with|some d=>d|none=>.undef)
theorem Gz b a:ZB b a (zM b a):=by
 unfold zM;split
 ·rename_i l
  split
  ·rename_i c h;exact .inr (.inr ⟨l,c,rfl,rfl,h⟩)
  ·exact .inl rfl
 ·split
  ·rename_i d h;exact .inr (.inl h)
  ·exact .inl rfl
def sx (a:Sg)(s:LSt):List Nat->List (Nat×AV)
 |[]=>[]
 |x::l=>(x,zM a (s.fr.get x))::sx a s l
theorem yB {b s}:∀{l} {x} {a},(x,a)∈sx b s l->a=zM b (s.fr.get x)
 |[],_,_,h=>by cases h
 |y::l,x,a,h=>by
  simp only[sx,kt,Prod.mk.injEq]at h;rcases h with ⟨rfl,rfl⟩|h
  ·rfl
  ·exact yB h
structure Cfg where
 n:Nat
 depth:Nat
 base:Nat
 live:List (Nat×List Nat)
 rf:Bool
def arZ (b:Cfg)(s:LSt)(L:List Nat):Option LSt:=
 let a:=Gy s.hp b.base (NW s L)
 bif a.good&&tT a b.base then
  (match nN s.hp a a with|some c=>ar ⟨az b.depth (sx a s L),c,b.base+a.length⟩|none=>a6)
 else a6
structure CK (E:Env)(cf:Cfg)(C:Ctx):Prop where
 gam:C.Γ=E.gam
 n:C.n=cf.n
 fit:cf.n<2 ^ cf.depth
 pin:∀o ob,C.h0 o=ar ob->o<cf.base
 rf:cf.rf=bc->C.rd=a6/\C.nm=a8
theorem pz (a:Cfg)(h:a.n<2 ^ a.depth) l hp nx:(⟨az a.depth l,hp,nx⟩:LSt).fits a.n:=by intro x b;grind [Jx,Tr.has_full]
theorem ah2 {E c C}(i:E.Good)(e:CK E c C){s f L}(h:arZ c s L=ar f):Le C s.toA f.toA/\f.fits c.n:=by
 unfold arZ at h;simp only at h;generalize Gy s.hp _ _=d at h;cases b:d.good&&tT d _ with
 |false=>rw[b]at h;cases h
 |true=>
  rw[b]at h;simp only[aX]at b;split at h
  ·rename_i u j
   cases h;refine⟨Ql (λg v l=>i.gf g v (by rw[←e.gam];exact l)) (kR b.1 j) ?_ λo m p=>rp b.2 o (e.pin o m p),pz c e.fit _ _ _⟩;intro x;show ZB d _ ((az _ _).get x);rcases re _ _ x with h|⟨a,q,t⟩
   ·rw[h];exact .inl rfl
   ·rw[t,yB q];exact Gz d _
  ·cases h
def lz :Code->Option Nat
 | .region id _ _=>ar id
 | .seq a b=>(match lz a with|some i=>ar i|none=>lz b)
 | .block _ c=>lz c
 | .loop c=>lz c
 | .scope c=>lz c
 | .cond _ a b=>(match lz a with|some i=>ar i|none=>lz b)
 |_=>a6
def nrm (a:Cfg)(c:Code)(s:LSt):Option LSt:=
 match lz c with|some id=>(match lk a.live id with|some L=>arZ a s L|none=>ar s)|none=>ar s
theorem ZW {E a C}(d:E.Good)(e:CK E a C){c s b}(f:s.fits a.n)(h:nrm a c s=ar b):Le C s.toA b.toA/\b.fits a.n:=by grind [nrm,ah2,WS]
def oI (s:LSt):List Nat->List (Nat×AV)
 |[]=>[]
 |x::l=>(x,s.fr.get x)::oI s l
theorem Bv {s}:∀{l} {p},p∈oI s l->p.2=s.fr.get p.1
 |[],_,h=>by cases h
 |y::l,p,h=>by
  simp only[oI,kt]at h;rcases h with rfl|h
  ·rfl
  ·exact Bv h
def m7 (a:Cfg)(c:Code):List Nat:=
 match lz c with|some id=>(match lk a.live id with|some L=>L|none=>[])|none=>[]
def j8 (c:Operand)(s:LSt)(b:Bool):LSt:=match c with| .tmp x=>s.set x (.d .bool b)|_=>s
def ee (n:Nat):Code->Bool
 | .region _ ops _=>fp ops n
 | .seq a b=>ee n a&&ee n b
 | .cond c a b=>(match c with| .tmp x=>h8 x n|_=>bc)&&ee n a&&ee n b
 | .block _ c=>ee n c
 | .loop c=>ee n c
 | .scope c=>ee n c
 |_=>bc
def ar0 (a:List Oper)(p:Tmp):Option Tmp:=
 match a.find? (λo=>match o.dst with|some d=>dK d p|none=>a8)with
 |some o=>(match o.op with
  | .indexAddr _ (.tmp y) _=>
   (match a.find? (λo=>match o.dst with|some d=>dK d y|none=>a8)with|some b=>(match b.op with| .move (.tmp z)=>ar z|_=>ar y)|none=>ar y)
  |_=>a6)
 |none=>a6
def GA (a:List Oper)(s:LSt):List Oper->List Nat
 |[]=>[]
 |o::l=>
  match o.op with
  | .fieldAddr _ (.tmp p) _=>
   (match ar0 a p with|some z=>(match s.fr.get z with| .os q _=>(match aD s.hp q with|some (.arr _ e _ z _)=>bif A8 e&& !z||(!A8 e&&e.isAgg)then q::GA a s l else GA a s l|_=>GA a s l)|_=>GA a s l)|none=>GA a s l)
  |_=>GA a s l
def Qs (a:List Oper)(s:LSt):LSt:=⟨s.fr,dq s.hp (GA a s a)++s.hp,s.nx⟩
theorem ZX {C} a s:Le C s.toA (Qs a s).toA:=by let h:=JA (C:=C) (s:=s.toA) rfl (GA a s a);grind [Qs,aT,dq,GA,WM,bV]
def ex (E:Env)(j:Cfg):Code->{R:Type}->LSt->(AEx->LSt->Option R)->Option R
 | .skip,_,s,k=>k .normal s
 | .label _,_,s,k=>k .normal s
 | .ret,_,s,k=>k .ret s
 | .exit id,_,s,k=>k (.exit id) s
 | .region _ ops A,_,s,k=>
  bif A then DR E j.n ops ops.toList (Qs ops.toList s) [] (λh=>k .normal h) (λt m h=>k (.panic t m) h)
  else JP E j.n ops ops.toList s (λh=>k .normal h) (λt m h=>k (.panic t m) h)
 | .seq a b,_,s,k=>ex E j a s λe h=>
  match e with| .normal=>ex E j b h k| .exit id=>k (.exit id) h| .ret=>k .ret h| .panic t m=>k (.panic t m) h
 | .cond c a b,_,s,k=>
  (match s.ev E c with| .d .bool v=>bif v then ex E j a (j8 c s bc) k else ex E j b (j8 c s a8) k|_=>a6)
 | .block id c,_,s,k=>ex E j c s λe h=>
  match e with| .normal=>k .normal h| .exit i=>bif dK i id then k .normal h else k (.exit i) h| .ret=>k .ret h| .panic t m=>k (.panic t m) h
 | .loop c,_,s,k=>
  (match nrm j c s with
  |some B=>
   (A2 (λq=>ex E j c q λe h=>
    match e with| .normal=>(match nrm j c h with|some D=>ar (.next D)|none=>a6)| .exit id=>ar (.done ((.exit id,h):AEx×LSt))| .ret=>ar (.done (.ret,h))| .panic t m=>ar (.done (.panic t m,h))) fu B).bind λz=>k z.1 z.2
  |none=>a6)
 | .rangeFunc fop F l p,_,s,k=>
  bif j.rf then
   (match s.ev E fop with
   | .fn (.func f) [] u=>
    (match lk E.calls f,aD s.hp s.nx with
    |some g,a6=>
     let o:LHp:=(s.nx,.rc (.loop ⟨j.depth,F,l,p,j.n⟩ (oI s (m7 j l)) .ready))::s.hp
     rk g (.ref s.nx::u) ⟨s.fr,o,s.nx+1⟩
      (λe=>
       match aD (e.wr++o) s.nx with
       |some (.rc (.loop x y q))=>
        (match q with| .ready=>k .normal ⟨s.fr,(s.nx,.rc (.loop x y .over))::(e.wr++o),e.nx⟩| .done .ret=>k .ret ⟨s.fr,(s.nx,.rc (.loop x y .over))::(e.wr++o),e.nx⟩| .done (.exit id)=>k (.exit id) ⟨s.fr,(s.nx,.rc (.loop x y .over))::(e.wr++o),e.nx⟩|_=>a6)
       |_=>a6)
      (λt m G=>k (.panic t m) ⟨s.fr,G++o,s.nx+1⟩)
    |_,_=>a6)
   |_=>a6)
  else a6
 |_,_,_,_=>a6
def ar1 (C:Ctx)(n:Nat)(k:AEx->LSt->Option R)(r:R):AEx->ASt->Prop:=λe s=>∃a,Le C s a.toA/\a.fits n/\k e a=ar r
theorem Bw {E}{c:Operand}{s:LSt}{n}{b:Bool}(a:s.fits n)(e:(match c with| .tmp x=>h8 x n|_=>bc)=bc)(h:s.ev E c=.d .bool b):(j8 c s b).toA=s.toA/\(j8 c s b).fits n:=by cases c with|tmp x=>exact⟨u7 a (gx e) h,j7 a _ _⟩|const v=>exact⟨rfl,a⟩|global g=>exact⟨rfl,a⟩|func f=>exact⟨rfl,a⟩
theorem ZY {P C n c}{B:LSt->Option (Stp LSt (AEx×LSt))}{Q:AEx->ASt->Prop}:∀(m) (p) (a:AEx×LSt),A2 B m p=ar a->p.fits n->
  (∀(b:LSt) (o:Stp LSt (AEx×LSt)),b.fits n->B b=ar o->AW P C c (λe f=>match o with| .next q=>e=.normal/\Le C f q.toA/\q.fits n| .done a=>e≠.normal/\e=a.1/\Le C f a.2.toA/\a.2.fits n) b.toA)->
  (∀f,Le C f a.2.toA->a.2.fits n->a.1≠.normal->Q a.1 f)->AW P C (.loop c) Q p.toA:=by
 intro m p a h x g y
 refine ahI (J:=λj s=>∃b,s=b.toA/\b.fits n/\A2 B j b=ar a) ⟨p,rfl,x,h⟩ ?_
 rintro j s ⟨b,rfl,z,d⟩
 cases j with
 |zero=>cases d
 |succ j=>
  simp only[A2]at d;cases u:B b with
  |none=>rw[u]at d;cases d
  |some o=>
   rw[u]at d;refine zK (g b o z u) ?_;intro e f hp;cases o with|next q=>obtain⟨rfl,i,l⟩:=hp;exact⟨j,_,Nat.lt_succ_self _,i,q,rfl,l,d⟩|done A=>simp only[Option.some.injEq]at d;subst d;obtain⟨v,rfl,i,l⟩:=hp;have:=y f i l v;generalize A.1=e at this v;cases e with|normal=>exact(v rfl).elim|exit id=>exact this|ret=>exact this|panic t m=>exact this
theorem EJ {E z C}(K:E.Good)(cZ:E.P.follows .mixedOrders=bc)(G:CK E z C):∀(c) {R} (s) (k) (r:R),ee z.n c=bc->s.fits z.n->ex E z c s k=ar r->AW E.P C c (ar1 C z.n k r) s.toA:=by
 intro c;induction c with
 |skip=>intro R s k r _ y h;exact ahF ⟨s,WS _ _,y,h⟩
 |label l=>intro R s k r _ y h;exact Zo ⟨s,WS _ _,y,h⟩
 |ret=>intro R s k r _ y h;exact arD ⟨s,WS _ _,y,h⟩
 |exit id=>intro R s k r _ y h;exact ahG ⟨s,WS _ _,y,h⟩
 |region id ops dr=>
  intro R s k r B y h;let I:fp ops C.n=bc:=by rw[G.n];exact B
  cases dr with|true=>exact mG (ZX _ s)<|ze _ cZ I (Gx K G.gam G.n I _ 0 _ [] _ _ rfl (k7 _) rfl y h (λt m s' u x=>⟨s',WS _ _,x,u⟩) λS x u=>⟨S,WS _ _,x,u⟩)|false=>exact TI (Gv K G.gam G.n I _ 0 s _ _ rfl (k7 _) y h (λt m s' u x=>⟨s',WS _ _,x,u⟩) λS x u=>⟨S,WS _ _,x,u⟩)
 |seq a b FX IP=>
  intro R s k r B y h;simp only[ee,aX]at B;refine arE (zK (FX s _ r B.1 y h) ?_)
  rintro e s' ⟨D,q,x,u⟩
  cases e with|normal=>exact mG q (IP D k r B.2 x u)|exit id=>exact⟨D,q,x,u⟩|ret=>exact⟨D,q,x,u⟩|panic t m=>exact⟨D,q,x,u⟩
 |cond c a b FX IP=>
  intro R s k r B y h;simp only[ee,aX]at B;simp only[ex]at h;split at h
  ·rename_i v L
   refine ahH ((cK G.gam s c).trans L) ?_ ?_
   ·rintro rfl
    let ⟨e1,f1⟩:=Bw y B.1.1 L;grind
   ·rintro rfl
    let ⟨e1,f1⟩:=Bw y B.1.1 L;grind
  ·cases h
 |block id c V=>
  intro R s k r B y h;refine Zp (zK (V s _ r B y h) ?_)
  rintro e s' ⟨D,q,x,u⟩
  cases e with|normal=>exact⟨D,q,x,u⟩|ret=>exact⟨D,q,x,u⟩|panic t m=>exact⟨D,q,x,u⟩|exit i=>simp only at u;simp only[AEx.inBlk];cases hb:dK i id with|true=>rw[hb]at u;exact⟨D,q,x,u⟩|false=>rw[hb]at u;exact⟨D,q,x,u⟩
 |loop c V=>
  intro R s k r B y h;simp only[ex]at h;split at h
  ·rename_i s0 W
   let ⟨M,X⟩:=ZW K G y W;let ⟨es,Y,u⟩:=bC h;refine mG M (ZY fu s0 es Y X ?_ λs' q x _=>⟨es.2,q,x,u⟩);intro D o T hB;refine zK (V D _ o B T hB) ?_
   rintro e s' ⟨S,q,x,A⟩
   cases e with
   |normal=>
    simp only at A;split at A
    ·rename_i y6 N;cases A;let ⟨O,Z⟩:=ZW K G x N;exact⟨rfl,q.trans O,Z⟩
    ·cases A
   |exit id=>cases A;exact⟨by simp,rfl,q,x⟩
   |ret=>cases A;exact⟨by simp,rfl,q,x⟩
   |panic t m=>cases A;exact⟨by simp,rfl,q,x⟩
  ·cases h
 |rangeFunc fop U j F _ _=>
  intro R s k r B y h;simp only[ex]at h;cases J:z.rf with
  |false=>rw[J]at h;cases h
  |true=>
   rw[J]at h;simp only[ai]at h;let ⟨IK,hnm⟩:=G.rf J;split at h
   ·rename_i f cap hx
    split at h
    ·rename_i g hg h0
     let ⟨σ,fE,args',hs,ae,aJ,wr,c1,c2,c3,c4,c5,c6⟩:=Bp (K.calls _ (jn hg)) h;let hGF  :=λgg v L=>K.gf gg v (by rw[←G.gam];exact L)
     rw[←G.gam]at c3;let e1:aD ((s.nx,.rc (.loop ⟨z.depth,U,j,F,z.n⟩ (oI s (m7 z j)) .ready))::s.hp)=aT (aD s.hp) [(s.nx,.rc (.loop ⟨z.depth,U,j,F,z.n⟩ (oI s (m7 z j)) .ready))]:=bV [_] s.hp;rw[e1]at c2 c4;refine Gf (o:=s.nx) (d:=z.depth) hGF hnm IK ((cK G.gam s fop).trans hx) h0 (λp hp=>Bv hp) (by rw[G.n]) c1 c2 c3 c4 ?_ ?_
     ·intro rs DA
      rcases c6 with ⟨rs1,j0,e2,_,u⟩|⟨t,n,e2,_⟩
      ·simp only at u
       split at u
       ·rename_i uO uP D T
        rw[bV,e1]at T;refine⟨uO,uP,D,T,?_⟩
        let q:∀nx,Le C ⟨s.fr.get,aT (aT (aT (aD s.hp) [(s.nx,.rc (.loop ⟨z.depth,U,j,F,z.n⟩ (oI s (m7 z j)) .ready))]) wr) [(s.nx,.rc (.loop uO uP .over))]⟩
          (⟨s.fr,(s.nx,.rc (.loop uO uP .over))::(wr++(s.nx,.rc (.loop ⟨z.depth,U,j,F,z.n⟩ (oI s (m7 z j)) .ready))::s.hp),nx⟩:LSt).toA:=λnx=>by
         rw[←e1,←bV,←bV]
         exact WS _ _
        split at u
        ·exact⟨_,q _,y,u⟩
        ·exact⟨_,q _,y,u⟩
        ·exact⟨_,q _,y,u⟩
        ·cases u
       ·cases u
      ·rw[e2]at DA;cases DA
     ·intro t n hp
      rcases c6 with ⟨rs1,j0,e2,_,_⟩|⟨t',n',e2,u⟩
      ·rw[e2]at hp;cases hp
      ·rw[e2]at hp;cases hp;refine⟨⟨s.fr,wr++_,s.nx+1⟩,?_,y,u⟩;show Le C _ (WM _);unfold WM;simp only;rw[bV,e1];exact WS _ _
    ·cases h
   ·cases h
 |_=>intro R s k r _ _ h;cases h
end Go.Vm
namespace Go.Vm
universe u
variable {R:Type}
section
variable {P:Program}{C:Ctx}
theorem ZZ {s x i a w j l}(y:Inv C x i s a w)(A:uT j i (jl j i) s.hp l)(f:∀o b,C.h0 o=ar b->j.get o=ar (o,.keep)):
  ∀o b,C.h0 o=ar b->∃q,l o=ar q/\fo b (C.μ0 o) q (jl j i o):=by
 intro o b h
 let n:=f o b h
 let ⟨t,l,c⟩:=y.pin o b h
 let ⟨g1,g2⟩:=A.ob o o .keep n
 let ⟨p,B,d⟩:=g2 t l
 refine⟨p,B,?_⟩
 rw[g1]
 cases t with
 |box v=>
  cases p with|arr _ _ _ _ _=>exact d.elim|rc _=>exact d.elim|box D=>cases b with|box F=>exact c|rc _=>exact c.elim|arr T e m z u=>let ⟨_,_,_,g,_⟩:=c;cases g
 |rc v=>
  cases p with|arr _ _ _ _ _=>exact d.elim|box _=>exact d.elim|rc D=>cases b with|box F=>exact c.elim|rc _=>exact⟨c.1,(d).trans c.2⟩|arr T e m z u=>let ⟨_,_,_,g,_⟩:=c;cases g
 |arr T e m z u=>obtain⟨G,g,rfl⟩:=d;cases g;exact c
theorem Inv.hpStepV {W m p g f i j u v n x y s a w d}(c:Inv ⟨W,m,λb=>∃o,(g o).blk=ar b,n,v,u,i,g,x,y⟩ p f s a w)
  (H:fg d s.hp j) (e:∀o z,i o=ar z->d.get o=ar (o,.keep)):gk W m g i w p (jl d f) j/\uT d f (jl d f) s.hp j:=by
 let ⟨A,q⟩:=H.inv (λo b h=>⟨(c.sep o b h).1,(c.sep o b h).2.1⟩) c.inj c.obj
 refine⟨⟨c.os,c.tape,c.output,c.grow,λb B l=>c.old b B λ⟨o,D⟩=>l o D,c.imC,c.imNew,c.imLt,λo b h=>?_,ZZ c q e,A⟩,q⟩
 unfold jl at h
 cases t:d.inv o with|none=>rw[t]at h;cases h|some F=>rw[t]at h;exact(c.sep F b h).2.2
def apG (P:Program)(g:Func)(d:Hp)(R:aq->Hp->Prop):AEx->ASt->Prop
 | .normal,s| .ret,s=>∃e a b f,oG P s g.results.toList e/\fg a s.hp b/\rens a e=ar f/\(∀o c,d o=ar c->a.get o=ar (o,.keep))/\R (.ret f) b
 | .panic t n,s=>∃a b,fg a s.hp b/\(∀o c,d o=ar c->a.get o=ar (o,.keep))/\R (.panic t n) b
 | .exit _,_=>False
theorem NX {L f j c b y R}(hf:P.funcs[f]?=ar j)(hb:j.body=ar c)(m:∀(M:Array _) (w:World),(callFunc f M).run P w=.ok (.enter f M) w)(N:∀g v,L g=ar v->v.free=bc)
  (hn:b.length<=j.ntmps) (h:∀W z A,AW P (Jr W z A y j.ntmps L) c (apG P j y R) ⟨mY b,y⟩):FnH P L f b y R:=by
 refine⟨m,λW z A Z lX p hI q=>?_⟩
 refine callsIn_wide.1 (callsIn_of_wp_marks (n:=0) hf hb trivial ?_)
 let B:=A1 lX N p hI q hn
 refine wpIn_mono (h W z A _ _ ⟨z,A,B⟩) ?_
 rintro e a w ⟨I,s,rfl,J,D,Qd,O⟩
 let ⟨ms,hd,K⟩:=O.defers
 let F:∀u,u≠.run->(∀x,arQ ms w x->LeavesInM _ 0 P j _ _ [] u x)->
   LeavesInM Fence.wide 0 P j a.tmps (λe x=>∃I i cX ca,R I i/\gk W z A y x cX ca i/\gP x cX ca i I e) a.defers u w:=λu hu hh=>by
  rw[hd]
  exact uV hu ms w K.nodup (λr hr=>(K.all r hr).2.2.2.2) hh
 let l:(∃S G i j0,oG P s j.results.toList S/\fg G s.hp i/\rens G S=ar j0/\(∀o ob,y o=ar ob->G.get o=ar _)/\R _ i)->
   LeavesInM _ 0 P j _ _ _ .returning w:=by
  rintro⟨S,G,i,j0,T,U,DA,d,V⟩
  refine F _ (by simp) λx X=>?_
  let gh:=O.unmark K X
  let ⟨M,g1,g2⟩:=n5 gh T
  let ⟨Y,hS⟩:=gh.hpStepV U d
  let ⟨v,g3,g4⟩:=yj g1 (RepFs.ren hS _ _ _ DA g2)
  exact⟨v,g3,_,i,D,_,V,Y,g4⟩
 cases I with
 |normal=>exact l J
 |ret=>exact l J
 |exit id=>exact J.elim
 |panic t n=>
  let ⟨G,i,U,d,V⟩:=J;refine F _ (by simp) λx X=>?_
  let ⟨Y,_⟩:=(O.unmark K X).hpStepV U d;exact⟨_,i,D,_,V,Y,rfl⟩
end
def tU (P:Program)(s:LSt):List ResultVar->Option (List AV)
 |[]=>ar []
 | .tmp t::l=>bif (s.fr.get t).plain then (match tU P s l with|some r=>ar (s.fr.get t::r)|none=>a6)else a6
 | .cell t T::l=>
  (match s.fr.get t with
  | .op o [] 0=>
   (match aD s.hp o with|some (.box a)=>bif Bb P T a.asize a.isAgg then (match tU P s l with|some r=>ar (a::r)|none=>a6)else a6|_=>a6)
  |_=>a6)
theorem zN {P s}:∀{l} {b},tU P s l=ar b->oG P s.toA l b
 |[],b,h=>by cases h;exact .nil
 | .tmp t::l,b,h=>by
  simp only[tU]at h;cases hp:(s.fr.get t).plain with
  |false=>rw[hp]at h;cases h
  |true=>
   rw[hp]at h;split at h
   ·rename_i r c;cases h;exact .tmp rfl hp (zN c)
   ·cases h
 | .cell t T::l,b,h=>by
  simp only[tU]at h;split at h
  ·rename_i o e
   split at h
   ·rename_i a f
    cases d:Bb P T _ _ with
    |false=>rw[d]at h;cases h
    |true=>
     rw[d]at h;split at h
     ·rename_i r c;cases h;exact .cell e f (pj d) (zN c)
     ·cases h
   ·cases h
  ·cases h
def fin (a:Nat)(hp:LHp)(c:List AV)(k:List AV->LHp->Option R):Option R:=
 let b:=Gy hp a (refsL c)
 bif b.good&&tT b a then
  (match rens b c with|some d=>(match nN hp b b with|some e=>k d e|none=>a6)|none=>a6)
 else a6
theorem Bx {a hp c k}{r:R}(h:fin a hp c k=ar r):
  ∃b d e,fg b (aD hp) (aD d)/\rens b c=ar e/\(∀o,o<a->b.get o=ar (o,.keep))/\k e d=ar r:=by
 unfold fin at h
 simp only at h
 generalize Gy hp a _=b at h
 cases f:b.good&&tT b a with|false=>rw[f]at h;cases h|true=>grind [kR,rp]
def number :Nat->List AV->List (Nat×AV)
 |_,[]=>[]
 |i,a::l=>(i,a)::number (i+1) l
def dG (n:Nat):LHp->Bool
 |[]=>bc
 |(o,_)::r=>h8 o n&&dG n r
theorem eV {n}:∀{l},dG n l=bc->∀o c,aD l o=ar c->o<n
 |[],_,_,_,h=>by cases h
 |(a,b)::r,d,o,c,h=>by simp only[dG,aX]at d;simp only[aD]at h;cases e:dK a o with|true=>rw[←cb e];exact gx d.1|false=>rw[e]at h;exact eV d.2 o c h
def Uj (P:Program)(a:Nat)(e:List ResultVar):AEx->LSt->Option (aq×LHp)
 | .normal,s=>(match tU P s e with|some c=>fin a s.hp c (λd b=>ar (.ret d,b))|none=>a6)
 | .ret,s=>(match tU P s e with|some c=>fin a s.hp c (λd b=>ar (.ret d,b))|none=>a6)
 | .panic t m,s=>fin a s.hp [] (λ_ b=>ar (.panic t m,b))
 | .exit _,_=>a6
def By (E:Env)(e:Func)(a:Nat)(live:List (Nat×List Nat))(b:List AV)(d:LHp):Option (aq×LHp):=
 match e.body with
 |none=>a6
 |some c=>
  bif AD b.length e.ntmps&&dG d.length d then
   ex E ⟨e.ntmps,a,d.length,live,bc⟩ c ⟨az a (number 0 b),d,d.length⟩ (Uj E.P d.length e.results.toList)
  else a6
def NY (E:Env)(d:Func)(a:Nat)(b:List (Nat×List Nat)):FnE:=
 {run:=λc e k=>(By E d a b c e).bind λp=>k p.1 p.2}
theorem xf d:∀(l) (i x),(az d (number i l)).get x=.undef\/∃j,x=i+j/\(az d (number i l)).get x=(l[j]?).getD .undef:=by
 intro l i x;rcases re d _ x with h|⟨a,e,c⟩
 ·exact .inl h
 ·let key:∀(l:List AV) (i:Nat),(x,a)∈number i l->∃j,x=i+j/\(l[j]?).getD .undef=a:=by
   intro l
   induction l with
   |nil=>intro i h;cases h
   |cons b l f=>
    intro i h;simp only[number,kt,Prod.mk.injEq]at h;rcases h with ⟨rfl,rfl⟩|h
    ·simp
    ·let ⟨j,e,c⟩:=f _ h;exact⟨j+1,by omega,by simpa using c⟩
  grind
theorem Bz {C s c}(hp:c.hp=s.hp)(h:∀x,c.fr x=.undef\/c.fr x=s.fr x):Le C s c:=by
 rintro a w ⟨d,e,b⟩
 refine⟨d,e,b.os,b.tape,b.output,b.grow,b.old,b.imC,b.imNew,b.imLt,b.sep,b.inj,by rw[hp];exact b.dom,by rw[hp];exact b.obj,by rw[hp];exact b.glob,λx=>?_,b.size,b.defers,by rw[hp];exact b.pin⟩;rcases h x with h|h
 ·rw[h];trivial
 ·rw[h,hp];exact b.fr x
theorem ah3 {P p g e s j l}(b:dG g.length g=bc)(h:Uj P g.length p.results.toList e s=ar (j,l)):
  apG P p (aD g) (λu a=>u=j/\a=aD l) e s.toA:=by
 let c:(match tU P s _ with|some i=>fin g.length s.hp i λd a=>ar (.ret d,a)|none=>a6)=ar (j,l)->
   ∃i f a d,oG P _ p.results.toList i/\fg f _ a/\rens f i=ar d/\(∀o n,aD g o=ar n->f.get o=ar (o,.keep))/\.ret d=j/\a=aD l:=by
  intro h
  split at h
  ·rename_i i v;let ⟨f,a,d,g1,g2,g3,g4⟩:=Bx h;cases g4;exact⟨i,f,_,d,zN v,g1,g2,λo n q=>g3 o (eV b o n q),rfl,rfl⟩
  ·cases h
 cases e with|normal=>exact c h|ret=>exact c h|exit id=>cases h|panic t m=>let x:fin _ s.hp [] (λ_ a=>ar (.panic t m,a))=ar (j,l):=h;let ⟨f,a,d,g1,g2,g3,g4⟩:=Bx x;cases g4;exact⟨f,_,g1,λo n q=>g3 o (eV b o n q),rfl,rfl⟩
theorem GB {P C c s Q g}(h:AW P C c g s)(k:∀ex d,g ex d->∃b,Le C d b/\Q ex b):AW P C c Q s:=
 λa w i=>wpIn_mono (h a w i) λe q t j=>by let ⟨l,d,m,n,o⟩:=j;let ⟨b,p,f⟩:=k _ _ n;exact⟨l,b,m,f,p _ _ o⟩
theorem Uk {E:Env}(v:E.Good)(cZ:E.P.follows .mixedOrders=bc){f}{i:Func}{a}{live:List (Nat×List Nat)}(z:E.P.funcs[f]?=ar i)(j:∀(y:Array _) (w:World),(callFunc f y).run E.P w=.ok (.enter f y) w)
  (b:(match i.body with|some c=>ee i.ntmps c|none=>bc)=bc) (l:h8 i.ntmps (2 ^ a)=bc):FnE.OK E.P E.gam f (NY E i a live):=by
 refine⟨?_,?_⟩
 ·intro R d n k;simp only[NY];cases By E i _ live d n<;>rfl
 ·intro d n I J h
  let ⟨p,hp,h⟩:=bC h;cases h;unfold By at hp;cases q:i.body with
  |none=>rw[q]at hp;cases hp
  |some c=>
   rw[q]at hp b;cases m:AD _ _&&dG _ n with
   |false=>rw[m]at hp;cases hp
   |true=>
    rw[m]at hp;simp only[aX]at m;let g  :=gx l;refine NX z q j v.gf (gx m.1) λW A B=>?_
    let t:CK E ⟨_,_,_,live,bc⟩ (Jr W A B _ _ E.gam):=⟨rfl,rfl,g,λo D F=>eV m.2 o D F,λ_=>⟨rfl,rfl⟩⟩;let u:=EJ v cZ t c _ _ _ b (pz ⟨_,_,_,live,bc⟩ g _ _ _) hp;refine mG (s':=(⟨_,n,_⟩:LSt).toA) (Bz rfl λx=>?_) (GB u ?_)
    ·show (az _ _).get x=.undef\/(az _ _).get x=mY d x;grind [xf,mZ]
    ·rintro e s' ⟨K,G,_,L⟩
     grind [ah3]
def GC (P:Program):List (Nat×Ty)->Prop
 |[]=>True
 |p::r=>ft P p.1 p.2/\GC P r
theorem Qt {P}:∀{l},GC P l->∀p∈l,ft P p.1 p.2
 |[],_,_,h=>by cases h
 |q::r,a,p,h=>by
  rcases kt.1 h with rfl|h
  ·exact a.1
  ·exact Qt a.2 p h
theorem Z0 {l:List (Nat×AV)}(h:(l.all λp=>p.2.free)=bc):∀g v,lk l g=ar v->v.free=bc:=λg v a=>gv.1 h _ (jn a)
def Env.add (E:Env)(k:Nat) g  :={E with calls:=(k,g)::E.calls}
theorem Env.Good.add {E:Env}(h:E.Good){k:Nat}{g}(a:FnE.OK E.P E.gam k g):(E.add k g).Good:=
 ⟨⟨h.ty⟩,h.gf,λp hp=>by
  rcases kt.1 hp with rfl|hp
  ·exact a
  ·exact h.calls p hp,h.exts,h.round⟩
def Env.addX (E:Env)(k:Nat) g  :={E with exts:=(k,g)::E.exts}
theorem Env.Good.addX {E:Env}(h:E.Good){k:Nat}{g}(a:p6.OK E.P k g):(E.addX k g).Good:=
 ⟨⟨h.ty⟩,h.gf,h.calls,λp hp=>by
  rcases kt.1 hp with rfl|hp
  ·exact a
  ·exact h.exts p hp,h.round⟩
end Go.Vm
namespace Go.Vm
theorem p8 {P f b c}(d:P.funcs[f]?=ar b)(e:b.body.isNone=bc)(g:(b.name== "runtime.NumGoroutine")=a8)(i:Dq b=a6)(j:WC b=ar c) a w w' {v}
  (h:(c a).run P w=.ok v w'):(callFunc f a).run P w=.ok (.value v) w':=by
 rw[run_callFunc_extern d g e i j,h];rfl
def GD :p6:={run:=λa k=>match a with|[.d .str l,.d (.int .u8) c]=>bif 0<=c&&c<256 then k (.d (.int .i64) (Lib.countByte l c.toNat.toUInt8:Int))else a6|_=>a6}
def p9 :p6:={run:=λa k=>match a with|[.d .str l,.d (.int .u8) c]=>bif 0<=c&&c<256 then k (.d (.int .i64) (js l c.toNat.toUInt8))else a6|_=>a6}
theorem JT {w d e hp a b c}(f:c.length=[a,b].length)(h:∀(i:Nat) (x:AV) (v:Value),[a,b][i]?=ar x->c[i]?=ar v->cr w d e hp x v):∃u v,c=[u,v]/\cr w d e hp a u/\cr w d e hp b v:=by
 match c,f with|[u,v],_=>exact⟨u,v,rfl,h 0 a u rfl rfl,h 1 b v rfl rfl⟩
theorem zO {w c d hp a b}(e:b.length=[a].length)(h:∀(i:Nat) (x:AV) (v:Value),[a][i]?=ar x->b[i]?=ar v->cr w c d hp x v):∃u,b=[u]/\cr w c d hp a u:=by
 match b,e with|[u],_=>exact⟨u,rfl,h 0 a u rfl rfl⟩
theorem Ul {P f a}(g:P.funcs[f]?=ar a)(i:a.body.isNone=bc)(j:(a.name== "runtime.NumGoroutine")=a8)(m:Dq a=a6)(n:WC a=ar Extern.BytealgCount.count):p6.OK P f GD:=by
 refine⟨λb k=>by
  simp only[GD];split
  ·rename_i l c;cases a7 (0<=c)&&a7 (c<256)<;>rfl
  ·rfl,λb k r h=>?_⟩
 simp only[GD]at h;split at h
 ·rename_i l c;cases d:a7 (0<=c)&&a7 (c<256)with|false=>rw[d]at h;cases h|true=>rw[d]at h;refine⟨_,h,λw x y hp e o p=>?_⟩;obtain⟨u,v,rfl,q,t⟩:=JT o p;have e1:=cB rfl q;have e2:=cB rfl t;subst e1 e2;exact⟨_,w,p8 g i j m n _ w w (Lib.run_countString _ _ _),rfl,rfl,rfl,rfl,bp _ _ _ _ (.int .i64 _)⟩
 ·cases h
theorem DS {P f a}(g:P.funcs[f]?=ar a)(i:a.body.isNone=bc)(j:(a.name== "runtime.NumGoroutine")=a8)(m:Dq a=a6)(n:WC a=ar Extern.BytealgIndexByte.indexByte):p6.OK P f p9:=by
 refine⟨λb k=>by
  simp only[p9];split
  ·rename_i l c;cases a7 (0<=c)&&a7 (c<256)<;>rfl
  ·rfl,λb k r h=>?_⟩
 simp only[p9]at h;split at h
 ·rename_i l c;cases d:a7 (0<=c)&&a7 (c<256)with|false=>rw[d]at h;cases h|true=>rw[d]at h;refine⟨_,h,λw x y hp e o p=>?_⟩;obtain⟨u,v,rfl,q,t⟩:=JT o p;have e1:=cB rfl q;have e2:=cB rfl t;subst e1 e2;refine⟨_,w,p8 g i j m n _ w w ?_,rfl,rfl,rfl,rfl,bp _ _ _ _ (.int .i64 _)⟩;exact Lib.run_indexByteString _ _ _
 ·cases h
end Go.Vm
namespace Go.Vm
universe u
variable {R:Type}
section
variable {P:Program}{C:Ctx}
inductive JU :FrameMode->Value->FrameMode->Prop
 |calm:JU .returning .nilIface .returning
 |caught (v:Value):JU (.panicking [{v:=v,recovered:=a8}]) v (.panicking [{v:=v,recovered:=bc}])
theorem GF {Γ g q id f X j Y ty2 x y z B}(hgf:∀g v,Γ g=ar v->v.free=bc)(hf:P.funcs[g]?=ar q)
  (hb:q.body=ar (.seq (.region id #[⟨ar f,.call ⟨.builtin .recover, #[], #[]⟩,Y,x,z,a6⟩,⟨ar X,.assign<| .tmp f,ty2,y,B,a6⟩] a8) j))
  (D:q.results= #[]) (h5:f<q.ntmps) (h2:X<q.ntmps) {u U F} (hm:JU u F U) {av l J} {R:Hp->Prop} (Z:l.length<=q.ntmps)
  (hrv:∀(w:World) (i:Nat->Prop) (t:Mu) (hp:Hp),cr w i t hp av F)
  (h:∀W i t,AW P (Jr W i t J q.ntmps Γ bc) j (λex s'=>(ex=.normal\/ex=.ret)/\∃σ m,fg σ s'.hp m/\(∀o ob,J o=ar ob->σ.get o=ar (o,.keep))/\R m) ⟨qB (qB (mY l) f av) X av,J⟩)
  {W i t a} (lX:∀b,i b->b<W.heap.size) (K:qY Γ W i) (hI:mX W i t J) (L:RepFs W i t J l a):
  CallsD P g a.toArray u W λe M w'=>M=U/\(∃v,e=.returned v)/\∃m V ca,R m/\gk W i t J w' V ca m:=by
 refine callsD_of_wpS hf hb λc cs hc=>?_
 refine wpS_seq<|wpS_region ?_
 let N:=A1 lX hgf K hI L Z bc
 let O:=N.put (dst:=ar f) rfl rfl rfl rfl (λd hd=>by cases hd;exact h5)<|hrv _ _ _ _
 let S:=O.put (dst:=ar X) rfl rfl rfl rfl (λd hd=>by cases hd;exact h2)<|hrv _ _ _ _
 let n:∀p:Frame,p={c with mode:=U}->j.wpS P (bodyPostS P q c cs λe M w'=>M=U/\(∃v,e=.returned v)/\∃m V ca,R m/\gk W i t J w' V ca m)
   _ (p::cs) W:=by
  rintro p rfl
  refine wpS_of_wp<|wp_mono (wpIn_wide.1<|h W i t _ _ ⟨i,t,S⟩) ?_
  rintro e a' w' ⟨ae,s',rfl,⟨hex,σ,m,hH,hpin,hR⟩,V,ca,G⟩
  let ⟨tJ,_⟩:=G.hpStepV hH hpin
  let I:a'.defers=[]:=by let ⟨ms,hd,hm⟩:=G.defers;rw[hd,hm.none rfl];rfl
  rcases hex with rfl|rfl
  ·exact⟨I,U,rfl,.tuple #[],by simp[results,D],rfl,⟨_,rfl⟩,m,V,_,hR,tJ⟩
  ·exact⟨I,U,rfl,.tuple #[],by simp[results,D],rfl,⟨_,rfl⟩,m,V,_,hR,tJ⟩
 let e0:∀(ρ:Operand->Value),(execOp ρ ⟨ar f,.call ⟨.builtin .recover, #[], #[]⟩,Y,x,z,a6⟩).run P W=.ok .recover W:=λρ=>by rfl
 let e1:∀(A:Act),(execOp (A.put (ar f) F).eval ⟨ar X,.assign<| .tmp f,ty2,y,B,a6⟩).run P W=.ok (.value<|(A.put (ar f) F).eval<| .tmp f) W:=λA=>by simp[execOp]
 let e2:(({tmps:=a.toArray++Array.replicate (q.ntmps-a.toArray.size) Go.undef,defers:=[]}:Act).put (ar f) F).eval (.tmp f)=F:=by
  let kF:f<a.length+(q.ntmps-a.length):=by omega
  simp[Act.put,Act.eval,ke,kF]
 show wpOpsS P _ _ [0,1] _ _ _
 cases hm with
 |calm=>
  let hr:recoverD (c::cs)=a6:=by simp[recoverD,hc]
  simp only[wpOpsS,ahj,o3,QB,w0,if_true,e0,hr,e1,e2,Oper.upon_value];exact n c<|by rw[←hc]
 |caught v=>
  let hr:recoverD (c::cs)=ar (F,{c with mode:=.panicking [{v:=F,recovered:=bc}]}::cs):=by simp[recoverD,hc]
  simp only[wpOpsS,ahj,o3,QB,w0,if_true,e0,hr,e1,e2,Oper.upon_value];exact n _ rfl
end
def qx (hp:LHp):AV->Bool
 | .op o [] a=>dK a 0&&(match aD hp o with|some (.box _)=>bc|_=>a8)
 |_=>a8
theorem yC {hp w t f}:∀{l} {c},l.all (qx hp)=bc->RepFs w t f (aD hp) l c->
  ∀{j} {m} {d} {g},(∀o n,aD hp o=ar n->∃e,g o=ar e/\fo n (f o) e (d o))->RepFs j m d g l c
 |[],c,_,h,_,_,_,_,_=>by simpa [RepFs] using h
 |a::l,c,p,h,j,m,d,g,q=>by
  simp only[py,aX]at p;let ⟨b,u⟩:=p;obtain⟨v,x,rfl,g1,g2,g3⟩:=h;refine⟨v,x,rfl,?_,g2,yC u g3 q⟩;unfold qx at b;split at b
  ·rename_i o z
   simp only[aX]at b;let ⟨_,b⟩:=b;split at b
   ·rename_i B A;simp only[RepA]at g1⊢;let ⟨e,D,i⟩:=q o _ A;cases e with|arr _ _ _ _ _=>exact i.elim|rc _=>exact i.elim|box y=>let F:d o=f o:=i;grind
   ·cases b
  ·cases b
def ah4 :AEx->Option AV
 | .normal| .ret=>ar .nilif
 | .panic t n=>ar (.iface t (.d (.int .i64) n))
 | .exit _=>a6
structure rq where
 g:Nat
 gn:Func
 depth:Nat
 live:List (Nat×List Nat)
 t5:Nat
 t2:Nat
 t15:Nat
 caps:List Operand
def Um (E:Env)(D:rq)(c:Code)(a:List AV)(f:AV)(b:LHp):Option LHp:=
 bif AD a.length D.gn.ntmps&&dG b.length b then
  ex E ⟨D.gn.ntmps,D.depth,b.length,D.live,a8⟩ c ⟨((az D.depth (number 0 a)).set D.t5 f).set D.t2 f,b,b.length⟩ λe s=>
   match e with| .normal=>fin b.length s.hp [] (λ_ d=>ar d)| .ret=>fin b.length s.hp [] (λ_ d=>ar d)|_=>a6
 else a6
def ah5 (E:Env)(D:rq)(b:Code)(c:Nat)(l:List ResultVar)(a:List AV)(e:AEx)(s:LSt):Option (aq×LHp):=
 match ah4 e with
 |none=>a6
 |some m=>
  let L:=ji s.hp fA (refsL a) [];let f:=m6 s.hp L 0
  bif f.good then
   (match rens f a with
   |some d=>
    (match nN s.hp f f with
    |some n=>
     (match Um E D b d m n with
     |some h=>
      let i:=gH L.length s.nx h;let g:=gY s.hp L 0++i
      bif g.good&&iG s.hp i then
       (match nN h g g with
       |some j=>
        (match tU E.P ⟨s.fr,j++s.hp,s.nx⟩ l with|some o=>fin c (j++s.hp) o (λp q=>ar (.ret p,q))|none=>a6)
       |none=>a6)
      else a6
     |none=>a6)
    |none=>a6)
   |none=>a6)
  else a6
def EK (E:Env)(h:Func)(a:Nat)(c:List (Nat×List Nat))(D:rq)(d:List AV)(e:LHp):Option (aq×LHp):=
 match h.body,D.gn.body with
 |some (.seq j (.seq _ y)),ar (.seq _ i)=>
  bif AD d.length h.ntmps&&dG e.length e then
   ex E ⟨h.ntmps,a,e.length,c,a8⟩ j ⟨az a (number 0 d),e,e.length⟩ λe0 f=>
    match e0 with
    | .normal=>
     let b:=evs E f D.caps
     bif b.all (qx f.hp)&&dG f.nx f.hp then
      ex E ⟨h.ntmps,a,f.nx,c,a8⟩ y (f.set D.t15 (.fn (.func D.g) [] b)) (ah5 E D i e.length h.results.toList b)
     else a6
    |_=>a6
  else a6
 |_,_=>a6
def zP (E:Env)(d:Func)(a:Nat)(b:List (Nat×List Nat))(D:rq):FnE:=
 {run:=λc e k=>(EK E d a b D c e).bind λp=>k p.1 p.2}
theorem ah6 {E}(U:E.Good)(cZ:E.P.follows .mixedOrders=bc){D id a K ty2 t y z A}(hf:E.P.funcs[D.g]?=ar D.gn)
  (hb:D.gn.body=ar (.seq (.region id #[⟨ar D.t5,.call ⟨.builtin .recover, #[], #[]⟩,K,t,z,a6⟩,⟨ar D.t2,.assign<| .tmp D.t5,ty2,y,A,a6⟩] a8) a))
  (B:D.gn.results= #[]) (V:D.t5<D.gn.ntmps) (X:D.t2<D.gn.ntmps) (m:ee D.gn.ntmps a=bc) (F:h8 D.gn.ntmps (2 ^ D.depth)=bc) {c av d I} (h:Um E D a c av d=ar I)
  {u Y Z} (hm:JU u Z Y) (L:∀(w:World) (i:Nat->Prop) (μ:Mu) (hp:Hp),cr w i μ hp av Z)
  {W i μ j} (lX:∀b,i b->b<W.heap.size) (n:qY E.gam W i) (hI:mX W i μ<|aD d) (p:RepFs W i μ (aD d) c j):
  CallsD E.P D.g j.toArray u W λe M w'=>M=Y/\(∃v,e=.returned v)/\∃l cX ca,l=aD I/\gk W i μ (aD d) w' cX ca l:=by
 unfold Um at h
 cases q:AD _ _&&dG _ d with
 |false=>rw[q]at h;cases h
 |true=>
  rw[q]at h;simp only[aX]at q;let f  :=gx F;refine GF U.gf hf hb B V X hm (gx q.1) L (λW i μ=>?_) lX n hI p;let N:CK E ⟨_,_,_,D.live,a8⟩ (Jr W i μ _ _ _ bc):=⟨rfl,rfl,f,λo G O=>eV q.2 o G O,λh=>by cases h⟩;let f0:=pz ⟨_,_,d.length,D.live,a8⟩ f (number 0 c) d d.length;let f1:=j7 f0 D.t5 av;let f2:=j7 f1 D.t2 av;let S:=EJ U cZ N a _ _ _ m f2 h;refine mG (s':=(⟨_,d,_⟩:LSt).toA) (Bz rfl λx=>?_)<|GB S ?_
  ·show (((az _ _).set D.t5 av).set D.t2 av).get x=.undef\/(((az _ _).set D.t5 av).set D.t2 av).get x=qB _ D.t2 av x;rw[ahi _ _ _ _<|show ((az _ _).set D.t5 av).has D.t2=bc from f1 D.t2 X];simp only[qB];cases hx2:dK x D.t2 with|true=>exact .inr rfl|false=>rw[ahi _ _ _ _<|f0 D.t5 V];grind [dK,xf,mZ]
  ·rintro e s' ⟨st,T,_,hk⟩
   refine⟨_,T,?_⟩;let hfin:fin d.length st.hp [] (λ_ l=>ar l)=ar I->∃J l,fg J st.toA.hp l/\(∀o G,aD d o=ar G->J.get o=ar (o,.keep))/\l=aD I:=λhh=>by let ⟨J,l,j0,g1,g2,g3,g4⟩:=Bx hh;cases g4;exact⟨J,_,g1,λo G O=>g3 o<|eV q.2 o G O,rfl⟩
   grind
theorem Inv.toH {W i j μ l m h0 d p q n s a w}
  (c:Inv ⟨W,i,λb=>∃o,(μ o).blk=ar b,n,q,p,d,l,a6,bc⟩ j m s a w) (hp:∀o e,h0 o=ar e->∃f,d o=ar f/\fo e (μ o) f (l o)):
  Inv ⟨W,i,λb=>∃o,(μ o).blk=ar b,n,q,p,h0,μ,a6,bc⟩ j m s a w:=
 ⟨c.os,c.tape,c.output,c.grow,c.old,c.imC,c.imNew,c.imLt,c.sep,c.inj,c.dom,c.obj,c.glob,c.fr,c.size,by let ⟨t,d,g⟩:=c.defers;exact⟨t,d,g.nodup,g.none,g.all⟩,λo e h=>by let ⟨f,g1,g2⟩:=hp o e h;let ⟨u,g3,g4⟩:=c.pin o f g1;exact⟨u,g3,fo.trans g2 g4⟩⟩
theorem NZ {E}(hE:E.Good)(cZ:E.P.follows .mixedOrders=bc){f fn I F D R0 y rest id1 id2 m at' ty1 ty2 ty3 ty4 pos1 pos2 pos3 pos4 aft1 aft2 aft3 aft4}
  (hf:E.P.funcs[f]?=ar fn) (hcall:∀(vs:Array _) (w:World),(callFunc f vs).run E.P w=.ok (.enter f vs) w)
  (hb:fn.body=ar (.seq R0 (.seq (.region id1 #[⟨ar D.t15,.makeFunc (.func D.g) #[] m,ty1,pos1,aft1,a6⟩,⟨a6,.defer ⟨.value (.tmp D.t15), #[],at'⟩,ty2,pos2,aft2,a6⟩] a8) y))) (hcap:m.toList=D.caps)
  (T:(ee fn.ntmps R0&&ee fn.ntmps y&&h8 D.t15 fn.ntmps)=bc) (hdep:h8 fn.ntmps (2 ^ I)=bc)
  (hg:E.P.funcs[D.g]?=ar D.gn) (Y:∀(vs:Array _) (w:World),(callFunc D.g vs).run E.P w=.ok (.enter D.g vs) w)
  (hgb:D.gn.body=ar (.seq (.region id2 #[⟨ar D.t5,.call ⟨.builtin .recover, #[], #[]⟩,ty3,pos3,aft3,a6⟩,⟨ar D.t2,.assign (.tmp D.t5),ty4,pos4,aft4,a6⟩] a8) rest))
  (hres:D.gn.results= #[]) (h52:(h8 D.t5 D.gn.ntmps&&h8 D.t2 D.gn.ntmps&&ee D.gn.ntmps rest&&h8 D.gn.ntmps (2 ^ D.depth))=bc):FnE.OK E.P E.gam f (zP E fn I F D):=by
 refine⟨?_,?_⟩
 ·intro R G hs k;simp only[zP];cases EK E fn _ F D G hs<;>rfl
 ·intro G hs ae aJ h
  simp only[aX]at T h52;let ⟨⟨c1,c2⟩,c3⟩:=T;let ⟨⟨⟨d1,d2⟩,d3⟩,d4⟩:=h52;let h15  :=gx c3;let h5  :=gx d1;let h2  :=gx d2;simp only[zP]at h;let ⟨p,hp,h⟩:=bC h;cases h;unfold EK at hp;rw[hb,hgb]at hp;simp only at hp;cases hc:AD _ _&&dG _ hs with
  |false=>rw[hc]at hp;cases hp
  |true=>
   rw[hc]at hp;simp only[aX]at hc;simp only[ai]at hp;let J  :=gx hdep;refine⟨hcall,λW X μ vals lX hglob hI hargs=>?_⟩;refine calls_of_wp_defers hf hb ?_;let hinv:=A1 lX hE.gf hglob hI hargs (gx hc.1) bc;let hCK:CK E ⟨_,_,_,F,a8⟩ (Jr W X μ _ _ E.gam bc):=⟨rfl,rfl,J,λo U ho=>eV hc.2 o U ho,λh=>by cases h⟩;let hex:=EJ hE cZ hCK R0 _ _ _ c1 (pz ⟨_,_,_,F,_⟩ J _ _ _) hp
   let hex:=mG (s:=⟨mY G,_⟩) (s':=(⟨_,hs,_⟩:LSt).toA) (Bz rfl λx=>by
    show (az _ _).get x=.undef\/(az _ _).get x=mY G x;rcases xf _ G 0 x with h|⟨j,h1,h2⟩
    ·exact .inl h
    ·exact .inr<|by rw[h2,mZ,h1];simp) hex
   refine wp_seq<|wp_mono (wpIn_wide.1<|hex _ _ ⟨X,_,hinv⟩) ?_
   rintro e a w ⟨ae0,s',rfl,⟨A,hle,hfit,Z⟩,hr⟩
   cases ae0 with
   |exit i=>cases Z
   |ret=>cases Z
   |panic t n=>cases Z
   |normal=>
    simp only at Z;cases N:(evs E A _).all _&&dG _ _ with
    |false=>rw[N]at Z;cases Z
    |true=>
     rw[N]at Z;simp only[aX]at N;simp only[ai]at Z;let ⟨O,Qd,hi⟩:=hle _ _ hr;let hdef0:a.defers=[]:=by let ⟨ms,hd,hm⟩:=hi.defers;rw[hd,hm.none rfl];rfl
     show (Code.seq _ _).wp E.P _ a w;refine wp_seq<|wp_region ?_
     show wpOps E.P _ _ [0,1] a w
     let hus:RepFs w O Qd _ _ (m.toList.map _):=by
      let hlen:∀l:List _,(∀x∈l,qx A.hp (A.ev E x)=bc)->RepFs w O Qd _ (evs E A l) (l.map _):=by
       intro l;induction l with
       |nil=>intro _;simp[evs,RepFs]
       |cons x l ih=>
        intro hx;simp only[evs,ox,RepFs];let hb1:=hx x<|by simp
        let kB:=hi.ev x;rw[cK rfl]at kB
        let iv:(A.ev E x).plain=bc:=by
         unfold qx at hb1;split at hb1
         ·rename_i hq;rw[hq];rfl
         ·cases hb1
        let ⟨k1,k2⟩:=kB.toA iv;exact⟨_,_,rfl,k1,k2,ih λx hx'=>hx x<|by simp[hx']⟩
      rw[hcap];refine hlen _ λx hx=>?_
      let:=N.1
      let hm:∀l:List _,x∈l->(evs E A l).all _=bc->qx A.hp _=bc:=by
       intro l;induction l with
       |nil=>intro h;cases h
       |cons z l ih=>
        intro h ha;simp only[evs,py,aX]at ha;rcases kt.1 h with rfl|h
        ·exact ha.1
        ·exact ih h ha.2
      exact hm _ hx this
     let e0:(execOp a.eval ⟨ar D.t15,.makeFunc (.func D.g) #[] m,ty1,pos1,aft1,a6⟩).run E.P w=.ok (.value<| .func (.func D.g) #[]<|m.map a.eval) w:=by simp[execOp,Instr.makeFunc]
     let hv15:(a.put (ar D.t15)<| .func (.func D.g) #[]<|m.map a.eval).eval (.tmp D.t15)=.func (.func D.g) #[] (m.map a.eval):=by
      let kF:D.t15<a.tmps.size:=by rw[hi.size];exact h15
      simp[Act.put,Act.eval,ke,kF]
     let e1:(execOp (a.put (ar D.t15)<| .func (.func D.g) #[]<|m.map a.eval).eval ⟨a6,.defer ⟨.value<| .tmp D.t15, #[],at'⟩,ty2,pos2,aft2,a6⟩).run E.P w=.ok (.defer ⟨.fn (.func D.g)<|m.map a.eval, #[]⟩) w:=by simp[execOp,resolve,hv15,WV]
     simp only[wpOps,ahj,o3,QB,w0,if_true];refine .inl ?_;unfold Oper.wp;rw[e0,Oper.upon_value];refine .inl ?_;rw[e1,Oper.upon_defer];let hp15:cr w O Qd _ (.fn _ [] _) (.func (.func D.g) #[]<|m.map a.eval):=by refine⟨?_,rfl⟩;simp only[RepA,RepFs,gI];exact⟨[],_,by congr 2;apply yl;simp,rfl,hus⟩
     let K:=hi.put (dst:=ar D.t15) rfl rfl rfl rfl (λd hd=>by cases hd;exact h15) hp15
     let qA:Inv ⟨W,X,λb=>∃o,(μ o).blk=ar b,fn.ntmps,[⟨.fn (.func D.g)<|m.map a.eval, #[]⟩],E.gam,aD A.hp,Qd,a6,bc⟩ O Qd (A.set D.t15<| .fn (.func D.g) []<|evs E A D.caps).toA
       ({a.put (ar D.t15) (.func (.func D.g) #[]<|m.map a.eval)with defers:=⟨.fn (.func D.g)<|m.map a.eval, #[]⟩::(a.put (ar D.t15)<| .func (.func D.g) #[]<|m.map a.eval).defers}.put a6 Go.undef) w:=by
      refine⟨K.os,K.tape,K.output,K.grow,K.old,K.imC,K.imNew,K.imLt,K.sep,K.inj,K.dom,K.obj,K.glob,?_,K.size,⟨[],by simp only[Act.put];rw[hdef0];rfl,List.nodup_nil,λ_=>rfl,λr hr=>by cases hr⟩,λo U h=>⟨U,h,fo.refl _ _⟩⟩
      intro x
      let:=K.fr x
      show cr w O Qd (aD A.hp) ((A.set D.t15<| .fn (.func D.g) []<|evs E A D.caps).fr.get x) _
      let hse:(A.set D.t15<| .fn (.func D.g) []<|evs E A D.caps).fr.get x=(A.toA.put (ar D.t15)<| .fn (.func D.g) []<|evs E A D.caps).fr x:=by simp only[LSt.set,ASt.put,qB,WM];rw[ahi _ _ _ _<|hfit D.t15 h15]
      rw[hse];exact this
     let hCK2:CK E ⟨fn.ntmps,I,A.nx,F,a8⟩ ⟨W,X,λb=>∃o,(μ o).blk=ar b,fn.ntmps,[⟨.fn (.func D.g)<|m.map a.eval, #[]⟩],E.gam,aD A.hp,Qd,a6,bc⟩:=⟨rfl,rfl,J,λo U ho=>eV N.2 o U ho,λh=>by cases h⟩;let hex2:=EJ hE cZ hCK2 y _ _ _ c2 (j7 hfit _ _) Z;refine wp_mono (wpIn_wide.1<|hex2 _ _ ⟨O,Qd,qA⟩) ?_
     rintro e3 a3 w3 ⟨ae3,s3,rfl,⟨S,hle3,hfit3,q⟩,hr3⟩
     let ⟨im3,μ3,Dz⟩:=hle3 _ _ hr3
     let B:∀(u:FrameMode) (rv:Value) (u':FrameMode) (av:AV),JU u rv u'->settle u'=.returning->ah4 ae3=ar av->(∀(w:World) (X:Nat->Prop) (μ:Mu) (hp:Hp),cr w X μ hp av rv)->
       Leaves E.P fn a3.tmps (λe w'=>∃qQ h1 cX ca,(qQ=p.1/\h1=aD p.2)/\gk W X μ (aD hs) w' cX ca h1/\gP w' cX ca h1 qQ e) a3.defers u w3:=by
      intro u rv u' av hm hset YP hrv
      let hdef3:a3.defers=[⟨.fn (.func D.g)<|m.map a.eval, #[]⟩]:=by let ⟨ms,hd,hm⟩:=Dz.defers;rw[hd,hm.none rfl];rfl
      rw[hdef3]
      refine⟨by cases hm<;>simp,.func D.g,m.map a.eval,D.g,m.map a.eval,rfl,?_,?_⟩
      ·show (callFunc D.g<| #[]++m.map a.eval).run E.P w3=_;rw[ahD];exact Y _ _
      ·let hus3:RepFs w3 im3 μ3 (aD S.hp) (evs E A D.caps) (m.toList.map a.eval):=yC N.1 hus λo U ho=>Dz.pin o U ho
       unfold ah5 at q;rw[YP]at q;simp only at q;generalize hL:ji S.hp fA (refsL<|evs E A D.caps) []=L at q;cases M:(m6 S.hp L 0).good with
       |false=>rw[M]at q;cases q
       |true=>
        rw[M]at q;simp only[ai]at q;split at q
        ·rename_i args' hargs'
         split at q
         ·rename_i hsG hhsG
          split at q
          ·rename_i hsG' hrunG
           cases V:(gY S.hp L 0++gH L.length S.nx hsG').good&&iG S.hp (gH L.length S.nx hsG')with
           |false=>rw[V]at q;cases q
           |true=>
            rw[V]at q;simp only[aX]at V;simp only[ai]at q;split at q
            ·rename_i wr za
             split at q
             ·rename_i rs DA
              let ⟨σf,hf1,rsf,g1,g2,g3,g4⟩:=Bx q;cases g4;let hH:=kR M hhsG;let hB:=Gt V.1 V.2 za;let ⟨hI3,hS3⟩:=hH.inv (λo b h=>⟨(Dz.sep o b h).1,(Dz.sep o b h).2.1⟩) Dz.inj Dz.obj;let hargs3:=RepFs.ren hS3 _ _ _ hargs' hus3
              let hglob3:qY E.gam w3 im3:=λg v h=>by
               let ⟨h1,h2⟩:=(Dz.glob g v h).toA<|jD<|hE.gf g v h
               exact cr.ofA (RepA.free _ _ (hE.gf g v h) h1) h2
              let YS:=ah6 hE cZ hg hgb hres h5 h2 d3 d4 hrunG hm hrv Dz.imLt hglob3 hI3 hargs3;rw[(by apply yl;simp:(m.toList.map a.eval).toArray=m.map a.eval)]at YS;intro c cs M8;obtain⟨e,u'',w4,fr,⟨rfl,⟨v,rfl⟩,h1,im4,μ4,rfl,hst4⟩,hcomes,hkind,hgoing⟩:=YS c cs M8;refine⟨.returned v,u'',w4,fr,?_,hcomes,hkind,hgoing⟩;show Leaves E.P fn a3.tmps _ [] (settle u'') w4;rw[hset];let hback:=Dz.back (dst:=a6) hH hB hst4 (λd hd=>by cases hd) (av:=.undef) (v:=Go.undef) trivial;let hbk:=hback.toH (h0:=aD hs) (μ:=μ) λo U h=>hi.pin o U h
              let hra:=zN DA;let tJ:(⟨S.fr,wr++S.hp,S.nx⟩:LSt).toA=⟨(S.toA.put a6 .undef).fr,aT S.toA.hp wr⟩:=by unfold WM ASt.put;simp only;congr 1;exact bV _ _
              rw[tJ]at hra;let ⟨vs,q1,q2⟩:=n5 hbk hra;let hH2  :=by let:=g1;rw[bV]at this;exact this
              let ⟨hstf,hSf⟩:=hbk.hpStepV hH2 λo U ho=>g3 o<|eV hc.2 o U ho
              let ⟨v',q3,q4⟩:=yj (fn:=fn) q1<|RepFs.ren hSf _ _ _ g2 q2
              exact⟨v',q3,.ret rsf,_,im4,_,⟨rfl,rfl⟩,hstf,q4⟩
             ·cases q
            ·cases q
          ·cases q
         ·cases q
        ·cases q
     cases ae3 with
     |exit i=>cases q
     |normal=>exact B _ _ _ .nilif .calm rfl rfl λw X μ hp=>bp _ _ _ _ .nilIface
     |ret=>exact B _ _ _ .nilif .calm rfl rfl λw X μ hp=>bp _ _ _ _ .nilIface
     |panic t n=>exact B _ _ _ (.iface t<| .d (.int .i64) n) (.caught _) rfl rfl λw X μ hp=>⟨by simp only[RepA,bm,gI];exact⟨_,rfl,rfl,rfl⟩,rfl⟩
end Go.Vm
namespace Go.Vm
theorem yD {W a c d}(e:∀b,a b->b<W.heap.size)(f:mX W a c d):gk W a c d W a c d:=
 ⟨rfl,rfl,rfl,ep _,λ_ _ _=>rfl,λ_ h=>h,λ_ h=>.inl h,e,λo b h=>.inl ⟨o,h⟩,λo g h=>⟨g,h,fo.refl _ _⟩,f⟩
theorem u9 {W a d e}(j:∀b,a b->b<W.heap.size)(c:mX W a d e) x:gk W a d e (W.alloc x) a d e:=by
 let g:∀b,b<W.heap.size->(W.alloc x).heap[b]?=W.heap[b]?:=λb h=>heap_alloc_old W _ h
 let ev:Ev W a d e _ a d e:=⟨λ_ h=>h,λb h=>g b (j b h),λo f h=>⟨f,h,fo.refl _ _⟩⟩;refine⟨rfl,rfl,rfl,by simp,λb h _=>g b h,λ_ h=>h,λ_ h=>.inl h,λb h=>xd (j b h) (by simp),λo b h=>.inl ⟨o,h⟩,λo f h=>⟨f,h,fo.refl _ _⟩,λo b h=>⟨(c.sep o b h).1,xd (c.sep o b h).2 (by simp)⟩,c.inj,c.dom,λo f h=>(c.obj o f h).ev ev λb i=>g b (c.sep o b i).2⟩
def tV (a:FnE):FnE:=
 {run:=λc b k=>
   match c with
   |[.d (.slice e) f]=>(match f with|[]=>k (.ret [.emp]) b|x::l=>a.run [.d (.slice e) (x::l)] b k)
   |[.os o n]=>
    (match aD b o with|some (.arr _ e m _ f)=>(match f with|[]=>bif dK n m then k (.ret [.d (.slice e) []]) b else a6|_::_=>a.run [.os o n] b k)|_=>a6)
   |[.emp]=>k (.ret [.emp]) b
   |l=>a.run l b k}
theorem sy {P O f u}(S:FnE.OK P O f u)(l:∀(vs:Array _) (w:World),(callFunc f vs).run P w=.ok (.enter f vs) w)
  (x:∀(w:World) (c:Nat),Calls P f #[.slice a6 0 c] w λe j=>e=.returned (.slice a6 0 0)/\j=w)
  (y:∀(w:World) (a:Addr) (c:Nat),Calls P f #[.slice (ar a) 0 c] w λe j=>(∃b,e=.returned (.slice b 0 0))/\∃o,j=w.alloc o):FnE.OK P O f (tV u):=by
 let key:∀{e:Ty} (B:AV) (t:LHp),Src _ B e []->FnH P O f [B] _ λU D=>U=.ret _/\D=aD t:=by
  intro e B t p;refine⟨l,λW J F K L G I g=>?_⟩;simp only[RepFs]at g;obtain⟨v,us,rfl,D,V,rfl⟩:=g;let X  :=cr.ofA D V;obtain⟨Y,q,rfl,_,_⟩:=p.sound X I.obj;let i:∀(b:Option Addr) (j:World) (M:Nat->Prop),gP j M F (aD t) (.ret [.d (.slice e) []]) (.returned (.slice b 0 0)):=λb j M=>by refine⟨_,rfl,?_,rfl⟩;simp only[RepA,bm,gI];refine⟨b,0,rfl,ep _,k7 _,λ_=>rfl,?_⟩;cases b with|none=>rfl|some a=>exact .inl rfl
  cases Y with
  |none=>
   refine aha (x W q) ?_
   rintro Z j ⟨rfl,rfl⟩
   exact⟨_,_,J,F,⟨rfl,rfl⟩,yD L I,i a6 _ _⟩
  |some a=>
   refine aha (y W a q) ?_
   rintro Z j ⟨⟨b,rfl⟩,o,rfl⟩
   exact⟨_,_,J,F,⟨rfl,rfl⟩,u9 L I o,i b _ _⟩
 let A:∀{e:Ty} (B:AV) (t:LHp),Src _ B e []->FnH P O f [B] _ λU D=>U=.ret _/\D=aD t:=by
  intro e B t p;refine⟨l,λW J F K L G I g=>?_⟩;simp only[RepFs]at g;obtain⟨v,us,rfl,D,V,rfl⟩:=g;let X  :=cr.ofA D V;obtain⟨Y,q,rfl,_,_⟩:=p.sound X I.obj;let i:∀(b:Option Addr) (j:World) (M:Nat->Prop),gP j M F (aD t) (.ret [.emp]) (.returned (.slice b 0 0)):=λb j M=>by refine⟨_,rfl,?_,rfl⟩;simp only[RepA,gI];exact⟨b,rfl⟩
  cases Y with
  |none=>
   refine aha (x W q) ?_
   rintro Z j ⟨rfl,rfl⟩
   exact⟨_,_,J,F,⟨rfl,rfl⟩,yD L I,i a6 _ _⟩
  |some a=>
   refine aha (y W a q) ?_
   rintro Z j ⟨⟨b,rfl⟩,o,rfl⟩
   exact⟨_,_,J,F,⟨rfl,rfl⟩,u9 L I o,i b _ _⟩
 refine⟨?_,?_⟩
 ·intro R N t k;simp only[tV,gi];repeat' (first|rfl|exact S.eq _ _ _|split)
 ·intro N t ae aJ h
  simp only[tV]at h;split at h
  ·split at h
   ·cases h;exact A _ _ .d
   ·exact S.ok _ _ _ _ h
  ·rename_i o n
   split at h
   ·rename_i T e m z xs ho
    split at h
    ·cases hq:dK n m with|false=>rw[hq]at h;cases h|true=>rw[hq]at h;cases h;have:=cb hq;subst this;exact key _ _ (.os ho)
    ·exact S.ok _ _ _ _ h
   ·cases h
  ·cases h;exact A (e:=.unit) _ _ .emp
  ·exact S.ok _ _ _ _ h
end Go.Vm
namespace Go.Vm
def GG :LSt->List Tmp->List AV->LSt
 |s,t::b,a::c=>GG (s.set t a) b c
 |s,_,_=>s
theorem Qu {n}:∀(b:List Tmp) (c) (s:LSt),s.fits n->(∀t∈b,t<n)->(GG s b c).fits n/\(GG s b c).hp=s.hp/\(GG s b c).nx=s.nx/\∀x,(GG s b c).fr.get x=ym s.fr.get b c x
 |[],c,s,d,_=>by cases c<;>exact⟨d,rfl,rfl,λ_=>rfl⟩
 |t::b,[],s,d,_=>⟨d,rfl,rfl,λ_=>rfl⟩
 |t::b,a::c,s,d,g=>by
  let ⟨h,i,j,l⟩:=Qu b c (s.set t a) (j7 d _ _) λm f=>g m (by simp[f])
  refine⟨h,i,j,λx=>?_⟩;let e:(s.set t a).fr.get=qB _ t a:=by funext y;simp only[LSt.set,qB];rw[ahi _ _ _ _ (d t (g t (by simp)))]
  show (GG _ b c).fr.get x=ym _ b c x;rw[l,e]
def ah7 (a o:Nat)(e:AEx)(d:LSt):Option (Bool×LHp):=
 match Qm e with
 |some j=>
  (match aD d.hp o with|some (.rc (.loop b c .busy))=>fin a ((o,.rc (.loop b c (Er j)))::d.hp) [] (λ_ f=>ar (j.isNone,f))|_=>a6)
 |none=>a6
def Un (E:Env)(b:List (Nat×List Nat))(o:Nat)(c:List AV)(d:LHp):Option (Bool×LHp):=
 match aD d o with
 |some (.rc (.loop a g .ready))=>
  bif dG d.length d&&dK a.ps.size c.length&&(a.ps.toList.all (λt=>h8 t a.n))&&ee a.n a.assign&&ee a.n a.body&&h8 a.n (2 ^ a.key)then
   ex E ⟨a.n,a.key,d.length,b,a8⟩ a.assign (GG ⟨az a.key g,d,d.length⟩ a.ps.toList c) λe f=>
    match e with
    | .normal=>
     (match aD f.hp o with|some (.rc (.loop h i .ready))=>ex E ⟨a.n,a.key,d.length,b,a8⟩ a.body ⟨f.fr,(o,.rc (.loop h i .busy))::f.hp,f.nx⟩ (ah7 d.length o)|_=>a6)
    |_=>a6
  else a6
 |_=>a6
def N0 (E:Env)(a:List (Nat×List Nat)):iA:={run:=λo b c k=>(Un E a o b c).bind λp=>k p.1 p.2}
theorem Uo {E}(O:E.Good)(cZ:E.P.follows .mixedOrders=bc) b:iA.OK E.P E.gam (N0 E b):=by
 refine⟨?_,?_⟩
 ·intro R o a v k;simp only[N0];cases Un E b o a v<;>rfl
 ·intro o a v c aJ h
  let ⟨p,hp,h⟩:=bC h;cases h;unfold Un at hp;split at hp
  ·rename_i f S z
   cases M:dG _ v&&dK _ _&&f.ps.toList.all _&&ee f.n _&&ee f.n _&&h8 f.n _ with
   |false=>rw[M]at hp;cases hp
   |true=>
    rw[M]at hp;simp only[aX]at M;let ⟨⟨⟨⟨⟨g,A⟩,T⟩,U⟩,V⟩,B⟩:=M;let d  :=gx B;let m  :=λt ht=>gx (gv.1 T t ht)
    let ⟨X,Y,hn0,D⟩:=Qu _ a _ (pz ⟨f.n,_,v.length,b,a8⟩ d S v v.length) m;refine Ge O.gf z (λx=>re f.key S x) (cb A) m λW im μ l=>?_
    let F:CK E ⟨f.n,_,_,b,a8⟩ (ahN W im μ _ f.n _ l):=⟨rfl,rfl,d,λo Z z=>eV g o Z z,λh=>by cases h⟩;let G:=EJ O cZ F _ _ _ _ U X hp;let e0:(GG _ _ a).toA=⟨ym (az _ S).get _ a,_⟩:=by unfold WM;rw[Y];congr 1;funext x;exact D x
    rw[e0]at G;refine GB G ?_
    rintro e s' ⟨N,hle,I,u⟩
    cases e with
    |exit i=>cases u
    |ret=>cases u
    |panic t n=>cases u
    |normal=>
     simp only at u;split at u
     ·rename_i uO uP M9
      refine⟨_,hle,rfl,uO,uP,M9,?_⟩;let q:=EJ O cZ F _ _ _ _ V (show (⟨_,(o,.rc _)::N.hp,_⟩:LSt).fits f.n from I) u;let e1:(⟨_,(o,.rc _)::N.hp,N.nx⟩:LSt).toA=⟨N.toA.fr,aT _ [(o,.rc (.loop uO uP .busy))]⟩:=by unfold WM;congr 1;exact bV [_] _
      rw[e1]at q;refine GB q ?_
      rintro e2 s2 ⟨st2,J,_,y⟩
      refine⟨_,J,?_⟩;unfold ah7 at y;split at y
      ·rename_i j hj
       split at y
       ·rename_i K L ho2;let ⟨σ,h1,j0,g1,g2,g3,g4⟩:=Bx y;cases g4;refine⟨j,K,L,σ,_,hj,ho2,?_,λo Z z=>g3 o (eV g o Z z),rfl,rfl⟩;let:aD _=aT st2.toA.hp [(o,.rc (.loop K L (Er j)))]:=bV [_] _;rw[←this];exact g1
       ·cases y
      ·cases y
     ·cases u
  ·cases hp
def Env.withRound (E:Env) g  :={E with round:=ar g}
theorem Env.Good.withRound {E:Env}(h:E.Good){g}(b:iA.OK E.P E.gam g):(E.withRound g).Good:=
 ⟨⟨h.ty⟩,h.gf,h.calls,h.exts,λc a=>by cases a;exact b⟩
end Go.Vm
namespace Go.Vm
variable {R:Type}
def aI (id:Nat)(k:AEx->LSt->Option R):AEx->LSt->Option R:=λe a=>
 match e with| .normal=>k .normal a| .exit i=>bif dK i id then k .normal a else k (.exit i) a| .ret=>k .ret a| .panic t m=>k (.panic t m) a
abbrev I (n:Int):AV:=.d (.int .i64) n
abbrev B (b:Bool):AV:=.d .bool b
abbrev aa :Ty:=.int .i64
def aU (f:Func):Code:=match f.body with|some c=>c|none=>.skip
def cL :Code->Code
 | .seq a _=>a
 | .block _ c=>c
 | .loop c=>c
 | .cond _ a _=>a
 |c=>c
def cR :Code->Code
 | .seq _ b=>b
 | .cond _ _ b=>b
 |c=>c
theorem eX {b}{xs a:List b}(h:xs.length+a.length<=lim):app xs a=ar (xs++a):=if_pos h
theorem aH {n}(a: -9223372036854775808<=n)(b:n<9223372036854775808):ahc.wrap n=n:=by rw[IntKind.wrap_i64];omega
theorem FnE.OK.of {P j f g i}(h:FnE.OK P j f g)
  (nat:∀{R:Type} (b:List AV) (c:LHp) (k:aq->LHp->Option R),i.run b c k=(i.run b c λa h=>ar (a,h)).bind λp=>k p.1 p.2)
  (eq:∀b c d e,i.run b c (λa h=>ar (a,h))=ar (d,e)->g.run b c (λa h=>ar (a,h))=ar (d,e)):FnE.OK P j f i:=
 ⟨nat,λb c d e l=>h.ok b c d e (eq b c d e l)⟩
def fnE (F:List AV->LHp->Option (aq×LHp)):FnE:={run:=λa b k=>(F a b).bind λp=>k p.1 p.2}
theorem ar2 {P e f g F}(h:FnE.OK P e f g)
  (eq:∀b c p,F b c=ar p->g.run b c (λa h=>ar (a,h))=ar p):FnE.OK P e f (fnE F):=
 FnE.OK.of h λb c k=>by
  simp only[fnE];cases F b c<;>rfl λb c i j d=>by
  let ⟨p,hp,d⟩:=bC d;cases d;exact eq _ _ _ hp
end Go.Vm
namespace Go.Vm
def pA (b:FloatKind)(c:IntKind):p6:={run:=λa k=>match a with|[.d (.int i) n]=>bif a7 (i=c)then k (.d (.flt b) (aG b n.toNat))else a6|_=>a6}
def JV (c:FloatKind)(e:IntKind):p6:={run:=λa k=>match a with|[.d (.flt f) b]=>bif a7 (f=c)then (bif lG c b then a6 else k (.d (.int e) (b:Int)))else a6|_=>a6}
theorem va {P f a e d row}(b:∀n,row #[.int d n]=pure (.float e n.toNat))(l:P.funcs[f]?=ar a)(m:a.body.isNone=bc)(o:(a.name== "runtime.NumGoroutine")=a8)(p:Dq a=a6)(q:WC a=ar row):p6.OK P f (pA e d):=by
 refine⟨λc k=>by
  simp only[pA];split
  ·rename_i i n;cases a7 (i=d)<;>rfl
  ·rfl,λc k r h=>?_⟩
 simp only[pA]at h;split at h
 ·rename_i i n
  cases g:a7 (i=d)with
  |false=>rw[g]at h;cases h
  |true=>
   rw[g]at h;obtain rfl:=bt g;refine⟨_,h,λw y z hp j t v=>?_⟩;obtain⟨u,rfl,x⟩:=zO t v;have e1:=cB rfl x;subst e1;refine⟨.float e n.toNat,w,p8 l m o p q _ w w ?_,rfl,rfl,rfl,rfl,?_⟩
   ·rw[b];rfl
   ·exact⟨⟨_,rfl,rfl⟩,rfl⟩
 ·cases h
theorem JW {P f a c l row}(d:∀n,row #[.float c n]=pure (.int l n))(x:P.funcs[f]?=ar a)(y:a.body.isNone=bc)(z:(a.name== "runtime.NumGoroutine")=a8)(A:Dq a=a6)(B:WC a=ar row):p6.OK P f (JV c l):=by
 refine⟨λe k=>by
  simp only[JV];split
  ·rename_i i n;cases a7 (i=c)<;>cases lG c n<;>rfl
  ·rfl,λe k r h=>?_⟩
 simp only[JV]at h;split at h
 ·rename_i g b
  cases m:a7 (g=c)with
  |false=>rw[m]at h;cases h
  |true=>
   rw[m]at h;obtain rfl:=bt m;cases o:lG g b with
   |true=>rw[o]at h;cases h
   |false=>
    rw[o]at h;refine⟨_,h,λw I J hp t D F=>?_⟩;obtain⟨u,rfl,G⟩:=zO D F;let ⟨⟨q,K,j⟩,L⟩:=G;have p  :=by unfold aG at j;cases v:lG g q with|true=>rw[if_pos v]at j;subst j;cases g<;>exact absurd o (by decide)|false=>rw[v]at j;simpa using j
    subst p;have e1:u=.float g q:=by cases u<;>simp_all[gI,bS,alF,Ty.isAgg]
    subst e1;refine⟨_,w,p8 x y z A B _ w w ?_,rfl,rfl,rfl,rfl,bp _ _ _ _ (.int l _)⟩;rw[d];rfl
 ·cases h
inductive Tq :Type 1 where
 |leaf (a:aq) (h:LHp)
 |br (c:Bool) (a b:Tq)
 |opt {α:Type} (x:Option α) (f:α->Tq)
 |no
def Tq.run {R:Type}:Tq->(aq->LHp->Option R)->Option R
 | .leaf a h,k=>k a h
 | .br c a b,k=>bif c then a.run k else b.run k
 | .opt x f,k=>x.bind λv=>(f v).run k
 | .no,_=>a6
theorem Tq.eq :∀(t:Tq) {R} (k:aq->LHp->Option R),t.run k=(t.run λa h=>ar (a,h)).bind λp=>k p.1 p.2
 | .leaf _ _,_,_=>rfl
 | .br c a b,_,k=>by cases c with|true=>exact Tq.eq a k|false=>exact Tq.eq b k
 | .opt x f,_,k=>by cases x with|none=>rfl|some v=>exact Tq.eq (f v) k
 | .no,_,_=>rfl
theorem Tq.br_no {R c t k}{r:R}(h:(Tq.br c t .no).run k=ar r):c=bc/\t.run k=ar r:=by cases c with|true=>exact⟨rfl,h⟩|false=>cases h
def ay (F:List AV->LHp->Tq):FnE:={run:=λa b k=>(F a b).run k}
theorem Z1 {P d f g F}(h:FnE.OK P d f g)
  (eq:∀b c p,(F b c).run (λa h=>ar (a,h))=ar p->g.run b c (λa h=>ar (a,h))=ar p):FnE.OK P d f (ay F):=
 FnE.OK.of h (λ_ _ _=>Tq.eq _ _) λb c i j e=>eq b c _ e
end Go.Vm
namespace Go.Vm
open Go.ChangeShapes Go.WideShapes
structure vd (W w':World):Prop where
 os:w'.os=W.os
 output:w'.output=W.output
 grow:W.heap.size<=w'.heap.size
 old:∀b,b<W.heap.size->w'.heap[b]?=W.heap[b]?
theorem vd.frame {W a}(h:vd W a) may:W.keptBut a may:=by refine⟨h.os,h.output,λi b=>?_⟩;rw[h.old i b];split<;>simp_all
theorem vd.frozen {W b}(h:vd W b){a}(c:a.block<W.heap.size):b.frozen? a=W.frozen? a:=by unfold World.frozen?;rw[h.old _ c]
theorem vd.cell {W b}(h:vd W b){a}(c:a.block<W.heap.size):b.cell? a=W.cell? a:=
 World.cell?_of_block (h.old _ c)
theorem FnH.mono {P l f e m R n}(h:FnH P l f e m R)(o:∀i j,R i j->n i j):FnH P l f e m n:=
 ⟨h.1,λW p q g a b c d=>aha (h.2 W p q g a b c d) λ_ _ ⟨i,j,t,u,k,s⟩=>⟨i,j,t,u,o _ _ k,s⟩⟩
theorem N1 {P}{j:Nat->Option AV}{f}{c:List AV}(h:FnH P j f c (aD []) λl _=>l=.ret [.d .bool bc])
  {W:World} {g:Nat->Prop} {a:List _} (n:∀b,g b->b<W.heap.size) (p:qY j W g) (q:RepFs W g (λ_=>.none) (aD []) c a):
  Calls P f a.toArray W λe m=>e=.returned (.bool bc)/\vd W m:=by
 let t:mX W g _ (aD []):=⟨λ_ _ h=>(by cases h),λ_ _ _ h=>(by cases h),λ_ _=>rfl,λ_ _ h=>by cases h⟩
 refine aha (h.2 W g _ a n p t q) ?_
 rintro e m ⟨l,D,F,G,rfl,i,u⟩
 obtain⟨v,rfl,x,y⟩:=u
 refine⟨?_,i.os,i.output,i.grow,λb z=>i.old b z λo A=>by cases A⟩
 have I:v.cells.toList=[.bool bc]:=x
 have B:bS v=a8:=y
 cases v<;>simp_all[gI,bS]
def zQ {H}(a:List (ao)):DataW H:=.agg (a.map λx=>.lit (.string x))
theorem DT {H}{enc:TypeId×Value->H}{P w c sp held a t e n q f p}
  (v:P.underlying t=ar (.array n e)) (x:P.underlying e=ar .string) (g:P.cellsOf e=1) (j:P.cellsOf t=n)
  (h:ahE enc P w c sp held a t q=ar (zQ f,p)):f.length=n/\q=f.map λz=>.string ⟨z.toArray⟩:=by
 cases a with
 |zero=>simp[ahE]at h
 |succ a=>
  simp only[ahE,v,g,j,Nat.mul_one]at h;split at h
  ·let ⟨y,u,A⟩:=zn.1 h
   let d  :=by let:=congrArg Prod.fst A;simpa [zQ] using this
   let B  :=by simpa using Lib.mapM_length u
   let l:f.length=n:=by let:=congrArg bk d;simp at this;omega
   refine⟨l,?_⟩;apply List.ext_getElem?;intro i;by_cases D:i<n
   ·let ⟨b,F,G⟩:=Lib.mapM_at u i i (by simp[D])
    obtain⟨z,I,rfl,_⟩:=DataW.trod_string x G;let J  :=by let:=congrArg (·[0]?) I;simpa [T1,Qf] using this
    let m:(y.map (·.1))[i]?=ar (.lit (.string z.data.toList)):=by simp[F]
    rw[d]at m;simp only[yp,zn,DataW.lit.injEq,Lit.string.injEq]at m;obtain⟨K,o,rfl⟩:=m;simp[J,o]
   ·rw[List.getElem?_eq_none (by omega),List.getElem?_eq_none (by simp;omega)]
  ·cases h
theorem JX {w b}:∀a:List (List _),bO (bm w b .str) (a.map λz=>.string ⟨z.toArray⟩) a
 |[]=>rfl
 |z::a=>⟨_,_,rfl,rfl,JX a⟩
theorem DU {P w x l a}(h:DataW.LaidVars P w (x::l) a):∃q,DataW.LaidVars P w l q:=by let ⟨_,_,_,_,_,q,_,_,_,_,h,_⟩:=h;exact⟨q,h⟩
theorem Up {P:Program}{W b}{f:List (List _)}{c:List (String×DataW Unit)}{g t e n}{D:List _}
  (y:P.globalNamed b=ar g) (i:(P.globals[g]?).map (·.type)=ar t) (F:P.underlying t=ar (.array n e)) (G:P.underlying e=ar .string) (l:P.cellsOf e=1) (m:P.cellsOf t=n) (T:0<n)
  (h:DataW.LaidVars P W ((b,zQ f)::c) D):g<W.heap.size/\∀o:Nat->Prop,o g->cr W o (λ_=>.none) (λ_=>a6) (.ip (.arr n .str) f) (.pointer (ar ⟨g,0,a6⟩)):=by
 let ⟨U,V,z,A,p,q,u,x,d,I,_,_⟩:=h
 obtain rfl:=hY (y.symm.trans u)
 obtain rfl:=hY (i.symm.trans x)
 let ⟨J,B⟩:=DT F G l m I
 let a:dJ W g 0 z.toList:=λj v K=>by let:=World.var?_cell y d j;rw[hM,this];simpa using K
 refine⟨?_,λo L=>⟨⟨g,0,rfl,L,_,a,J,by rw[B];exact JX f⟩,rfl⟩⟩
 rcases TE g _ with M|N
 ·exact M
 ·let O:∃v,z.toList[0]?=ar v:=by
   rw[B]
   exact⟨_,dv (by simp;omega)⟩
  let ⟨v,S⟩:=O
  let:=a 0 v S
  simp[World.cell?,Array.getElem?_eq_none N]at this
mutual
def flatD :DataW Unit->List Value
  | .lit (.int k n)=>[.int k n]
  | .lit (.string b)=>[.string ⟨b.toArray⟩]
  | .lit (.bool b)=>[.bool b]
  | .agg a=>flatDs a
  |_=>[]
def flatDs :List (DataW Unit)->List Value
  |[]=>[]
  |d::r=>flatD d++flatDs r
end
def ar3 (d:DataW Unit):Obj->Obj
 | .cells _ t frozen=>.cells (flatD d).toArray t frozen
 |o=>o
def N2 (P:Program)(w:World):List (String×DataW Unit)->World
 |[]=>w
 |(n,d)::r=>
  match P.globalNamed n with|some g=>N2 P {w with heap:=w.heap.modify g (ar3 d)} r|none=>N2 P w r
end Go.Vm
namespace Go.Vm
universe u
variable {R:Type}
theorem Z2 {b:Type}(x:Option b) k {c:Type} (f:b->c) (g:c->Option R) (h:∀a,g (f a)=k a):x.bind k=(x.bind λa=>ar (f a)).bind g:=by cases x with|none=>rfl|some a=>exact(h a).symm
theorem n6 :∀(t) (x) (p) (R) (k:Nat->AV->Option R),jE t x p k=(jE t x p λo u=>ar (o,u)).bind λz=>k z.1 z.2
 | .pair a b,x,0::p,_,k=>by exact n6 a x.1 p _ k
 | .pair a b,x,(i+1)::p,_,k=>by simp only[jE];rw[n6,n6 b x.2 _ _ λc u=>ar (a.size+c,u),nb];rfl
 | .arr n e,d,i::p,_,k=>by simp only[jE];cases d[i]? with|none=>rfl|some y=>simp only[aw];rw[n6,n6 e y p _ λc u=>ar (i*e.size+c,u),nb];rfl
 | .pair _ _,_,[],_,_=>rfl
 | .arr _ _,_,[],_,_=>rfl
 | .int _,_,[],_,_=>rfl
 | .bool,_,[],_,_=>rfl
 | .str,_,[],_,_=>rfl
 | .flt _,_,[],_,_=>rfl
 | .slice _,_,[],_,_=>rfl
 | .unit,_,[],_,_=>rfl
 | .int _,_,_::_,_,_=>rfl
 | .bool,_,_::_,_,_=>rfl
 | .str,_,_::_,_,_=>rfl
 | .flt _,_,_::_,_,_=>rfl
 | .slice _,_,_::_,_,_=>rfl
 | .unit,_,_::_,_,_=>rfl
theorem ve :∀(a) (p) (R) (k:Nat->AV->Option R),fQ a p k=(fQ a p λo u=>ar (o,u)).bind λz=>k z.1 z.2
 | .d t x,p,_,k=>by exact n6 t x p _ k
 | .pr a b,0::p,_,k=>by exact ve a p _ k
 | .pr a b,(i+1)::p,_,k=>by simp only[fQ];rw[ve,ve b _ _ λc u=>ar (a.asize+c,u),nb];rfl
 | .pr _ _,[],_,_=>rfl
 | .undef,[],_,_=>rfl
 | .ip _ _,[],_,_=>rfl
 | .op _ _ _,[],_,_=>rfl
 | .os _ _,[],_,_=>rfl
 | .oe _ _ _,[],_,_=>rfl
 | .ow _ _ _ _,[],_,_=>rfl
 | .nils,[],_,_=>rfl
 | .emp,[],_,_=>rfl
 | .tup _,[],_,_=>rfl
 | .fn _ _ _,[],_,_=>rfl
 | .nilfn,[],_,_=>rfl
 | .iface _ _,[],_,_=>rfl
 | .nilif,[],_,_=>rfl
 | .nilp,[],_,_=>rfl
 | .ref _,[],_,_=>rfl
 | .undef,_::_,_,_=>rfl
 | .ip _ _,_::_,_,_=>rfl
 | .op _ _ _,_::_,_,_=>rfl
 | .os _ _,_::_,_,_=>rfl
 | .oe _ _ _,_::_,_,_=>rfl
 | .ow _ _ _ _,_::_,_,_=>rfl
 | .nils,_::_,_,_=>rfl
 | .emp,_::_,_,_=>rfl
 | .tup _,_::_,_,_=>rfl
 | .fn _ _ _,_::_,_,_=>rfl
 | .nilfn,_::_,_,_=>rfl
 | .iface _ _,_::_,_,_=>rfl
 | .nilif,_::_,_,_=>rfl
 | .nilp,_::_,_,_=>rfl
 | .ref _,_::_,_,_=>rfl
theorem cF {c a v}(k:Nat->AV->Option R):(bif c then k a v else a6)=(bif c then ar (a,v)else a6).bind λz=>k z.1 z.2:=by cases c<;>rfl
theorem qa :∀(t) (x) (p) (u) (R) (k:Nat->AV->Option R),oH t x p u k=(oH t x p u λo u=>ar (o,u)).bind λz=>k z.1 z.2
 | .pair a b,x,0::p,u,_,k=>by simp only[oH];rw[qa,qa a x.1 p u _ λc d=>ar (c,mkL a b d x.2),nb];rfl
 | .pair a b,x,(i+1)::p,u,_,k=>by simp only[oH];rw[qa,qa b x.2 _ u _ λc f=>ar (a.size+c,mkR a b x.1 f),nb];rfl
 | .arr n e,g,i::p,u,_,k=>by
  simp only[oH];cases g[i]? with
  |none=>rfl
  |some y=>
   simp only[aw];rw[qa]
   conv=>rhs;rw[qa,nb]
   congr 1;funext z;cases z.2.asD e<;>rfl
 | .pair _ _,_,[],_,_,k=>cF k
 | .arr _ _,_,[],_,_,k=>cF k
 | .int _,_,[],_,_,k=>cF k
 | .bool,_,[],_,_,k=>cF k
 | .str,_,[],_,_,k=>cF k
 | .flt _,_,[],_,_,k=>cF k
 | .slice _,_,[],_,_,k=>cF k
 | .unit,_,[],_,_,k=>cF k
 | .int _,_,_::_,_,_,_=>rfl
 | .bool,_,_::_,_,_,_=>rfl
 | .str,_,_::_,_,_,_=>rfl
 | .flt _,_,_::_,_,_,_=>rfl
 | .slice _,_,_::_,_,_,_=>rfl
 | .unit,_,_::_,_,_,_=>rfl
theorem n7 :∀(a) (p) (u) (R) (k:Nat->AV->Option R),jm a p u k=(jm a p u λo u=>ar (o,u)).bind λz=>k z.1 z.2
 | .d t x,p,u,_,k=>by exact qa t x p u _ k
 | .pr a b,0::p,u,_,k=>by simp only[jm];rw[n7,n7 a p u _ λc e=>ar (c,AV.pr e b),nb];rfl
 | .pr a b,(i+1)::p,u,_,k=>by simp only[jm];rw[n7,n7 b _ u _ λc f=>ar (a.asize+c,AV.pr a f),nb];rfl
 | .pr _ _,[],_,_,k=>cF k
 | .undef,[],_,_,k=>cF k
 | .ip _ _,[],_,_,k=>cF k
 | .op _ _ _,[],_,_,k=>cF k
 | .os _ _,[],_,_,k=>cF k
 | .oe _ _ _,[],_,_,k=>cF k
 | .ow _ _ _ _,[],_,_,k=>cF k
 | .nils,[],_,_,k=>cF k
 | .emp,[],_,_,k=>cF k
 | .tup _,[],_,_,k=>cF k
 | .fn _ _ _,[],_,_,k=>cF k
 | .nilfn,[],_,_,k=>cF k
 | .iface _ _,[],_,_,k=>cF k
 | .nilif,[],_,_,k=>cF k
 | .nilp,[],_,_,k=>cF k
 | .ref _,[],_,_,k=>cF k
 | .undef,_::_,_,_,_=>rfl
 | .ip _ _,_::_,_,_,_=>rfl
 | .op _ _ _,_::_,_,_,_=>rfl
 | .os _ _,_::_,_,_,_=>rfl
 | .oe _ _ _,_::_,_,_,_=>rfl
 | .ow _ _ _ _,_::_,_,_,_=>rfl
 | .nils,_::_,_,_,_=>rfl
 | .emp,_::_,_,_,_=>rfl
 | .tup _,_::_,_,_,_=>rfl
 | .fn _ _ _,_::_,_,_,_=>rfl
 | .nilfn,_::_,_,_,_=>rfl
 | .iface _ _,_::_,_,_,_=>rfl
 | .nilif,_::_,_,_,_=>rfl
 | .nilp,_::_,_,_,_=>rfl
 | .ref _,_::_,_,_,_=>rfl
section
variable {E:Env}{s:LSt}
theorem N3 {b}:∀(l) (v) (R) (k:AV->Option R),bld E s b l v k=(bld E s b l v ar).bind k
 |[],_,_,_=>rfl
 |(i,x)::l,v,_,k=>by
  simp only[bld];cases (s.ev E x).plain with
  |false=>rfl
  |true=>
   cases b[i]? with
   |none=>rfl
   |some q=>
    simp only;cases dK (s.ev E x).asize q.2 with|false=>rfl|true=>simp only[ai];rw[n7,n7 (k:=λa c=>bif dK a q.1 then bld E s b l c ar else a6),nb];congr 1;funext z;cases dK z.1 q.1 with|false=>rfl|true=>exact N3 l z.2 _ k
theorem sA {hp o e}(k:E1->Option R):qw hp o (k e)=(qw hp o (ar e)).bind k:=by unfold qw;cases aD hp o<;>rfl
theorem EL c x y (k:E1->Option R):wY E c x y s k=(wY E c x y s ar).bind k:=by unfold wY;simp only[gi];repeat' (first|rfl|split)
theorem Qv u x (k:E1->Option R):T7 E u x s k=(T7 E u x s ar).bind k:=by unfold T7;simp only[gi];repeat' (first|rfl|split)
theorem Z3 b t a (k:E1->Option R):Ey E b t a s k=(Ey E b t a s ar).bind k:=by unfold Ey;repeat' (first|rfl|split)
theorem ah8 b t c a v (k:E1->Option R):T6 E b t c a v s k=(T6 E b t c a v s ar).bind k:=by unfold T6;simp only[gi];repeat' (first|rfl|split)
theorem JY b t x y (k:E1->Option R):Ez E b t x y s k=(Ez E b t x y s ar).bind k:=by unfold Ez;simp only[gi];repeat' (first|rfl|exact Z2 _ _ _ _ λ_=>rfl|exact Z3 _ _ _ _|exact ah8 _ _ _ _ _ _|split)
theorem EM a b x (k:E1->Option R):wZ E a b x s k=(wZ E a b x s ar).bind k:=by unfold wZ;simp only[gi];repeat' (first|rfl|exact Z2 _ _ _ _ λ_=>rfl|split)
theorem JZ x (k:E1->Option R):EA E x s k=(EA E x s ar).bind k:=by unfold EA;simp only[gi];repeat' (first|rfl|exact sA _|split)
theorem BA t (k:E1->Option R):sj E t s k=(sj E t s ar).bind k:=by unfold sj;repeat' (first|rfl|exact sA _|split)
end
end Go.Vm
namespace Go.Vm
universe u
variable {R:Type}
theorem N4 {a p G g}{k:E1->Option R}(h:∀o u,G o u=(g o u).bind k):fQ a p G=(fQ a p g).bind k:=by
 rw[ve]
 conv=>rhs;rw[ve,nb]
 congr 1;funext z;exact h z.1 z.2
theorem ar4 {t x p G g}{k:E1->Option R}(h:∀o u,G o u=(g o u).bind k):jE t x p G=(jE t x p g).bind k:=by
 rw[n6]
 conv=>rhs;rw[n6,nb]
 congr 1;funext z;exact h z.1 z.2
theorem ar5 {a u p G g}{k:E1->Option R}(h:∀o u,G o u=(g o u).bind k):jm a p u G=(jm a p u g).bind k:=by
 rw[n7]
 conv=>rhs;rw[n7,nb]
 congr 1;funext z;exact h z.1 z.2
theorem oJ {b:Type}{x:Option b}{G g}{k:E1->Option R}(h:∀a,G a=(g a).bind k):x.bind G=(x.bind g).bind k:=by cases x with|none=>rfl|some a=>exact h a
section
variable {E:Env}{s:LSt}
theorem aCm {b l v G g}{k:E1->Option R}(h:∀a,G a=(g a).bind k):bld E s b l v G=(bld E s b l v g).bind k:=by
 rw[N3]
 conv=>rhs;rw[N3,nb]
 congr 1;funext z;exact h z
theorem EN t x (k:E1->Option R):w6 E t x s k=(w6 E t x s ar).bind k:=by unfold w6;simp only[gi];repeat' (first|rfl|exact oJ λ_=>rfl|(refine N4 λ_ _=>?_)|split)
theorem BB t x y (k:E1->Option R):sk E t x y s k=(sk E t x y s ar).bind k:=by unfold sk;simp only[gi];repeat' (first|rfl|exact oJ λ_=>rfl|(refine ar5 λ_ _=>?_)|split)
theorem J0 x (k:E1->Option R):EH E x s k=(EH E x s ar).bind k:=by unfold EH;simp only[gi];repeat' (first|rfl|split)
theorem BC t x (k:E1->Option R):sr E t x s k=(sr E t x s ar).bind k:=by unfold sr;simp only[gi];repeat' (first|rfl|split)
theorem EO f a b (k:E1->Option R):xa E f a b s k=(xa E f a b s ar).bind k:=by unfold xa;simp only[gi];repeat' (first|rfl|split)
theorem EP t x y (k:E1->Option R):w9 E t x y s k=(w9 E t x y s ar).bind k:=by unfold w9;simp only[gi];repeat' (first|rfl|exact oJ λ_=>sA _|split)
theorem J1 t x a h m (k:E1->Option R):po E t x a h m s k=(po E t x a h m s ar).bind k:=by unfold po;simp only[gi];repeat' (first|rfl|exact oJ λ_=>rfl|split)
theorem BD a kp t x b c d (k:E1->Option R):sn E a kp t x b c d s k=(sn E a kp t x b c d s ar).bind k:=by unfold sn;simp only[gi];repeat' (first|rfl|exact oJ λ_=>rfl|exact J1 _ _ _ _ _ _|split)
theorem ru t x f (k:E1->Option R):jO E t x f s k=(jO E t x f s ar).bind k:=by unfold jO;simp only[gi];repeat' (first|rfl|exact oJ _|(refine ar4 λ_ _=>?_)|split)
theorem BE t x f (k:E1->Option R):sl E t x f s k=(sl E t x f s ar).bind k:=by unfold sl;simp only[gi];repeat' (first|rfl|(refine N4 λ_ _=>?_)|split)
theorem ry t x y (k:E1->Option R):jP E t x y s k=(jP E t x y s ar).bind k:=by unfold jP;simp only[gi];repeat' (first|rfl|exact oJ λ_=>rfl|(refine N4 λ_ _=>?_)|split)
theorem BF t x y (k:E1->Option R):sm E t x y s k=(sm E t x y s ar).bind k:=by unfold sm;simp only[gi];repeat' (first|rfl|exact oJ λ_=>rfl|split)
theorem yE x t b (k:E1->Option R):pt E x t b s k=(pt E x t b s ar).bind k:=by unfold pt;simp only[gi];repeat' (first|rfl|split)
theorem vf x i (k:E1->Option R):mJ E x i s k=(mJ E x i s ar).bind k:=by unfold mJ;repeat' (first|rfl|split)
theorem J2 t x (k:E1->Option R):EC E t x s k=(EC E t x s ar).bind k:=by unfold EC;simp only[gi];repeat' (first|rfl|split)
theorem J3 t x (k:E1->Option R):EB E t x s k=(EB E t x s ar).bind k:=by unfold EB;repeat' (first|rfl|split)
theorem J4 x y (k:E1->Option R):ED E x y s k=(ED E x y s ar).bind k:=by unfold ED;split<;>rfl
theorem J5 x y (k:E1->Option R):EE E x y s k=(EE E x y s ar).bind k:=by unfold EE;split<;>rfl
theorem yF t a x y (k:E1->Option R):pq E t a x y s k=(pq E t a x y s ar).bind k:=by unfold pq;simp only[gi];repeat' (first|rfl|exact oJ λ_=>sA _|exact oJ λ_=>rfl|split)
theorem vg t a x y (k:E1->Option R):mI E t a x y s k=(mI E t a x y s ar).bind k:=by unfold mI;simp only[gi];repeat' (first|rfl|exact sA _|split)
theorem BG t a (k:E1->Option R):sq E t a s k=(sq E t a s ar).bind k:=by unfold sq;simp only[gi];repeat' (first|rfl|(refine aCm λ_=>?_)|split)
theorem J6 t n a (k:E1->Option R):EF E t n a s k=(EF E t n a s ar).bind k:=by unfold EF;simp only[gi];repeat' (first|rfl|exact sA _|split)
end
end Go.Vm
namespace Go.Vm
universe u
variable {R:Type}
abbrev Pn :=TypeId×Int×LHp
def kk (k:E1->Option R)(kp:TypeId->Int->LHp->Option R):E1⊕Pn->Option R
 | .inl e=>k e
 | .inr p=>kp p.1 p.2.1 p.2.2
theorem via {X:Option E1}{A B k}{kp:TypeId->Int->LHp->Option R}(a:A=X.bind k)(b:B=X.bind λe=>ar (.inl e)):A=B.bind (kk k kp):=by subst a b;rw[nb];rfl
theorem kS {b c:Type}{x:Option b}{G g}{k:c->Option R}(h:∀a,G a=(g a).bind k):x.bind G=(x.bind g).bind k:=by cases x with|none=>rfl|some a=>exact h a
theorem rz {g}(c:∀{R:Type} (b:List AV) (d:LHp) (k:aq->LHp->Option R),g.run b d k=(g.run b d λa h=>ar (a,h)).bind λp=>k p.1 p.2) b s k (kp:TypeId->Int->LHp->Option R):
  rk g b s k kp=(rk g b s (λe=>ar (.inl e)) λt n w=>ar (.inr (t,n,w))).bind (kk k kp):=by
 unfold rk
 simp only[gi]
 split
 ·split
  ·split
   ·rw[c]
    conv=>rhs;rw[c]
    refine kS λp=>?_
    repeat' (first|rfl|split)
   ·rfl
  ·rfl
 ·rfl
theorem BH {g}(c:∀{R:Type} (o:Nat) (b:List AV) (d:LHp) (k:Bool->LHp->Option R),g.run o b d k=(g.run o b d λa h=>ar (a,h)).bind λp=>k p.1 p.2) q b s (k:E1->Option R):
  sw g q b s k=(sw g q b s ar).bind k:=by
 unfold sw
 simp only[gi]
 split
 ·split
  ·rfl
  ·split
   ·split
    ·split
     ·rw[c]
      conv=>rhs;rw[c]
      refine kS λp=>?_
      repeat' (first|rfl|split)
     ·rfl
    ·rfl
   ·rfl
 ·rfl
section
variable {E:Env}{s:LSt}
theorem Uq (f:E.Good)(dst:Option Tmp)(c:Call)(k:E1->Option R)(kp:TypeId->Int->LHp->Option R):
  Br E dst c s k kp=(Br E dst c s (λe=>ar (.inl e)) (λt n w=>ar (.inr (t,n,w)))).bind (kk k kp):=by
 unfold Br
 simp only[gi]
 split
 ·split
  ·split
   ·rename_i g b;exact rz (λa d k=>(f.calls _ (jn b)).eq a d k) _ _ _ _
   ·split
    ·rename_i g b _
     have h:=λ{R:Type} (a:List AV) (k:AV->Option R)=>(f.exts _ (jn b)).eq a k
     simp only at h;rw[h]
     conv=>rhs;rw[h]
     exact kS λ_=>rfl
    ·rfl
  ·split
   ·rename_i g b;exact via (BH (λo a d k=>(f.round _ b).eq o a d k) _ _ _ _) (BH (λo a d k=>(f.round _ b).eq o a d k) _ _ _ _)
   ·rfl
  ·rfl
 ·split
  ·exact via (J2 _ _ _) (J2 _ _ _)
  ·split
   ·exact via (yF _ _ _ _ _) (yF _ _ _ _ _)
   ·split
    ·exact via (vg _ _ _ _ _) (vg _ _ _ _ _)
    ·rfl
  ·exact via (J3 _ _ _) (J3 _ _ _)
  ·exact via (J4 _ _ _) (J4 _ _ _)
  ·exact via (J5 _ _ _) (J5 _ _ _)
  ·rfl
 ·rfl
theorem BI (a:E.Good)(o:Oper)(k:E1->Option R)(kp:TypeId->Int->LHp->Option R):
  op1 E o s k kp=(op1 E o s (λe=>ar (.inl e)) (λt n w=>ar (.inr (t,n,w)))).bind (kk k kp):=by
 unfold op1
 simp only[gi]
 repeat' (first
  |rfl
  |exact via (EL _ _ _ _) (EL _ _ _ _)
  |exact via (BA _ _) (BA _ _)
  |exact via (JZ _ _) (JZ _ _)
  |exact via (BG _ _ _) (BG _ _ _)
  |exact via (J6 _ _ _ _) (J6 _ _ _ _)
  |exact via (EN _ _ _) (EN _ _ _)
  |exact via (BB _ _ _ _) (BB _ _ _ _)
  |exact via (J0 _ _) (J0 _ _)
  |exact via (JY _ _ _ _ _) (JY _ _ _ _ _)
  |exact via (Qv _ _ _) (Qv _ _ _)
  |exact via (EM _ _ _ _) (EM _ _ _ _)
  |exact via (BC _ _ _) (BC _ _ _)
  |exact via (EO _ _ _ _) (EO _ _ _ _)
  |exact via (EP _ _ _ _) (EP _ _ _ _)
  |exact via (BD _ _ _ _ _ _ _ _) (BD _ _ _ _ _ _ _ _)
  |exact via (ru _ _ _ _) (ru _ _ _ _)
  |exact via (BE _ _ _ _) (BE _ _ _ _)
  |exact via (ry _ _ _ _) (ry _ _ _ _)
  |exact via (BF _ _ _ _) (BF _ _ _ _)
  |exact via (yE _ _ _ _) (yE _ _ _ _)
  |exact via (vf _ _ _) (vf _ _ _)
  |exact Uq a _ _ _ _
  |split)
theorem ER {e n ops o d b c a}{K:e->Option R}(f:∀s,d s=(c s).bind K)(g:∀s,b s=(a s).bind K):
  tR n ops o s d b=(tR n ops o s c a).bind K:=by
 unfold tR
 simp only[gi]
 repeat' (first|rfl|exact f _|exact g _|split)
def kr (k:LSt->Option R)(kp:TypeId->Int->LSt->Option R):LSt⊕(TypeId×Int×LSt)->Option R
 | .inl e=>k e
 | .inr p=>kp p.1 p.2.1 p.2.2
theorem zR (a:E.Good){n ops}:∀(l) (s) (k) (kp:TypeId->Int->LSt->Option R),
  JP E n ops l s k kp=(JP E n ops l s (λs=>ar (.inl s)) λt m s=>ar (.inr (t,m,s))).bind (kr k kp)
 |[],_,_,_=>rfl
 |o::l,s,k,kp=>by
  refine ER (λb=>?_) λb=>zR a l _ k kp
  rw[BI a]
  conv=>rhs;rw[BI a]
  refine kS λp=>?_
  cases p with|inl e=>exact zR a l _ k kp|inr p=>rfl
theorem zT (b:E.Good) o k (kp:TypeId->Int->LHp->Option R):
  NT E o s k kp=(NT E o s (λe=>ar (.inl e)) λt n w=>ar (.inr (t,n,w))).bind (kk k kp):=by
 unfold NT
 split
 ·split
  ·split
   ·rename_i g d
    rw[rz λa c k=>(b.calls _ (jn d)).eq a c k]
    conv=>rhs;rw[rz λa c k=>(b.calls _ (jn d)).eq a c k]
    rw[nb];congr 1;funext p;cases p<;>rfl
   ·exact BI b o k kp
  ·exact BI b o k kp
 ·exact BI b o k kp
theorem GH (b:E.Good){h ops c m q K}{k:List Eff->Option R}{g:List Eff->Option h}(d:∀x,k x=(g x).bind K):∀(l) (i) (s) (f) (a),
  JQ E ops c m q l i s f a k=(JQ E ops c m q l i s f a g).bind K
 |[],_,_,_,a=>d a
 |o::l,i,s,f,a=>by
  simp only[JQ];cases (c.getD i 0).testBit m with
  |true=>exact GH b d l _ _ _ _
  |false=>
   cases o.guard.isNone&&(o.looksAt ops).all _ with
   |false=>rfl
   |true=>
    rw[zT b]
    conv=>rhs;rw[zT b]
    refine kS λp=>?_
    cases p with
    |inl e=>simp only[kk];cases e.rd.all _&&e.wr.all _ with|false=>rfl|true=>exact GH b d l _ _ _ _
    |inr p=>rfl
theorem ah9 (d:E.Good){e ops o l s a b K}{k:LSt->Option R}{c:LSt->Option e}(f:∀x,k x=(c x).bind K):
  Ui E ops o l s a b k=(Ui E ops o l s a b c).bind K:=by
 unfold Ui
 simp only
 cases o.guard.isNone&&(DQ _).good with
 |false=>rfl
 |true=>
  split
  ·refine GH d (λg=>?_) _ _ _ _ _
   simp only[gi];split
   ·exact f _
   ·rfl
  ·rfl
theorem zU (a:E.Good){n ops}:∀(l) (s) (b) (k) (kp:TypeId->Int->LSt->Option R),
  DR E n ops l s b k kp=(DR E n ops l s b (λs=>ar (.inl s)) λt m s=>ar (.inr (t,m,s))).bind (kr k kp)
 |[],s,b,k,kp=>by simp only[DR,gi];split<;>rfl
 |o::l,s,b,k,kp=>by
  refine ER (λc=>?_) λc=>zU a l _ _ k kp
  rw[zT a]
  conv=>rhs;rw[zT a]
  refine kS λp=>?_
  cases p with|inl e=>exact zU a l _ _ k kp|inr p=>cases h:ah0 ops o b with|true=>rfl|false=>simp only[kk,al];exact ah9 a λ_=>rfl
end
end Go.Vm
namespace Go.Vm
def cc {a:Type}(p:a->Bool)(b:List a):Int:=match b.findIdx? p with|some i=>i|none=> -1
theorem vh {b} p (a:List b):a7 (cc p a>=0)=a.any p:=by
 unfold cc;cases h:a.findIdx? p with
 |none=>
  rw[yd]at h;let:a.any p=a8:=by rw[v7];intro x c;simp[h x c]
  rw[this];rfl
 |some i=>
  let:a.any p=bc:=by let ⟨d,hp,_⟩:=fk.1 h;exact tr.2 ⟨_,rm d,hp⟩
  rw[this];exact aF (by simp only;omega)
theorem aY {P i f F}(h:∀b c d g,(F b c).run (λa h=>ar (a,h))=ar (d,g)->FnH P i f b (aD c) λj l=>j=d/\l=aD g):FnE.OK P i f (ay F):=
 ⟨λ_ _ _=>Tq.eq _ _,λb c d g e=>h b c d g e⟩
end Go.Vm
namespace Go.Vm
universe u
variable {R:Type}
abbrev apH :AEx->LSt->Option (AEx×LSt):=λe s=>ar (e,s)
def pk (k:AEx->LSt->Option R):AEx×LSt->Option R:=λp=>k p.1 p.2
theorem J7 {E}(f:E.Good){u}:∀(c) {R} (s) (k:AEx->LSt->Option R),ex E u c s k=(ex E u c s apH).bind (pk k):=by
 intro c;induction c with
 |skip=>intro R s k;rfl
 |label l=>intro R s k;rfl
 |ret=>intro R s k;rfl
 |exit id=>intro R s k;rfl
 |region id ops z=>
  intro R s k;simp only[ex];cases z with
  |true=>
   simp only[ai];rw[zU f]
   conv=>rhs;rw[zU f]
   refine kS λp=>?_
   cases p<;>rfl
  |false=>
   simp only[al];rw[zR f]
   conv=>rhs;rw[zR f]
   refine kS λp=>?_
   cases p<;>rfl
 |seq a b h n=>
  intro R s k;simp only[ex];rw[h]
  conv=>rhs;rw[h]
  refine kS λp=>?_
  let ⟨e,v⟩:=p;cases e with|normal=>exact n v k|exit id=>rfl|ret=>rfl|panic t m=>rfl
 |cond c a b h n=>
  intro R s k;simp only[ex,gi];split
  ·split
   ·exact h _ k
   ·exact n _ k
  ·rfl
 |block id c o=>
  intro R s k;simp only[ex];rw[o]
  conv=>rhs;rw[o]
  refine kS λp=>?_
  let ⟨e,v⟩:=p;cases e with|exit i=>simp only[pk];cases dK i id<;>rfl|normal=>rfl|ret=>rfl|panic t m=>rfl
 |loop c o=>
  intro R s k;simp only[ex];split
  ·exact kS λ_=>rfl
  ·rfl
 |rangeFunc fop A j x _ _=>
  intro R s k;simp only[ex,gi];split
  ·split
   ·split
    ·rename_i g y _
     rw[rz λd q k=>(f.calls _ (jn y)).eq d q k]
     conv=>rhs;rw[rz λd q k=>(f.calls _ (jn y)).eq d q k]
     refine kS λp=>?_
     cases p with|inl e=>simp only[kk];repeat' (first|rfl|split)|inr p=>rfl
    ·rfl
   ·rfl
  ·rfl
 |_=>intro R s k;rfl
def BJ (b:LSt->(AEx->LSt->Option R)->Option R)(N:LSt->Option LSt):Nat->LSt->(AEx->LSt->Option R)->Option R
 |0,_,_=>a6
 |n+1,s,k=>b s λe a=>
  match e with| .normal=>(match N a with|some c=>BJ b N n c k|none=>a6)| .exit id=>k (.exit id) a| .ret=>k .ret a| .panic t m=>k (.panic t m) a
def exC (E:Env)(g:Cfg):Code->{R:Type}->LSt->(AEx->LSt->Option R)->Option R
 | .seq a b,_,s,k=>exC E g a s λe f=>
  match e with| .normal=>exC E g b f k| .exit id=>k (.exit id) f| .ret=>k .ret f| .panic t m=>k (.panic t m) f
 | .cond c a b,_,s,k=>
  (match s.ev E c with| .d .bool v=>bif v then exC E g a (j8 c s bc) k else exC E g b (j8 c s a8) k|_=>a6)
 | .block id c,_,s,k=>exC E g c s λe f=>
  match e with| .normal=>k .normal f| .exit i=>bif dK i id then k .normal f else k (.exit i) f| .ret=>k .ret f| .panic t m=>k (.panic t m) f
 | .loop c,_,s,k=>
  (match nrm g c s with|some h=>BJ (λj l=>exC E g c j l) (nrm g c) fu h k|none=>a6)
 |c,_,s,k=>ex E g c s k
theorem J8 {E}(d:E.Good){a c}(h:∀{R:Type} (s:LSt) (k:AEx->LSt->Option R),exC E a c s k=ex E a c s k):∀(n) (s) (k:AEx->LSt->Option R),
  BJ (λf j=>exC E a c f j) (nrm a c) n s k=(A2 (λf=>ex E a c f λe b=>
    match e with| .normal=>(match nrm a c b with|some g=>ar (.next g)|none=>a6)| .exit id=>ar (.done ((.exit id,b)))| .ret=>ar (.done (.ret,b))| .panic t m=>ar (.done (.panic t m,b))) n s).bind λi=>k i.1 i.2
 |0,_,_=>rfl
 |n+1,s,k=>by
  simp only[BJ,A2];rw[h,J7 d]
  conv=>rhs;rw[J7 d]
  cases ex E a c s _ with
  |none=>rfl
  |some p=>
   let ⟨e,b⟩:=p;simp only[aw,pk];cases e with
   |normal=>cases nrm a c b with|none=>rfl|some g=>exact J8 d h n g k
   |exit id=>rfl
   |ret=>rfl
   |panic t m=>rfl
theorem tW {E:Env}(i:E.Good){d:Cfg}:∀(c:Code) {R:Type} (s:LSt) (k:AEx->LSt->Option R),exC E d c s k=ex E d c s k:=by
 intro c;induction c with
 |seq a b f g=>intro R s k;simp only[exC,ex];rw[f];congr 1;funext e j;cases e with|normal=>exact g j k|exit id=>rfl|ret=>rfl|panic t m=>rfl
 |cond c a b f g=>intro R s k;simp only[exC,ex,f,g]<;>rfl
 |block id c h=>intro R s k;simp only[exC,ex,h]<;>rfl
 |loop c h=>intro R s k;simp only[exC,ex];cases nrm d c s with|none=>rfl|some l=>exact J8 i (λs k=>h s k) fu l k
 |_=>intro R s k;rfl
def aV (P:Program)(a:Nat)(e:List ResultVar)(k:aq->LHp->Option R):AEx->LSt->Option R
 | .normal,s=>(match tU P s e with|some c=>fin a s.hp c (λd b=>k (.ret d) b)|none=>a6)
 | .ret,s=>(match tU P s e with|some c=>fin a s.hp c (λd b=>k (.ret d) b)|none=>a6)
 | .panic t m,s=>fin a s.hp [] (λ_ b=>k (.panic t m) b)
 | .exit _,_=>a6
theorem tX {c hp d e G g}{k:e->Option R}(h:∀a b,G a b=(g a b).bind k):fin c hp d G=(fin c hp d g).bind k:=by unfold fin;simp only[gi];repeat' (first|rfl|exact h _ _|split)
theorem aia {P a b}(k:aq->LHp->Option R) e s:aV P a b k e s=(Uj P a b e s).bind λp=>k p.1 p.2:=by
 cases e with
 |exit id=>rfl
 |normal=>simp only[aV,Uj];cases tU P s b with|none=>rfl|some c=>exact tX λ_ _=>rfl
 |ret=>simp only[aV,Uj];cases tU P s b with|none=>rfl|some c=>exact tX λ_ _=>rfl
 |panic t m=>simp only[aV,Uj];exact tX λ_ _=>rfl
def aB (E:Env)(d:Func)(depth:Nat)(live:List (Nat×List Nat))(a:List AV)(b:LHp)(k:aq->LHp->Option R):Option R:=
 match d.body with
 |none=>a6
 |some c=>
  bif AD a.length d.ntmps&&dG b.length b then
   exC E ⟨d.ntmps,depth,b.length,live,bc⟩ c ⟨az depth (number 0 a),b,b.length⟩ (aV E.P b.length d.results.toList k)
  else a6
theorem pB {E}(a:E.Good){b c s f K d}{g:f->Option R}(h:∀e s,K e s=(d e s).bind g):ex E b c s K=(ex E b c s d).bind g:=by
 rw[J7 a]
 conv=>rhs;rw[J7 a]
 exact kS λp=>h p.1 p.2
theorem zV {E}(f:E.Good){d a live} b g (k:aq->LHp->Option R):aB E d a live b g k=(By E d a live b g).bind λp=>k p.1 p.2:=by
 unfold aB By;cases d.body with
 |none=>rfl
 |some c=>
  simp only[gi];split
  ·rw[tW f];exact pB f λe s=>aia k e s
  ·rfl
def aA (E:Env)(c:Func)(a:Nat)(live:List (Nat×List Nat)):FnE:={run:=λb d k=>aB E c a live b d k}
theorem kT {E:Env}(l:E.Good)(cZ:E.P.follows .mixedOrders=bc){f}{i:Func}{a}{live:List (Nat×List Nat)}(o:E.P.funcs[f]?=ar i)(d:∀(m:Array _) (w:World),(callFunc f m).run E.P w=.ok (.enter f m) w)
  (g:(match i.body with|some c=>ee i.ntmps c|none=>bc)=bc) (j:h8 i.ntmps (2 ^ a)=bc):FnE.OK E.P E.gam f (aA E i a live):=by
 let h:=Uk l cZ o d g j (live:=live)
 refine FnE.OK.of h (λb n k=>?_) λb n p q e=>?_
 ·simp only[aA];rw[zV l,zV l];cases By E i _ live b n<;>rfl
 ·simp only[aA]at e;rw[zV l]at e;exact e
end Go.Vm
namespace Go.Vm
universe u
variable {R:Type}
def Z4 (E:Env)(D:rq)(c:Code)(a:List AV)(f:AV)(b:LHp)(k:LHp->Option R):Option R:=
 bif AD a.length D.gn.ntmps&&dG b.length b then
  exC E ⟨D.gn.ntmps,D.depth,b.length,D.live,a8⟩ c ⟨((az D.depth (number 0 a)).set D.t5 f).set D.t2 f,b,b.length⟩ λe s=>
   match e with| .normal=>fin b.length s.hp [] (λ_ d=>k d)| .ret=>fin b.length s.hp [] (λ_ d=>k d)|_=>a6
 else a6
theorem Z5 {E}(c:E.Good){D a b d f}{k:LHp->Option R}:Z4 E D a b d f k=(Um E D a b d f).bind k:=by
 unfold Z4 Um;simp only[gi];split
 ·rw[tW c]
  refine pB c λe s=>?_
  cases e with
  |normal=>exact tX λ_ _=>rfl
  |ret=>exact tX λ_ _=>rfl
  |exit i=>rfl
  |panic t n=>rfl
 ·rfl
def ES (E:Env)(D:rq)(b:Code)(c:Nat)(l:List ResultVar)(a:List AV)(k:aq->LHp->Option R)(e:AEx)(s:LSt):Option R:=
 match ah4 e with
 |none=>a6
 |some m=>
  let L:=ji s.hp fA (refsL a) [];let f:=m6 s.hp L 0
  bif f.good then
   (match rens f a with
   |some d=>
    (match nN s.hp f f with
    |some n=>
     Z4 E D b d m n λh=>
      let i:=gH L.length s.nx h;let g:=gY s.hp L 0++i
      bif g.good&&iG s.hp i then
       (match nN h g g with
       |some j=>
        (match tU E.P ⟨s.fr,j++s.hp,s.nx⟩ l with|some o=>fin c (j++s.hp) o (λp q=>k (.ret p) q)|none=>a6)
       |none=>a6)
      else a6
    |none=>a6)
   |none=>a6)
  else a6
theorem Z6 {E}(i:E.Good){D a c f b}(k:aq->LHp->Option R) e s:ES E D a c f b k e s=(ah5 E D a c f b e s).bind λp=>k p.1 p.2:=by
 unfold ES ah5;cases ah4 e with
 |none=>rfl
 |some j=>
  simp only;cases (m6 s.hp _ 0).good with
  |false=>rfl
  |true=>
   cases rens _ b with
   |none=>rfl
   |some d=>
    cases nN s.hp _ _ with
    |none=>rfl
    |some l=>
     simp only;rw[Z5 i];cases Um E D a d j l with
     |none=>rfl
     |some h=>
      simp only[aw];generalize gY s.hp _ 0++gH (ji s.hp _ _ []).length s.nx h=g;cases Sg.good g&&iG s.hp _ with
      |false=>rfl
      |true=>
       cases nN h g g with|none=>rfl|some m=>simp only;cases tU E.P _ f with|none=>rfl|some n=>exact tX λ_ _=>rfl
def BK (E:Env)(h:Func)(a:Nat)(c:List (Nat×List Nat))(D:rq)(d:List AV)(e:LHp)(k:aq->LHp->Option R):Option R:=
 match h.body,D.gn.body with
 |some (.seq j (.seq _ y)),ar (.seq _ i)=>
  bif AD d.length h.ntmps&&dG e.length e then
   exC E ⟨h.ntmps,a,e.length,c,a8⟩ j ⟨az a (number 0 d),e,e.length⟩ λe0 f=>
    match e0 with
    | .normal=>
     let b:=evs E f D.caps
     bif b.all (qx f.hp)&&dG f.nx f.hp then
      exC E ⟨h.ntmps,a,f.nx,c,a8⟩ y (f.set D.t15 (.fn (.func D.g) [] b)) (ES E D i e.length h.results.toList b k)
     else a6
    |_=>a6
  else a6
 |_,_=>a6
theorem xh {E}(d:E.Good){f a b D} c g (k:aq->LHp->Option R):BK E f a b D c g k=(EK E f a b D c g).bind λp=>k p.1 p.2:=by
 unfold BK EK;cases f.body with
 |none=>rfl
 |some j=>
  cases j with
  |seq o z=>
   cases z with
   |seq q y=>
    cases D.gn.body with
    |none=>rfl
    |some l=>
     cases l with
     |seq u h=>
      simp only;cases AD _ _&&dG _ g with
      |false=>rfl
      |true=>
       rw[tW d];refine pB d λe0 m=>?_
       cases e0 with
       |normal=>cases (evs E m _).all _&&dG _ _ with|false=>rfl|true=>rw[tW d];exact pB d λe s=>Z6 d k e s
       |exit i=>rfl
       |ret=>rfl
       |panic t n=>rfl
     |_=>rfl
   |_=>rfl
  |_=>rfl
def vi (E:Env)(d:Func)(a:Nat)(b:List (Nat×List Nat))(D:rq):FnE:={run:=λc e k=>BK E d a b D c e k}
theorem J9 {E}(d:E.Good){f g a b D P i}(h:FnE.OK P i f (zP E g a b D)):FnE.OK P i f (vi E g a b D):=by
 refine FnE.OK.of h (λc j k=>?_) λc j l m e=>?_
 ·simp only[vi];rw[xh d,xh d];cases EK E g _ b D c j<;>rfl
 ·simp only[vi]at e;rw[xh d]at e;exact e
def Z7 (a o:Nat)(k:Bool->LHp->Option R)(e:AEx)(d:LSt):Option R:=
 match Qm e with
 |some j=>
  (match aD d.hp o with|some (.rc (.loop b c .busy))=>fin a ((o,.rc (.loop b c (Er j)))::d.hp) [] (λ_ f=>k j.isNone f)|_=>a6)
 |none=>a6
theorem Z8 {a o}(k:Bool->LHp->Option R) e s:Z7 a o k e s=(ah7 a o e s).bind λp=>k p.1 p.2:=by
 unfold Z7 ah7;cases Qm e with
 |none=>rfl
 |some j=>
  cases aD s.hp o with
  |none=>rfl
  |some b=>
   cases b with
   |box v=>rfl
   |arr T e m z d=>rfl
   |rc r=>
    cases r with
    |map l=>rfl
    |loop f g c=>
     cases c with
     |busy=>exact tX λ_ _=>rfl
     |_=>rfl
def Z9 (E:Env)(b:List (Nat×List Nat))(o:Nat)(c:List AV)(d:LHp)(k:Bool->LHp->Option R):Option R:=
 match aD d o with
 |some (.rc (.loop a g .ready))=>
  bif dG d.length d&&dK a.ps.size c.length&&(a.ps.toList.all (λt=>h8 t a.n))&&ee a.n a.assign&&ee a.n a.body&&h8 a.n (2 ^ a.key)then
   exC E ⟨a.n,a.key,d.length,b,a8⟩ a.assign (GG ⟨az a.key g,d,d.length⟩ a.ps.toList c) λe f=>
    match e with
    | .normal=>
     (match aD f.hp o with|some (.rc (.loop h i .ready))=>exC E ⟨a.n,a.key,d.length,b,a8⟩ a.body ⟨f.fr,(o,.rc (.loop h i .busy))::f.hp,f.nx⟩ (Z7 d.length o k)|_=>a6)
    |_=>a6
  else a6
 |_=>a6
theorem BL {E}(c:E.Good){a o b d}(k:Bool->LHp->Option R):Z9 E a o b d k=(Un E a o b d).bind λp=>k p.1 p.2:=by
 unfold Z9 Un;cases aD d o with
 |none=>rfl
 |some h=>
  cases h with
  |box v=>rfl
  |arr T e m z j=>rfl
  |rc r=>
   cases r with
   |map l=>rfl
   |loop f y q=>
    cases q with
    |ready=>
     simp only;cases dG _ d&&dK _ _&&f.ps.toList.all _&&ee f.n _&&ee f.n _&&h8 f.n _ with
     |false=>rfl
     |true=>
      rw[tW c];refine pB c λe A=>?_
      cases e with
      |normal=>
       cases aD _ o with
       |none=>rfl
       |some u=>
        cases u with
        |box v=>rfl
        |arr T e m z j=>rfl
        |rc x=>
         cases x with
         |map l=>rfl
         |loop B D g=>
          cases g with
          |ready=>simp only;rw[tW c];exact pB c λe s=>Z8 k e s
          |_=>rfl
      |exit i=>rfl
      |ret=>rfl
      |panic t n=>rfl
    |_=>rfl
def xi (E:Env)(a:List (Nat×List Nat)):iA:={run:=λo b c k=>Z9 E a o b c k}
theorem xj {E}(d:E.Good)(cZ:E.P.follows .mixedOrders=bc) a:iA.OK E.P E.gam (xi E a):=by
 let h:=Uo d cZ a;refine⟨λo b f k=>?_,λo b f c g e=>h.ok o b f c g ?_⟩
 ·simp only[xi];rw[BL d,BL d];cases Un E a o b f<;>rfl
 ·simp only[xi]at e;rw[BL d]at e;exact e
end Go.Vm
namespace Go.Vm
variable {R:Type}
def lp (E:Env)(a:Cfg)(c:Code)(n:Nat)(s:LSt)(k:AEx->LSt->Option R)  :=BJ (λst b=>exC E a c st b) (nrm a c) n s k
abbrev Hl :=Code->(R:Type)->LSt->(AEx->LSt->Option R)->Option R
def hlp (E:Env)(a:Cfg):Hl:=λc _ s k=>lp E a c fu s k
def aCn :List Nat->Nat->Bool
 |[],_=>a8
 |a::l,n=>dK a n||aCn l n
def bI (a:List Nat)(c:Code):Bool:=match lz c with|some i=>aCn a i|none=>a8
def exH (E:Env)(h:Cfg)(f:List Nat)(j:Hl):Code->{R:Type}->LSt->(AEx->LSt->Option R)->Option R
 | .seq a b,_,s,k=>exH E h f j a s λe g=>
  match e with| .normal=>exH E h f j b g k| .exit id=>k (.exit id) g| .ret=>k .ret g| .panic t m=>k (.panic t m) g
 | .cond c a b,_,s,k=>
  (match s.ev E c with| .d .bool v=>bif v then exH E h f j a (j8 c s bc) k else exH E h f j b (j8 c s a8) k|_=>a6)
 | .block id c,_,s,k=>exH E h f j c s λe g=>
  match e with| .normal=>k .normal g| .exit i=>bif dK i id then k .normal g else k (.exit i) g| .ret=>k .ret g| .panic t m=>k (.panic t m) g
 | .loop c,R,s,k=>
  (match nrm h c s with|some l=>bif bI f c then j c R l k else BJ (λn o=>exH E h f j c n o) (nrm h c) fu l k|none=>a6)
 |c,_,s,k=>ex E h c s k
theorem zW {E:Env}{f:Cfg}{d:List Nat}:∀(c:Code) {R:Type} (s:LSt) (k:AEx->LSt->Option R),exH E f d (hlp E f) c s k=exC E f c s k:=by
 intro c;induction c with
 |seq a b g h=>intro R s k;simp only[exC,exH];rw[g];congr 1;funext e j;cases e with|normal=>exact h j k|exit id=>rfl|ret=>rfl|panic t m=>rfl
 |cond c a b g h=>intro R s k;simp only[exC,exH,g,h]<;>rfl
 |block id c i=>intro R s k;simp only[exC,exH,i]<;>rfl
 |loop c i=>
  intro R s k;simp only[exC,exH];cases nrm f c s with|none=>rfl|some o=>simp only;cases bI d c with|true=>rfl|false=>simp only[al];congr 1;funext l n;exact i l n
 |_=>intro R s k;rfl
def aL (E:Env)(d:Cfg)(c:List Nat)(f:Hl)(b:Code)(k:AEx->LSt->Option R):AEx->LSt->Option R:=λe a=>
 match e with| .normal=>exH E d c f b a k| .exit id=>k (.exit id) a| .ret=>k .ret a| .panic t m=>k (.panic t m) a
def lpH (E:Env)(b:Cfg)(a:List Nat)(d:Hl)(c:Code)(n:Nat)(s:LSt)(k:AEx->LSt->Option R)  :=BJ (λe f=>exH E b a d c e f) (nrm b c) n s k
theorem kU {E a ids c n s}{k:AEx->LSt->Option R}:lpH E a ids (hlp E a) c n s k=lp E a c n s k:=by unfold lpH lp;congr 1;funext b d;exact zW c b d
def lJ (E:Env)(d:Cfg)(b:List Nat)(f:Hl)(c:Code)(n:Nat)(k:AEx->LSt->Option R):AEx->LSt->Option R:=λe a=>
 match e with| .normal=>(match nrm d c a with|some g=>lpH E d b f c n g k|none=>a6)| .exit id=>k (.exit id) a| .ret=>k .ret a| .panic t m=>k (.panic t m) a
def aib (E:Env)(f:Func)(a:Nat)(e:List (Nat×List Nat))(g:List Nat)(h:Hl)(b:List AV)(d:LHp)(k:aq->LHp->Option R):Option R:=
 match f.body with
 |none=>a6
 |some c=>
  bif AD b.length f.ntmps&&dG d.length d then
   exH E ⟨f.ntmps,a,d.length,e,bc⟩ g h c ⟨az a (number 0 b),d,d.length⟩ (aV E.P d.length f.results.toList k)
  else a6
theorem ET {E e a b f d g}{k:aq->LHp->Option R}:aB E e a b d g k=aib E e a b f (hlp E ⟨e.ntmps,a,g.length,b,bc⟩) d g k:=by unfold aib aB;cases e.body with|none=>rfl|some c=>simp only[zW]
abbrev ah :aq->LHp->Option (aq×LHp):=λa h=>ar (a,h)
def orT (a b:Tq):Tq:=match a with| .no=>b|t=>t
theorem aic {a b k}{r:R}(h:(orT a b).run k=ar r):a.run k=ar r\/b.run k=ar r:=by cases a with|no=>exact .inr h|leaf _ _=>exact .inl h|br _ _ _=>exact .inl h|opt _ _=>exact .inl h
theorem lK {P c f d e}(i:FnE.OK P c f (ay d))(j:FnE.OK P c f (ay e)):FnE.OK P c f (ay λa h=>orT (d a h) (e a h)):=by
 refine⟨λ_ _ _=>Tq.eq _ _,λg l m n h=>?_⟩;let b  :=h;rcases aic b with b|b
 ·exact i.ok _ _ _ _ b
 ·exact j.ok _ _ _ _ b
def vj (F:List AV->LHp->Tq)(g:FnE):FnE:={run:=λa b k=>match F a b with| .no=>g.run a b k|t=>t.run k}
theorem Ka {P l f F g}(o:FnE.OK P l f (ay F))(n:FnE.OK P l f g):FnE.OK P l f (vj F g):=by
 refine⟨λd j k=>?_,λd j p q h=>?_⟩
 ·simp only[vj];cases F d j with|no=>exact n.eq _ _ _|leaf a b=>exact Tq.eq _ _|br a b c=>exact Tq.eq _ _|opt a b=>exact Tq.eq _ _
 ·simp only[vj]at h
  let i:(F d j).run ah=ar _->FnH P l f d _ _:=λe=>o.ok d j p q e
  cases m:F d j with|no=>rw[m]at h;exact n.ok _ _ _ _ h|leaf a b=>rw[m]at h i;exact i h|br a b c=>rw[m]at h i;exact i h|opt a b=>rw[m]at h i;exact i h
theorem FnE.OK.okC {E j a c P l f}(h:FnE.OK P l f (aA E j a c)){b d g i}(e:aB E j a c b d ah=ar (i,g)):FnH P l f b (aD d) λm n=>m=i/\n=aD g:=h.ok b d i g e
theorem dh {E:Env}(l:E.Good)(cZ:E.P.follows .mixedOrders=bc){f}{e:Func}{depth}{live:List (Nat×List Nat)}{F:List AV->LHp->Tq}(m:E.P.funcs[f]?=ar e)(b:∀(j:Array _) (w:World),(callFunc f j).run E.P w=.ok (.enter f j) w)
  (d:(match e.body with|some c=>ee e.ntmps c|none=>bc)=bc) (g:h8 e.ntmps (2 ^ depth)=bc)
  (eq:∀a i p,(F a i).run ah=ar p->aB E e depth live a i ah=ar p):FnE.OK E.P E.gam f (ay F):=
 Z1 (kT l cZ m b d g) λa i p h=>eq a i p h
theorem jF {E:Env}(l:E.Good)(cZ:E.P.follows .mixedOrders=bc){f}{e:Func}{depth}{live:List (Nat×List Nat)}{F:List AV->LHp->Option (aq×LHp)}(m:E.P.funcs[f]?=ar e)(b:∀(j:Array _) (w:World),(callFunc f j).run E.P w=.ok (.enter f j) w)
  (d:(match e.body with|some c=>ee e.ntmps c|none=>bc)=bc) (g:h8 e.ntmps (2 ^ depth)=bc)
  (eq:∀a i p,F a i=ar p->aB E e depth live a i ah=ar p):FnE.OK E.P E.gam f (fnE F):=
 ar2 (kT l cZ m b d g) λa i p h=>eq a i p h
theorem Ur {E:Env}(p:E.Good)(cZ:E.P.follows .mixedOrders=bc){f}{g:Func}{a}{i:List (Nat×List Nat)}(q:E.P.funcs[f]?=ar g)(d:∀(o:Array _) (w:World),(callFunc f o).run E.P w=.ok (.enter f o) w)
  (e:(match g.body with|some c=>ee g.ntmps c|none=>bc)=bc) (j:h8 g.ntmps (2 ^ a)=bc) {b l m n} (h:aB E g a i b l ah=ar (n,m)):
  FnH E.P E.gam f b (aD l) λt u=>t=n/\u=aD m:=
 (kT p cZ q d e j).ok b l n m h
theorem apI {S:Type}{T:Nat->S->Option R}{f:Nat->S}:∀(N m),N<=m->(∀i,i<N->∀n,T (n+1) (f i)=T n (f (i+1)))->T m (f 0)=T (m-N) (f N):=by intro N;induction N generalizing f with|zero=>intro m _ _;rfl|succ N b=>intro m c h;obtain⟨a,rfl⟩:∃a,m=a+1:=⟨m-1,by omega⟩;rw[h 0 (by omega) a,b a (by omega) λi d n=>h _ (by omega) n];congr 1;omega
theorem fF {S g:Type}{T:Nat->S->Option R}{xs:List g}{p:g->Bool}{st:Int->S}{r:Int->g->Option R}{r0:Int->Option R}(q:xs.length<=maxLen)
  (h:∀(i:Int) (n:Nat),T (n+1) (st i)=bif a7 (i<bd xs.length)then (idx xs i).bind λx=>bif p x then r i x else T n (st (ahc.wrap (i+1)))else r0 i):
  T fu (st 0)=match xs.findIdx? p with|some i=>(xs[i]?).bind λx=>r i x|none=>r0 (.ofNat xs.length):=by
 let t:maxLen=9223372036854775807:=by decide
 let u:fu=18446744073709551616:=rfl
 let step:∀i,i<xs.length->(∀x,xs[i]?=ar x->p x=a8)->∀n,T _ _=T n (st (i+1:Nat)):=by
  intro i d hp n;let ⟨x,b⟩:∃x,xs[i]?=ar x:=⟨_,dv d⟩;let a:idx xs i=ar x:=by unfold idx;rw[if_pos (by omega),b9,b]
  rw[h,aF (show (i:Int)<.ofNat _ from ahr.2 d),a];simp only[ai,aw,hp x b,al];rw[aH (by omega) (by omega)];rfl
 cases j:xs.findIdx? p with
 |none=>
  rw[yd]at j;let:=apI _ fu (by omega) λi d=>step i d λx b=>by simpa using j x (ik b)
  refine gp this ?_;let ⟨e,c⟩:∃e,fu-xs.length=e+1:=⟨fu-xs.length-1,by omega⟩;rw[c,h,cq (show¬((xs.length:Nat):Int)<.ofNat xs.length from ahA _)];rfl
 |some n=>
  let ⟨m,hp,l⟩:=fk.1 j;let b  :=dv m;let:=apI (T:=T) (f:=λi  =>st i) n fu (by omega) λi d=>step i (by omega) λx b=>by let o:=l i d;rw[dv (by omega)]at b;cases b;simpa using o
  refine gp this ?_;let ⟨e,c⟩:∃e,fu-n=e+1:=⟨fu-n-1,by omega⟩;let a:idx xs n=ar xs[n]:=by unfold idx;rw[if_pos (by omega),b9,b]
  rw[c,h,aF (show (n:Int)<.ofNat xs.length from ahr.2 m),a];simp only[ai,aw,hp,b]
theorem j9 {E a c} ids:lp (R:=R) E a c=lpH E a ids (hlp E a) c:=by funext n s k;exact kU.symm
theorem aW {E d a b c e}{k:aq->LHp->Option R} ids f (h:⟨d.ntmps,a,e.length,b,bc⟩=f):aB E d a b c e k=aib E d a b ids (hlp E f) c e k:=by subst h;exact ET
theorem aM E a:∃b,hlp E a=b:=⟨_,rfl⟩
end Go.Vm
namespace Go.Vm
open Go.ChangeShapes Go.WideShapes Go.RowKit
mutual
/-- the program's type t is τ -/
def readTy (P:Program):Ty->TypeId->Bool
  | .int k,t=>(match P.underlying t with|some (.int c)=>decide (c=k)|_=>a8)
  | .bool,t=>(match P.underlying t with|some .bool=>bc|_=>a8)
  | .str,t=>(match P.underlying t with|some .string=>bc|_=>a8)
  | .flt _,_=>a8
  | .unit,_=>a8
  | .slice e,t=>(match P.underlying t with|some (.slice u)=>dK (P.cellsOf u) e.size&&AD 1 e.size&&readTy P e u|_=>a8)
  | .arr _ _,_=>a8
  | .pair a b,t=>(match P.underlying t with|some (.struct d)=>dK (P.cellsOf t) (a.size+b.size)&&(match d.toList with|f::r=>dK f.offset 0&&dK (P.cellsOf f.type) a.size&&readTy P a f.type&&readFs P b a.size r|[]=>a8)|_=>a8)
def readFs (P:Program):Ty->Nat->List Field->Bool
  | .unit,_,d=>d.isEmpty
  | .pair a b,c,d=>(match d with|f::r=>dK f.offset c&&dK (P.cellsOf f.type) a.size&&readTy P a f.type&&readFs P b (c+a.size) r|[]=>a8)
  |_,_,_=>a8
end
def WfD :(t:Ty)->t.den->Prop
 | .int k,n=>(Lit.int k n).wf=bc
 | .bool,_=>True
 | .str,s=>s.length<=maxLen
 | .flt _,_=>True
 | .slice e,c=>c.length<=maxLen/\∀x∈c,WfD e x
 | .unit,_=>True
 | .pair a b,x=>WfD a x.1/\WfD b x.2
 | .arr _ e,c=>∀x∈c,WfD e x
theorem Qw {p}{w:World}{a:Addr}{f F}{G:p->Prop}:∀(n b),(∀i,b<=i->i<b+n->∃d z,w.cells? 0 (a.add (i*f)) f=ar d/\F d z/\G z)->
  ∃d g,g.length=n/\bO F d g/\(∀z∈g,G z)/\d.length=n*f/\∀i j,i<n->j<f->w.cell? ((a.add ((b+i)*f)).add j)=d[i*f+j]?
 |0,_,_=>⟨[],[],rfl,rfl,λ_ h=>(by cases h),by simp,λi j h=>by omega⟩
 |n+1,b,h=>by
  let ⟨c,z,q,t,u⟩:=h b (ep _) (by omega);let ⟨d,g,v,x,A,B,D⟩:=Qw n (b+1) λi I J=>h i (by omega) (by omega)
  let ⟨_,l,e⟩:=World.cells?_some q;refine⟨_,z::g,by simp[v],⟨c,d,rfl,t,x⟩,λy m=>?_,by rw[bK,l,B,nY];omega,λi j I o=>?_⟩
  ·rcases kt.1 m with rfl|m
   ·exact u
   ·exact A y m
  ·cases i with|zero=>rw[Nat.add_zero,e j o,Nat.zero_mul,hM,List.getElem?_append_left (by omega)]|succ i=>let:=D i j (by omega) o;rw[(by omega:b+(i+1)=b+1+i),this,List.getElem?_append_right (by rw[l,nY];omega),l,nY,Nat.one_mul];congr 1;omega
section
variable {H:Type}{enc:TypeId×Value->H}{P:Program}{w:World}{sp:Nat->Bool}{held:Bool}
theorem aid {a v}(h:w.cell? a=ar v):a.block<w.heap.size:=by
 rcases TE _ _ with b|c
 ·exact b
 ·simp[World.cell?,Array.getElem?_eq_none c]at h
end
theorem vd.same {W a}(h:vd W a){p}(hp:p.block<W.heap.size):W.sameAt a p:=by cases p with|cell b c=>exact h.cell hp|map b=>exact h.old b hp
theorem vd.trodAll {H}{enc:TypeId×Value->H}{P}(f:laidOutB P=bc){W g}(i:vd W g){sp}:∀{c:List _} {j:List _} {l:List (DataW H)} {b:List MemPlace},
  (∀t∈c,P.readableRec t=bc/\t<P.types.size)->(∀p∈b,p.block<W.heap.size)->(∀p∈b,sp p.block=bc)->aht enc P W 0 (λ_=>bc) bc c j l b->aht enc P g 0 sp bc c j l b
 |[],[],[],_,_,_,_,h=>h
 |_::_,_::_,_::_,_,d,hp,m,⟨p,q,n,o,e⟩=>
  ⟨p,q,WideElems.Trod_stays f (d _ (kt.2 (.inl rfl))).1 (d _ (kt.2 (.inl rfl))).2 n (λx a=>i.same (hp x (by rw[e];exact List.mem_append_left _ a))) λx a=>m x (by rw[e];exact List.mem_append_left _ a),
   vd.trodAll f i (λt h=>d t (kt.2 (.inr h))) (λx a=>hp x (by rw[e];exact List.mem_append_right _ a)) (λx a=>m x (by rw[e];exact List.mem_append_right _ a)) o,e⟩
 |[],_::_,_,_,_,_,_,h=>h.elim
 |[],[],_::_,_,_,_,_,h=>h.elim
 |_::_,[],_,_,_,_,_,h=>h.elim
 |_::_,_::_,[],_,_,_,_,h=>h.elim
theorem Us {H enc P f}{s:ChangeSpec}{c i d l W o g v e u a}
  (S:laidOutB P=bc) (T:∀t∈f.params.toList,P.readableRec t=bc/\t<P.types.size)
  (N:DataW.Whole enc P f.params.toList s.vars c W g.toList e u a) (D:∀p∈a,p.block<W.heap.size) (y:s.vars=[])
  (h:∀(b:Nat) (sp:Nat->Bool) (U:Bool),aht enc P o b sp U f.resultTypes.toList (v.resultList f.resultTypes.size) (s.fn H (e++u)).results [])
  (m:(s.fn H (e++u)).args=e) (n:(s.fn H (e++u)).vars=[])
  (G:vd W o)
  (I:∀(j:Nat) (t:TypeId) (r:Value),f.resultTypes[j]?=ar t->(v.resultList f.resultTypes.size)[j]?=ar r->Value.okWide P o .any 0 t r):
  s.post enc P f c i d l W g v o:=by
 let J:=N
 obtain⟨p,q,V,K,rfl,z,O⟩:=N
 obtain⟨rfl,rfl⟩:u=[]/\q=[]:=by rw[y]at K;cases u with|nil=>exact⟨rfl,K⟩|cons _ _=>exact K.elim
 simp only[eT]at D z O
 let A:∀sp:Nat->Bool,(∀b,b<W.heap.size->sp b=bc)->aht enc P o 0 sp bc _ _ e p:=
  λsp X=>G.trodAll S T D (λx L=>X _ (D x L)) V
 let B:∀sp:Nat->Bool,DataW.TrodVars enc P o sp s.vars [] []:=by intro sp;rw[y];rfl
 refine⟨e,[],_,[],p,[],J,h _ _ _,?_,?_,G.frame _,λ_=>⟨I,(s.fn H (e++[])).results++e,[],p,⟨p,[],?_,B _,by simp,?_,?_⟩,λx L _=>by simpa using L⟩⟩
 ·rw[m];exact A _ λb F=>by simpa using F
 ·rw[n];exact B _
 ·exact trodAll_append (A _ λ_ _=>rfl) (h _ _ _)
 ·intro b M F;rw[G.frozen (D _ F)];exact z b M F
 ·intro Y;exact O Y
end Go.Vm
namespace Go.Vm
theorem Kb {d:zb}{n}(h:d.isNaN=bc):d.root n=a6:=by cases d with|nan s t=>rfl|number s m i=>cases h|infinity s=>cases h
theorem N5 x:p3.format.sqrt x=p3.format.sqrt (aG .f64 x):=by
 unfold Ieee.Format.sqrt;rcases p5 .f64 x with h|⟨a,b⟩
 ·rw[h]
 ·rw[Kb a,Kb b]
def apJ (x:Nat):Nat:=match p3.format.sqrt x with|some z=>aG .f64 z|none=>Zm .f64
def Qx :p6:={run:=λa k=>match a with|[.d (.flt .f64) x]=>k (.d (.flt .f64) (apJ x))|_=>a6}
theorem Kc r:Extern.MathSqrt.sqrt #[.float .f64 r]=(match p3.format.sqrt r with|some z=>pure (.float .f64 z)|none=>do pure (.float .f64 (←choose (.nanBits .f64 r r)))):=rfl
theorem Ut a r (b:(p3.format.read r).isNaN=a8):Extern.MathFloor.toIntegral a .down #[.float .f64 r]=pure (.float .f64 (p3.encode ((p3.decode r).integral .down))):=by show (match p3.decode r with| .nan s t=>_|d=>_)=_;cases c:p3.decode r with|nan s t=>exact absurd (by rw[show p3.format.read r=.nan s t from c];rfl:(p3.format.read r).isNaN=bc) (by rw[b];decide)|number s m i=>rfl|infinity s=>rfl
theorem aaa {P f b}(e:P.funcs[f]?=ar b)(g:b.body.isNone=bc)(i:(b.name== "runtime.NumGoroutine")=a8)(j:Dq b=a6)(l:WC b=ar Extern.MathSqrt.sqrt):p6.OK P f Qx:=by
 refine⟨λc k=>by simp only[Qx];split<;>rfl,λc k r h=>?_⟩;simp only[Qx]at h;split at h
 ·refine⟨_,h,λw x y hp m p q=>?_⟩
  obtain⟨u,rfl,t⟩:=zO p q;obtain⟨a,rfl,v⟩:=pZ t;let n:=N5 a;rw[v]at n;unfold apJ;rw[←n];cases o:p3.format.sqrt a with
  |some z=>
   refine⟨.float .f64 z,w,p8 e g i j l _ w w ?_,rfl,rfl,rfl,rfl,?_⟩
   ·rw[Kc,o];rfl
   ·exact⟨⟨_,rfl,rfl⟩,rfl⟩
  |none=>
   refine⟨.float .f64 ((Question.nanBits .f64 a a).cut (w.tape w.drawn (.nanBits .f64 a a))),{w with drawn:=w.drawn+1},p8 e g i j l _ w _ ?_,rfl,rfl,rfl,rfl,?_⟩
   ·rw[Kc,o];rfl
   ·exact⟨⟨_,rfl,Qk _ _ _ _⟩,rfl⟩
 ·cases h
def ar6 x  :=aG .f64 (p3.encode ((p3.decode x).integral .down))
def GI :p6:={run:=λa k=>match a with|[.d (.flt .f64) x]=>bif (p3.format.read x).isNaN then a6 else k (.d (.flt .f64) (ar6 x))|_=>a6}
theorem Uu {P f a}(j:P.funcs[f]?=ar a)(l:a.body.isNone=bc)(m:(a.name== "runtime.NumGoroutine")=a8)(n:Dq a=a6)(o:WC a=ar (Extern.MathFloor.toIntegral "math.archFloor" .down)):p6.OK P f GI:=by
 refine⟨λb k=>by
  simp only[GI];split
  ·rename_i x;cases (p3.format.read x).isNaN<;>rfl
  ·rfl,λb k r h=>?_⟩
 simp only[GI]at h;split at h
 ·rename_i x
  cases c:(p3.format.read x).isNaN with
  |true=>rw[c]at h;cases h
  |false=>
   rw[c]at h;refine⟨_,h,λw z A hp d p q=>?_⟩;obtain⟨u,rfl,t⟩:=zO p q;obtain⟨e,rfl,g⟩:=pZ t
   have v:e=x:=by
    rcases p5 .f64 e with y|⟨_,i⟩
    ·rw[←g,y]
    ·rw[g,c]at i;cases i
   subst v;refine⟨.float .f64 _,w,p8 j l m n o _ w w ?_,rfl,rfl,rfl,rfl,⟨_,rfl,rfl⟩,rfl⟩;rw[Ut _ _ c];rfl
 ·cases h
end Go.Vm
set_option maxRecDepth 100000
set_option maxHeartbeats 4000000
namespace Go.Proofs.XRT
open Go.Vm Go Go.RowKit Go.Lib Tryz IntKind
noncomputable section
@[match_pattern] abbrev zI:Ty:=.int .i64
@[match_pattern] abbrev zS:Ty:=.slice (.int .i64)
abbrev Uv :List UInt8:=[65,100,100]
abbrev Uw :List UInt8:=[77,97,120]
abbrev Ux :List UInt8:=[68,105,118]
abbrev BM :List UInt8:=[71,108,111,98,97,108,65,118,101,114,97,103,101,80,111,111,108]
abbrev zl5 :List UInt8:=[83,117,98]
abbrev Uy :List UInt8:=[77,117,108]
abbrev zl7 :List UInt8:=[77,105,110]
abbrev zl8 :List UInt8:=[65,110,100]
abbrev zl9 :List UInt8:=[88,111,114]
abbrev tY :List UInt8:=[69,113,117,97,108]
abbrev xk :List UInt8:=[76,101,115,115]
abbrev xm :List UInt8:=[71,114,101,97,116,101,114]
abbrev DV :List UInt8:=[77,97,116,77,117,108]
abbrev nO :List UInt8:=[87,104,101,114,101]
abbrev GJ :List UInt8:=[67,108,105,112]
abbrev m8 :List UInt8:=[67,97,115,116]
abbrev vk :List UInt8:=[82,101,100,117,99,101,83,117,109]
abbrev vl :List UInt8:=[82,101,100,117,99,101,77,97,120]
abbrev Kd :List UInt8:=[82,101,100,117,99,101,77,101,97,110]
abbrev qD :List UInt8:=[65,114,103,77,97,120]
abbrev zg :List UInt8:=[82,101,115,104,97,112,101]
abbrev zh :List UInt8:=[69,120,112,97,110,100]
abbrev zi :List UInt8:=[84,114,97,110,115,112,111,115,101]
abbrev vm :List UInt8:=[67,111,110,99,97,116]
abbrev zj :List UInt8:=[83,108,105,99,101]
abbrev qE :List UInt8:=[71,97,116,104,101,114]
abbrev GK :List UInt8:=[80,97,100]
abbrev zk :List UInt8:=[83,113,117,101,101,122,101]
abbrev zl :List UInt8:=[85,110,115,113,117,101,101,122,101]
abbrev Ke :List UInt8:=[70,108,97,116,116,101,110]
abbrev Kf :List UInt8:=[83,111,102,116,109,97,120]
abbrev BN :List UInt8:=[71,101,109,109]
abbrev jT :List UInt8:=[67,111,110,118]
abbrev lL :List UInt8:=[77,97,120,80,111,111,108]
abbrev qF :List UInt8:=[65,118,101,114,97,103,101,80,111,111,108]
abbrev DW :List UInt8:=[66,97,116,99,104,78,111,114,109,97,108,105,122,97,116,105,111,110]
abbrev oK :List UInt8:=[67,111,110,115,116,97,110,116]
abbrev aij :List UInt8:=[118,97,108,117,101]
abbrev DX :List UInt8:=[78,101,103]
abbrev BO :List UInt8:=[65,98,115]
abbrev aab :List UInt8:=[82,101,108,117]
abbrev aac :List UInt8:=[83,113,114,116]
abbrev aad :List UInt8:=[70,108,111,111,114]
abbrev aae :List UInt8:=[69,120,112]
abbrev aaf :List UInt8:=[83,105,103,109,111,105,100]
abbrev aag :List UInt8:=[84,97,110,104]
abbrev aah :List UInt8:=[73,100,101,110,116,105,116,121]
abbrev aai :List UInt8:=[78,111,116]
abbrev zo :List UInt8:=[115,104,97,112,101]
abbrev jG :List UInt8:=[97,120,105,115]
abbrev GL :List UInt8:=[107,101,101,112,100,105,109,115]
abbrev m9 :List UInt8:=[97,120,101,115]
abbrev BP :List UInt8:=[115,116,97,114,116,115]
abbrev cE :List UInt8:=[112,97,100,115]
abbrev du :List UInt8:=[115,116,114,105,100,101,115]
abbrev dw :List UInt8:=[100,105,108,97,116,105,111,110,115]
abbrev gX :List UInt8:=[107,101,114,110,101,108,95,115,104,97,112,101]
abbrev iM :List UInt8:=[103,114,111,117,112]
abbrev vn :List UInt8:=[116,114,97,110,115,65]
abbrev vo :List UInt8:=[116,114,97,110,115,66]
abbrev Uz :List UInt8:=[112,101,114,109]
@[match_pattern] abbrev Y0:Ty:=.pair (.int .i64) (.pair (.slice (.int .i64)) (.pair (.slice (.int .i64)) .unit))
@[match_pattern] abbrev Y1:Ty:=.pair .str (.pair (.int .i64) (.pair (.int .i64) (.pair (.int .i64) (.pair .str (.pair Y0 (.pair (.slice (.int .i64)) .unit))))))
@[match_pattern] abbrev Y2:Ty:=.pair .str (.pair .str (.pair (.slice .str) (.pair .str (.pair (.slice Y1) .unit))))
@[match_pattern] abbrev Y3:Ty:=.pair .str (.pair (.int .i64) (.pair (.slice (.int .i64)) .unit))
@[match_pattern] abbrev Y4:Ty:=.pair (.int .i64) (.pair (.int .i64) (.pair (.int .i64) (.pair (.int .i64) (.pair (.arr 2 (.int .i64)) (.pair (.arr 2 (.int .i64)) (.pair (.int .i64) (.pair (.int .i64) (.pair (.int .i64) (.pair (.int .i64) .unit)))))))))
@[match_pattern] abbrev Y5:Ty:=.pair (.slice (.int .i64)) (.pair (.slice (.int .i64)) (.pair (.slice (.int .i64)) (.pair (.slice (.int .i64)) (.pair (.arr 2 (.int .i64)) .unit))))
@[match_pattern] abbrev Y6:Ty:=.pair (.int .i64) (.pair (.int .i64) .unit)
@[match_pattern] abbrev Y7:Ty:=.pair Y2 (.pair (.slice Y3) .unit)
@[match_pattern] abbrev Y8:Ty:=.pair (.int .i64) (.pair (.int .i64) (.pair .str .unit))
@[match_pattern] abbrev Y9:Ty:=.pair .str (.pair (.int .i64) (.pair .bool .unit))
@[match_pattern] abbrev Y10:Ty:=.pair (.int .u8) (.pair (.int .u8) .unit)
theorem ty2 :ft prog 2 (.int .i64):=⟨⟨_,_,Tryz.type2,rfl,by decide,rfl,rfl⟩,⟨_,Tryz.underlying2,rfl⟩⟩
theorem ty3 :ft prog 3 (.int .i64):=⟨⟨_,_,Tryz.type3,rfl,by decide,rfl,rfl⟩,⟨_,Tryz.underlying3,rfl⟩⟩
theorem ty9 :ft prog 9 .str:=⟨⟨_,_,Tryz.type9,rfl,by decide,rfl,rfl⟩,⟨_,Tryz.underlying9,rfl⟩⟩
theorem aIg :ft prog 25 Y2:=⟨⟨_,_,Tryz.type25,rfl,by decide,rfl,rfl⟩,⟨_,Tryz.underlying25,rfl⟩⟩
theorem aIh :ft prog 31 (.slice (.int .i64)):=⟨⟨_,_,Tryz.type31,rfl,by decide,rfl,rfl⟩,⟨_,II,rfl⟩⟩
theorem aIi :ft prog 32 (.slice (.int .i64)):=⟨⟨_,_,Tryz.type32,rfl,by decide,rfl,rfl⟩,⟨_,aie,rfl⟩⟩
theorem aIj :ft prog 34 Y0:=⟨⟨_,_,Tryz.type34,rfl,by decide,rfl,rfl⟩,⟨_,Tryz.underlying34,rfl⟩⟩
theorem aIk :ft prog 35 (.int .i64):=⟨⟨_,_,Tryz.type35,rfl,by decide,rfl,rfl⟩,⟨_,Tryz.underlying35,rfl⟩⟩
theorem aIl :ft prog 44 Y1:=⟨⟨_,_,Tryz.type44,rfl,by decide,rfl,rfl⟩,⟨_,Tryz.underlying44,rfl⟩⟩
theorem aIm :ft prog 47 Y3:=⟨⟨_,_,Tryz.type47,rfl,by decide,rfl,rfl⟩,⟨_,Tryz.underlying47,rfl⟩⟩
theorem aIn :ft prog 53 (.arr 2 (.int .i64)):=⟨⟨_,_,Tryz.type53,rfl,by decide,rfl,rfl⟩,⟨_,Tryz.underlying53,rfl⟩⟩
theorem aIo :ft prog 55 Y4:=⟨⟨_,_,Tryz.type55,rfl,by decide,rfl,rfl⟩,⟨_,Tryz.underlying55,rfl⟩⟩
theorem aIp :ft prog 63 Y5:=⟨⟨_,_,Tryz.type63,rfl,by decide,rfl,rfl⟩,⟨_,Tryz.underlying63,rfl⟩⟩
theorem aIq :ft prog 97 Y6:=⟨⟨_,_,Tryz.type97,rfl,by decide,rfl,rfl⟩,⟨_,Tryz.underlying97,rfl⟩⟩
theorem aCo :ft prog 107 (.arr 4 (.int .i64)):=⟨⟨_,_,Tryz.type107,rfl,by decide,rfl,rfl⟩,⟨_,Tryz.underlying107,rfl⟩⟩
theorem aCp :ft prog 137 Y7:=⟨⟨_,_,Tryz.type137,rfl,by decide,rfl,rfl⟩,⟨_,Tryz.underlying137,rfl⟩⟩
theorem aCq :ft prog 174 Y8:=⟨⟨_,_,Tryz.type174,rfl,by decide,rfl,rfl⟩,⟨_,Tryz.underlying174,rfl⟩⟩
theorem aCr :ft prog 209 (.arr 2 (.int .i64)):=⟨⟨_,_,Tryz.type209,rfl,by decide,rfl,rfl⟩,⟨_,Tryz.underlying209,rfl⟩⟩
theorem aCs :ft prog 228 Y9:=⟨⟨_,_,Tryz.type228,rfl,by decide,rfl,rfl⟩,⟨_,Tryz.underlying228,rfl⟩⟩
theorem aCt :ft prog 241 (.arr 10 .str):=⟨⟨_,_,Tryz.type241,rfl,by decide,rfl,rfl⟩,⟨_,Tryz.underlying241,rfl⟩⟩
theorem aCu :ft prog 269 (.int .u64):=⟨⟨_,_,Tryz.type269,rfl,by decide,rfl,rfl⟩,⟨_,Tryz.underlying269,rfl⟩⟩
theorem aCv :ft prog 285 Y10:=⟨⟨_,_,Tryz.type285,rfl,by decide,rfl,rfl⟩,⟨_,Tryz.underlying285,rfl⟩⟩
def tys :List (Nat×Ty):=[(2,(.int .i64)),(3,(.int .i64)),(9,.str),(25,Y2),(31,(.slice (.int .i64))),(32,(.slice (.int .i64))),(34,Y0),(35,(.int .i64)),(44,Y1),(47,Y3),(53,(.arr 2 (.int .i64))),(55,Y4),(63,Y5),(97,Y6),(107,(.arr 4 (.int .i64))),(137,Y7),(174,Y8),(209,(.arr 2 (.int .i64))),(228,Y9),(241,(.arr 10 .str)),(269,(.int .u64)),(285,Y10)]
theorem ar7 :GC prog tys:=⟨ty2,ty3,ty9,aIg,aIh,aIi,aIj,aIk,aIl,aIm,aIn,aIo,aIp,aIq,aCo,aCp,aCq,aCr,aCs,aCt,aCu,aCv,trivial⟩
def ones :List (ao):=[[73,100,101,110,116,105,116,121],[78,101,103],[65,98,115],[78,111,116],[82,101,108,117],[83,113,114,116],[70,108,111,111,114],[69,120,112],[83,105,103,109,111,105,100],[84,97,110,104]]
def gam :List (Nat×AV):=[(1,.ip (.arr 10 .str) ones)]
def e0 :Env:=⟨prog,gam,tys,[],[],a6⟩
theorem hJ :e0.Good:=⟨⟨Qt ar7⟩,Z0 (by decide),(λ_ h=>nomatch h),(λ_ h=>nomatch h),(λ_ h=>nomatch h)⟩
theorem cZ :Tryz.prog.follows .mixedOrders=bc:=rfl
theorem bM {E:Env}(b:E.Good){f:FuncId}{a:Func}{d:Nat}{l:List (Nat×List Nat)}(e:E.P.funcs[f]?=ar a)(g:∀(vs:Array Value) (w:World),(callFunc f vs).run E.P w=.ok (.enter f vs) w)(h:E.P.follows .mixedOrders=bc:=by exact cZ)(i:(match a.body with|some c=>ee a.ntmps c|none=>bc)=bc:=by decide +kernel)(h2:h8 a.ntmps (2 ^ d)=bc:=by rfl):FnE.OK E.P E.gam f (aA E a d l):=kT b h e g i h2
abbrev bq (n:Nat)(g:FnE):Prop:=FnE.OK e0.P e0.gam n g
abbrev bQ (n:Nat)(g:FnE):Prop:=FnE.OK Tryz.prog (Env.gam e0) n g
abbrev bu :=List Y1.den
abbrev cm :=List Y3.den
abbrev ak (l:List AV):Option (aq×LHp):=ar (.ret l,[])
abbrev bF :Option (aq×LHp):=ar (.panic 131 4,[])
def x99 :FnE:=aA e0 f99 6 []
theorem ar8 :bQ 99 x99:=bM hJ func99 call99
def e1 :Env:=e0.add 99 x99
theorem Qy :e1.Good:=Env.Good.add hJ ar8
def x98 :FnE:=aA e1 f98 4 []
theorem ar9 :bQ 98 x98:=bM Qy func98 call98
def e2 :Env:=e1.add 98 x98
theorem GM :e2.Good:=Env.Good.add Qy ar9
def aCw :FnE:=aA e2 f109 3 []
theorem ail :bQ 109 aCw:=bM GM func109 call109
def e3 :Env:=e2.add 109 aCw
theorem Qz :e3.Good:=Env.Good.add GM ail
def aCx :FnE:=aA e3 f156 5 [(2,[0,1,7,8])]
theorem aim :bQ 156 aCx:=bM Qz func156 call156
def e4 :Env:=e3.add 156 aCx
theorem QD :e4.Good:=Env.Good.add Qz aim
def aCy :FnE:=aA e4 f108 4 []
theorem ain :bQ 108 aCy:=bM QD func108 call108
def e5 :Env:=e4.add 108 aCy
theorem QE :e5.Good:=Env.Good.add QD ain
def x60 :FnE:=aA e5 f60 5 [(7,[4,12,13,14])]
theorem aaj :bQ 60 x60:=bM QE func60 call60
def e6 :Env:=e5.add 60 x60
theorem GN :e6.Good:=Env.Good.add QE aaj
def aCz :FnE:=aA e6 f160 4 []
theorem aio :bQ 160 aCz:=bM GN func160 call160
def e7 :Env:=e6.add 160 aCz
theorem QF :e7.Good:=Env.Good.add GN aio
def x49 :FnE:=aA e7 f49 5 [(2,[0,1,7,8])]
theorem asa :bQ 49 x49:=bM QF func49 call49
def e8 :Env:=e7.add 49 x49
theorem QG :e8.Good:=Env.Good.add QF asa
def aCA :FnE:=aA e8 f112 3 []
theorem aip :bQ 112 aCA:=bM QG func112 call112
def e9 :Env:=e8.add 112 aCA
theorem QH :e9.Good:=Env.Good.add QG aip
def x64 :FnE:=aA e9 f64 5 []
theorem asb :bQ 64 x64:=bM QH func64 call64
def e10 :Env:=e9.add 64 x64
theorem Kg :e10.Good:=Env.Good.add QH asb
theorem apK (w:World)(c:Nat):Calls prog 107 #[.slice a6 0 c] w λe f=>e=.returned (.slice a6 0 0)/\f=w:=by
 have q:∀(w:World) (a:Option Addr) (n c b d:Nat),(binOp .eql 31 (.slice a n c) (.slice a6 b d)).run prog w=.ok (.bool a.isNone) w:=λw a n c b d=>P7 w _ _ a n c b d II
 go_enter func107,Tryz.ntmps107
 go_wp2
 go_ret
 exact⟨rfl,rfl⟩
theorem apL (w:World)(a:Addr)(c:Nat):Calls prog 107 #[.slice (ar a) 0 c] w λe g=>(∃b,e=.returned (.slice b 0 0))/\∃o,g=w.alloc o:=by
 have q:∀(w:World) (a:Option Addr) (n c d f:Nat),(binOp .eql 31 (.slice a n c) (.slice a6 d f)).run prog w=.ok (.bool a.isNone) w:=λw a n c d f=>P7 w _ _ a n c d f II
 go_enter func107,Tryz.ntmps107
 go_wp2
 go_ret
 exact⟨⟨_,rfl⟩,⟨_,rfl⟩⟩
def aIs :FnE:=aA e10 f107 4 []
def aCB :FnE:=tV aIs
theorem aiq :bQ 107 aCB:=sy (bM Kg func107 call107) call107 apK apL
def e11 :Env:=e10.add 107 aCB
theorem Kh :e11.Good:=Env.Good.add Kg aiq
theorem aCC (w:World)(c:Nat):Calls prog 40 #[.slice a6 0 c] w λe f=>e=.returned (.slice a6 0 0)/\f=w:=by
 have q:∀(w:World) (a:Option Addr) (n c b d:Nat),(binOp .eql 32 (.slice a n c) (.slice a6 b d)).run prog w=.ok (.bool a.isNone) w:=λw a n c b d=>P7 w _ _ a n c b d aie
 go_enter func40,Tryz.ntmps40
 go_wp2
 go_ret
 exact⟨rfl,rfl⟩
theorem aCD (w:World)(a:Addr)(c:Nat):Calls prog 40 #[.slice (ar a) 0 c] w λe g=>(∃b,e=.returned (.slice b 0 0))/\∃o,g=w.alloc o:=by
 have q:∀(w:World) (a:Option Addr) (n c d f:Nat),(binOp .eql 32 (.slice a n c) (.slice a6 d f)).run prog w=.ok (.bool a.isNone) w:=λw a n c d f=>P7 w _ _ a n c d f aie
 go_enter func40,Tryz.ntmps40
 go_wp2
 go_ret
 exact⟨⟨_,rfl⟩,⟨_,rfl⟩⟩
def b40 :FnE:=aA e11 f40 4 []
def x40 :FnE:=tV b40
theorem asc :bQ 40 x40:=sy (bM Kh func40 call40) call40 aCC aCD
def e12 :Env:=e11.add 40 x40
theorem Ki :e12.Good:=Env.Good.add Kh asc
def aCE :FnE:=aA e12 f257 5 []
theorem air :bQ 257 aCE:=bM Ki func257 call257
def e13 :Env:=e12.add 257 aCE
theorem aak :e13.Good:=Env.Good.add Ki air
def aCF :FnE:=aA e13 f220 6 [(3,[0,3,9,10,11]),(11,[6,25,26,27])]
theorem GO :bQ 220 aCF:=bM aak func220 call220
end
end Go.Proofs.XRT
set_option maxRecDepth 100000
set_option maxHeartbeats 4000000
namespace Go.Proofs.XRT
open Go.Vm Go Tryz IntKind
noncomputable section
def N6  :=aU f156
def zc1  :=cL<|cL<|cR<|cL<|cR N6
def lA :Cfg:=⟨19,5,0,[(2,[0,1,7,8])],bc⟩
def QI  :=aU f60
def zc2  :=cL (cL (cR (cL (cR (cR (cR (cR QI)))))))
def lM :Cfg:=⟨27,5,0,[(7,[4,12,13,14])],bc⟩
def N7  :=aU f140
def zc3  :=cL<|cL<|cR<|cL<|cR N7
def lC :Cfg:=⟨19,5,1,[(2,[0,1,7,8])],bc⟩
def aQ (t x:Int)  :=
 bif t==1 then
  bif i64.wrap (.ofNat (q9 64 x&&&ahB 64 2139095040).toNat)==2139095040 then
   bif x.fdiv 4294967296==0 then
    bif !i64.wrap (.ofNat (q9 64 x&&&ahB 64 8388607).toNat) !=0 then bc else x==2143289344
   else a8
  else
   bif x.fdiv 4294967296==0 then bc else a8
 else
  bif t==6 then x==i64.wrap (i32.wrap x)
  else
   bif t==9 then x.fdiv 2==0 else t==7
theorem asd t x:aB e0 f99 6 [] [I t,I x] [] ah=bif t==1 then bif i64.wrap (.ofNat (q9 64 x&&&2139095040#64).toNat)==2139095040 then bif x.fdiv 4294967296==0 then bif !i64.wrap (.ofNat (q9 64 x&&&8388607#64).toNat) !=0 then ak [B bc]else ak [B<|x==2143289344]else ak [B a8]else bif x.fdiv 4294967296==0 then ak [B bc]else ak [B a8]else bif t==6 then ak [B<|x==i64.wrap (i32.wrap x)]else bif t==9 then ak [B<|x.fdiv 2==0]else ak [B<|t==7]:=by kernel_rfl
def xo :List AV->LHp->Option (aq×LHp)
 |[.d zI t,.d zI x],[]=>ar (.ret [B (aQ t x)],[])
 |_,_=>a6
theorem ais t x:aB e0 f99 6 [] [I t,I x] [] ah=ar (.ret [B<|aQ t x],[]):=by rw[asd];unfold aQ;generalize (t==1)=a;generalize (t==6)=b;generalize (t==9)=c;generalize (i64.wrap _==2139095040)=d;generalize (x.fdiv 4294967296==0)=e;generalize !i64.wrap _ !=0=f;cases a<;>cases b<;>cases c<;>cases d<;>cases e<;>cases f<;>rfl
theorem QJ :bq 99 (fnE xo):=by
 refine jF hJ cZ func99 call99 (depth:=6) (live:=[]) (by decide +kernel) rfl λa b p h=>?_
 unfold xo at h;split at h
 ·cases h;exact ais _ _
 ·cases h
theorem ait d:aB e2 f109 3 [] [I d] [] ah=ak [B<|d<1]:=by kernel_rfl
def aal :List AV->LHp->Option (aq×LHp)
 |[.d zI d],[]=>ar (.ret [B (a7 (d<1))],[])
 |_,_=>a6
theorem aam :bq 109 (fnE aal):=by
 refine jF GM cZ func109 call109 (depth:=3) (live:=[]) (by decide +kernel) rfl λa b p h=>?_
 unfold aal at h;split at h
 ·cases h;exact ait _
 ·cases h
def eA  :=e0.add 109<|fnE aal
theorem QK :eA.Good:=hJ.add aam
def stI (a:af)(i:Int):LSt:=⟨az 5 [(0,.d (.slice aa) a),(1,.fn (.func 109) [] []),(7,I<| .ofNat a.length),(8,I i)],[],0⟩
theorem aiu (a:af):aB eA f156 5 [(2,[0,1,7,8])] [.d (.slice aa) a,.fn (.func 109) [] []] [] ah=(hlp eA lA) zc1 _ (stI a 0) (aI 0 (aL eA lA [2] (hlp eA lA) (cR (cR N6)) (aV prog 0 f156.results.toList ah))):=(aW [2] lA rfl).trans (by obtain⟨b,h⟩:=aM eA lA;rw[h];kernel_rfl)
theorem UA a i n {R} (k:AEx->LSt->Option R):lp eA lA zc1 (n+1) (stI a i) k=bif i<.ofNat a.length then (idx a i).bind λb=>bif b<1 then k .ret ⟨az 5 [(0,.d (aa).slice a),(1,.fn (.func 109) [] []),(4,I i),(5,I i),(7,I<| .ofNat a.length),(8,I i),(9,B bc),(10,I i),(11,.fn (.func 109) [] []),(12,.d (aa).slice a),(13,I i),(14,.ip aa b),(15,I b),(16,B bc),(17,I i)],[],0⟩else lp eA lA zc1 n (stI a<|i64.wrap<|i+1) k else k (.exit 0) ⟨az 5 [(0,.d (aa).slice a),(1,.fn (.func 109) [] []),(7,I<| .ofNat a.length),(8,I i),(9,B a8)],[],0⟩:=by kernel_rfl
theorem aan (a:af)(b:a.length<=maxLen):aB eA f156 5 [(2,[0,1,7,8])] [.d (.slice aa) a,.fn (.func 109) [] []] [] ah=ar (.ret [I<|cc (λd=>d<1) a],[]):=by
 rw[aiu];let h:=fF (T:=λn s=>lp eA lA zc1 n s<|aI 0<|aL eA lA [2] (hlp eA lA) (cR<|cR N6)<|aV prog 0 f156.results.toList ah) b λi n=>UA a i n _
 refine h.trans ?_;unfold cc;cases c:a.findIdx? _ with|none=>kernel_rfl|some i=>let ⟨e,_⟩:=fk.1 c;simp only[dv e,aw];show _=_;kernel_rfl
def aao :List AV->LHp->Tq
 |[.d zS a,.fn (.func 109) [] []],[]=>.br (a7 (a.length<=maxLen)) (.leaf (.ret [I (cc (λd=>decide (d<1)) a)]) []) .no
 |_,_=>.no
theorem aap :bq 156 (ay aao):=by
 refine dh QK cZ func156 call156 (depth:=5) (live:=[(2,[0,1,7,8])]) (by decide +kernel) rfl λb c p h=>?_
 unfold aao at h;split at h
 ·let ⟨a,h⟩:=Tq.br_no h;cases h;let a:=bt a;exact aan _ a
 ·cases h
def aaq :List AV->LHp->Tq
 |[.d zS a,.fn (.func 109) [] []],[]=>.br (a7 (a.length<=maxLen)) (.leaf (.ret [B (a7 (cc (λd=>decide (d<1)) a>=0))]) []) .no
 |_,_=>.no
def eB  :=e0.add 156<|ay aao
theorem aiv :eB.Good:=hJ.add aap
theorem aiw (a:af):aB eB f108 4 [] [.d (.slice aa) a,.fn (.func 109) [] []] [] ah=bif a.length<=9223372036854775807 then ak [B<|cc (λd=>decide<|d<1) a>=0]else a6:=by kernel_rfl
theorem aar :bq 108 (ay aaq):=by
 refine dh aiv cZ func108 call108 (depth:=4) (live:=[]) (by decide +kernel) rfl λb c p h=>?_
 unfold aaq at h;split at h
 ·let ⟨a,h⟩:=Tq.br_no h;cases h;let a:=bt a;exact(aiw _).trans<|by rw[aF<|show _<=9223372036854775807 from a]<;>rfl
 ·cases h
def eC  :=e0.add 108<|ay aaq
theorem aix :eC.Good:=hJ.add aar
def stC (a:af)(n i:Int):LSt:=⟨az 5 [(4,I n),(12,.d (.slice aa) a),(13,I<| .ofNat a.length),(14,I i)],[],0⟩
def KC  :=aI 0<|aL eC lM [7] (hlp eC lM) (cR<|cR<|cR<|cR<|cR QI)<|aV prog 0 f60.results.toList ah
theorem aas (a:af):aB eC f60 5 [(7,[4,12,13,14])] [.d (.slice aa) a] [] ah=bif a.length<=9223372036854775807 then bif cc (λd=>decide<|d<1) a>=0 then ak [I 0,I 4]else bif bd a.length>6 then ak [I 0,I 6]else (hlp eC lM) zc2 _ (stC a 1 0) KC else a6:=(aW [7] lM rfl).trans<|by obtain⟨b,h⟩:=aM eC lM;rw[h];kernel_rfl
theorem BQ a v i n {R} (k:AEx->LSt->Option R):lp eC lM zc2 (n+1) (stC a v i) k=bif i<.ofNat a.length then (idx a i).bind λb=>(if v=0 then a6 else ar<|i64.wrap<|P8 65536 v).bind λc=>bif b>c then k .ret ⟨az 5 [(2,I 0),(3,I 6),(4,I v),(6,I b),(12,.d (aa).slice a),(13,I<| .ofNat a.length),(14,I i),(15,B bc),(16,.ip aa b),(17,I b),(18,I b),(19,I v),(20,I c),(21,B bc)],[],0⟩else lp eC lM zc2 n (stC a (i64.wrap<|v*b)<|i64.wrap<|i+1) k else k (.exit 0) ⟨az 5 [(4,I v),(12,.d (aa).slice a),(13,I<| .ofNat a.length),(14,I i),(15,B a8)],[],0⟩:=by kernel_rfl
def cM (a:af)  :=a.foldl (· * ·) 1
theorem iR {a:af}{i x}(h:a[i]?=ar x):cM (a.take<|i+1)=cM (a.take i)*x:=by unfold cM;rw[List.take_add_one,h,List.foldl_append]<;>rfl
theorem sB {a:af}(h:∀x∈a,1<=x):∀i,1<=cM (a.take i):=by
 intro i;induction i with
 |zero=>simp[cM]
 |succ i b=>
  cases c:a[i]? with
  |none=>let  :=List.getElem?_eq_none_iff.1 c;rw[hP<|by omega];rw[hP<|by omega]at b;exact b
  |some x=>
   rw[iR c];let d:=h x<|ik c
   let:=Int.mul_le_mul b d (by omega)<|by omega
   omega
theorem BR {a:af}(h:∀x∈a,1<=x){i}:∀k,cM (a.take i)<=cM (a.take<|i+k):=by
 intro k;induction k with
 |zero=>exact DC _
 |succ k c=>
  cases b:a[i+k]? with
  |none=>let  :=List.getElem?_eq_none_iff.1 b;rw[hP (i:=i+(k+1))<|by omega];rw[hP (i:=i+k)<|by omega]at c;exact c
  |some x=>
   rw[←Nf,iR b];let d:=h x<|ik b
   let e:=sB h<|i+k
   let:=Int.mul_le_mul_of_nonneg_left d (by omega:0<=cM (a.take<|i+k));omega
theorem zX {n v:Int}(b:1<=n):v>P8 65536 n↔n*v>65536:=by
 rw[AB<|by omega];constructor
 ·intro h;let a:=(Int.ediv_lt_iff_lt_mul<|by omega).1 h;rw[Int.mul_comm]at a;exact a
 ·intro h;rw[Int.mul_comm]at h;exact(Int.ediv_lt_iff_lt_mul<|by omega).2 h
theorem ase (a:af) n i x v:KC .ret ⟨az 5 [(2,I 0),(3,I 6),(4,I n),(6,I x),(12,.d (aa).slice a),(13,I<| .ofNat a.length),(14,I i),(15,B bc),(16,.ip aa x),(17,I x),(18,I x),(19,I n),(20,I v),(21,B bc)],[],0⟩=ar (.ret [I 0,I 6],[]):=by kernel_rfl
theorem aiy (a:af) n i:KC (.exit 0) ⟨az 5 [(4,I n),(12,.d (aa).slice a),(13,I<| .ofNat a.length),(14,I i),(15,B a8)],[],0⟩=ar (.ret [I n,I 0],[]):=by kernel_rfl
def xp a  :=decide<|cM a>65536
theorem N8 {a}(hp:∀x∈a,1<=x)(z:a.length<=6):∀(k i m),i+k=a.length->k<m->cM (a.take i)<=65536->
  lp eC lM zc2 m (stC a (cM<|a.take i) i) KC=ar (.ret<|bif xp a then [I 0,I 6]else [I<|cM a,I 0],[]):=by
 intro k
 induction k with
 |zero=>
  intro i m p q j;obtain⟨m,rfl⟩:∃d,m=d+1:=⟨m-1,by omega⟩;rw[BQ,cq<|by rw[show i=a.length by omega];exact ahA _];simp only[al];rw[aiy];let e:a.take i=a:=hP<|by omega
  rw[e]at j⊢;unfold xp;rw[cq<|by omega]<;>rfl
 |succ k t=>
  intro i m p q j;obtain⟨m,rfl⟩:∃d,m=d+1:=⟨m-1,by omega⟩;let f:i<a.length:=by omega
  let c  :=dv f;let b:idx a i=ar a[i]:=by unfold idx;rw[if_pos<|by omega,b9,c]
  let l:=sB hp i;let A:=hp a[i]<|rm f
  let u:0<=P8 65536 (cM<|a.take i):=by rw[AB<|by omega];exact Int.ediv_nonneg (by omega)<|by omega
  let v:P8 65536 (cM<|a.take i)<=65536:=by rw[AB<|by omega];exact Int.ediv_le_self _<|by omega
  rw[BQ,aF<|show (i:Int)<bd a.length from ahr.2 f,b,if_neg<|by omega,aH (by omega)<|by omega];simp only[ai,aw];by_cases o:cM (a.take i)*a[i]>65536
  ·rw[aF<|(zX l).2 o]
   simp only[ai];rw[ase];let g:=BR hp (i:=i+1)<|a.length-(i+1)
   rw[iR c,show i+1+(a.length-(i+1))=a.length by omega,yf]at g;unfold xp;rw[aF<|by omega]<;>rfl
  ·rw[cq<|λh=>o<|(zX l).1 h]
   simp only[al];let y:0<=cM (a.take i)*a[i]:=Int.mul_nonneg (by omega)<|by omega
   let:=t (i+1) m (by omega) (by omega)<|by rw[iR c];omega
   rw[iR c]at this;unfold stC at this;rw[aH (n:=cM (a.take i)*a[i]) (by omega)<|by omega,aH (n:=i+1) (by omega)<|by omega];exact this
def aC (a:af):Int:=bif cc (λd=>decide<|d<1) a>=0 then 4 else bif bd a.length>6 then 6 else bif xp a then 6 else 0
def aN (a:af)  :=bif cc (λd=>decide<|d<1) a>=0 then 0 else bif bd a.length>6 then 0 else bif xp a then 0 else cM a
theorem UB (a:af)(f:a.length<=maxLen):aB eC f60 5 [(7,[4,12,13,14])] [.d (.slice aa) a] [] ah=ar (.ret [I<|aN a,I<|aC a],[]):=by
 rw[aas,aF<|show a.length<=9223372036854775807 from f];unfold aN aC;cases c:a7 (cc _ a>=0)with
 |true=>rfl
 |false=>
  cases g:a7 (bd _>6)with
  |true=>rfl
  |false=>
   let hp:∀x∈a,1<=x:=λx h=>by rw[vh,v7]at c;let:=c x h;simp only[decide_eq_true_eq]at this;omega
   let b:a.length<=6:=by let:=uQ g;let e:bd _=a.length:=rfl;omega
   let key:=N8 hp b a.length 0 fu (by omega) (by unfold fu;omega)<|by simp[cM]
   refine gp key ?_;cases xp a<;>rfl
def GP :List AV->LHp->Tq
 |[.d zS a],[]=>.br (a7 (a.length<=maxLen)) (.leaf (.ret [I (aN a),I (aC a)]) []) .no
 |_,_=>.no
theorem xq :bq 60 (ay GP):=by
 refine dh aix cZ func60 call60 (depth:=5) (live:=[(7,[4,12,13,14])]) (by decide +kernel) rfl λb c p h=>?_
 unfold GP at h;split at h
 ·let ⟨a,h⟩:=Tq.br_no h;cases h;let a:=bt a;exact UB _ a
 ·cases h
def eD  :=e0.add 99<|fnE xo
theorem QL :eD.Good:=hJ.add QJ
theorem aat t:aB eD f96 3 [] [I t] [] ah=ak [B<|aQ t 0]:=by kernel_rfl
def N9 :List AV->LHp->Option (aq×LHp)
 |[.d zI t],[]=>ar (.ret [B (aQ t 0)],[])
 |_,_=>a6
theorem UC :bq 96 (fnE N9):=by
 refine jF QL cZ func96 call96 (depth:=3) (live:=[]) (by decide +kernel) rfl λa b p h=>?_
 unfold N9 at h;split at h
 ·cases h;exact aat _
 ·cases h
def hpT (t:Int)(a b:af):LHp:=[(0,.box<| .d Y0 (t,a,b,()))]
theorem aiz x t a b:aB eD f98 4 [] [I x,.op 0 [] 0] (hpT t a b) ah=ar (.ret [B !aQ t x],[(0,.box<| .d Y0 (t,a,b,bn))]):=by kernel_rfl
def aau :List AV->LHp->Option (aq×LHp)
 |[.d zI x,.op 0 [] 0],[(0,.box (.d Y0 (t,a,b,_)))]=>ar (.ret [B (!aQ t x)],hpT t a b)
 |_,_=>a6
theorem aav :bq 98 (fnE aau):=by
 refine jF QL cZ func98 call98 (depth:=4) (live:=[]) (by decide +kernel) rfl λa b p h=>?_
 unfold aau at h;split at h
 ·cases h;exact aiz _ _ _ _
 ·cases h
def eF  :=e0.add 98<|fnE aau
theorem aiA :eF.Good:=hJ.add aav
def stL (c:af)(t:Int)(a b:af)(i:Int):LSt:=⟨az 5 [(0,.d (.slice aa) c),(1,.fn (.func 98) [] [.op 0 [] 0]),(7,I<| .ofNat c.length),(8,I i)],hpT t a b,2⟩
theorem aiB (c:af) t a b:aB eF f140 5 [(2,[0,1,7,8])] [.d (.slice aa) c,.fn (.func 98) [] [.op 0 [] 0]] (hpT t a b) ah=(hlp eF lC) zc3 _ (stL c t a b 0) (aI 0<|aL eF lC [2] (hlp eF lC) (cR<|cR N7)<|aV prog 1 f140.results.toList ah):=(aW [2] lC rfl).trans<|by obtain⟨e,h⟩:=aM eF lC;rw[h];kernel_rfl
theorem UD c t a b i n {R} (k:AEx->LSt->Option R):lp eF lC zc3 (n+1) (stL c t a b i) k=bif i<.ofNat c.length then (idx c i).bind λe=>bif !aQ t e then k .ret ⟨az 5 [(0,.d (aa).slice c),(1,.fn (.func 98) [] [.op 0 [] 0]),(4,I i),(5,I i),(7,I<| .ofNat c.length),(8,I i),(9,B bc),(10,I i),(11,.fn (.func 98) [] [.op 0 [] 0]),(12,.d (aa).slice c),(13,I i),(14,.ip aa e),(15,I e),(16,B bc),(17,I i)],[(0,.box<| .d Y0 (t,a,b,bn)),(0,.box<| .d Y0 (t,a,b,bn))],3⟩else lp eF lC zc3 n (stL c t a b<|i64.wrap<|i+1) k else k (.exit 0) ⟨az 5 [(0,.d (aa).slice c),(1,.fn (.func 98) [] [.op 0 [] 0]),(7,I<| .ofNat c.length),(8,I i),(9,B a8)],[(0,.box<| .d Y0 (t,a,b,bn))],2⟩:=by kernel_rfl
theorem aaw (c:af) t a b (e:c.length<=maxLen):aB eF f140 5 [(2,[0,1,7,8])] [.d (.slice aa) c,.fn (.func 98) [] [.op 0 [] 0]] (hpT t a b) ah=ar (.ret [I<|cc (λx=>!aQ t x) c],hpT t a b):=by
 rw[aiB];let h:=fF (T:=λn s=>lp eF lC zc3 n s<|aI 0<|aL eF lC [2] (hlp eF lC) (cR<|cR N7)<|aV prog 1 f140.results.toList ah) e λi n=>UD c t a b i n _
 refine h.trans ?_;unfold cc;cases f:c.findIdx? _ with|none=>kernel_rfl|some i=>let ⟨g,_⟩:=fk.1 f;simp only[dv g,aw];show _=_;kernel_rfl
def aax :List AV->LHp->Tq
 |[.d zS c,.fn (.func 98) [] [.op 0 [] 0]],[(0,.box (.d Y0 (t,a,b,_)))]=>.br (a7 (c.length<=maxLen)) (.leaf (.ret [I (cc (λx=>!aQ t x) c)]) (hpT t a b)) .no
 |_,_=>.no
theorem aay :bq 140 (ay aax):=by
 refine dh aiA cZ func140 call140 (depth:=5) (live:=[(2,[0,1,7,8])]) (by decide +kernel) rfl λb c p h=>?_
 unfold aax at h;split at h
 ·let ⟨a,h⟩:=Tq.br_no h;cases h;let a:=bt a;exact aaw _ _ _ _ a
 ·cases h
def eG  :=e0.add 140<|ay aax
theorem aiC :eG.Good:=hJ.add aay
theorem aiD (c:af) t a b:aB eG f97 4 [] [.d (.slice aa) c,.fn (.func 98) [] [.op 0 [] 0]] (hpT t a b) ah=bif c.length<=9223372036854775807 then ar (.ret [B<|cc (λx=>!aQ t x) c>=0],[(0,.box<| .d Y0 (t,a,b,bn))])else a6:=by kernel_rfl
def aaz :List AV->LHp->Tq
 |[.d zS c,.fn (.func 98) [] [.op 0 [] 0]],[(0,.box (.d Y0 (t,a,b,_)))]=>.br (a7 (c.length<=maxLen)) (.leaf (.ret [B (c.any λx=>!aQ t x)]) (hpT t a b)) .no
 |_,_=>.no
theorem aaA :bq 97 (ay aaz):=by
 refine dh aiC cZ func97 call97 (depth:=4) (live:=[]) (by decide +kernel) rfl λb c p h=>?_
 unfold aaz at h;split at h
 ·let ⟨a,h⟩:=Tq.br_no h;cases h;let a:=bt a;exact(aiD _ _ _ _).trans<|by rw[aF<|show _<=9223372036854775807 from a,vh]<;>rfl
 ·cases h
def eH  :=((e0.add 96<|fnE N9).add 60<|ay GP).add 97<|ay aaz
theorem aiE :eH.Good:=((hJ.add UC).add xq).add aaA
theorem asf (t:Int)(a b:af):aB eH f57 5 [] [.d Y0 (t,a,b,())] [] ah=bif !aQ t 0 then ak [I 5]else bif a.length<=9223372036854775807 then bif aC a !=0 then ak [I<|aC a]else bif .ofNat b.length !=aN a then ak [I 4]else bif b.length<=9223372036854775807 then bif b.any λx=>!aQ t x then ak [I 4]else ak [I 0]else a6 else a6:=by kernel_rfl
def gz t (a b:af)  :=bif !aQ t 0 then 5 else bif aC a !=0 then aC a else bif .ofNat b.length !=aN a then 4 else bif b.any λx=>!aQ t x then 4 else 0
def aCH :List AV->LHp->Tq
 |[.d Y0 (t,a,b,_)],[]=>.br (a7 (a.length<=maxLen/\b.length<=maxLen)) (.leaf (.ret [I (gz t a b)]) []) .no
 |_,_=>.no
theorem aiF (t:Int)(a b:af)(h:a.length<=maxLen/\b.length<=maxLen):aB eH f57 5 [] [.d Y0 (t,a,b,())] [] ah=ar (.ret [I<|gz t a b],[]):=by rw[asf,aF<|show a.length<=9223372036854775807 from h.1,aF<|show b.length<=9223372036854775807 from h.2];unfold gz;cases !aQ t 0<;>cases aC a !=0<;>cases .ofNat _ !=aN a<;>cases b.any _<;>rfl
theorem QM :bq 57 (ay aCH):=by
 refine dh aiE cZ func57 call57 (depth:=5) (live:=[]) (by decide +kernel) rfl λb c p h=>?_
 unfold aCH at h;split at h
 ·let ⟨a,h⟩:=Tq.br_no h;cases h;let a:=bt a;exact aiF _ _ _ a
 ·cases h
def GQ  :=aU f156
def zc4  :=cL<|cL<|cR<|cL<|cR GQ
def jC :Cfg:=⟨19,5,1,[(2,[0,1,7,8])],bc⟩
def aaB  :=aU f60
def zc5  :=cL (cL (cR (cL (cR (cR (cR (cR aaB)))))))
def n8 :Cfg:=⟨27,5,1,[(7,[4,12,13,14])],bc⟩
theorem aCI {b R:Type}{a:List b}{i}{f:b->Option R}:((idx a i).bind λ_=>(a[i.toNat]?).bind f)=(idx a i).bind f:=by
 unfold idx;split
 ·cases a[i.toNat]?<;>rfl
 ·rfl
def IQ (z:Bool)(a:af):LHp:=[(0,.arr 3 aa 0 z a)]
def aaC (z:Bool)(a:af)(i:Int):LSt:=⟨az 5 [(0,.os 0 0),(1,.fn (.func 109) [] []),(7,I<| .ofNat a.length),(8,I i)],IQ z a,2⟩
theorem aiG z a:aB eA f156 5 [(2,[0,1,7,8])] [.os 0 0,.fn (.func 109) [] []] (IQ z a) ah=(hlp eA jC) zc4 _ (aaC z a 0) (aI 0<|aL eA jC [2] (hlp eA jC) (cR<|cR GQ)<|aV prog 1 f156.results.toList ah):=(aW [2] jC rfl).trans<|by obtain⟨b,h⟩:=aM eA jC;rw[h];kernel_rfl
theorem UE z a i n {R} (k:AEx->LSt->Option R):lp eA jC zc4 (n+1) (aaC z a i) k=bif i<.ofNat a.length then (idx a i).bind λc=>(a[i.toNat]?).bind λb=>bif b<1 then k .ret ⟨az 5 [(0,.os 0 0),(1,.fn (.func 109) [] []),(4,I i),(5,I i),(7,I<| .ofNat a.length),(8,I i),(9,B bc),(10,I i),(11,.fn (.func 109) [] []),(12,.os 0 0),(13,I i),(14,.oe 0 0 i.toNat),(15,I b),(16,B bc),(17,I i)],[(0,.arr 3 aa 0 z a)],2⟩else lp eA jC zc4 n (aaC z a<|i64.wrap<|i+1) k else k (.exit 0) ⟨az 5 [(0,.os 0 0),(1,.fn (.func 109) [] []),(7,I<| .ofNat a.length),(8,I i),(9,B a8)],[(0,.arr 3 aa 0 z a)],2⟩:=by kernel_rfl
theorem aaD z a (c:a.length<=maxLen):aB eA f156 5 [(2,[0,1,7,8])] [.os 0 0,.fn (.func 109) [] []] (IQ z a) ah=ar (.ret [I<|cc (λd=>d<1) a],IQ z a):=by
 rw[aiG];let b:=λi n=>UE z a i n<|aI 0<|aL eA jC [2] (hlp eA jC) (cR<|cR GQ)<|aV prog 1 f156.results.toList ah
 simp only[aCI]at b;let h:=fF (T:=λn s=>lp eA jC zc4 n s _) c b;refine h.trans ?_;unfold cc;cases e:a.findIdx? _ with|none=>kernel_rfl|some i=>let ⟨f,_⟩:=fk.1 e;simp only[dv f,aw];show _=_;kernel_rfl
def aaE :List AV->LHp->Tq
 |[.os 0 0,.fn (.func 109) [] []],[(0,.arr 3 zI 0 z a)]=>.br (a7 (a.length<=maxLen)) (.leaf (.ret [I (cc (λd=>decide (d<1)) a)]) (IQ z a)) .no
 |_,_=>.no
theorem aaF :bq 156 (ay aaE):=by
 refine dh QK cZ func156 call156 (depth:=5) (live:=[(2,[0,1,7,8])]) (by decide +kernel) rfl λb c p h=>?_
 unfold aaE at h;split at h
 ·let ⟨a,h⟩:=Tq.br_no h;cases h;let a:=bt a;exact aaD _ _ a
 ·cases h
def eBo  :=e0.add 156<|ay aaE
theorem aaG :eBo.Good:=hJ.add aaF
theorem aiH z a:aB eBo f108 4 [] [.os 0 0,.fn (.func 109) [] []] (IQ z a) ah=bif a.length<=9223372036854775807 then ar (.ret [B<|cc (λd=>decide<|d<1) a>=0],[(0,.arr 3 aa 0 z a)])else a6:=by kernel_rfl
def aaH :List AV->LHp->Tq
 |[.os 0 0,.fn (.func 109) [] []],[(0,.arr 3 zI 0 z a)]=>.br (a7 (a.length<=maxLen)) (.leaf (.ret [B (a7 (cc (λd=>decide (d<1)) a>=0))]) (IQ z a)) .no
 |_,_=>.no
theorem aaI :bq 108 (ay aaH):=by
 refine dh aaG cZ func108 call108 (depth:=4) (live:=[]) (by decide +kernel) rfl λb c p h=>?_
 unfold aaH at h;split at h
 ·let ⟨a,h⟩:=Tq.br_no h;cases h;let a:=bt a;exact(aiH _ _).trans<|by rw[aF<|show _<=9223372036854775807 from a]<;>rfl
 ·cases h
def eCo  :=e0.add 108<|ay aaH
theorem aaJ :eCo.Good:=hJ.add aaI
def UF (z:Bool)(a:af)(n i:Int):LSt:=⟨az 5 [(4,I n),(12,.os 0 0),(13,I<| .ofNat a.length),(14,I i)],IQ z a,2⟩
def KCo  :=aI 0<|aL eCo n8 [7] (hlp eCo n8) (cR<|cR<|cR<|cR<|cR aaB)<|aV prog 1 f60.results.toList ah
theorem aiI z a:aB eCo f60 5 [(7,[4,12,13,14])] [.os 0 0] (IQ z a) ah=bif a.length<=9223372036854775807 then bif cc (λd=>decide<|d<1) a>=0 then ar (.ret [I 0,I 4],[(0,.arr 3 aa 0 z a)])else bif bd a.length>6 then ar (.ret [I 0,I 6],[(0,.arr 3 aa 0 z a)])else (hlp eCo n8) zc5 _ (UF z a 1 0) KCo else a6:=(aW [7] n8 rfl).trans<|by obtain⟨b,h⟩:=aM eCo n8;rw[h];kernel_rfl
theorem EU z a v i n {R} (k:AEx->LSt->Option R):lp eCo n8 zc5 (n+1) (UF z a v i) k=bif i<.ofNat a.length then (idx a i).bind λd=>(a[i.toNat]?).bind λb=>(if v=0 then a6 else ar<|i64.wrap<|P8 65536 v).bind λc=>bif b>c then k .ret ⟨az 5 [(2,I 0),(3,I 6),(4,I v),(6,I b),(12,.os 0 0),(13,I<| .ofNat a.length),(14,I i),(15,B bc),(16,.oe 0 0 i.toNat),(17,I b),(18,I b),(19,I v),(20,I c),(21,B bc)],[(0,.arr 3 aa 0 z a)],2⟩else lp eCo n8 zc5 n (UF z a (i64.wrap<|v*b)<|i64.wrap<|i+1) k else k (.exit 0) ⟨az 5 [(4,I v),(12,.os 0 0),(13,I<| .ofNat a.length),(14,I i),(15,B a8)],[(0,.arr 3 aa 0 z a)],2⟩:=by kernel_rfl
theorem aiJ z a n i x v j:KCo .ret ⟨az 5 [(2,I 0),(3,I 6),(4,I n),(6,I x),(12,.os 0 0),(13,I<| .ofNat a.length),(14,I i),(15,B bc),(16,.oe 0 0 j),(17,I x),(18,I x),(19,I n),(20,I v),(21,B bc)],IQ z a,2⟩=ar (.ret [I 0,I 6],IQ z a):=by kernel_rfl
theorem aaK z a n i:KCo (.exit 0) ⟨az 5 [(4,I n),(12,.os 0 0),(13,I<| .ofNat a.length),(14,I i),(15,B a8)],IQ z a,2⟩=ar (.ret [I n,I 0],IQ z a):=by kernel_rfl
theorem UG {z a}(hp:∀x∈a,1<=x)(A:a.length<=6):∀(k i m),i+k=a.length->k<m->cM (a.take i)<=65536->
  lp eCo n8 zc5 m (UF z a (cM<|a.take i) i) KCo=ar (.ret<|bif xp a then [I 0,I 6]else [I<|cM a,I 0],IQ z a):=by
 intro k
 induction k with
 |zero=>
  intro i m p q j;obtain⟨m,rfl⟩:∃d,m=d+1:=⟨m-1,by omega⟩;rw[EU,cq<|by rw[show i=a.length by omega];exact ahA _];simp only[al];let e:a.take i=a:=hP<|by omega
  rw[e]at j⊢;refine(aaK z a _ _).trans ?_;unfold xp;rw[cq<|by omega]<;>rfl
 |succ k t=>
  intro i m p q j;obtain⟨m,rfl⟩:∃d,m=d+1:=⟨m-1,by omega⟩;let f:i<a.length:=by omega
  let b  :=dv f;let c:idx a i=ar a[i]:=by unfold idx;rw[if_pos<|by omega,b9,b]
  let l:=sB hp i;let B:=hp a[i]<|rm f
  let u:0<=P8 65536 (cM<|a.take i):=by rw[AB<|by omega];exact Int.ediv_nonneg (by omega)<|by omega
  let v:P8 65536 (cM<|a.take i)<=65536:=by rw[AB<|by omega];exact Int.ediv_le_self _<|by omega
  rw[EU,aF<|show (i:Int)<bd a.length from ahr.2 f,c,b9,b];simp only[ai,aw];rw[if_neg<|by omega,aH (by omega)<|by omega];simp only[aw];by_cases o:cM (a.take i)*a[i]>65536
  ·rw[aF<|(zX l).2 o]
   simp only[ai];refine(aiJ z a _ _ _ _ _).trans ?_;let g:=BR hp (i:=i+1)<|a.length-(i+1)
   rw[iR b,show i+1+(a.length-(i+1))=a.length by omega,yf]at g;unfold xp;rw[aF<|by omega]<;>rfl
  ·rw[cq<|λh=>o<|(zX l).1 h]
   simp only[al];let y:0<=cM (a.take i)*a[i]:=Int.mul_nonneg (by omega)<|by omega
   let:=t (i+1) m (by omega) (by omega)<|by rw[iR b];omega
   rw[iR b]at this;unfold UF at this;rw[aH (n:=cM (a.take i)*a[i]) (by omega)<|by omega,aH (n:=i+1) (by omega)<|by omega];exact this
theorem aaL z a (d:a.length<=maxLen):aB eCo f60 5 [(7,[4,12,13,14])] [.os 0 0] (IQ z a) ah=ar (.ret [I<|aN a,I<|aC a],IQ z a):=by
 rw[aiI,aF<|show a.length<=9223372036854775807 from d];unfold aN aC;cases c:a7 (cc _ a>=0)with
 |true=>rfl
 |false=>
  cases f:a7 (bd _>6)with
  |true=>rfl
  |false=>
   simp only[ai,al];let hp:∀x∈a,1<=x:=λx g=>by rw[vh,v7]at c;let:=c x g;simp only[decide_eq_true_eq]at this;omega
   let b:a.length<=6:=by let:=uQ f;let e:bd _=a.length:=rfl;omega
   let key:=UG (z:=z) hp b a.length 0 fu (by omega) (by unfold fu;omega)<|by simp[cM]
   refine gp key ?_;cases xp a<;>rfl
def aaM :List AV->LHp->Tq
 |[.os 0 0],[(0,.arr 3 zI 0 z a)]=>.br (a7 (a.length<=maxLen)) (.leaf (.ret [I (aN a),I (aC a)]) (IQ z a)) .no
 |_,_=>.no
theorem aaN :bq 60 (ay aaM):=by
 refine dh aaJ cZ func60 call60 (depth:=5) (live:=[(7,[4,12,13,14])]) (by decide +kernel) rfl λb c p h=>?_
 unfold aaM at h;split at h
 ·let ⟨a,h⟩:=Tq.br_no h;cases h;let a:=bt a;exact aaL _ _ a
 ·cases h
theorem aiK  :aB e5 f60 5 [(7,[4,12,13,14])] [.emp] [] ah=ak [I 1,I 0]:=by kernel_rfl
def aaO :List AV->LHp->Tq
 |[.emp],[]=>.leaf (.ret [I 1,I 0]) []
 |_,_=>.no
theorem aaP :bq 60 (ay aaO):=by
 let c  :=aaj;refine aY λb d e f a=>?_
 unfold aaO at a;split at a
 ·cases a;exact c.okC aiK
 ·cases a
def aaQ a h  :=orT (GP a h)<|orT (aaM a h)<|aaO a h
theorem UH :bq 60 (ay aaQ):=lK xq (lK aaN aaP)
def ie (b:ao)(c:Int)(a:(Y1).den)  :=a.1==b&&a.2.1==c
def hpA (z:Bool)(c:bu)(a:Int)(b:ao):LHp:=[(0,.box<|I a),(1,.box<| .d .str b),(2,.arr 44 _ 0 z c)]
theorem aiL a b (c:ao):aB e6 f160 4 [] [.d Y1 a,.op 1 [] 0,.op 0 [] 0] [(0,.box<|I b),(1,.box<| .d .str c)] ah=bif a.1==c then ar (.ret [B<|a.2.1==b],[(0,.box<|I b),(1,.box<| .d .str c)])else ar (.ret [B a8],[(0,.box<|I b),(1,.box<| .d .str c)]):=by kernel_rfl
def aaR :List AV->LHp->Option (aq×LHp)
 |[.d Y1 a,.op 1 [] 0,.op 0 [] 0],[(0,.box (.d zI b)),(1,.box (.d .str c))]=>ar (.ret [B (ie c b a)],[(0,.box (I b)),(1,.box (.d .str c))])
 |_,_=>a6
theorem aaS a c (b:ao):aB e6 f160 4 [] [.d _ a,.op 1 [] 0,.op 0 [] 0] [(0,.box<|I c),(1,.box<| .d .str b)] ah=ar (.ret [B<|ie b c a],[(0,.box<|I c),(1,.box<| .d .str b)]):=by rw[aiL];unfold ie;cases a.1==b<;>rfl
theorem aaT :bq 160 (fnE aaR):=by
 refine jF GN cZ func160 call160 (depth:=4) (live:=[]) (by decide +kernel) rfl λa b p h=>?_
 unfold aaR at h;split at h
 ·cases h;exact aaS _ _ _
 ·cases h
noncomputable def eJ  :=e0.add 160<|fnE aaR
theorem aiM :eJ.Good:=hJ.add aaT
def aCK :List AV->LHp->Tq
 |[.os 2 0,.fn (.func 160) [] [.op 1 [] 0,.op 0 [] 0]],[(0,.box (.d zI a)),(1,.box (.d .str b)),(2,.arr 44 Y1 0 z c)]=>.br (a7 (c.length<=maxLen)) (.leaf (.ret [I (cc (ie b a) c)]) (hpA z c a b)) .no
 |_,_=>.no
noncomputable def eK  :=e9.add 49<|ay aCK
theorem BS {b} p (a:List b):idx a (cc p a)=a.find? p:=by unfold cc;cases h:a.findIdx? p with|none=>rw[yd]at h;rw[YT.2<|λx c=>by simp[h x c]]<;>rfl|some i=>let ⟨d,hp,e⟩:=fk.1 h;show idx a i=_;unfold idx;rw[if_pos<|by omega,b9,dv];exact(alI.2 ⟨hp,i,d,rfl,λj f=>by simpa using e j f⟩).symm
def Oa  :=(AV.d .str []).pr<|(I 0).pr<|(I 0).pr<|(I 0).pr<|(AV.d .str []).pr<|((I 0).pr<|b5.pr<|b5.pr<| .d .unit bn).pr<|b5.pr<| .d .unit bn
theorem asg (a b c:af):aB e13 f220 6 [(3,[0,3,9,10,11]),(11,[6,25,26,27])] [.os 0 0] [(0,.arr 31 (.slice aa) 0 a8 [a,b,c])] ah=bif i64.wrap (.ofNat<|0+a.length)<0 then a6 else bif i64.wrap (i64.wrap (.ofNat<|0+a.length)+.ofNat b.length)<0 then a6 else bif i64.wrap (i64.wrap (i64.wrap (.ofNat<|0+a.length)+.ofNat b.length)+.ofNat c.length)<0 then a6 else bif i64.wrap (i64.wrap (i64.wrap (.ofNat<|0+a.length)+.ofNat b.length)+.ofNat c.length)<0 then a6 else bif i64.wrap (i64.wrap (i64.wrap (i64.wrap (.ofNat<|0+a.length)+.ofNat b.length)+.ofNat c.length)-0)>0 then bif 0<i64.wrap (i64.wrap (i64.wrap (i64.wrap (.ofNat<|0+a.length)+.ofNat b.length)+.ofNat c.length)-0)&&i64.wrap (i64.wrap (i64.wrap (i64.wrap (.ofNat<|0+a.length)+.ofNat b.length)+.ofNat c.length)-0)<=4294967296 then (app [] a).bind λd=>(app d b).bind λe=>(app e c).bind λf=>ar (.ret [.os 1 0],[(0,.arr 31 (aa).slice 0 a8 [a,b,c]),(1,.arr 3 aa 0 a8 f)])else a6 else (app [] a).bind λg=>(app g b).bind λd=>(app d c).bind λe=>ar (.ret [.os 1 0],[(0,.arr 31 (aa).slice 0 a8 [a,b,c]),(1,.arr 3 aa 0 a8 e)]):=by kernel_rfl
theorem Ob {c}{a b:List c}(h:a.length+b.length<=lim):app a b=ar (a++b):=by unfold app;rw[if_pos h]
theorem QN (a b c:af)(h:a.length+b.length+c.length<=65536):aB e13 f220 6 [(3,[0,3,9,10,11]),(11,[6,25,26,27])] [.os 0 0] [(0,.arr 31 (.slice aa) 0 a8 [a,b,c])] ah=ar (.ret [.os 1 0],[(0,.arr 31 (.slice aa) 0 a8 [a,b,c]),(1,.arr 3 aa 0 a8<|a++b++c)]):=by
 let e1:i64.wrap (bd<|0+a.length)=a.length:=by rw[hM];exact aH (by simp only[aK];omega)<|by simp only[aK];omega
 let e2:i64.wrap (a.length+bd b.length)=(a.length+b.length:Nat):=by rw[aH (by simp only[aK];omega)<|by simp only[aK];omega]<;>rfl
 let e3:i64.wrap ((a.length+b.length:Nat)+bd c.length)=(a.length+b.length+c.length:Nat):=by rw[aH (by simp only[aK];omega)<|by simp only[aK];omega]<;>rfl
 let e4:i64.wrap ((a.length+b.length+c.length:Nat)-0)=(a.length+b.length+c.length:Nat):=by rw[Int.sub_zero];exact aH (by omega)<|by omega
 rw[asg,e1,e2,e3,e4,cq<|show¬(a.length:Int)<0 by omega,cq<|show¬((a.length+b.length:Nat):Int)<0 by omega,cq<|show¬((a.length+b.length+c.length:Nat):Int)<0 by omega];let e:app [] a=ar a:=by rw[Ob<|by unfold lim;simp;omega]<;>rfl
 let f:app a b=ar (a++b):=Ob<|by unfold lim;omega
 let g:app (a++b) c=ar (a++b++c):=Ob<|by unfold lim;rw[bK];omega
 simp only[al,e,f,g,aw];by_cases d:((a.length+b.length+c.length:Nat):Int)>0
 ·rw[aF d,aF<|show ((a.length+b.length+c.length:Nat):Int)<=4294967296 by omega]<;>rfl
 ·rw[cq d]<;>rfl
def unc :List Int->Option (Int×af)
 |[]=>a6
 |x::l=>ar (x,l)
def ash :List AV->LHp->Tq
 |[.os 0 0],[(0,.arr 31 zS 0 a8 [a,b,c])]=>.opt (unc (a++b++c)) λp=>.br (a7 (a.length+b.length+c.length<=65536)) (.leaf (.ret [.os 1 0]) [(0,.arr 31 (.slice aa) 0 a8 [a,b,c]),(1,.arr 3 aa 0 a8 (p.1::p.2))]) .no
 |_,_=>.no
theorem aiN :bq 220 (ay ash):=by
 let g  :=GO;refine aY λf n o q c=>?_
 unfold ash at c;split at c
 ·let ⟨p,hp,i⟩:=bC c
  let ⟨x,l⟩:=p;let ⟨j,m⟩:=Tq.br_no<|i
  cases m;let e:∀{d:af},unc d=ar (x,l)->d=x::l:=λ{d} h=>by cases d with|nil=>cases h|cons a b=>cases h;rfl
  rw[←e hp];exact g.okC<|QN _ _ _<|bt j
 ·cases c
end
end Go.Proofs.XRT
set_option maxRecDepth 100000
set_option maxHeartbeats 4000000
namespace Go.Proofs.XRT
open Go.Vm Go Go.RowKit Go.Lib Tryz IntKind
noncomputable section
def y7  :=aA e0 f7 5 [(2,[0,3])]
theorem apM :bQ 7 y7:=bM hJ func7 call7
def g1  :=e0.add 7 y7
theorem aiO :g1.Good:=Env.Good.add hJ apM
def g2  :=g1.add 99<|fnE xo
theorem QO :g2.Good:=Env.Good.add aiO QJ
def aCL  :=aA g2 f109 3 []
theorem aiP :bQ 109 aCL:=bM QO func109 call109
def g3  :=g2.add 109 aCL
theorem QP :g3.Good:=Env.Good.add QO aiP
def aCM  :=aA g3 f103 3 []
theorem aiQ :bQ 103 aCM:=bM QP func103 call103
def g4  :=g3.add 103 aCM
theorem QQ :g4.Good:=Env.Good.add QP aiQ
def aCN  :=aA g4 f253 6 []
theorem aiR :bQ 253 aCN:=bM QQ func253 call253
def g5  :=g4.add 253 aCN
theorem QR :g5.Good:=Env.Good.add QQ aiR
def aCO  :=aA g5 f156 5 [(2,[0,1,7,8])]
theorem aiS :bQ 156 aCO:=bM QR func156 call156
def g6  :=g5.add 156 aCO
theorem QS :g6.Good:=Env.Good.add QR aiS
def aCP  :=aA g6 f108 4 []
theorem aiT :bQ 108 aCP:=bM QS func108 call108
def g7  :=g6.add 108 aCP
theorem aiU :g7.Good:=Env.Good.add QS aiT
def g8  :=g7.add 60<|ay aaQ
theorem QT :g8.Good:=Env.Good.add aiU UH
def aCQ  :=aA g8 f100 5 []
theorem aiV :bQ 100 aCQ:=bM QT func100 call100
def g9  :=g8.add 100 aCQ
theorem QU :g9.Good:=Env.Good.add QT aiV
def aCR  :=aA g9 f101 3 []
theorem aiW :bQ 101 aCR:=bM QU func101 call101
def g10  :=g9.add 101 aCR
theorem Kj :g10.Good:=Env.Good.add QU aiW
def aCS  :=aA g10 f160 4 []
theorem aiX :bQ 160 aCS:=bM Kj func160 call160
def g11  :=g10.add 160 aCS
theorem BT :g11.Good:=Env.Good.add Kj aiX
def aCT  :=aA g11 f201 4 []
theorem aiY :bQ 201 aCT:=bM BT func201 call201
def g12  :=g11.add 201 aCT
theorem BU :g12.Good:=Env.Good.add BT aiY
def aCU  :=aA g12 f206 3 []
theorem aiZ :bQ 206 aCU:=bM BU func206 call206
def g13  :=g12.add 206 aCU
theorem vp :g13.Good:=Env.Good.add BU aiZ
def aCV  :=aA g13 f112 3 []
theorem ai0 :bQ 112 aCV:=bM vp func112 call112
def g14  :=g13.add 112 aCV
theorem vq :g14.Good:=Env.Good.add vp ai0
def aCW  :=aA g14 f193 4 [(2,[0,5,6])]
theorem ai1 :bQ 193 aCW:=bM vq func193 call193
def g15  :=g14.add 193 aCW
theorem rA :g15.Good:=Env.Good.add vq ai1
def aCX  :=aA g15 f245 5 []
theorem ai2 :bQ 245 aCX:=bM rA func245 call245
def g16  :=g15.add 245 aCX
theorem BV :g16.Good:=Env.Good.add rA ai2
def aCY  :=aA g16 f198 4 []
theorem ai3 :bQ 198 aCY:=bM BV func198 call198
def g17  :=g16.add 198 aCY
theorem BW :g17.Good:=Env.Good.add BV ai3
def aCZ  :=aA g17 f197 4 []
theorem ai4 :bQ 197 aCZ:=bM BW func197 call197
def g18  :=g17.add 197 aCZ
theorem Kk :g18.Good:=Env.Good.add BW ai4
def aC0  :=aA g18 f291 4 [(2,[2,4])]
theorem ai5 :bQ 291 aC0:=bM Kk func291 call291
def g19  :=g18.add 291 aC0
theorem Kl :g19.Good:=Env.Good.add Kk ai5
def aC1  :=aA g19 f303 7 []
theorem ai6 :bQ 303 aC1:=bM Kl func303 call303
def g20  :=g19.add 303 aC1
theorem Km :g20.Good:=Env.Good.add Kl ai6
def aC2  :=aA g20 f292 5 []
theorem ai7 :bQ 292 aC2:=bM Km func292 call292
def g21  :=g20.add 292 aC2
theorem Kn :g21.Good:=Env.Good.add Km ai7
def aC3  :=aA g21 f275 6 [(6,[0,1,6,7])]
theorem ai8 :bQ 275 aC3:=bM Kn func275 call275
def g22  :=g21.add 275 aC3
theorem aaU :g22.Good:=Env.Good.add Kn ai8
def g23  :=g22.addX 304 p9
theorem Ko :g23.Good:=Env.Good.addX aaU (DS func304 rfl (by decide +kernel) (by kernel_rfl) (by kernel_rfl))
def aC4  :=aA g23 f294 4 []
theorem ai9 :bQ 294 aC4:=bM Ko func294 call294
def g24  :=g23.add 294 aC4
theorem Kp :g24.Good:=Env.Good.add Ko ai9
def aC5  :=aA g24 f296 3 []
theorem aja :bQ 296 aC5:=bM Kp func296 call296
def g25  :=g24.add 296 aC5
theorem Kq :g25.Good:=Env.Good.add Kp aja
def aC6  :=aA g25 f305 6 [(3,[0,4,5]),(8,[4,6,7,8])]
theorem ajb :bQ 305 aC6:=bM Kq func305 call305
def g26  :=g25.add 305 aC6
theorem Kr :g26.Good:=Env.Good.add Kq ajb
def aC7  :=aA g26 f297 7 [(5,[0,1,5,6,7,8,9]),(11,[0,1,5,6,7,8,10])]
theorem ajc :bQ 297 aC7:=bM Kr func297 call297
def g27  :=g26.add 297 aC7
theorem Ks :g27.Good:=Env.Good.add Kr ajc
def aC8  :=aA g27 f278 8 [(15,[0,1,5,6,7,8,9,10])]
theorem ajd :bQ 278 aC8:=bM Ks func278 call278
def g28  :=g27.add 278 aC8
theorem Kt :g28.Good:=Env.Good.add Ks ajd
def aC9  :=aA g28 f277 4 []
theorem QV :bQ 277 aC9:=bM Kt func277 call277
def g29  :=g28.add 277 aC9
theorem aaV :g29.Good:=Env.Good.add Kt QV
def g30  :=g29.addX 293 GD
theorem Ku :g30.Good:=Env.Good.addX aaV (Ul func293 rfl (by decide +kernel) (by kernel_rfl) (by kernel_rfl))
def aDb  :=aA g30 f276 6 [(6,[0,1,5])]
theorem QW :bQ 276 aDb:=bM Ku func276 call276
def g31  :=g30.add 276 aDb
theorem rB :g31.Good:=Env.Good.add Ku QW
def aDc  :=aA g31 f205 3 []
theorem aje :bQ 205 aDc:=bM rB func205 call205
def g32  :=g31.add 205 aDc
theorem pC :g32.Good:=Env.Good.add rB aje
def aDd  :=aA g32 f246 5 []
theorem ajf :bQ 246 aDd:=bM pC func246 call246
def g33  :=g32.add 246 aDd
theorem Kv :g33.Good:=Env.Good.add pC ajf
def aDe  :=aA g33 f202 4 []
theorem QX :bQ 202 aDe:=bM Kv func202 call202
def g34  :=g33.add 202 aDe
theorem Kw :g34.Good:=Env.Good.add Kv QX
def aDf  :=aA g34 f247 5 []
theorem ajg :bQ 247 aDf:=bM Kw func247 call247
def g35  :=g34.add 247 aDf
theorem Kx :g35.Good:=Env.Good.add Kw ajg
def aDg  :=aA g35 f203 4 []
theorem QY :bQ 203 aDg:=bM Kx func203 call203
def g36  :=g35.add 203 aDg
theorem na :g36.Good:=Env.Good.add Kx QY
def aDh  :=aA g36 f157 4 []
theorem ajh :bQ 157 aDh:=bM na func157 call157
def g37  :=g36.add 157 aDh
theorem Ky :g37.Good:=Env.Good.add na ajh
def aDi  :=aA g37 f161 3 []
theorem aji :bQ 161 aDi:=bM Ky func161 call161
def g38  :=g37.add 161 aDi
theorem Kz :g38.Good:=Env.Good.add Ky aji
def aDj  :=aA g38 f165 4 []
theorem ajj :bQ 165 aDj:=bM Kz func165 call165
def g39  :=g38.add 165 aDj
theorem KA :g39.Good:=Env.Good.add Kz ajj
def aDk  :=aA g39 f158 7 []
theorem ajk :bQ 158 aDk:=bM KA func158 call158
def g40  :=g39.add 158 aDk
theorem aaW :g40.Good:=Env.Good.add KA ajk
def g41  :=g40.addX 185<|JV .f32 .u32
theorem KB :g41.Good:=Env.Good.addX aaW (JW (row:=Extern.MathFloatBits.float32bits) (λ_=>rfl) func185 rfl (by decide +kernel) (by kernel_rfl) (by kernel_rfl))
def aDl  :=aA g41 f162 4 []
theorem ajl :bQ 162 aDl:=bM KB func162 call162
def g42  :=g41.add 162 aDl
theorem aaX :g42.Good:=Env.Good.add KB ajl
def g43  :=g42.addX 184<|pA .f32 .u32
theorem KD :g43.Good:=Env.Good.addX aaX (va (row:=Extern.MathFloatBits.float32frombits) (λ_=>rfl) func184 rfl (by decide +kernel) (by kernel_rfl) (by kernel_rfl))
def aDm  :=aA g43 f164 3 []
theorem ajm :bQ 164 aDm:=bM KD func164 call164
def g44  :=g43.add 164 aDm
theorem KE :g44.Good:=Env.Good.add KD ajm
def aDn  :=aA g44 f159 7 []
theorem ajn :bQ 159 aDn:=bM KE func159 call159
def g45  :=g44.add 159 aDn
theorem KF :g45.Good:=Env.Good.add KE ajn
def aDo  :=aA g45 f111 7 []
theorem QZ :bQ 111 aDo:=bM KF func111 call111
def g46  :=g45.add 111 aDo
theorem KG :g46.Good:=Env.Good.add KF QZ
def g47  :=g46.addX 261 Qx
theorem KI :g47.Good:=Env.Good.addX KG (aaa func261 rfl (by decide +kernel) (by kernel_rfl) (by kernel_rfl))
def aDp  :=aA g47 f234 3 []
theorem ajo :bQ 234 aDp:=bM KI func234 call234
def g48  :=g47.add 234 aDp
theorem aaY :g48.Good:=Env.Good.add KI ajo
def g49  :=g48.addX 262 GI
theorem KJ :g49.Good:=Env.Good.addX aaY (Uu func262 rfl (by decide +kernel) (by kernel_rfl) (by kernel_rfl))
def aDq  :=aA g49 f282 3 []
theorem ajp :bQ 282 aDq:=bM KJ func282 call282
def g50  :=g49.add 282 aDq
theorem aaZ :g50.Good:=Env.Good.add KJ ajp
def g51  :=g50.addX 279<|pA .f64 .u64
theorem aa0 :g51.Good:=Env.Good.addX aaZ (va (row:=Extern.MathFloatBits.float64frombits) (λ_=>rfl) func279 rfl (by decide +kernel) (by kernel_rfl) (by kernel_rfl))
def g52  :=g51.addX 306<|JV .f64 .u64
theorem KK :g52.Good:=Env.Good.addX aa0 (JW (row:=Extern.MathFloatBits.float64bits) (λ_=>rfl) func306 rfl (by decide +kernel) (by kernel_rfl) (by kernel_rfl))
def aDr  :=aA g52 f299 3 []
theorem ajq :bQ 299 aDr:=bM KK func299 call299
def g53  :=g52.add 299 aDr
theorem KL :g53.Good:=Env.Good.add KK ajq
def aDs  :=aA g53 f283 4 []
theorem ajr :bQ 283 aDs:=bM KL func283 call283
def g54  :=g53.add 283 aDs
theorem KM :g54.Good:=Env.Good.add KL ajr
def aDt  :=aA g54 f301 4 []
theorem ajs :bQ 301 aDt:=bM KM func301 call301
def g55  :=g54.add 301 aDt
theorem KN :g55.Good:=Env.Good.add KM ajs
def aDu  :=aA g55 f308 5 []
theorem ajt :bQ 308 aDu:=bM KN func308 call308
def g56  :=g55.add 308 aDu
theorem KO :g56.Good:=Env.Good.add KN ajt
def aDv  :=aA g56 f300 3 []
theorem aju :bQ 300 aDv:=bM KO func300 call300
def g57  :=g56.add 300 aDv
theorem KP :g57.Good:=Env.Good.add KO aju
def aDw  :=aA g57 f284 4 []
theorem ajv :bQ 284 aDw:=bM KP func284 call284
def g58  :=g57.add 284 aDw
theorem KQ :g58.Good:=Env.Good.add KP ajv
def aDx  :=aA g58 f263 6 []
theorem ajw :bQ 263 aDx:=bM KQ func263 call263
def g59  :=g58.add 263 aDx
theorem KR :g59.Good:=Env.Good.add KQ ajw
def aDy  :=aA g59 f235 3 []
theorem ajx :bQ 235 aDy:=bM KR func235 call235
def g60  :=g59.add 235 aDy
theorem KS :g60.Good:=Env.Good.add KR ajx
def aDz  :=aA g60 f248 6 [(12,[4,5,6,7])]
theorem ajy :bQ 248 aDz:=bM KS func248 call248
def g61  :=g60.add 248 aDz
theorem KT :g61.Good:=Env.Good.add KS ajy
def aDA  :=aA g61 f249 4 []
theorem ajz :bQ 249 aDA:=bM KT func249 call249
def g62  :=g61.add 249 aDA
theorem KU :g62.Good:=Env.Good.add KT ajz
def aDB  :=aA g62 f250 6 []
theorem ajA :bQ 250 aDB:=bM KU func250 call250
def g63  :=g62.add 250 aDB
theorem KV :g63.Good:=Env.Good.add KU ajA
def aDC  :=aA g63 f207 6 []
theorem ajB :bQ 207 aDC:=bM KV func207 call207
def g64  :=g63.add 207 aDC
theorem KX :g64.Good:=Env.Good.add KV ajB
def aDD  :=aA g64 f146 7 []
theorem Q0 :bQ 146 aDD:=bM KX func146 call146
def g65  :=g64.add 146 aDD
theorem BX :g65.Good:=Env.Good.add KX Q0
def aDE  :=aA g65 f209 4 []
theorem ajC :bQ 209 aDE:=bM BX func209 call209
def DD  :=g65.add 209 aDE
theorem jx :DD.Good:=Env.Good.add BX ajC
def aDF  :=aA DD f107 4 []
def ajD  :=tV aDF
theorem GR :bQ 107 ajD:=sy (bM jx func107 call107) call107 apK apL
def g67  :=DD.add 107 ajD
theorem vt :g67.Good:=Env.Good.add jx GR
def aDG  :=aA g67 f149 5 []
theorem Q1 :bQ 149 aDG:=bM vt func149 call149
def g68  :=g67.add 149 aDG
theorem BY :g68.Good:=Env.Good.add vt Q1
def aIU  :=aA g68 f40 4 []
def y40  :=tV aIU
theorem aa1 :bQ 40 y40:=sy (bM BY func40 call40) call40 aCC aCD
def nP  :=g68.add 40 y40
theorem nc :nP.Good:=Env.Good.add BY aa1
def aDH  :=aA nP f252 5 [(2,[0,1,7,8])]
theorem ajE :bQ 252 aDH:=bM nc func252 call252
def g70  :=nP.add 252 aDH
theorem vu :g70.Good:=Env.Good.add nc ajE
def aDI  :=aA g70 f212 4 []
theorem Q2 :bQ 212 aDI:=bM vu func212 call212
def UI  :=g70.add 212 aDI
theorem ij :UI.Good:=Env.Good.add vu Q2
def aDJ  :=aA UI f254 4 []
theorem ajF :bQ 254 aDJ:=bM ij func254 call254
def Oc  :=UI.add 254 aDJ
theorem pD :Oc.Good:=Env.Good.add ij ajF
def aDK  :=aA Oc f256 4 []
theorem Q3 :bQ 256 aDK:=bM pD func256 call256
def g73  :=Oc.add 256 aDK
theorem BZ :g73.Good:=Env.Good.add pD Q3
def aDL  :=aA g73 f257 5 []
theorem ajG :bQ 257 aDL:=bM BZ func257 call257
def g74  :=g73.add 257 aDL
theorem aa2 :g74.Good:=Env.Good.add BZ ajG
def zp  :=g74.add 220<|vj ash aCF
theorem gq :zp.Good:=Env.Good.add aa2 (Ka aiN GO)
def Od :rq:=⟨100,f100,5,[],5,2,15,[.tmp 4,.tmp 5]⟩
def y86  :=aA zp f86 6 [(7,[0,6,7,22,23])]
theorem aa3 :bQ 86 y86:=bM gq func86 call86
def UJ  :=zp.add 86 y86
theorem vv :UJ.Good:=Env.Good.add gq aa3
def y63  :=aA UJ f63 5 []
theorem aa4 :bQ 63 y63:=bM vv func63 call63
def g77  :=UJ.add 63 y63
theorem KY :g77.Good:=Env.Good.add vv aa4
def g78  :=g77.withRound<|xi g77 []
theorem vw :g78.Good:=Env.Good.withRound KY (xj KY cZ [])
def aDN  :=aA g78 f110 7 [(1,[0,1,2,3,12,13])]
theorem ajH :bQ 110 aDN:=bM vw func110 call110
def g79  :=g78.add 110 aDN
theorem KZ :g79.Good:=Env.Good.add vw ajH
def y62  :=aA g79 f62 4 []
theorem asn :bQ 62 y62:=bM KZ func62 call62
def g80  :=g79.add 62 y62
theorem B0 :g80.Good:=Env.Good.add KZ asn
def aDO  :=aA g80 f163 5 []
theorem ajI :bQ 163 aDO:=bM B0 func163 call163
def g81  :=g80.add 163 aDO
theorem K4 :g81.Good:=Env.Good.add B0 ajI
def aDP  :=aA g81 f113 6 []
theorem ajJ :bQ 113 aDP:=bM K4 func113 call113
def g82  :=g81.add 113 aDP
theorem nd :g82.Good:=Env.Good.add K4 ajJ
def y56  :=aA g82 f56 3 []
theorem aa5 :bQ 56 y56:=bM nd func56 call56
def zY  :=g82.add 56 y56
theorem rC :zY.Good:=Env.Good.add nd aa5
def y33  :=aA zY f33 5 [(3,[0,3,4])]
theorem aa6 :bQ 33 y33:=bM rC func33 call33
def xr  :=zY.add 33 y33
theorem K5 :xr.Good:=Env.Good.add rC aa6
def y30  :=aA xr f30 6 [(2,[0,4]),(10,[0,5,6])]
theorem GS :bQ 30 y30:=bM K5 func30 call30
def g85  :=xr.add 30 y30
theorem K6 :g85.Good:=Env.Good.add K5 GS
def aDQ  :=aA g85 f124 3 []
theorem ajK :bQ 124 aDQ:=bM K6 func124 call124
def GU  :=g85.add 124 aDQ
theorem rD :GU.Good:=Env.Good.add K6 ajK
def y87  :=aA GU f87 6 [(2,[1,2,3,6,8])]
theorem aa7 :bQ 87 y87:=bM rD func87 call87
def MY  :=GU.add 87 y87
theorem vx :MY.Good:=Env.Good.add rD aa7
def aDR  :=aA MY f167 5 [(2,[0,1,5])]
theorem Q4 :bQ 167 aDR:=bM vx func167 call167
def g88  :=MY.add 167 aDR
theorem rE :g88.Good:=Env.Good.add vx Q4
def aDS  :=aA g88 f225 4 []
theorem ajL :bQ 225 aDS:=bM rE func225 call225
def g89  :=g88.add 225 aDS
theorem K7 :g89.Good:=Env.Good.add rE ajL
def aDT  :=aA g89 f226 4 []
theorem ajM :bQ 226 aDT:=bM K7 func226 call226
def g90  :=g89.add 226 aDT
theorem rF :g90.Good:=Env.Good.add K7 ajM
def aDU  :=aA g90 f127 4 []
theorem ajN :bQ 127 aDU:=bM rF func127 call127
def g91  :=g90.add 127 aDU
theorem K8 :g91.Good:=Env.Good.add rF ajN
def aDV  :=aA g91 f180 4 []
theorem ajO :bQ 180 aDV:=bM K8 func180 call180
def g92  :=g91.add 180 aDV
theorem K9 :g92.Good:=Env.Good.add K8 ajO
def aDW  :=aA g92 f125 4 []
theorem ajP :bQ 125 aDW:=bM K9 func125 call125
def g93  :=g92.add 125 aDW
theorem La :g93.Good:=Env.Good.add K9 ajP
def aDX  :=aA g93 f236 7 [(13,[5,6,7,8]),(18,[5,7,10]),(22,[5,7,11])]
theorem ajQ :bQ 236 aDX:=bM La func236 call236
def g94  :=g93.add 236 aDX
theorem Lb :g94.Good:=Env.Good.add La ajQ
def aDY  :=aA g94 f237 4 []
theorem ajR :bQ 237 aDY:=bM Lb func237 call237
def g95  :=g94.add 237 aDY
theorem Lc :g95.Good:=Env.Good.add Lb ajR
def aDZ  :=aA g95 f238 4 []
theorem ajS :bQ 238 aDZ:=bM Lc func238 call238
def g96  :=g95.add 238 aDZ
theorem Ld :g96.Good:=Env.Good.add Lc ajS
def aD0  :=aA g96 f240 4 []
theorem ajT :bQ 240 aD0:=bM Ld func240 call240
def g97  :=g96.add 240 aD0
theorem Lf :g97.Good:=Env.Good.add Ld ajT
def aD1  :=aA g97 f239 5 []
theorem ajU :bQ 239 aD1:=bM Lf func239 call239
def g98  :=g97.add 239 aD1
theorem B2 :g98.Good:=Env.Good.add Lf ajU
def aD2  :=aA g98 f181 7 []
theorem Q5 :bQ 181 aD2:=bM B2 func181 call181
def g99  :=g98.add 181 aD2
theorem B3 :g99.Good:=Env.Good.add B2 Q5
def aD3  :=aA g99 f123 3 []
theorem ajV :bQ 123 aD3:=bM B3 func123 call123
def ajW  :=g99.add 123 aD3
theorem EV :ajW.Good:=Env.Good.add B3 ajV
def aD4  :=aA ajW f182 7 []
theorem Q6 :bQ 182 aD4:=bM EV func182 call182
def ajX  :=ajW.add 182 aD4
theorem EW :ajX.Good:=Env.Good.add EV Q6
def aD5  :=aA ajX f183 7 []
theorem Q7 :bQ 183 aD5:=bM EW func183 call183
def sY  :=ajX.add 183 aD5
theorem sC :sY.Good:=Env.Good.add EW Q7
def aD6  :=aA sY f171 5 [(2,[0,1,5])]
theorem Q8 :bQ 171 aD6:=bM sC func171 call171
def aso  :=sY.add 171 aD6
theorem EX :aso.Good:=Env.Good.add sC Q8
def aD7  :=aA aso f172 4 []
theorem ajY :bQ 172 aD7:=bM EX func172 call172
def B4  :=aso.add 172 aD7
theorem jQ :B4.Good:=Env.Good.add EX ajY
def y52  :=aA B4 f52 5 []
theorem aa8 :bQ 52 y52:=bM jQ func52 call52
def aa9  :=B4.add 52 y52
theorem EY :aa9.Good:=Env.Good.add jQ aa8
def aD8  :=aA aa9 f227 5 []
theorem Q9 :bQ 227 aD8:=bM EY func227 call227
def ajZ  :=aa9.add 227 aD8
theorem xv :ajZ.Good:=Env.Good.add EY Q9
def aD9  :=aA ajZ f174 4 []
theorem aj0 :bQ 174 aD9:=bM xv func174 call174
def lN  :=ajZ.add 174 aD9
theorem sD :lN.Good:=Env.Good.add xv aj0
def aEa  :=aA lN f228 5 [(2,[0,1,5])]
theorem Ra :bQ 228 aEa:=bM sD func228 call228
def qb  :=lN.add 228 aEa
theorem mL :qb.Good:=Env.Good.add sD Ra
def y37  :=aA qb f37 5 [(4,[0,1,5])]
theorem aba :bQ 37 y37:=bM mL func37 call37
def gD  :=qb.add 37 y37
theorem sE :gD.Good:=Env.Good.add mL aba
def aEb  :=aA gD f135 6 [(4,[0,1,5]),(8,[0,1,5,6,7])]
theorem Rb :bQ 135 aEb:=bM sE func135 call135
def DY  :=gD.add 135 aEb
theorem kV :DY.Good:=Env.Good.add sE Rb
def aEc  :=aA DY f137 6 [(4,[8,9,10])]
theorem Rc :bQ 137 aEc:=bM kV func137 call137
def GV  :=DY.add 137 aEc
theorem jR :GV.Good:=Env.Good.add kV Rc
def y29  :=aA GV f29 5 []
theorem asp :bQ 29 y29:=bM jR func29 call29
def dE  :=GV.add 29 y29
theorem xw :dE.Good:=Env.Good.add jR asp
def y70  :=aA dE f70 7 [(3,[1,2,3,4,9,10]),(6,[1,2,3,4,9,10,11])]
theorem abb :bQ 70 y70:=bM xw func70 call70
def Oe  :=dE.add 70 y70
theorem mM :Oe.Good:=Env.Good.add xw abb
def aEd  :=aA Oe f126 6 []
theorem aj1 :bQ 126 aEd:=bM mM func126 call126
def GW  :=Oe.add 126 aEd
theorem jS :GW.Good:=Env.Good.add mM aj1
end
end Go.Proofs.XRT
set_option maxRecDepth 100000
set_option maxHeartbeats 4000000
namespace Go.Proofs.XRT
open Go.Vm Go Tryz IntKind
noncomputable section
noncomputable def GX x y  :=bif (b8.format.read<|fop .add .f32 (aG .f32 (u32.wrap x).toNat)<|aG .f32 (u32.wrap y).toNat).order (b8.format.read<|fop .add .f32 (aG .f32 (u32.wrap x).toNat)<|aG .f32 (u32.wrap y).toNat) !=ar .eq then ak [I 2143289344]else bif lG .f32 (fop .add .f32 (aG .f32 (u32.wrap x).toNat)<|aG .f32 (u32.wrap y).toNat)then a6 else ak [I<|i64.wrap<| .ofNat<|fop .add .f32 (aG .f32 (u32.wrap x).toNat)<|aG .f32 (u32.wrap y).toNat]
theorem asq x y:aB UJ f63 5 [] [.d .str Uv,I x,I y] [] ah=bif !aQ 1 x then ak [I 0]else bif !aQ 1 y then ak [I 0]else bif (b8.format.read<|aG .f32 (u32.wrap x).toNat).order (b8.format.read<|aG .f32 (u32.wrap x).toNat) !=ar .eq then GX x y else GX x y:=by kernel_rfl
theorem asr x y:aB UJ f63 5 [] [.d .str Uw,I x,I y] [] ah=bif !aQ 1 x then ak [I 0]else bif !aQ 1 y then ak [I 0]else bif (b8.format.read<|aG .f32 (u32.wrap x).toNat).order (b8.format.read<|aG .f32 (u32.wrap x).toNat) !=ar .eq then ak [I 2143289344]else bif (b8.format.read<|aG .f32 (u32.wrap y).toNat).order (b8.format.read<|aG .f32 (u32.wrap y).toNat) !=ar .eq then ak [I 2143289344]else bif (b8.format.read<|aG .f32 (u32.wrap x).toNat).order (b8.format.read<|aG .f32 (u32.wrap y).toNat)==ar .eq then ak [I<|i64.wrap<| .ofNat (q9 64 x&&&q9 64 y).toNat]else bif (b8.format.read<|aG .f32 (u32.wrap x).toNat).order (b8.format.read<|aG .f32 (u32.wrap y).toNat)==ar .gt then ak [I x]else ak [I y]:=by kernel_rfl
noncomputable def GY x y  :=bif (b8.format.read<|fop .quo .f32 (aG .f32 (u32.wrap x).toNat)<|aG .f32 (u32.wrap y).toNat).order (b8.format.read<|fop .quo .f32 (aG .f32 (u32.wrap x).toNat)<|aG .f32 (u32.wrap y).toNat) !=ar .eq then ak [I 2143289344]else bif lG .f32 (fop .quo .f32 (aG .f32 (u32.wrap x).toNat)<|aG .f32 (u32.wrap y).toNat)then a6 else ak [I<|i64.wrap<| .ofNat<|fop .quo .f32 (aG .f32 (u32.wrap x).toNat)<|aG .f32 (u32.wrap y).toNat]
theorem ass x y:aB UJ f63 5 [] [.d .str Ux,I x,I y] [] ah=bif !aQ 1 x then ak [I 0]else bif !aQ 1 y then ak [I 0]else bif (b8.format.read<|aG .f32 (u32.wrap x).toNat).order (b8.format.read<|aG .f32 (u32.wrap x).toNat) !=ar .eq then GY x y else GY x y:=by kernel_rfl
def cw x  :=aG .f32 (u32.wrap x).toNat
def UK z  :=bif lG .f32 z then 2143289344 else i64.wrap<| .ofNat z
def dO a x y  :=bif aQ 1 x&&aQ 1 y then UK (fop a .f32 (cw x)<|cw y)else 0
def DE x  :=b8.format.read<|cw x
def oL x y  :=
 bif aQ 1 x&&aQ 1 y then
  bif (DE x).isNaN||(DE y).isNaN then 2143289344
  else bif (DE x).order (DE y)==ar .eq then i64.wrap<| .ofNat (q9 64 x&&&q9 64 y).toNat
  else bif (DE x).order (DE y)==ar .gt then x else y
 else 0
theorem kW (d:zb):(d.order d !=ar .eq)=d.isNaN:=by cases d with|number s m e=>simp[WH,wN,Int.min_self,Std.ReflCmp.compare_self]|infinity s=>cases s<;>simp[WH,wN]|_=>simp[WH,wN]
theorem zZ a x y:(bif (b8.format.read<|fop a .f32 (cw x)<|cw y).order (b8.format.read<|fop a .f32 (cw x)<|cw y) !=ar .eq then ak [I 2143289344]else bif lG .f32 (fop a .f32 (cw x)<|cw y)then a6 else ak [I<|i64.wrap<| .ofNat<|fop a .f32 (cw x)<|cw y])=ar (.ret [I<|UK<|fop a .f32 (cw x)<|cw y],[]):=by rw[kW];unfold UK;show (bif lG .f32 _ then _ else bif lG .f32 _ then _ else _)=_;cases lG .f32 _<;>rfl
theorem aj2 x y:aB UJ f63 5 [] [.d .str Uv,I x,I y] [] ah=ar (.ret [I<|dO .add x y],[]):=by
 rw[asq];let h:=zZ .add x y;unfold dO cw;cases aQ 1 x with
 |false=>rfl
 |true=>
  cases aQ 1 y with|false=>rfl|true=>cases _ !=ar Ordering.eq with|false=>exact h|true=>exact h
theorem aj3 x y:aB UJ f63 5 [] [.d .str Ux,I x,I y] [] ah=ar (.ret [I<|dO .quo x y],[]):=by
 rw[ass];let h:=zZ .quo x y;unfold dO cw;cases aQ 1 x with
 |false=>rfl
 |true=>
  cases aQ 1 y with|false=>rfl|true=>cases (b8.format.read _).order _ !=ar .eq with|false=>exact h|true=>exact h
theorem aj4 x y:aB UJ f63 5 [] [.d .str Uw,I x,I y] [] ah=ar (.ret [I<|oL x y],[]):=by
 rw[asr,kW,kW];unfold oL DE cw;cases aQ 1 x with
 |false=>rfl
 |true=>
  cases aQ 1 y with
  |false=>rfl
  |true=>
   cases (b8.format.read _).isNaN with
   |true=>rfl
   |false=>
    cases (b8.format.read _).isNaN with|true=>rfl|false=>cases (b8.format.read _).order _==ar .eq with|true=>rfl|false=>cases (b8.format.read _).order _==ar .gt<;>rfl
def UL :List AV->LHp->Tq
 |[.d .str a,.d zI x,.d zI y],[]=>
  .br (a7 (a=[65,100,100])) (.leaf (.ret [I (dO .add x y)]) []) (.br (a7 (a=[77,97,120])) (.leaf (.ret [I (oL x y)]) []) (.br (a7 (a=[68,105,118])) (.leaf (.ret [I (dO .quo x y)]) []) .no))
 |_,_=>.no
theorem z6 :bq 63 (ay UL):=by
 let b  :=aa4;refine aY λd h i j a=>?_
 unfold UL at a;split at a
 ·rename_i c x y
  by_cases e:c=[65,100,100]
  ·subst e;cases a;exact b.okC<|aj2 x y
  ·rw[cq e]at a
   by_cases f:c=[77,97,120]
   ·subst f;cases a;exact b.okC<|aj4 x y
   ·rw[cq f]at a
    by_cases g:c=[68,105,118]
    ·subst g;cases a;exact b.okC<|aj3 x y
    ·rw[cq g]at a;cases a
 ·cases a
def vR r  :=if r<8388608 then r else (8388608+r % 8388608)*2 ^ (r/8388608-1)
theorem aj5 r:vR r<vR (r+1):=by
 unfold vR;by_cases a:r+1<8388608
 ·rw[if_pos<|by omega,if_pos a];omega
 ·by_cases b:r<8388608
  ·let:r+1=8388608:=by omega
   rw[if_pos b,if_neg a,this];show r<(8388608+8388608 % 8388608)*2 ^ (8388608/8388608-1);simp;omega
  ·rw[if_neg b,if_neg a]
   let c  :=by omega
   by_cases d:r % 8388608+1<8388608
   ·let e1:(r+1)/8388608=r/8388608:=by omega
    let e2:(r+1) % 8388608=r % 8388608+1:=by omega
    rw[e1,e2];exact Nat.mul_lt_mul_of_pos_right (by omega)<|Nat.pow_pos<|by decide
   ·let e1:(r+1)/8388608-1=r/8388608-1+1:=by omega
    let e2:(r+1) % 8388608=0:=by omega
    rw[e1,e2,Nat.pow_succ];have hp:0<2 ^ (r/8388608-1):=Nat.pow_pos<|by decide
    generalize 2 ^ (r/8388608-1)=P at*;let:(8388608+r % 8388608)*P<8388608*2*P:=Nat.mul_lt_mul_of_pos_right (by omega) hp;let e3:(8388608+0)*(P*2)=8388608*2*P:=by rw[Nat.add_zero,Nat.mul_comm P 2,yk]
    omega
theorem z7 {r s}(h:r<s):vR r<vR s:=by
 induction s with
 |zero=>omega
 |succ s b=>
  let:=aj5 s;by_cases a:r=s
  ·subst a;exact this
  ·omega
theorem aj6 :vR 0=0:=rfl
def qc (a b:Int):Ordering:=if a<b then .lt else if a=b then .eq else .gt
theorem Lg a b:compare a b=qc a b:=rfl
theorem abc {a b c}(h:0<c):qc (a*c) (b*c)=qc a b:=by
 unfold qc;let d:a*c<b*c↔a<b:=Int.mul_lt_mul_right h;let e:a*c=b*c↔a=b:=Int.mul_eq_mul_right_iff<|by omega
 simp only[d,e]
def GZ s (n:Nat)  :=bif s then-(n:Int)else n
theorem UM s m a:Ieee.signed s m a=GZ s (m*2 ^ a):=by unfold Ieee.signed GZ;cases s<;>simp[Nat.shiftLeft_eq]
theorem Re s n c:GZ s (n*c)=GZ s n*c:=by cases s<;>simp[GZ,Int.neg_mul]
theorem UN s t (m n d e:Nat):(Ieee.Datum.number s m<| -149+d).order (.number t n<| -149+e)=ar (qc (GZ s<|m*2 ^ d)<|GZ t<|n*2 ^ e):=by
 unfold WH;simp only[UM,Lg];let a:(-149+d-min (-149+(d:Int)) (-149+e)).toNat=d-min d e:=by omega
 let b:(-149+e-min (-149+(d:Int)) (-149+e)).toNat=e-min d e:=by omega
 rw[a,b];let c:0<((2 ^ min d e:Nat):Int):=by let:0<2 ^ min d e:=Nat.pow_pos (by decide);omega
 rw[←abc c,←Re,←Re,yk,yk,←Nat.pow_add,←Nat.pow_add,(by omega:d-min d e+min d e=d),(by omega:e-min d e+min d e=e)]
def zq x  :=x/2147483648 % 2==1
def dC x  :=x % 2147483648
def tZ x  :=GZ (zq x)<|dC x
theorem abd {x}(h:dC x<8388608):b8.format.read x=.number (zq x) (dC x) (-149+(0:Nat)):=by show (if dC x<8388608 then _ else _)=_;rw[if_pos h]<;>rfl
theorem abe {x}(h:¬dC x<8388608)(a:dC x<2139095040):b8.format.read x=.number (zq x) (8388608+dC x % 8388608) (-149+(dC x/8388608-1:Nat)):=by show (if dC x<8388608 then _ else if dC x<2139095040 then _ else _)=_;rw[if_neg h,if_pos a]<;>rfl
theorem rG {x}(h:dC x=2139095040):b8.format.read x=.infinity (zq x):=by show (if dC x<8388608 then _ else if dC x<2139095040 then _ else if dC x=2139095040 then _ else _)=_;rw[if_neg<|by omega,if_neg<|by omega,if_pos h]<;>rfl
theorem abf {x}(h:2139095040<dC x):(b8.format.read x).isNaN=bc:=by show (if dC x<8388608 then _ else if dC x<2139095040 then _ else if dC x=2139095040 then _ else _:zb).isNaN=bc;rw[if_neg<|by omega,if_neg<|by omega,if_neg<|by omega]<;>rfl
theorem vy {x}(h:dC x<2139095040):∃m d,b8.format.read x=.number (zq x) m (-149+(d:Nat))/\m*2 ^ d=vR (dC x):=by
 by_cases a:dC x<8388608
 ·exact⟨_,0,abd a,by simp[vR,a]⟩
 ·exact⟨_,_,abe a h,by simp[vR,a]⟩
theorem Of {a b c d}(e:a<b↔c<d)(f:a=b↔c=d):qc a b=qc c d:=by unfold qc;simp only[e,f]
theorem Rf {a b}(h:a<b):qc a b=.lt:=by unfold qc;rw[if_pos h]
theorem Rg {a b}(h:b<a):qc a b=.gt:=by unfold qc;rw[if_neg<|by omega,if_neg<|by omega]
theorem abg s r:GZ s r<=r/\ -r<=GZ s r:=by cases s<;>simp[GZ]<;>omega
theorem abh s t {r c}:qc (GZ s<|vR r) (GZ t<|vR c)=qc (GZ s r) (GZ t c):=by
 let d:=aj6
 have key:(vR r<vR c↔r<c)/\(vR r=vR c↔r=c):=by
  rcases Nat.lt_trichotomy r c with h|h|h
  ·let:=z7 h;omega
  ·subst h;omega
  ·let:=z7 h;omega
 have e:vR r=0↔r=0:=by
  rcases Nat.eq_zero_or_pos r with h|h
  ·subst h;omega
  ·let:=z7 h;omega
 have f:vR c=0↔c=0:=by
  rcases Nat.eq_zero_or_pos c with h|h
  ·subst h;omega
  ·let:=z7 h;omega
 let ⟨g1,g2⟩:=key;generalize vR r=a at*;generalize vR c=b at*;cases s<;>cases t<;>simp only[GZ,ai,al]<;>exact Of (by omega)<|by omega
theorem G0 {x y}(f:dC x<=2139095040)(g:dC y<=2139095040):(b8.format.read x).order (b8.format.read y)=ar (qc (tZ x)<|tZ y):=by
 unfold tZ;by_cases b:dC x<2139095040
 ·let ⟨m,d,e1,e2⟩:=vy b
  by_cases a:dC y<2139095040
  ·let ⟨n,e,f1,f2⟩:=vy a;rw[e1,f1,UN,e2,f2,abh]
  ·let a:dC y=2139095040:=by omega
   rw[e1,rG a,a];let c:=abg (zq x)<|dC x
   cases zq y with|false=>rw[Rf<|by show _<((2139095040:Nat):Int);omega]<;>rfl|true=>rw[Rg<|by show-((2139095040:Nat):Int)<_;omega]<;>rfl
 ·let b:dC x=2139095040:=by omega
  by_cases a:dC y<2139095040
  ·let ⟨n,e,f1,f2⟩:=vy a
   rw[f1,rG b,b];let c:=abg (zq y)<|dC y
   cases zq x with|false=>rw[Rg<|by show _<((2139095040:Nat):Int);omega]<;>rfl|true=>rw[Rf<|by show-((2139095040:Nat):Int)<_;omega]<;>rfl
  ·let a:dC y=2139095040:=by omega
   rw[rG b,rG a,b,a];cases zq x<;>cases zq y<;>decide
def good x  :=aQ 1 x=bc/\x≠2143289344
def B5 (x:Int)  :=tZ x.toNat
theorem abi n:n&&&8388607=n % 8388608:=Nat.and_two_pow_sub_one_eq_mod n 23
theorem abj n:n&&&2139095040=n/8388608 % 256*8388608:=by
 let e:2139095040=255<<<23:=by decide
 let a:n/8388608 % 256*8388608=(n>>>23&&&255)<<<23:=by rw[Nat.shiftLeft_eq,Nat.shiftRight_eq_div_pow,show (255:Nat)=2 ^ 8-1 from rfl,Nat.and_two_pow_sub_one_eq_mod]
 rw[a,e];apply Nat.eq_of_testBit_eq;intro i;simp only[Nat.testBit_and,Nat.testBit_shiftLeft,Nat.testBit_shiftRight];by_cases h:23<=i
 ·simp only[h,decide_true,Bool.true_and];rw[(by omega:23+(i-23)=i)]
 ·simp[h]
theorem UO {x:Int}(h:(x.fdiv 4294967296==0)=bc):0<=x/\x<4294967296:=by
 let a  :=by simpa using h
 rw[Int.fdiv_eq_ediv_of_nonneg x<|by decide]at a;omega
theorem B6 (n m:Nat)(h:n<4294967296)(a:m<4294967296):i64.wrap (.ofNat (q9 64 n&&&ahB 64 m).toNat)=n&&&m:=by
 let e:(q9 64 n&&&ahB 64 m).toNat=n&&&m:=by rw[BitVec.toNat_and,BitVec.ofInt_natCast,BitVec.toNat_ofNat,BitVec.toNat_ofNat,Nat.mod_eq_of_lt<|by omega,Nat.mod_eq_of_lt<|by omega]
 rw[e];let:n&&&m<=n:=Nat.and_le_left;exact aH (by simp only[aK];omega)<|by simp only[aK];omega
theorem pE {x}(h:good x):∃n:Nat,x=n/\n<4294967296/\dC n<=2139095040:=by
 let ⟨a,d⟩:=h;let e  :=by unfold aQ at a;cases b:x.fdiv 4294967296==0 with|true=>exact UO b|false=>rw[b]at a;simp at a
 obtain⟨n,rfl⟩:=q8 e.1;refine⟨n,rfl,by omega,?_⟩;rcases TE 2139095040 (dC n)with c|c
 ·unfold dC at c
  unfold aQ at a;rw[B6 n 2139095040 (by omega)<|by decide,B6 n 8388607 (by omega)<|by decide,abi,abj]at a;let e1:n/8388608 % 256=255:=by omega
  rw[e1]at a;let e3:(((n % 8388608:Nat):Int) !=0)=bc:=by simp;omega
  let e4:((n:Int)==2143289344)=a8:=by simpa using d
  rw[e3,e4]at a;cases b:(n:Int).fdiv 4294967296==0<;>rw[b]at a<;>simp at a
 ·exact c
theorem z8 {n}(h:dC n<=2139095040):(b8.format.read n).isNaN=a8:=by
 by_cases a:dC n<2139095040
 ·let ⟨m,d,e,_⟩:=vy a;rw[e]<;>rfl
 ·rw[rG<|by omega]<;>rfl
theorem xy {n}(h:n<4294967296)(a:dC n<=2139095040):cw n=n:=by
 unfold cw
 let e:(u32.wrap n).toNat=n:=by
  let:u32.wrap n=n:=by simp[IntKind.wrap,IntKind.signed,IntKind.bits];omega
  rw[this]<;>rfl
 rw[e];unfold aG lG;rw[z8 a]<;>rfl
theorem aj7 {n m}(d:n<4294967296)(e:m<4294967296)(h:tZ n=tZ m):n=m\/n % 2147483648=0/\m % 2147483648=0:=by
 unfold tZ GZ zq dC at h;let a:n/2147483648 % 2=0\/n/2147483648 % 2=1:=by omega
 let b:m/2147483648 % 2=0\/m/2147483648 % 2=1:=by omega
 rcases a with a|a<;>rcases b with b|b<;>rw[a,b]at h
 ·let c:n % 2147483648=((m % 2147483648:Nat):Int):=h;omega
 ·let c:n % 2147483648= -((m % 2147483648:Nat):Int):=h;omega
 ·let c: -(n % 2147483648)=((m % 2147483648:Nat):Int):=h;omega
 ·let c: -(n % 2147483648)= -((m % 2147483648:Nat):Int):=h;omega
def okN n  :=n<4294967296/\dC n<=2139095040
def gw (x:Int)  :=x=2143289344\/∃n:Nat,x=n/\okN n
theorem aEe {x}(h:aQ 1 x=bc):gw x:=by
 by_cases a:x=2143289344
 ·exact .inl a
 ·let ⟨n,e,b,c⟩:=pE ⟨h,a⟩;exact .inr ⟨n,e,b,c⟩
theorem UP {n}(h:okN n):aQ 1 n=bc:=by
 let ⟨e,a⟩:=h;unfold aQ;rw[B6 n 2139095040 (by omega)<|by decide,B6 n 8388607 (by omega)<|by decide,abi,abj];let b:((n:Int).fdiv 4294967296==0)=bc:=by rw[Int.fdiv_eq_ediv_of_nonneg _<|by decide];simp;omega
 rw[b];unfold dC at a;by_cases c:n/8388608 % 256=255
 ·let d:n % 8388608=0:=by omega
  rw[c,d]<;>rfl
 ·let:(((n/8388608 % 256*8388608:Nat):Int)==2139095040)=a8:=by
   rw[beq_eq_false_iff_ne]
   omega
  rw[this]<;>rfl
theorem abk {x}(h:gw x):aQ 1 x=bc:=by
 rcases h with rfl|⟨n,rfl,h⟩
 ·decide
 ·exact UP h
theorem ast :cw 2143289344=2143289344:=by decide
theorem abl :b8.format.read 2143289344=.nan a8 4194304:=by decide
end
end Go.Proofs.XRT
namespace Go.Vm
variable {R:Type}
inductive Nx (A R:Type) where
 |go (a:A)
 |stop (r:Option R)
def bG {A b:Type}(f:A->b->Nx A R)(fin:A->Option R):List b->A->Option R
 |[],a=>fin a
 |x::xs,a=>match f a x with| .go c=>bG f fin xs c| .stop r=>r
theorem cg {S A o:Type}{T:Nat->S->Option R}{xs}{st:Int->A->S}{f fin}(Inv:Nat->A->Prop)(B:xs.length<=maxLen)
  (h:∀(i:Nat) (a:A) (x:o) (n:Nat),Inv i a->i<xs.length->xs[i]?=ar x->idx xs i=ar x->ahc.wrap (i+1)=(i+1:Nat)->a7 (i<bd xs.length)=bc->
   (∃b,f a x=.go b/\Inv (i+1) b/\T (n+1) (st i a)=T n (st (i+1:Nat) b))\/∃r,f a x=.stop r/\T (n+1) (st i a)=r)
  (p:∀(a:A) (n:Nat),Inv xs.length a->a7 ((xs.length:Nat)<bd xs.length)=a8->T (n+1) (st (xs.length:Nat) a)=fin a) {a} (q:Inv 0 a):T fu (st 0 a)=bG f fin xs a:=by
 let D:maxLen=9223372036854775807:=by decide
 let F:fu=18446744073709551616:=rfl
 let key:∀(r i n:Nat) (a:A),i+r=xs.length->r<n->Inv i a->T n (st i a)=bG f fin (xs.drop i) a:=by
  intro r;induction r with
  |zero=>
   intro i n a t u c;obtain⟨n,rfl⟩:∃d,n=d+1:=⟨n-1,by omega⟩;obtain rfl:i=xs.length:=by omega
   rw[ly (by omega)];exact p a n c (cq (ahA _))
  |succ r v=>
   intro i n a t u c;obtain⟨n,rfl⟩:∃d,n=d+1:=⟨n-1,by omega⟩;let e:i<xs.length:=by omega
   let l  :=dv e;let y:idx xs i=ar xs[i]:=by unfold idx;rw[if_pos (by omega),b9,l]
   let m  :=List.drop_eq_getElem_cons e;rcases h i a xs[i] n c e l y (by rw[aH (by omega) (by omega)];omega) (aF (by simp only[aK];omega))with ⟨b,g,j,z⟩|⟨r',g,j⟩
   ·rw[z,m,bG,g];exact v _ n b (by omega) (by omega) j
   ·rw[j,m,bG,g]
 let:=key xs.length 0 fu a (by omega) (by omega) q
 exact this
theorem fq {S A:Type}{T:Nat->S->Option R}{N}{st:Int->A->S}{f fin}(Inv:Nat->A->Prop)(q:N<=maxLen)
  (h:∀(i:Nat) (a:A) (n:Nat),Inv i a->i<N->ahc.wrap (i+1)=(i+1:Nat)->a7 (i<bd N)=bc->
   (∃g,f a i=.go g/\Inv (i+1) g/\T (n+1) (st i a)=T n (st (i+1:Nat) g))\/∃r,f a i=.stop r/\T (n+1) (st i a)=r)
  (m:∀(a:A) (n:Nat),Inv N a->a7 (N<bd N)=a8->T (n+1) (st N a)=fin a) {a} (o:Inv 0 a):T fu (st 0 a)=bG f fin (hW N) a:=by
 let b:(hW N).length=N:=List.length_range
 refine cg Inv (by omega) (λi a x n d j l _ p c=>?_) (λa n d c=>?_) o
 ·rw[b]at j c
  have e  :=by rw[dv (by omega),List.getElem_range]at l;exact(hY l).symm
  subst e;exact h _ a n d j p c
 ·rw[b]at d c⊢;exact m a n d c
end Go.Vm
namespace Go.Vm
variable {R:Type}
def exQ (E:Env)(h:Cfg)(j:Hl):Code->{R:Type}->LSt->(AEx->LSt->Option R)->Option R
 | .seq a b,_,s,k=>exQ E h j a s λe g=>
  match e with| .normal=>exQ E h j b g k| .exit id=>k (.exit id) g| .ret=>k .ret g| .panic t m=>k (.panic t m) g
 | .cond c a b,_,s,k=>
  (match s.ev E c with| .d .bool v=>bif v then exQ E h j a (j8 c s bc) k else exQ E h j b (j8 c s a8) k|_=>a6)
 | .block id c,_,s,k=>exQ E h j c s λe g=>
  match e with| .normal=>k .normal g| .exit i=>bif dK i id then k .normal g else k (.exit i) g| .ret=>k .ret g| .panic t m=>k (.panic t m) g
 | .rangeFunc f l a b,R,s,k=>j (.rangeFunc f l a b) R s k
 |c,_,s,k=>exC E h c s k
def rfp (E:Env)(a:Cfg):Hl:=λc _ s k=>exC E a c s k
theorem G1 {E:Env}{d:Cfg}:∀(c:Code) {R:Type} (s:LSt) (k:AEx->LSt->Option R),exQ E d (rfp E d) c s k=exC E d c s k:=by
 intro c;induction c with
 |seq a b f g=>intro R s k;simp only[exC,exQ];rw[f];congr 1;funext e h;cases e with|normal=>exact g h k|exit id=>rfl|ret=>rfl|panic t m=>rfl
 |cond c a b f g=>intro R s k;simp only[exC,exQ,f,g]<;>rfl
 |block id c i=>intro R s k;simp only[exC,exQ,i]<;>rfl
 |_=>intro R s k;rfl
def aj8 (E:Env)(c:Cfg)(d:Hl)(b:Code)(k:AEx->LSt->Option R):AEx->LSt->Option R:=λe a=>
 match e with| .normal=>exQ E c d b a k| .exit id=>k (.exit id) a| .ret=>k .ret a| .panic t m=>k (.panic t m) a
def asu (E:Env)(f:Func)(a:Nat)(e:List (Nat×List Nat))(g:Hl)(b:List AV)(d:LHp)(k:aq->LHp->Option R):Option R:=
 match f.body with
 |none=>a6
 |some c=>
  bif AD b.length f.ntmps&&dG d.length d then
   exQ E ⟨f.ntmps,a,d.length,e,bc⟩ g c ⟨az a (number 0 b),d,d.length⟩ (aV E.P d.length f.results.toList k)
  else a6
theorem UQ {E e a b d f}{k:aq->LHp->Option R}:aB E e a b d f k=asu E e a b (rfp E ⟨e.ntmps,a,f.length,b,bc⟩) d f k:=by unfold asu aB;cases e.body with|none=>rfl|some c=>simp only[G1]
def Rh (L:List Nat)(hp:LHp)(c:Nat)(k:E1->Option R)(kp:TypeId->Int->LHp->Option R):aq->LHp->Option R:=λf b=>
 let d:=gH L.length c b;let a:=gY hp L 0++d
 bif a.good&&iG hp d then
  (match nN b a a with
  |some e=>
   (match f with| .ret g=>(match rens a g with|some h=>k ⟨AZ h,[],e,c+b.length⟩|none=>a6)| .panic t n=>kp t n e)
  |none=>a6)
 else a6
def rfK (c:Tr)(a:LHp)(b:Nat)(k:AEx->LSt->Option R):E1->Option R:=λe=>
 match aD (e.wr++a) b with
 |some (.rc (.loop d f g))=>
  (match g with| .ready=>k .normal ⟨c,(b,.rc (.loop d f .over))::(e.wr++a),e.nx⟩| .done .ret=>k .ret ⟨c,(b,.rc (.loop d f .over))::(e.wr++a),e.nx⟩| .done (.exit id)=>k (.exit id) ⟨c,(b,.rc (.loop d f .over))::(e.wr++a),e.nx⟩|_=>a6)
 |_=>a6
def rfP (a:Tr)(b:LHp)(c:Nat)(k:AEx->LSt->Option R):TypeId->Int->LHp->Option R:=λt m d=>k (.panic t m) ⟨a,d++b,c+1⟩
theorem asv {E d a b c e}{k:aq->LHp->Option R} f (h:⟨d.ntmps,a,e.length,b,bc⟩=f):aB E d a b c e k=asu E d a b (rfp E f) c e k:=by subst h;exact UQ
theorem asw E a:∃b,rfp E a=b:=⟨_,rfl⟩
end Go.Vm
namespace Go.Vm
def ua :LHp->Bool
 |[]=>bc
 |(_,.arr _ _ _ _ _)::r=>ua r
 |_::_=>a8
def qG :LHp->LHp
 |[]=>[]
 |(o,.arr T e m _ a)::r=>(o,.arr T e m bc a)::qG r
 |p::r=>p::qG r
def shA (N:Nat):AV->Option AV
 | .d t x=>ar (.d t x)
 | .os i n=>ar (.os (i+N) n)
 |_=>a6
theorem ub :∀{hp} {o} {c},ua hp=bc->aD hp o=ar c->∃T e m z d,c=.arr T e m z d
 |(a,.arr T e m z d)::r,o,c,h,b=>by simp only[aD]at b;cases f:dK a o with|true=>rw[f]at b;cases b;exact⟨T,e,m,z,d,rfl⟩|false=>rw[f]at b;exact ub (hp:=r) h b
 |(_,.box _)::_,_,_,h,_=>by cases h
 |(_,.rc _)::_,_,_,h,_=>by cases h
theorem Lh :∀{hp},ua hp=bc->∀(o),aD (qG hp) o=match aD hp o with|some (.arr T e m _ b)=>ar (.arr T e m bc b)|_=>a6
 |[],_,_=>rfl
 |(a,.arr T e m z b)::r,h,o=>by simp only[qG,aD];cases c:dK a o with|true=>rfl|false=>exact Lh (hp:=r) h o
 |(_,.box _)::_,h,_=>by cases h
 |(_,.rc _)::_,h,_=>by cases h
def abm :Mu:=λ_=>.none
def aEf :Hp:=λ_=>a6
def B7 :Pl->Pl
 | .row b a=>.fz b a
 |p=>p
theorem kX :∀(hp) (o),aD (qG hp) o=match aD hp o with|some (.arr T e m _ b)=>ar (.arr T e m bc b)|x=>x
 |[],_=>rfl
 |(a,.arr T e m z b)::r,o=>by simp only[qG,aD];cases c:dK a o with|true=>rfl|false=>exact kX r o
 |(a,.box v)::r,o=>by simp only[qG,aD];cases c:dK a o with|true=>rfl|false=>exact kX r o
 |(a,.rc v)::r,o=>by simp only[qG,aD];cases c:dK a o with|true=>rfl|false=>exact kX r o
theorem Ri {f g a i}(inv:mX f g a (aD i)):
  Ev f g a (aD i) f (λk=>g k\/∃o,(a o).blk=ar k) (λo=>B7 (a o)) (aD (qG i)):=by
 refine⟨λ_ h=>.inl h,λ_ _=>rfl,λo n d=>?_⟩
 let p:=inv.obj o n d
 cases n with|box v=>let ⟨b,_,T,j,_⟩:=p;exact⟨_,by rw[kX,d],by rw[j];rfl⟩|rc r=>let ⟨b,x,j,_⟩:=p;exact⟨.rc r,by rw[kX,d],by rw[j];rfl,rfl⟩|arr T e m z q=>refine⟨_,by rw[kX,d],m,bc,q,rfl,.inl ⟨rfl,rfl,?_⟩⟩;cases t:a o with|row l c=>exact .inr ⟨l,c,rfl,rfl⟩|none=>exact .inl rfl|«at» l=>exact .inl rfl|nil u=>exact .inl rfl|fz l c=>exact .inl rfl
theorem abn {t u d j}(inv:mX t u d (aD j)):
  ∀k l,aD (qG j) k=ar l->mP t (λk=>u k\/∃o,(d o).blk=ar k) (λo=>B7 (d o)) (aD (qG j)) (B7 (d k)) l:=by
 intro k l f
 let c:=Ri inv
 rw[kX]at f
 cases h:aD j k with
 |none=>rw[h]at f;cases f
 |some n=>
  rw[h]at f;cases n with
  |box v=>
   cases f;let i:=inv.obj k _ h;let a:B7 (d k)=d k:=by let ⟨b,_,T,a,_⟩:=i;rw[a];rfl
   rw[a];exact i.ev c λ_ _=>rfl
  |rc r=>
   cases f;let i:=inv.obj k _ h;let a:B7 (d k)=d k:=by let ⟨b,x,a,_⟩:=i;rw[a];rfl
   rw[a];exact i.ev c λ_ _=>rfl
  |arr T e m z y=>
   cases f;rcases inv.obj k _ h with ⟨A,a,B⟩|⟨_,p,g,cells,a,q,D,F,O,G⟩|⟨_,p,g,I,a,J,K,L,M,N⟩
   ·rw[a];exact .inl ⟨A,rfl,B⟩
   ·rw[a];refine .inr (.inr ⟨rfl,p,g,_,rfl,.inr ⟨k,by rw[a];rfl⟩,D,F,?_,bO.mono (bm.mono c.fim c.fheap e) _ _ G⟩);let:=(iw q).sub 0 (y.length*e.size);simpa using this
   ·rw[a];exact .inr (.inr ⟨rfl,p,g,I,rfl,.inl J,K,L,M,bO.mono (bm.mono c.fim c.fheap e) _ _ N⟩)
theorem Rj {W c d e f g i}(S:gk W d f (aD []) c e g (aD i)):gk W d f (aD []) c (λk=>e k\/∃o,(g o).blk=ar k) abm (aD []):=by
 refine⟨S.os,S.tape,S.output,S.grow,S.old,λb a=>.inl (S.imSub b a),λb a=>?_,λb a=>?_,λ_ _ h=>(by cases h),λ_ _ h=>(by cases h),λ_ _ h=>(by cases h),λ_ _ _ h=>(by cases h),λ_ _=>rfl,λ_ _ h=>by cases h⟩
 ·rcases a with a|⟨o,a⟩
  ·exact S.imNew b a
  ·rcases S.own o b a with h|h
   ·exact .inr (.inl h)
   ·exact .inr (.inr h)
 ·rcases a with a|⟨o,a⟩
  ·exact S.imLt b a
  ·exact(S.inv.sep o b a).2
end Go.Vm
namespace Go.Vm
def G2 (hp:LHp):List AV->List Ty->Option (List AV)
 |[],[]=>ar []
 |a::l,t::b=>(match toD hp a t,G2 hp l b with|some x,ar r=>ar (.d t x::r)|_,_=>a6)
 |_,_=>a6
theorem B8 {w f g hp}(i:∀k j,aD hp k=ar j->mP w f g (aD hp) (g k) j):∀{l} {m} {b} {c},G2 hp l m=ar b->RepFs w f g (aD hp) l c->RepFs w f abm aEf b c
 |[],[],b,c,h,d=>by cases h;exact d
 |[],_::_,b,c,h,d=>by cases h
 |_::_,[],b,c,h,d=>by cases h
 |a::l,t::m,b,c,h,d=>by
  simp only[G2]at h;split at h
  ·rename_i x r o p
   cases h;let ⟨v,q,e,u,y,z⟩:=d;let n:=pg o;refine⟨v,q,e,?_,?_,B8 i p z⟩
   ·exact n.sound i _ u
   ·rw[y];exact n.agg
  ·cases h
theorem Li {hp}:∀{l} {c} {b},G2 hp l c=ar b->b.length=l.length
 |[],[],b,h=>by cases h;rfl
 |[],_::_,b,h=>by cases h
 |_::_,[],b,h=>by cases h
 |a::l,t::c,b,h=>by
  simp only[G2]at h;split at h
  ·rename_i x r e d;cases h;exact congrArg (· +1) (Li d)
  ·cases h
theorem abo {w c d g}(inv:mX w c d (aD g)){l i p e}(n:G2 (qG g) l p=ar i)(j:gP w c d (aD g) (.ret l) e):
  gP w (λk=>c k\/∃o,(d o).blk=ar k) abm aEf (.ret i) e:=by
 have key:=λf (h:RepFs w c d _ l f)=>B8 (abn inv) n (RepFs.ev (Ri inv) _ _ h)
 let q:=Li n
 match l,i,q,j with|[],[],_,j=>exact j|[a],[b],_,⟨v,e1,m,t⟩=>let ⟨y,z,e2,u,x,_⟩:=key [v] ⟨v,[],rfl,m,t,rfl⟩;cases e2;exact⟨v,e1,u,x⟩|_::_::_,_::_::_,_,⟨f,e1,m⟩=>exact⟨f,e1,key f m⟩
def abp {R:Type}(a:List Ty)(k:aq->LHp->Option R)(b:LHp):aq->Option R
 | .ret l=>(match G2 (qG b) l a with|some c=>k (.ret c) []|none=>a6)
 | .panic n m=>k (.panic n m) []
def vz (b:List Ty)(g:FnE):FnE:={run:=λa c k=>match c with
 |[]=>g.run a [] λd e=>abp b k e d
 |_=>a6}
theorem vA {P u f ts g}(q:FnE.OK P u f g):FnE.OK P u f (vz ts g):=by
 refine⟨λa t k=>?_,λa t y F h=>?_⟩
 ·cases t with
  |cons _ _=>rfl
  |nil=>
   simp only[vz];rw[q.eq]
   conv=>rhs;rw[q.eq]
   cases g.run a [] _ with
   |none=>rfl
   |some p=>
    simp only[aw];unfold abp;split
    ·split<;>rfl
    ·rfl
 ·cases t with
  |cons _ _=>cases h
  |nil=>
   let ⟨G,I,d,h⟩:=q.nat _ _ _ _ h;have v:=q.ok _ _ _ _ d;refine⟨v.1,λW z A i b c j o=>?_⟩;refine(v.2 W z A i b c j o).mono ?_
   rintro e J ⟨B,K,L,M,⟨rfl,rfl⟩,S,x⟩
   cases B with
   |panic n m=>cases h;exact⟨_,_,_,_,⟨rfl,rfl⟩,Rj S,x⟩
   |ret l=>
    simp only[abp]at h;split at h
    ·rename_i N D;cases h;exact⟨_,_,_,_,⟨rfl,rfl⟩,Rj S,abo S.inv D x⟩
    ·cases h
abbrev aj9 t g  :=vz [t] g
theorem G3 {P a f t g}(b:FnE.OK P a f g):FnE.OK P a f (aj9 t g):=vA b
def jH (a:List Ty)(r:Option (aq×LHp)):Option (aq×LHp):=match r with|some (b,c)=>abp a ah c b|none=>a6
theorem FnE.OK.okBQ {E g d c P m f}(h:FnE.OK P m f (aA E g d c)) ts {b j l} (e:jH ts (aB E g d c b [] ah)=ar (l,j)):FnH P m f b (aD []) λo q=>o=l/\q=aD j:=by refine(vA (ts:=ts) h).ok b [] l j ?_;simp only[vz];rw[h.eq];let i:jH ts ((aA E g _ c).run b [] λa h=>ar _)=ar _:=e;cases n:(aA E g _ c).run b [] _ with|none=>rw[n]at i;cases i|some p=>rw[n]at i;exact i
theorem Og d c a b:jH d (bif c then a else b)=bif c then jH d a else jH d b:=by cases c<;>rfl
abbrev fv t r  :=jH [t] r
theorem FnE.OK.okO {E d a b P g f}(h:FnE.OK P g f (aA E d a b)) t {c i j} (e:fv t (aB E d a b c [] ah)=ar (j,i)):FnH P g f c (aD []) λl m=>l=j/\m=aD i:=h.okBQ [t] e
theorem Lj t c a b:fv t (bif c then a else b)=bif c then fv t a else fv t b:=Og [t] c a b
end Go.Vm
namespace Go.Vm
def asx :List AV->Bool
 |[]=>bc
 | .d _ _::l=>asx l
 |_::_=>a8
def isD :aq->Bool
 | .ret l=>asx l
 | .panic _ _=>bc
def abq (d:List Ty)(g:FnE)(e:LHp->aq->LHp->Option (aq×LHp)):FnE:={run:=λb c k=>bif ua c&&dG c.length c then (match G2 (qG c) b d with|some a=>g.run a [] (λf h=>match e c f h with|some p=>k p.1 p.2|none=>a6)|none=>a6)else a6}
theorem Rk {P T f U g I}(B:FnE.OK P T f g)
  (J:∀{c:LHp} {K:aq} {D:LHp} {p:aq×LHp} {W t:World} {q L:Nat->Prop} {u M:Mu} {e:Ending},ua c=bc->dG c.length c=bc->I c K D=ar p->(∀b,q b->b<W.heap.size)->mX W q u (aD c)->
   gk W (λk=>q k\/∃o,(u o).blk=ar k) abm (aD []) t L M (aD D)->gP t L M (aD D) K e->∃i F,gk W q u (aD c) t i F (aD p.2)/\gP t i F (aD p.2) p.1 e):FnE.OK P T f (abq U g I):=by
 refine⟨λj c k=>?_,λj c X DB h=>?_⟩
 ·simp only[abq]
  cases ua c&&dG _ c with
  |false=>rfl
  |true=>
   cases G2 _ j U with
   |none=>rfl
   |some l=>
    simp only;rw[B.eq]
    conv=>rhs;rw[B.eq]
    cases g.run _ [] _ with|none=>rfl|some p=>simp only[aw];cases I c p.1 p.2<;>rfl
 ·simp only[abq]at h
  cases G:ua c&&dG _ c with
  |false=>rw[G]at h;cases h
  |true=>
   rw[G]at h;simp only[aX]at G;let ⟨Y,Z⟩:=G;split at h
   ·rename_i l m
    let ⟨K,D,x,h⟩:=B.nat _ _ _ _ h;have V:=B.ok _ _ _ _ x;split at h
    ·rename_i p hp
     cases h;refine⟨V.1,λW q u y d n a z=>?_⟩
     let A:∀k,(q k\/∃o,(u o).blk=ar k)->k<W.heap.size:=by
      rintro k (N|⟨o,N⟩)
      ·exact d k N
      ·exact(a.sep o k N).2
     refine(V.2 W _ abm y A (λgg v hv=>(n gg v hv).ev ⟨λ_ h=>.inl h,λ_ _=>rfl,λ_ _ h=>by cases h⟩) ⟨λ_ _ h=>(by cases h),λ_ _ _ h=>(by cases h),λ_ _=>rfl,λ_ _ h=>by cases h⟩ (B8 (abn a) m (RepFs.ev (Ri a) _ _ z))).mono ?_
     rintro e t ⟨qQ,h1,L,M,⟨rfl,rfl⟩,S,he⟩
     let ⟨i,F,S2,O⟩:=J Y Z hp d a S he;exact⟨_,_,i,F,⟨rfl,rfl⟩,S2,O⟩
    ·cases h
   ·cases h
theorem B9 {w f g i hp j}:∀{l} {b},asx l=bc->RepFs w f g hp l b->RepFs w f i j l b
 |[],b,_,c=>c
 |a::l,b,h,c=>by cases a with|d t x=>let ⟨v,m,e,n,o,p⟩:=c;refine⟨v,m,e,?_,o,B9 h p⟩;exact n|_=>cases h
theorem aka {w g i j hp m c e}(a:isD c=bc)(h:gP w g i hp c e):gP w g j m c e:=by
 cases c with
 |panic t n=>exact h
 |ret l=>
  match l,a,h with|[.d t x],_,⟨v,e1,b,o⟩=>refine⟨v,e1,?_,o⟩;exact b|[],a,⟨f,e1,b⟩=>exact⟨f,e1,B9 a b⟩|_::_::_,a,⟨f,e1,b⟩=>exact⟨f,e1,B9 a b⟩
def aEg (b:LHp)(a:aq)(c:LHp)  :=bif c.isEmpty&&isD a then ar (a,qG b)else a6
def fC a g  :=abq a g aEg
theorem cn {P I f L g}(M:FnE.OK P I f g):FnE.OK P I f (fC L g):=by
 refine Rk M @λu N O p W U V J v ca e x _ hp j a S X=>?_
 unfold aEg at hp;cases q:O.isEmpty&&isD N with
 |false=>rw[q]at hp;cases hp
 |true=>
  rw[q,ai]at hp;cases hp;rw[aX]at q;let ⟨Y,y⟩:=q;let t:∀o,(B7 (v o)).blk=a6:=λo=>by cases d:aD u o with|none=>rw[a.dom o d];rfl|some l=>obtain⟨T,e,m,z,Z,rfl⟩:=ub x d;rcases a.obj o _ d with ⟨ad,A,_⟩|⟨_,bb,B,cells,A,_⟩|⟨_,bb,B,cs,A,_⟩<;>rw[A]<;>rfl
  let n:∀k,(V k\/∃o,(v o).blk=ar k)->k<W.heap.size:=by
   rintro k (D|⟨o,D⟩)
   ·exact j k D
   ·exact(a.sep o k D).2
  let i  :=λb c=>S.old b c λo h=>by cases h
  let F:Ev W _ _ _ U J (λo=>B7 (v o)) (aD (qG u)):=
   ⟨S.imSub,λb c=>i b (n b c),λo l d=>⟨l,d,fo.refl _ _⟩⟩
  refine⟨J,_,⟨S.os,S.tape,S.output,S.grow,λb c _=>i b c,λb c=>S.imSub b (.inl c),λb c=>?_,S.imLt,λo b c=>?_,λo l d=>(Ri a).fob o l d,λo b c=>?_,λo o' b K h2=>?_,λo d=>?_,λo l d=>?_⟩,aka y X⟩
  ·rcases S.imNew b c with (h|h)|⟨o,h⟩|h
   ·exact .inl h
   ·exact .inr (.inl h)
   ·cases h
   ·exact .inr (.inr h)
  ·rw[t]at c;cases c
  ·rw[t]at c;cases c
  ·rw[t]at K;cases K
  ·rw[Lh x]at d;cases G:aD u o with|none=>rw[a.dom o G];rfl|some ob0=>obtain⟨T,e,m,z,Z,rfl⟩:=ub x G;rw[G]at d;cases d
  ·exact(abn a o l d).ev F λb c=>by rw[t]at c;cases c
end Go.Vm
namespace Go.Vm
variable {R:Type}
def Ca (E:Env)(i:Func)(a:Nat)(d:List (Nat×List Nat))(D:rq)(b:Nat)(l:List Nat)(m:Hl)(e:List AV)(f:LHp)(k:aq->LHp->Option R):Option R:=
 match i.body,D.gn.body with
 |some (.seq n (.seq _ y)),ar (.seq _ j)=>
  bif AD e.length i.ntmps&&dG f.length f then
   exC E ⟨i.ntmps,a,f.length,d,a8⟩ n ⟨az a (number 0 e),f,f.length⟩ λe0 h=>
    match e0 with
    | .normal=>
     let c:=evs E h D.caps
     bif c.all (qx h.hp)&&dG h.nx h.hp&&dK h.nx b then
      exH E ⟨i.ntmps,a,b,d,a8⟩ l m y (h.set D.t15 (.fn (.func D.g) [] c)) (ES E D j f.length i.results.toList c k)
     else a6
    |_=>a6
  else a6
 |_,_=>a6
theorem yG {E}(l:E.Good){g a c D b i d j k}{r:R}
  (h:Ca E g a c D b i (hlp E ⟨g.ntmps,a,b,c,a8⟩) d j k=ar r):BK E g a c D d j k=ar r:=by
 unfold Ca at h
 unfold BK
 split at h
 ·rename_i v q y x m o t
  try rw[o,t]
  try simp only
  cases n:AD _ _&&dG _ j with
  |false=>rw[n]at h;cases h
  |true=>
   rw[n,ai]at h;rw[tW l]at h⊢;rw[J7 l]at h⊢;let ⟨p,hp,e⟩:=bC h;rw[hp];let ⟨e0,u⟩:=p;simp only[aw,pk];simp only[pk]at e;cases e0 with
   |normal=>cases f:(evs E u _).all _&&dG _ _&&dK _ b with|false=>rw[f]at e;cases e|true=>rw[f,ai]at e;rw[aX]at f;rw[f.1,ai,cb f.2];rw[zW]at e;exact e
   |_=>cases e
 ·cases h
end Go.Vm
namespace Go.Vm
abbrev pnc (t:TypeId)(n:Int):Tq:=.leaf (.panic t n) []
abbrev dat (t:Ty)(x:t.den):Tq:=.leaf (.ret [.d t x]) []
end Go.Vm
namespace Go.Vm
theorem EZ {w g i hp}:∀{b} {c},RepFs w g i hp b c->∀(e) (f:List _),.d (.slice e) f∈b->f.length<=maxLen
 |[],_,_,_,_,h=>by cases h
 |a::l,t,j,e,f,h=>by
  let ⟨v,u,_,m,_,n⟩:=j;rcases kt.1 h with rfl|h
  ·let ⟨a,o,_,p,q,_⟩:=m;exact Nat.le_trans p q
  ·exact EZ n e f h
theorem FnH.len {P j f g l R}(o:∀(m:Array _) (w:World),(callFunc f m).run P w=.ok (.enter f m) w)
  (h:(∀(e:Ty) (n:List _),.d (.slice e) n∈g->n.length<=maxLen)->FnH P j f g l R):FnH P j f g l R:=
 ⟨o,λW p q i a b c d=>(h (EZ d)).2 W p q i a b c d⟩
end Go.Vm
namespace Go.Vm
open Go
@[reducible] def FnT (R:Type):List Ty->Type
 |[]=>R
 |t::a=>t.den->FnT R a
def UR {R}:(a:List Ty)->FnT R a->List AV->Option R
 |[],r,[]=>ar r
 |t::a,f,.d b v::l=>if h:b=t then UR a (f (h▸v)) l else a6
 |_,_,_=>a6
def dg {R}:(b:List Ty)->FnT R b->(List AV->R->Prop)->Prop
 |[],r,Q=>Q [] r
 |t::b,f,Q=>∀a,dg b (f a) λl r=>Q (.d t a::l) r
theorem Lk {R}:∀{b} {f} {Q} {l} {r:R},dg b f Q->UR b f l=ar r->Q l r
 |[],_,_,[],_,h,e=>by cases e;exact h
 |[],_,_,_::_,_,_,e=>by cases e
 |_::_,_,_,[],_,_,e=>by cases e
 |t::b,f,Q,a::l,r,h,e=>by
  cases a with
  |d g v=>
   simp only[UR]at e;split at e
   ·rename_i c;subst c;exact Lk (Q:=λl r=>Q (.d _ v::l) r) (h v) e
   ·cases e
  |_=>cases e
@[reducible] def ProdT:List Ty->Type
 |[]=>Unit
 |[t]=>t.den
 |t::u::a=>t.den×ProdT (u::a)
def Ll :(a:List Ty)->ProdT a->List AV
 |[],_=>[]
 |[t],v=>[.d t v]
 |t::u::b,v=>.d t v.1::Ll _ v.2
def Lm (b c:List Ty)(f:FnT (Bool×ProdT c) b):FnE:={run:=λa d k=>match d with|[]=>(match UR b f a with|some r=>bif r.1 then k (.ret (Ll c r.2)) []else a6|none=>a6)|_=>a6}
theorem Ln {P i n c j f}
  (h:dg c f λl r=>r.1=bc->FnH P i n l (aD []) λm o=>m=.ret (Ll j r.2)/\o=aD []):FnE.OK P i n (Lm c j f):=by
 refine⟨λa d k=>?_,λa d m p e=>?_⟩
 ·cases d with|cons _ _=>rfl|nil=>simp only[Lm];cases UR c f a with|none=>rfl|some r=>let ⟨b,v⟩:=r;cases b<;>rfl
 ·cases d with
  |cons _ _=>cases e
  |nil=>
   simp only[Lm]at e;cases g:UR c f a with|none=>rw[g]at e;cases e|some r=>rw[g]at e;let ⟨b,v⟩:=r;cases b with|false=>cases e|true=>cases e;exact Lk h g rfl
def Ty.dfl :(t:Ty)->t.den
 | .int _=>(0:Int)
 | .bool=>a8
 | .str=>([]:List _)
 | .flt _=>(0:Nat)
 | .slice _=>[]
 | .unit=>()
 | .pair a b=>(a.dfl,b.dfl)
 | .arr _ _=>[]
def dS :(a:List Ty)->ProdT a
 |[]=>()
 |[t]=>t.dfl
 |t::u::b=>(t.dfl,dS _)
def US :(b:List Ty)->List AV->Option (ProdT b)
 |[],[]=>ar ()
 |[t],[a]=>a.asD t
 |t::u::c,a::l=>(match a.asD t with|some x=>(match US (u::c) l with|some y=>ar (x,y)|none=>a6)|none=>a6)
 |_,_=>a6
theorem xz :∀{d} {l} {p},US d l=ar p->l=Ll d p
 |[],[],_,_=>rfl
 |[],_::_,_,h=>by cases h
 |[t],[],_,h=>by cases h
 |[t],[a],p,h=>by rw[AV.asD_some h];rfl
 |[t],_::_::_,_,h=>by cases h
 |t::u::e,[],_,h=>by cases h
 |t::u::e,a::l,p,h=>by
  simp only[US]at h;cases b:a.asD t with|none=>rw[b]at h;cases h|some x=>rw[b]at h;cases c:US _ l with|none=>rw[c]at h;cases h|some y=>rw[c]at h;cases h;rw[AV.asD_some b,xz c];rfl
def bT :(b:List Ty)->Option (aq×LHp)->Option (ProdT b)
 |[],_=>a6
 |[t],r=>(match jH [t] r with|some (.ret l,[])=>US [t] l|_=>a6)
 |t::u::a,r=>(match jH (t::u::a) r with|some (.ret l,[])=>US (t::u::a) l|_=>a6)
theorem G4 {E i a b P j f d}(h:FnE.OK P j f (aA E i a b)){c p}(e:bT d (aB E i a b c [] ah)=ar p):
  FnH P j f c (aD []) λm n=>m=.ret (Ll d p)/\n=aD []:=by
 match d,p,e with
 |[],p,e=>cases e
 |[t],p,e=>
  simp only[bT]at e;split at e
  ·rename_i l g;rw[←xz e];exact h.okBQ [t] g
  ·cases e
 |t::u::o,p,e=>
  simp only[bT]at e;split at e
  ·rename_i l g;rw[←xz e];exact h.okBQ _ g
  ·cases e
def cC a b f  :=fC a (Lm a b f)
theorem bh {E j b d P m n c g f}(o:FnE.OK P m n (aA E j b d))
  (h:dg c f λl r=>r.1=bc->bT g (aB E j b d l [] ah)=ar r.2):FnE.OK P m n (cC c g f):=by
 refine cn (Ln ?_)
 let key:∀{c:List Ty} {f:FnT _ c} {Q e:List AV->Bool×ProdT g->Prop},dg c f Q->(∀l r,Q l r->e l r)->dg c f e:=by intro c;induction c with|nil=>intro f Q e h i;exact i _ _ h|cons t c p=>intro f Q e h i a;exact p (h a) λl r=>i _ _
 exact key h λl r q u=>G4 o (q u)
theorem aZ {a:Type}{o}{d:a}(h:o.isSome=bc):o=ar (o.getD d):=by cases o with|none=>cases h|some _=>rfl
theorem bU {a:Type}{o}{d v:a}(h:o=ar v):o.isSome=bc/\o.getD d=v:=by rw[h];exact⟨rfl,rfl⟩
end Go.Vm
set_option maxRecDepth 100000
set_option maxHeartbeats 4000000
namespace Go.Proofs.XRT
open Go.Vm Go Tryz IntKind
noncomputable section
theorem asy t x:aB GU f115 6 [] [I t,I x] [] ah=bif t==1 then bif x>=0 then bif x<4294967296 then bif (b8.format.read<|aG .f32 (u32.wrap x).toNat).order (b8.format.read<|aG .f32 (u32.wrap x).toNat)==ar .eq then ak [B bc]else ak [B<|x==2143289344]else ak [B a8]else ak [B a8]else bif t==6 then bif x>= -2147483648 then ak [B<|x<=2147483647]else ak [B a8]else bif t==7 then ak [B bc]else bif t==9 then bif x==0 then ak [B bc]else ak [B<|x==1]else ak [B a8]:=by kernel_rfl
theorem asz {x}:aQ 1 x=(x>=0&&(x<4294967296&&((DE x).order (DE x)==ar .eq||x==2143289344))):=by
 let g:∀d:zb,(d.order d==ar .eq)= !d.isNaN:=λd=>by rw[←kW,bne];cases d.order d==ar .eq<;>rfl
 rw[g,vc];simp only[aX,Bool.or_eq_true,decide_eq_true_eq,Bool.not_eq_true',beq_iff_eq];constructor
 ·intro h
  rcases aEe h with rfl|⟨n,rfl,b,c⟩
  ·simp
  ·refine⟨by omega,by omega,.inl ?_⟩;unfold DE;rw[xy b c];exact z8 c
 ·rintro⟨b,c,a⟩
  refine abk ?_;rcases a with a|a
  ·obtain⟨n,rfl⟩:=q8 b
   refine .inr ⟨n,rfl,by omega,?_⟩;rcases TE 2139095040 (dC n)with f|f
   ·let i:=abf f
    unfold DE cw aG lG at a
    let e:(u32.wrap n).toNat=n:=by
     let:u32.wrap n=n:=by simp[IntKind.wrap,IntKind.signed,IntKind.bits];omega
     rw[this]<;>rfl
    rw[e,i,if_pos rfl]at a;exact absurd a<|by decide +kernel
   ·exact f
  ·exact .inl a
theorem akb t x:aB GU f115 6 [] [I t,I x] [] ah=ar (.ret [B<|aQ t x],[]):=by
 rw[asy];by_cases a:t=1
 ·subst a;rw[asz];show (bif bc then bif _ then bif _ then (bif (DE x).order (DE x)==ar .eq then _ else _)else _ else _ else _)=_;grind
 ·let e1:(t==1)=a8:=by simpa using a
  unfold aQ;rw[e1,al,al];by_cases b:t=6
  ·subst b
   let:(x==i64.wrap (i32.wrap x))=(x>= -2147483648&&x<=2147483647):=by rw[vc];simp[IntKind.wrap,IntKind.signed,IntKind.bits];omega
   grind
  ·let e2:(t==6)=a8:=by simpa using b
   by_cases c:t=7
   ·subst c;rfl
   ·by_cases d:t=9
    ·let:(x.fdiv 2==0)=(x==0||x==1):=by
      grind
     grind
    grind
theorem qd :bq 115 (fnE xo):=by
 refine jF rD cZ func115 call115 (depth:=6) (live:=[]) (by decide +kernel) rfl λa b p h=>?_
 unfold xo at h;split at h
 ·cases h;exact akb _ _
 ·cases h
noncomputable def aEh  :=GU.add 115<|fnE xo
theorem UT :aEh.Good:=rD.add qd
theorem asA t:aB aEh f114 3 [] [I t] [] ah=ak [B<|aQ t 0]:=by kernel_rfl
def akc :List AV->LHp->Option (aq×LHp)
 |[.d zI t],[]=>ar (.ret [B (aQ t 0)],[])
 |_,_=>a6
theorem Rl :bq 114 (fnE akc):=by
 refine jF UT cZ func114 call114 (depth:=3) (live:=[]) (by decide +kernel) rfl λa b p h=>?_
 unfold akc at h;split at h
 ·cases h;exact asA _
 ·cases h
def Rm  :=aU f49
def zc6  :=cL<|cL<|cR<|cL<|cR Rm
def lZ :Cfg:=⟨19,5,2,[(2,[0,1,7,8])],bc⟩
def hpK (a:Int)(b:ao):LHp:=[(0,.box (I a)),(1,.box (.d .str b))]
def abr (c:bu)(a:Int)(b:ao)(i:Int):LSt:=⟨az 5 [(0,.d (.slice _) c),(1,.fn (.func 160) [] [.op 1 [] 0,.op 0 [] 0]),(7,I<| .ofNat c.length),(8,I i)],hpK a b,4⟩
theorem asB (c:bu) a b:aB eJ f49 5 [(2,[0,1,7,8])] [.d (.slice _) c,.fn (.func 160) [] [.op 1 [] 0,.op 0 [] 0]] (hpK a b) ah=(hlp eJ lZ) zc6 _ (abr c a b 0) (aI 0<|aL eJ lZ [2] (hlp eJ lZ) (cR<|cR Rm)<|aV prog 2 f49.results.toList ah):=(aW [2] lZ rfl).trans<|by obtain⟨e,h⟩:=aM eJ lZ;rw[h];kernel_rfl
theorem abt c a b i n {R} (k:AEx->LSt->Option R):lp eJ lZ zc6 (n+1) (abr c a b i) k=bif i<.ofNat c.length then (idx c i).bind λe=>bif ie b a e then k .ret ⟨az 5 [(0,.d Y1.slice c),(1,.fn (.func 160) [] [.op 1 [] 0,.op 0 [] 0]),(4,I i),(5,I i),(7,I<| .ofNat c.length),(8,I i),(9,B bc),(10,I i),(11,.fn (.func 160) [] [.op 1 [] 0,.op 0 [] 0]),(12,.d Y1.slice c),(13,I i),(14,.ip Y1 e),(15,.d Y1 e),(16,B bc),(17,I i)],[(0,.box<|I a),(1,.box<| .d .str b),(0,.box<|I a),(1,.box<| .d .str b)],6⟩else lp eJ lZ zc6 n (abr c a b<|i64.wrap<|i+1) k else k (.exit 0) ⟨az 5 [(0,.d Y1.slice c),(1,.fn (.func 160) [] [.op 1 [] 0,.op 0 [] 0]),(7,I<| .ofNat c.length),(8,I i),(9,B a8)],[(0,.box<|I a),(1,.box<| .d .str b)],4⟩:=by kernel_rfl
theorem akd (c:bu) a b (e:c.length<=maxLen):aB eJ f49 5 [(2,[0,1,7,8])] [.d (.slice _) c,.fn (.func 160) [] [.op 1 [] 0,.op 0 [] 0]] (hpK a b) ah=ar (.ret [I<|cc (ie b a) c],hpK a b):=by
 rw[asB];let f:=λi n=>abt c a b i n<|aI 0<|aL eJ lZ [2] (hlp eJ lZ) (cR<|cR Rm)<|aV prog 2 f49.results.toList ah
 let h:=fF (T:=λn s=>lp eJ lZ zc6 n s _) e f;refine h.trans ?_;unfold cc;cases g:c.findIdx? _ with|none=>kernel_rfl|some i=>let ⟨j,_⟩:=fk.1 g;simp only[dv j,aw];show _=_;kernel_rfl
def asC :List AV->LHp->Tq
 |[.d (.slice Y1) c,.fn (.func 160) [] [.op 1 [] 0,.op 0 [] 0]],[(0,.box (.d zI a)),(1,.box (.d .str b))]=>.br (a7 (c.length<=maxLen)) (.leaf (.ret [I (cc (ie b a) c)]) (hpK a b)) .no
 |_,_=>.no
theorem ake :bq 49 (ay asC):=by
 refine dh aiM cZ func49 call49 (depth:=5) (live:=[(2,[0,1,7,8])]) (by decide +kernel) rfl λb c p h=>?_
 unfold asC at h;split at h
 ·let ⟨a,h⟩:=Tq.br_no h;cases h;let a:=bt a;exact akd _ _ _ a
 ·cases h
def gFd  :=g14.add 49<|ay asC
theorem abu :gFd.Good:=vq.add ake
abbrev dU (c e:ao)(a:List ao)(b:ao)(f:bu):AV:=.d Y2 (c,e,a,b,f,())
theorem asE g h e f c (b:ao) kind:aB gFd f64 5 [] [dU g h e f c,.d .str b,I kind] [] ah=bif c.length<=9223372036854775807 then bif cc (λa=>a.fst==b&&a.snd.fst==kind) c<0 then ak [(AV.d .str []).pr<|(I 0).pr<|(I 0).pr<|(I 0).pr<|(AV.d .str []).pr<|((I 0).pr<|b5.pr<|b5.pr<| .d .unit bn).pr<|b5.pr<| .d .unit bn,B a8]else (idx c<|cc (λa=>a.fst==b&&a.snd.fst==kind) c).bind λi=>ak [.d Y1 i,B bc]else a6:=by kernel_rfl
def asF (e:bu)(b:ao)(c:Int):Tq:=
 .br (e.length<=9223372036854775807) (.br (cc (ie b c) e<0) (.leaf (.ret [Oa,B a8]) [])<| .opt (e.find?<|ie b c) λa=>.leaf (.ret [.d _ a,B bc]) []) .no
def Oh :List AV->LHp->Tq
 |[.d Y2 (_,_,_,_,c,_),.d .str a,.d zI b],[]=>asF c a b
 |_,_=>.no
theorem akf g h c e f (a:ao) b:aB gFd f64 5 [] [dU g h c e f,.d .str a,I b] [] ah=(asF f a b).run ah:=by rw[asE];simp only[BS];kernel_rfl
theorem vB :bq 64 (ay Oh):=by
 let c:=bM (d:=5) (l:=[]) abu func64 call64;refine aY λb e f g a=>?_
 unfold Oh at a;split at a
 ·exact c.okC ((akf _ _ _ _ _ _ _).trans a)
 ·cases a
def aS (d:bu)(c:ao)(b:Int):Int:=match d.find? (ie c 2)with|some a=>a.2.2.2.1|none=>b
def aj (ag:bu)(c:ao)(b:af):af:=match ag.find? (ie c 7)with|some a=>a.2.2.2.2.2.2.1|none=>b
def gI1  :=g36.add 64<|ay Oh
theorem abv :gI1.Good:=na.add vB
theorem asG g h e f c (b:ao) other:aB gI1 f59 5 [] [dU g h e f c,.d .str b,I other] [] ah=bif c.length<=9223372036854775807 then bif cc (λa=>a.fst==b&&a.snd.fst==2) c<0 then ak [I other]else (te (λa=>a.fst==b&&a.snd.fst==2) c).bind λi=>ak [I i.2.2.2.1]else a6:=by kernel_rfl
theorem n9 {b} p (a:List b):a7 (cc p a<0)=(a.find? p).isNone:=by unfold cc;cases h:a.findIdx? p with|none=>rw[yd]at h;rw[YT.2<|λx c=>by simp[h x c]]<;>rfl|some i=>let ⟨d,hp,e⟩:=fk.1 h;rw[alI.2 ⟨hp,i,d,rfl,λj f=>by simpa using e j f⟩];exact cq<|by show¬((i:Nat):Int)<0;omega
theorem akg {g h e f c}{a:ao}{b}(i:c.length<=maxLen):aB gI1 f59 5 [] [dU g h e f c,.d .str a,I b] [] ah=ar (.ret [I<|aS c a b],[]):=by rw[asG,aF<|show c.length<=9223372036854775807 from i,n9];unfold aS;show (bif bc then bif (c.find?<|ie a 2).isNone then _ else (c.find?<|ie a 2).bind _ else _)=_;cases c.find? _<;>rfl
def Cb :List AV->LHp->Tq
 |[.d Y2 (_,_,_,_,c,_),.d .str b,.d zI a],[]=>.br (a7 (c.length<=maxLen)) (.leaf (.ret [I (aS c b a)]) []) .no
 |_,_=>.no
theorem mA :bq 59 (ay Cb):=by
 refine dh abv cZ func59 call59 (depth:=5) (live:=[]) (by decide +kernel) rfl λb c p h=>?_
 unfold Cb at h;split at h
 ·let ⟨a,h⟩:=Tq.br_no h;cases h;let a:=bt a;exact akg a
 ·cases h
theorem asH (a:Int)(d:af):aB g68 f40 4 [] [.d (.slice aa)<|a::d] [] ah=(app []<|a::d).bind λb=>ar (.ret [.os 0 0],[(0,.arr 2 aa 0 a8 b)]):=by kernel_rfl
theorem asI (a:Int)(d:af) z:aB g68 f40 4 [] [.os 0 0] [(0,.arr 2 aa 0 z<|a::d)] ah=(app []<|a::d).bind λb=>ar (.ret [.os 1 0],[(0,.arr 2 aa 0 z<|a::d),(1,.arr 2 aa 0 a8 b)]):=by kernel_rfl
def asJ :List AV->LHp->Tq
 |[.d zS a],[]=>.br (a7 (a=[])) (.leaf (.ret [.emp]) []) (.br (a7 (a.length<=2147483648)) (.leaf (.ret [.os 0 0]) [(0,.arr 2 aa 0 a8 a)]) .no)
 |[.os 0 0],[(0,.arr 2 zI 0 z a)]=>.br (a7 (a=[])) .no (.br (a7 (a.length<=2147483648)) (.leaf (.ret [.os 1 0]) [(0,.arr 2 aa 0 z a),(1,.arr 2 aa 0 a8 a)]) .no)
 |[.nils],[]=>.leaf (.ret [.nils]) []
 |_,_=>.no
theorem akh {a:af}(h:a.length<=2147483648):app [] a=ar a:=eX (by simp only[eO,lim];omega)
theorem asK (u:Unit):aB g68 f40 4 [] [.nils] [] ah=ak [.nils]:=by kernel_rfl
theorem aki :bq 40 (ay asJ):=by
 let c:=bM (d:=4) (l:=[]) BY func40 call40;let j  :=aa1;refine aY λi m n o b=>?_
 unfold asJ at b;split at b
 ·rename_i e;cases e with|nil=>cases b;exact j.2 _ _ _ _ rfl|cons a d=>let f  :=b;let ⟨g,h⟩:=Tq.br_no f;exact c.okC<|(asH a d).trans<|gp (by rw[akh<|bt g]<;>rfl) h
 ·rename_i z e;cases e with|nil=>cases b|cons a d=>let f  :=b;let ⟨g,h⟩:=Tq.br_no f;exact c.okC<|(asI a d z).trans<|gp (by rw[akh<|bt g]<;>rfl) h
 ·cases b;exact c.okC<|asK ()
 ·cases b
noncomputable def gIs  :=(nP.add 64<|ay Oh).add 40<|ay asJ
theorem Cc :gIs.Good:=(nc.add vB).add aki
theorem asL h i e f c (b:ao):aB gIs f25 5 [] [dU h i e f c,.d .str b,.nils] [] ah=bif c.length<=9223372036854775807 then bif cc (λa=>a.fst==b&&a.snd.fst==7) c<0 then ak [.nils]else (te (λa=>a.fst==b&&a.snd.fst==7) c).bind λg=>bif g.2.2.2.2.2.2.1=[]then ak [.emp]else bif bk g.2.2.2.2.2.2.1<=2147483648 then ar (.ret [.os 0 0],[(0,.arr 2 aa 0 a8 g.2.2.2.2.2.2.1)])else a6 else a6:=by kernel_rfl
theorem asM i j f g e (c:ao) (o:Int) (b:af):aB gIs f25 5 [] [dU i j f g e,.d .str c,.os 0 0] [(0,.arr 2 aa 0 a8<|o::b)] ah=bif e.length<=9223372036854775807 then bif cc (λa=>a.fst==c&&a.snd.fst==7) e<0 then bif (o::b).length<=2147483648 then ar (.ret [.os 1 0],[(0,.arr 2 aa 0 a8<|o::b),(1,.arr 2 aa 0 a8<|o::b)])else a6 else (te (λa=>a.fst==c&&a.snd.fst==7) e).bind λh=>bif h.2.2.2.2.2.2.1=[]then ar (.ret [.emp],[(0,.arr 2 aa 0 a8<|o::b)])else bif bk h.2.2.2.2.2.2.1<=2147483648 then ar (.ret [.os 1 0],[(0,.arr 2 aa 0 a8<|o::b),(1,.arr 2 aa 0 a8 h.2.2.2.2.2.2.1)])else a6 else a6:=by kernel_rfl
def Oi  :=aU f244
def abF  :=cL (cL (cL (cR (cR (cR (cR (cR (cR (cR (cR Oi))))))))))
def oa :Cfg:=⟨66,7,0,[(11,[0,1,2,3,9,10])],bc⟩
theorem akq (s:ao):aB g28 f277 4 [] [.d .str s,.d .str [44]] [] ah=bif [44]==s then ak [I 0]else ak [I (js s 44)]:=by kernel_rfl
theorem akr (s:ao):aB g30 f276 6 [(6,[0,1,5])] [.d .str s,.d .str [44]] [] ah=ak [I<| .ofNat<|Lib.countByte s 44]:=by kernel_rfl
def fL (s:ao)  :=js s 44
def abG :List AV->LHp->Tq
 |[.d .str s,.d .str a],[]=>.br (a7 (a=[44])) (.leaf (.ret [I (fL s)]) []) .no
 |_,_=>.no
theorem abH (s:ao):aB g28 f277 4 [] [.d .str s,.d .str [44]] [] ah=ar (.ret [I (fL s)],[]):=by rw[akq];cases h:[44]==s with|false=>rfl|true=>obtain rfl:=eq_of_beq h;rfl
theorem abI :bq 277 (ay abG):=by
 let c  :=QV;refine aY λb f g h a=>?_
 unfold abG at a;split at a
 ·let ⟨d,e⟩:=Tq.br_no a;obtain rfl:=bt d;exact c.okC<|(abH _).trans e
 ·cases a
def abJ :List AV->LHp->Tq
 |[.d .str s,.d .str a],[]=>.br (a7 (a=[44])) (.leaf (.ret [I (.ofNat (s.count 44))]) []) .no
 |_,_=>.no
theorem abK :bq 276 (ay abJ):=by
 let c  :=QW;refine aY λb f g h a=>?_
 unfold abJ at a;split at a
 ·let ⟨d,e⟩:=Tq.br_no a;obtain rfl:=bt d;exact c.okC<|(akr _).trans e
 ·cases a
def YY  :=(g31.add 277<|ay abG).add 276<|ay abJ
theorem abL :YY.Good:=(rB.add abI).add abK
def tB (s:ao)  :=if i64.wrap (.ofNat s.length+1)<i64.wrap (.ofNat (s.count 44)+1)then i64.wrap (.ofNat s.length+1)else i64.wrap<| .ofNat (s.count 44)+1
def abM (s:ao)(N i:Int)(l:List ao):LSt:=⟨az 7 [(0,.d .str s),(1,.d .str [44]),(2,I 0),(3,I N),(9,.os 0 0),(10,I i)],[(0,.arr 9 .str 0 a8 l)],1⟩
theorem abN a (s:ao):aib YY f244 7 [(11,[0,1,2,3,9,10])] [11] a [.d .str s,.d .str [44],I 0,I (-1)] [] ah=
  (if 0<=tB s/\tB s<=4294967296 then ar (eo (tB s).toNat [])else a6).bind λb=>a abF _ (abM s (i64.wrap (tB s-1)) 0 b) (aI 0 (aL YY oa [11] a (cR (cR (cR (cR (cR (cR (cR (cR (cR Oi))))))))) (aV prog 0 f244.results.toList ah))):=by kernel_rfl
def KSg  :=aI 0<|aL YY oa [11] (hlp YY oa) (cR<|cR<|cR<|cR<|cR<|cR<|cR<|cR<|cR Oi)<|aV prog 0 f244.results.toList ah
theorem aks (s:ao):aB YY f244 7 [(11,[0,1,2,3,9,10])] [.d .str s,.d .str [44],I 0,I<| -1] [] ah=
  (if 0<=tB s/\tB s<=4294967296 then ar (eo (tB s).toNat [])else a6).bind λa=>lp YY oa abF fu (abM s (i64.wrap<|tB s-1) 0 a) KSg:=ET.trans<|abN _ s
theorem Rz s N i l n {R} (k:AEx->LSt->Option R):lp YY oa abF (n+1) (abM s N i l) k=bif i<N then bif fL s<0 then k (.exit 0) ⟨az 7 [(0,.d .str s),(1,.d .str [44]),(2,I 0),(3,I N),(9,.os 0 0),(10,I i),(11,I<|fL s),(34,I i),(35,I N),(36,B bc),(37,.d .str s),(38,.d .str [44]),(39,I<|fL s),(40,I<|fL s),(41,B bc)],[(0,.arr 9 .str 0 a8 l)],1⟩else (if (0:Int)<=0/\0<=i64.wrap (fL s+0)/\i64.wrap (fL s+0)<=.ofNat s.length then ar (List.drop 0<|List.take (i64.wrap<|fL s+0).toNat s)else a6).bind λa=>(idx l i).bind λe=>(fR l i.toNat a).bind λb=>(if 0<=i64.wrap (fL s+1)/\i64.wrap (fL s+1)<=.ofNat s.length/\.ofNat s.length<=bd s.length then ar (List.drop (i64.wrap<|fL s+1).toNat<|List.take (bd s.length).toNat s)else a6).bind λc=>lp YY oa abF n (abM c N (i64.wrap<|i+1) b) k else k (.exit 0) ⟨az 7 [(0,.d .str s),(1,.d .str [44]),(2,I 0),(3,I N),(9,.os 0 0),(10,I i),(34,I i),(35,I N),(36,B a8)],[(0,.arr 9 .str 0 a8 l)],1⟩:=by kernel_rfl
end
end Go.Proofs.XRT
