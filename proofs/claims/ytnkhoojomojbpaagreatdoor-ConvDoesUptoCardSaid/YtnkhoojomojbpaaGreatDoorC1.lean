/- Part A of an abstract machine over the model: typed data (Ty, Ty.den), and how typed data lies in memory (RepD); its plain lemmas. No program in sight. -/
import Derived.Below
import Derived.CallsIn
import Derived.Laws.AppendOwn
import Derived.Orders
import Derived.OrdersIn
import Derived.WalkKit
import Derived.RangeFuncRecord
import Derived.Laws.StructEq
open Array renaming all_eq_true_iff_forall_mem→ahC,empty_append→ahD,eq_empty_of_size_eq_zero→WA,ext'→yl,getD_eq_getD_getElem?→ke,getElem?_eq_getElem→WT,getElem?_eq_some_iff→om,getElem?_replicate→YK,getElem?_setIfInBounds_ne→TD,length_toList→nn,mem_toList_iff→ahm,range→WY,replicate→WE,size_append→F1,toList_append→Nc
open BitVec renaming ofInt→q9
open Bool renaming false_eq_true→WQ,false→a8,not_eq_true'→T2,not_eq_true→np,true_and→gb,true→bc
open ByteArray renaming size→WG
open Decidable renaming decide→a7
open Go renaming undef→qP
open Go.Builtin renaming append_→adN
open Go.Call renaming operands→pd
open Go.Deferred renaming ofValue→WV
open Go.Instr renaming fill→ag9,indexAt→YN,sliceAt→yb,sliceBounds→xe,slice→AF,sureAddr→Bd
open Go.Op renaming equalIn→ahh,equal→I2,floatCmp→ahs,operands→cx
open Go.Op.equalIn renaming eq_2→WK
open Go.Region renaming binds→F2,ready→adx,wanted→w0
open Go.Result renaming andThen_ok→eE
open Go.Sem renaming run_bind→hF,run_pure→m0
open Go.Value renaming cells→gI,oneCell'→og
open Go.World renaming putObj_heap_other→Zj,setRow→WJ
open Ieee renaming Datum→zb
open Ieee.Datum renaming isNaN→wN,order→WH
open List renaming all_eq_true→gv,any_eq_true→tr,append_assoc→gl,append_nil→eT,cons_append→Ar,drop_drop→MX,drop_eq_nil_of_le→ly,find?→te,foldl_cons→zm,getElem?_append_left→WX,getElem?_append_right→uN,getElem?_cons_succ→QB,getElem?_cons_zero→o3,getElem?_drop→Qf,getElem?_eq_some_iff→hT,getElem?_map→yp,getElem?_take→T1,length_append→bK,length_cons→bs,length_drop→km,length_take→fl,map_append→Cp,map_cons→ox,mem_append→q7,mem_cons→kt,mem_map→QA,mem_of_getElem?→ik,mem_range→v8,nil_append→pb,nodup_nil→ahw,replicate→eo,size_toArray→YO,take_append_drop→tn,take_left→WO,take_of_length_le→hP
open Nat renaming add_assoc→Nf,add_mul→nY,add_zero→y8,beq_refl→ye,beq→dK,ble_eq_true_of_le→sc,blt→h8,le_of_ble_eq_true→gx,le_refl→ep,le_trans→zv,lt_of_lt_of_le→xd,lt_trichotomy→ak0,min_eq_left→OC,mod_lt→WU,mul_le_mul_right→ga,one_mul→x1,sub_self→M7,zero_add→hM,zero_le→k7
open Option renaming getD_some→YU,map_eq_some_iff→zn,map_some→ahb,none→a6,some→ar
open Option.some renaming injEq→wR,inj→hY
namespace Go.Vm
theorem aw {α:Type _}{b:Type _}(a:α)(f:α->Option b):(ar a).bind f=f a:=rfl
theorem aK (n:Nat):Int.ofNat n=(n:Int):=rfl
theorem cb {n m:Nat}(h:dK n m=bc):n=m:=Nat.eq_of_beq_eq_true h
theorem ai {α:Type _}{a b:α}:(bif bc then a else b)=a:=rfl
theorem al {α:Type _}{a b:α}:(bif a8 then a else b)=b:=rfl
theorem aX (a b:Bool):((a&&b)=bc)=(a=bc/\b=bc):=Bool.and_eq_true a b
theorem aF {p:Prop}[Decidable p](h:p):decide p=bc:=decide_eq_true h
theorem cq {p:Prop}[Decidable p](h:¬p):decide p=a8:=decide_eq_false h
theorem bt {p:Prop}[Decidable p](h:decide p=bc):p:=of_decide_eq_true h
theorem uQ {p:Prop}[Decidable p](h:decide p=a8):¬p:=of_decide_eq_false h
abbrev af :=List Int
abbrev ao :=List UInt8
inductive Ty where
 |int (k:IntKind)|bool|str|flt (k:FloatKind)|slice (e:Ty)|unit|pair (a b:Ty)|arr (n:Nat) (e:Ty)
 deriving DecidableEq
@[reducible] def Ty.den:Ty->Type
 | .int _=>Int
 | .bool=>Bool
 | .str=>ao
 | .flt _=>Nat
 | .slice e=>List e.den
 | .unit=>Unit
 | .pair a b=>a.den×b.den
 | .arr _ e=>List e.den
def Ty.size :Ty->Nat
 | .unit=>0
 | .pair a b=>a.size+b.size
 | .arr n e=>n*e.size
 |_=>1
def Ty.flat :Ty->Bool
 | .slice _=>a8
 | .pair a b=>a.flat&&b.flat
 | .arr _ e=>e.flat
 |_=>bc
def Ty.isAgg :Ty->Bool
 | .unit| .pair _ _| .arr _ _=>bc
 |_=>a8
def lG (k:FloatKind) b  :=(k.format.read b).isNaN
def Zm :FloatKind->Nat
 | .f32=>0x7fc00000
 | .f64=>0x7ff8000000000000
def aG k b  :=if lG k b then Zm k else b
def dJ (w:World)(b a:Nat)(c:List Value)  :=∀j v,c[j]?=ar v->w.cell? ⟨b,a+j,a6⟩=ar v
def bO {α:Type}(R:List Value->α->Prop):List Value->List α->Prop
 |a,[]=>a=[]
 |a,x::xs=>∃b c,a=b++c/\R b x/\bO R c xs
def pX {α}(w:World)(im:Nat->Prop)(R:List Value->α->Prop)(a:Option Addr)(c:List α):Prop:=
 match a with|none=>c=[]|some b=>c=[]\/b.spot=a6/\im b.block/\∃d,dJ w b.block b.off d/\bO R d c
def bm (w:World)(im:Nat->Prop):(t:Ty)->List Value->t.den->Prop
 | .int k,c,n=>c=[.int k n]
 | .bool,c,b=>c=[.bool b]
 | .str,c,s=>c=[.string ⟨s.toArray⟩]
 | .flt k,c,b=>∃r,c=[.float k r]/\aG k r=b
 | .slice e,c,xs=>∃a d,c=[.slice a xs.length d]/\xs.length<=d/\d<=maxLen/\(a=a6->d=0)/\pX w im (bm w im e) a xs
 | .unit,c,_=>c=[]
 | .pair a b,c,x=>∃f g,c=f++g/\bm w im a f x.1/\bm w im b g x.2
 | .arr n e,c,xs=>xs.length=n/\bO (bm w im e) c xs
theorem dJ.mono {w w' b a c}(h:dJ w b a c)(d:w'.heap[b]?=w.heap[b]?):dJ w' b a c:=
 λj v e=>(World.cell?_of_block d).trans (h j v e)
theorem dJ.append {w b a c e}(h:dJ w b a (c++e)):dJ w b a c/\dJ w b (a+c.length) e:=by
 refine⟨λj v d=>h j v ?_,λj v d=>?_⟩
 ·rw[WX (by let:=(hT.1 d).1;omega)];exact d
 ·let:=h (c.length+j) v (by rw[uN (by omega)];simpa using d);rw[Nf];exact this
theorem dJ.sub {w b a d}(h:dJ w b a d) i n:dJ w b (a+i) ((d.drop i).take n):=by
 intro j v c;rw[T1]at c;split at c
 ·rw[Qf]at c;let:=h _ v c;rw[Nf];exact this
 ·cases c
section
variable {α:Type}{R R':List Value->α->Prop}
theorem bO.mono (c:∀a x,R a x->R' a x):∀(b) (a),bO R a b->bO R' a b
 |[],_,h=>h
 |_::b,_,⟨f,d,e,g,i⟩=>⟨f,d,e,c _ _ g,bO.mono c b d i⟩
theorem bO.length {b}(c:∀a x,R a x->a.length=b):∀(xs) (a),bO R a xs->a.length=xs.length*b
 |[],a,h=>by let d:a=[]:=h;simp[d]
 |_::xs,a,⟨j,f,e,g,i⟩=>by let:=c _ _ g;let:=bO.length c xs f i;subst e;rw[bK,bs,nY];omega
theorem bO.one (d:∀a x,R a x->∀v∈a,v.oneCell'=bc):∀(c) (a),bO R a c->∀v∈a,v.oneCell'=bc
 |[],a,h=>by let f:a=[]:=h;simp[f]
 |_::c,a,⟨l,g,e,i,j⟩=>by
  subst e;intro v b;rcases q7.1 b with b|b
  ·exact d _ _ i v b
  ·exact bO.one d c g j v b
theorem bO.append :∀(c a) (d b),bO R d c->bO R b a->bO R (d++b) (c++a)
 |[],a,d,b,f,g=>by have h  :=f;subst h;exact g
 |x::c,a,_,b,⟨i,j,e,f,l⟩,g=>by subst e;exact⟨i,_,by simp,f,bO.append c a j b l g⟩
theorem bO.split :∀(xs b) (a),bO R a (xs++b)->∃c d,a=c++d/\bO R c xs/\bO R d b
 |[],_,a,h=>⟨[],a,rfl,rfl,h⟩
 |_::xs,b,a,⟨f,g,e,i,j⟩=>by let ⟨c,d,l,m,n⟩:=bO.split xs b g j;exact⟨_,d,by simp[e,l],⟨f,c,rfl,i,m⟩,n⟩
theorem bO.get {b}(f:∀c x,R c x->c.length=b){d c}(h:bO R c d){i x}(n:d[i]?=ar x):
  R ((c.drop (i*b)).take b) x/\((c.drop (i*b)).take b).length=b:=by
 let ⟨u,o⟩:=hT.1 n
 let a:d=d.take i++x::d.drop _:=by rw[←o,List.getElem_cons_drop,tn]
 rw[a]at h
 let ⟨p,v,e,q,g,t,e2,j,y⟩:=bO.split _ _ _ h
 let l:=bO.length f _ _ q
 let m:=f _ _ j
 rw[fl,OC (by omega)]at l
 subst e;subst e2
 let:((p++(g++t)).drop (i*b)).take b=g:=by rw[←l,List.drop_left,←m,WO]
 rw[this];exact⟨j,m⟩
theorem bO.take {b}(d:∀a x,R a x->a.length=b){xs a}(h:bO R a xs) n:bO R (a.take (n*b)) (xs.take n):=by
 by_cases i:n<=xs.length
 ·rw[←tn n xs]at h;let ⟨j,m,e,f,o⟩:=bO.split _ _ _ h;let g:=bO.length d _ _ f;rw[fl,OC i]at g;subst e;rw[←g,WO];exact f
 ·let l:=bO.length d _ _ h
  let c:a.length<=n*b:=by rw[l];exact ga _ (by omega)
  rw[hP c,hP (by omega)];exact h
theorem bO.drop {b}(d:∀a x,R a x->a.length=b){xs a}(h:bO R a xs) n:bO R (a.drop (n*b)) (xs.drop n):=by
 by_cases g:n<=xs.length
 ·rw[←tn n xs]at h;let ⟨m,o,e,i,j⟩:=bO.split _ _ _ h;let f:=bO.length d _ _ i;rw[fl,OC g]at f;subst e;rw[←f,List.drop_left];exact j
 ·let l:=bO.length d _ _ h
  let c:a.length<=n*b:=by rw[l];exact ga _ (by omega)
  rw[ly c,ly (by omega)];rfl
theorem bO.set {c}(f:∀a x,R a x->a.length=c){b a}(h:bO R a b){i}(g:i<b.length){y d}(j:R d y):
  bO R (a.take (i*c)++d++a.drop ((i+1)*c)) (b.set i y):=by
 let e:b.set i y=b.take i++y::b.drop _:=by rw[List.set_eq_take_append_cons_drop,if_pos g]
 rw[e,gl]
 exact bO.append _ _ _ _ (bO.take f h i) ⟨d,_,rfl,j,bO.drop f h _⟩
end
theorem bm.length {w im}:∀(t) (d) (x),bm w im t d x->d.length=t.size
 | .int _,_,_,h=>by have c:=h;subst c;rfl
 | .bool,_,_,h=>by have c:=h;subst c;rfl
 | .str,_,_,h=>by have c:=h;subst c;rfl
 | .flt _,_,_,⟨_,h,_⟩=>by subst h;rfl
 | .slice _,_,_,⟨_,_,h,_⟩=>by subst h;rfl
 | .unit,_,_,h=>by have c:=h;subst c;rfl
 | .pair a b,_,_,⟨j,l,h,f,g⟩=>by subst h;rw[bK,bm.length a _ _ f,bm.length b _ _ g];rfl
 | .arr n e,_,_,⟨i,h⟩=>by rw[bO.length (bm.length e) _ _ h,i];rfl
theorem bm.one {w im}:∀(t) (f) (x),bm w im t f x->∀v∈f,v.oneCell'=bc
 | .int _,_,_,h=>by have c:=h;subst c;simp[og]
 | .bool,_,_,h=>by have c:=h;subst c;simp[og]
 | .str,_,_,h=>by have c:=h;subst c;simp[og]
 | .flt _,_,_,⟨_,h,_⟩=>by subst h;simp[og]
 | .slice _,_,_,⟨_,_,h,_⟩=>by subst h;simp[og]
 | .unit,_,_,h=>by have c:=h;subst c;simp
 | .pair a b,_,_,⟨j,l,h,g,i⟩=>by
  subst h;intro v d;rcases q7.1 d with d|d
  ·exact bm.one a _ _ g v d
  ·exact bm.one b _ _ i v d
 | .arr n e,_,_,⟨m,h⟩=>bO.one (bm.one e) _ _ h
theorem bm.mono {w w' im cX}(c:∀b,im b->cX b)(d:∀b,im b->w'.heap[b]?=w.heap[b]?):
  ∀(t) (f) (x),bm w im t f x->bm w' cX t f x
 | .int _,_,_,h=>h
 | .bool,_,_,h=>h
 | .str,_,_,h=>h
 | .flt _,_,_,h=>h
 | .slice e,_,z,⟨a,cap,h,i,j,m,g⟩=>by
  refine⟨a,cap,h,i,j,m,?_⟩;cases a with
  |none=>exact g
  |some A=>
   rcases g with g|⟨o,l,f,p,q⟩
   ·exact .inl g
   ·exact .inr ⟨o,c _ l,f,p.mono (d _ l),bO.mono (bm.mono c d e) _ _ q⟩
 | .unit,_,_,h=>h
 | .pair a b,_,_,⟨u,v,h,i,j⟩=>⟨u,v,h,bm.mono c d a _ _ i,bm.mono c d b _ _ j⟩
 | .arr n e,_,_,⟨y,h⟩=>⟨y,bO.mono (bm.mono c d e) _ _ h⟩
theorem bm.ofFlat {w w' im cX}:∀(t) (d) (x),t.flat=bc->bm w im t d x->bm w' cX t d x
 | .int _,_,_,_,h=>h
 | .bool,_,_,_,h=>h
 | .str,_,_,_,h=>h
 | .flt _,_,_,_,h=>h
 | .slice e,_,m,c,_=>by simp[Ty.flat]at c
 | .unit,_,_,_,h=>h
 | .pair a b,_,_,c,⟨f,g,h,i,j⟩=>by simp only[Ty.flat,aX]at c;exact⟨f,g,h,bm.ofFlat a _ _ c.1 i,bm.ofFlat b _ _ c.2 j⟩
 | .arr n e,_,_,c,⟨l,h⟩=>⟨l,bO.mono (λd x h=>bm.ofFlat e d x c h) _ _ h⟩
def Ty.val (t:Ty)(a:List Value)  :=if t.isAgg then .agg a.toArray else a.headD undef
end Go.Vm
namespace Go.Vm
inductive AV where
 |undef
 |d (t:Ty) (x:t.den)
 |ip (t:Ty) (x:t.den)
 |op (o:Nat) (p:List Nat) (off:Nat)
 |os (o:Nat) (n:Nat)
 |oe (o:Nat) (n:Nat) (i:Nat)
 |ow (o:Nat) (n:Nat) (i:Nat) (l:Nat)
 |nils
 |emp
 |pr (a b:AV)
 |tup (l:List AV)
 |fn (f:Fn) (first cap:List AV)
 |nilfn
 |iface (t:TypeId) (v:AV)
 |nilif
 |nilp
 |ref (o:Nat)
inductive Jmp where
 |ret
 |exit (id:Nat)
def Jmp.code :Jmp->Code
 | .ret=>.ret
 | .exit id=>.exit id
inductive FZ where
 |ready
 |busy
 |done (j:Jmp)
 |over
structure Ec where
 key:Nat
 ps:Array Tmp
 assign:Code
 body:Code
 n:Nat
inductive j3 where
 |map (l:List (List UInt8×AV))
 |loop (lc:Ec) (fr:List (Nat×AV)) (st:FZ)
def j3.isMap :j3->Bool
 | .map _=>bc
 |_=>a8
def j3.val (r:j3)(b:Nat):Value:=bif r.isMap then .map (ar b)else .func (.yield b) #[] #[]
inductive au where
 |box (v:AV)
 |arr (T:TypeId) (e:Ty) (v:Nat) (fz:Bool) (xs:List e.den)
 |rc (r:j3)
inductive Pl where
 |none
 |at (b:Nat)
 |row (b cap:Nat)
 |nil (a:Option Addr)
 |fz (b cap:Nat)
def Pl.blk :Pl->Option Nat
 | .at b=>ar b
 | .row b _=>ar b
 |_=>.none
def AV.isAgg :AV->Bool
 | .d t _=>t.isAgg
 | .pr _ _=>bc
 |_=>a8
def bS :Value->Bool
 | .agg _=>bc
 |_=>a8
abbrev Hp :=Nat->Option au
abbrev Mu :=Nat->Pl
def fe :Pl->Nat->Value->Prop
 | .nil a,_,v=>v=.slice a 0 0
 | .row b cap,n,v=>v=.slice (ar ⟨b,0,a6⟩) n cap
 | .fz b cap,n,v=>v=.slice (ar ⟨b,0,a6⟩) n cap
 |_,_,_=>False
mutual
def RepA (w:World)(im:Nat->Prop)(μ:Mu)(hp:Hp):AV->List Value->Prop
  | .undef,_=>False
  | .d t x,c=>bm w im t c x
  | .ip t x,c=>∃b h,c=[.pointer (ar ⟨b,h,a6⟩)]/\im b/\∃p,dJ w b h p/\bm w im t p x
  | .op o _ h,c=>∃b v,μ o=.at b/\hp o=ar (.box v)/\c=[.pointer (ar ⟨b,h,a6⟩)]
  | .os o n,c=>∃T e m z j,hp o=ar (.arr T e m z j)/\n<=m/\∃v,c=[v]/\v.oneCell'=bc/\(n=m->fe (μ o) j.length v)
  | .oe o n i,c=>∃T e m z j,hp o=ar (.arr T e m z j)/\n<=m/\∃v,c=[v]/\v.oneCell'=bc/\(n=m->∃b g,(μ o=.row b g\/μ o=.fz b g)/\v=.pointer (ar ⟨b,i*e.size,a6⟩))
  | .ow o n i l,c=>∃T e m z j,hp o=ar (.arr T e m z j)/\n<=m/\∃v,c=[v]/\v.oneCell'=bc/\(n=m->∃b g,(μ o=.row b g\/μ o=.fz b g)/\v=.slice (ar ⟨b,i*e.size,a6⟩) l (g-i))
  | .nils,c=>c=[.slice a6 0 0]
  | .emp,c=>∃a,c=[.slice a 0 0]
  | .pr a b,c=>∃q y,c=q++y/\RepA w im μ hp a q/\RepA w im μ hp b y
  | .tup _,_=>False
  | .fn f first g,c=>∃A B:List Value,c=[.func f A.toArray B.toArray]/\RepFs w im μ hp first A/\RepFs w im μ hp g B
  | .nilfn,c=>c=[.nilFunc]
  | .iface t v,c=>∃u,c=[.iface t u]/\RepA w im μ hp v u.cells.toList/\bS u=v.isAgg
  | .nilif,c=>c=[.nilIface]
  | .nilp,c=>c=[.pointer a6]
  | .ref o,c=>∃b r,μ o=.at b/\hp o=ar (.rc r)/\c=[r.val b]
def RepFs (w:World)(im:Nat->Prop)(μ:Mu)(hp:Hp):List AV->List Value->Prop
  |[],b=>b=[]
  |a::l,b=>∃v c,b=v::c/\RepA w im μ hp a v.cells.toList/\bS v=a.isAgg/\RepFs w im μ hp l c
end
def cr (w:World)(im:Nat->Prop)(μ:Mu)(hp:Hp)(a:AV)(v:Value):Prop:=
 match a with| .undef=>True| .tup l=>∃b:List _,v=.tuple b.toArray/\RepFs w im μ hp l b|a=>RepA w im μ hp a v.cells.toList/\bS v=a.isAgg
def FZ.ok (r:Loop):FZ->Prop
 | .ready=>r.state=.ready/\r.pending=a6
 | .busy=>r.state=.busy
 | .done j=>r.state=.done/\r.pending=ar j.code
 | .over=>True
def qu (w:World)(im:Nat->Prop)(μ:Mu)(hp:Hp):List (ao×AV)->List MapEntry->Prop
 |[],b=>b=[]
 |(k,a)::l,b=>∃e c,b=e::c/\e.key=.string ⟨k.toArray⟩/\RepA w im μ hp a e.val.cells.toList/\bS e.val=a.isAgg/\qu w im μ hp l c
def F0 (w:World)(im:Nat->Prop)(μ:Mu)(hp:Hp):j3->Obj->Prop
 | .map l,x=>∃c a,x=.map c a/\qu w im μ hp l c.toList
 | .loop b d e,x=>∃r,x=.loop r/\r.params=b.ps/\r.assign=b.assign/\r.body=b.body/\r.tmps.size=b.n/\(∀p∈d,cr w im μ hp p.2 (r.tmps.getD p.1 qP))/\e.ok r
def mP (w:World)(im:Nat->Prop)(μ:Mu)(hp:Hp)(f:Pl):au->Prop
 | .box v=>∃b cells T,f=.at b/\w.heap[b]?=ar (.cells cells T (0,0))/\RepA w im μ hp v cells.toList
 | .arr T e _ z d=>(∃a,f=.nil a/\d=[])\/(z=a8/\∃b c cells,f=.row b c/\w.heap[b]?=ar (.cells cells T (0,0))/\d.length<=c/\c<=maxLen/\cells.size=c*e.size/\
   bO (bm w im e) (cells.toList.take (d.length*e.size)) d)\/
   z=bc/\∃b c g,f=.fz b c/\im b/\d.length<=c/\c<=maxLen/\dJ w b 0 g/\bO (bm w im e) g d
 | .rc r=>∃b x,f=.at b/\w.heap[b]?=ar x/\F0 w im μ hp r x
def fo :au->Pl->au->Pl->Prop
 | .box _,p,.box _,a=>a=p
 | .rc r,p,.rc g,a=>a=p/\g.isMap=r.isMap
 | .arr T e m _ h,p,i,a=>∃(d:Nat) (j:Bool) (f:List _),i=.arr T e d j f/\((d=m/\f.length=h.length/\(a=p\/∃b c,p=.row b c/\a=.fz b c))\/m<d)
 |_,_,_,_=>False
structure Ev (w:World)(im:Nat->Prop)(μ:Mu)(hp:Hp)(w':World)(cX:Nat->Prop)(ca:Mu)(cT:Hp):Prop where
 fim:∀b,im b->cX b
 fheap:∀b,im b->w'.heap[b]?=w.heap[b]?
 fob:∀o ob,hp o=ar ob->∃eU,cT o=ar eU/\fo ob (μ o) eU (ca o)
theorem fo.refl a p:fo a p a p:=by cases a with|box v=>exact rfl|rc r=>exact⟨rfl,rfl⟩|arr T e m z b=>exact⟨m,z,b,rfl,.inl ⟨rfl,rfl,.inl rfl⟩⟩
theorem fo.trans {a b c p q r}(h:fo a p b q)(d:fo b q c r):fo a p c r:=by
 cases a with
 |box v=>
  cases b with|arr _ _ _ _ _=>exact h.elim|rc _=>exact h.elim|box u=>cases c with|arr _ _ _ _ _=>exact d.elim|rc _=>exact d.elim|box x=>let f  :=h;let g  :=d;show r=p;rw[g,f]
 |rc v=>
  cases b with|arr _ _ _ _ _=>exact h.elim|box _=>exact h.elim|rc u=>cases c with|arr _ _ _ _ _=>exact d.elim|box _=>exact d.elim|rc x=>let ⟨f,g⟩:=h;let ⟨i,j⟩:=d;exact⟨i.trans f,j.trans g⟩
 |arr T e m z xs=>obtain⟨t,y,A,rfl,h⟩:=h;obtain⟨l,n,o,rfl,d⟩:=d;refine⟨l,n,o,rfl,?_⟩;grind
section
variable {w w':World}{im cX:Nat->Prop}{μ ca:Mu}{hp cT:Hp}
mutual
theorem RepA.ev (h:Ev w im μ hp w' cX ca cT):∀(a:AV) (g:List Value),RepA w im μ hp a g->RepA w' cX ca cT a g
  | .undef,_,c=>by simp only[RepA]at c
  | .d t x,g,c=>by simp only[RepA]at c⊢;exact c.mono h.fim h.fheap
  | .ip t x,g,c=>by simp only[RepA]at c⊢;obtain⟨b,J,e,Z,ds,hc,hd⟩:=c;exact⟨b,J,e,h.fim _ Z,ds,hc.mono (h.fheap _ Z),hd.mono h.fim h.fheap⟩
  | .op o p J,g,c=>by simp only[RepA]at c⊢;obtain⟨b,v,W,G,e⟩:=c;obtain⟨I,H,j⟩:=h.fob o _ G;cases I with|box v'=>exact⟨b,v',by rw[show ca o=μ o from j];exact W,H,e⟩|arr _ _ _ _ _=>exact j.elim|rc _=>exact j.elim
  | .os o n,g,c=>by
    simp only[RepA]at c⊢;obtain⟨T,e,m,z,xs,G,hn,v,L,y,hp⟩:=c;obtain⟨I,H,M,N,O,rfl,j⟩:=h.fob o _ G;refine⟨T,e,M,N,O,H,?_,v,L,y,λhy=>?_⟩
    · rcases j with ⟨A,_⟩|A<;>omega
    · rcases j with ⟨A,V,S|⟨b,q,B,U⟩⟩|A
      · rw[S,V];exact hp (by omega)
      · have:=hp (by omega)
        rw[B]at this;rw[U,V];exact this
      · omega
  | .oe o n i,g,c=>by
    simp only[RepA]at c⊢;obtain⟨T,e,m,z,xs,G,hn,v,L,y,hp⟩:=c;obtain⟨I,H,M,N,O,rfl,j⟩:=h.fob o _ G;refine⟨T,e,M,N,O,H,?_,v,L,y,λhy=>?_⟩
    · rcases j with ⟨A,_⟩|A<;>omega
    · rcases j with ⟨A,V,S|⟨b,q,B,U⟩⟩|A
      · rw[S];exact hp (by omega)
      · obtain⟨X,D,F,Y⟩:=hp (by omega)
        rw[B]at F;obtain⟨rfl,rfl⟩:b=X/\q=D:=by rcases F with F|F<;>cases F;exact⟨rfl,rfl⟩
        exact⟨b,q,.inr U,Y⟩
      · omega
  | .ow o n i l,g,c=>by
    simp only[RepA]at c⊢;obtain⟨T,e,m,z,xs,G,hn,v,L,y,hp⟩:=c;obtain⟨I,H,M,N,O,rfl,j⟩:=h.fob o _ G;refine⟨T,e,M,N,O,H,?_,v,L,y,λhy=>?_⟩
    · rcases j with ⟨A,_⟩|A<;>omega
    · rcases j with ⟨A,V,S|⟨b,q,B,U⟩⟩|A
      · rw[S];exact hp (by omega)
      · obtain⟨X,D,F,Y⟩:=hp (by omega)
        rw[B]at F;obtain⟨rfl,rfl⟩:b=X/\q=D:=by rcases F with F|F<;>cases F;exact⟨rfl,rfl⟩
        exact⟨b,q,.inr U,Y⟩
      · omega
  | .nils,g,c=>by simp only[RepA]at c⊢;exact c
  | .emp,g,c=>by simp only[RepA]at c⊢;exact c
  | .pr a b,g,c=>by simp only[RepA]at c⊢;obtain⟨c1,c2,e,y,B⟩:=c;exact⟨c1,c2,e,RepA.ev h a c1 y,RepA.ev h b c2 B⟩
  | .tup _,_,c=>by simp only[RepA]at c
  | .fn f first q,g,c=>by simp only[RepA]at c⊢;obtain⟨vs,us,e,y,B⟩:=c;exact⟨vs,us,e,RepFs.ev h first vs y,RepFs.ev h q us B⟩
  | .nilfn,g,c=>by simp only[RepA]at c⊢;exact c
  | .iface t v,g,c=>by simp only[RepA]at c⊢;obtain⟨u,e,y,B⟩:=c;exact⟨u,e,RepA.ev h v _ y,B⟩
  | .nilif,g,c=>by simp only[RepA]at c⊢;exact c
  | .nilp,g,c=>by simp only[RepA]at c⊢;exact c
  | .ref o,g,c=>by simp only[RepA]at c⊢;obtain⟨b,r,W,G,e⟩:=c;obtain⟨I,H,j⟩:=h.fob o _ G;cases I with|rc r'=>exact⟨b,r',by rw[show ca o=μ o from j.1];exact W,H,by rw[e];simp only[j3.val,j.2]⟩|arr _ _ _ _ _=>exact j.elim|box _=>exact j.elim
theorem RepFs.ev (h:Ev w im μ hp w' cX ca cT):∀(l:List AV) (c:List Value),RepFs w im μ hp l c->RepFs w' cX ca cT l c
  |[],c,b=>by simp only[RepFs]at b⊢;exact b
  |a::l,c,b=>by simp only[RepFs]at b⊢;obtain⟨v,d,e,f,g,i⟩:=b;exact⟨v,d,e,RepA.ev h a _ f,g,RepFs.ev h l d i⟩
end
theorem cr.ev (h:Ev w im μ hp w' cX ca cT){a v}(b:cr w im μ hp a v):cr w' cX ca cT a v:=by
 cases a<;>first
  |trivial
  |(let ⟨c,e,d⟩:=b;exact⟨c,e,RepFs.ev h _ _ d⟩)
  |exact⟨RepA.ev h _ _ b.1,b.2⟩
theorem RepA.one :∀(a) (e),RepA w im μ hp a e->∀v∈e,v.oneCell'=bc
 | .undef,_,c=>by simp only[RepA]at c
 | .d t x,e,c=>by simp only[RepA]at c;exact c.one
 | .ip t x,e,c=>by grind [RepA,og]
 | .op o p h,e,c=>by grind [RepA,og]
 | .os o n,e,c=>by grind [RepA]
 | .oe o n i,e,c=>by grind [RepA]
 | .ow o n i l,e,c=>by grind [RepA]
 | .nils,e,c=>by subst c;simp[og]
 | .emp,e,c=>by grind [RepA,og]
 | .pr a b,e,c=>by
  obtain⟨j,m,rfl,q,u⟩:=c;intro v g;rcases q7.1 g with g|g
  ·exact RepA.one a j q v g
  ·exact RepA.one b m u v g
 | .tup _,_,c=>by simp only[RepA]at c
 | .fn f _ y,e,c=>by grind [RepA,og]
 | .nilfn,e,c=>by subst c;simp[og]
 | .iface t v,e,c=>by grind [RepA,og]
 | .nilif,e,c=>by subst c;simp[og]
 | .nilp,e,c=>by subst c;simp[og]
 | .ref o,e,c=>by obtain⟨b,r,_,_,rfl⟩:=c;intro v g;simp only[List.mem_singleton]at g;subst g;unfold j3.val;cases r.isMap<;>rfl
theorem qu.ev (h:Ev w im μ hp w' cX ca cT):∀(l) (b),qu w im μ hp l b->qu w' cX ca cT l b
 |[],b,c=>c
 |(k,a)::l,b,c=>by let ⟨e,d,f,g,i,j,m⟩:=c;exact⟨e,d,f,g,RepA.ev h _ _ i,j,qu.ev h l d m⟩
theorem F0.ev (h:Ev w im μ hp w' cX ca cT){r x}(d:F0 w im μ hp r x):F0 w' cX ca cT r x:=by cases r with|map l=>let ⟨e,a,b,c⟩:=d;exact⟨e,_,b,qu.ev h _ _ c⟩|loop n o q=>let ⟨r,b,c,f,g,i,j,m⟩:=d;exact⟨r,b,c,f,g,i,λp hp=>cr.ev h (j p hp),m⟩
theorem mP.ev (h:Ev w im μ hp w' cX ca cT){f g}(i:mP w im μ hp f g)(j:∀b,f.blk=ar b->w'.heap[b]?=w.heap[b]?):mP w' cX ca cT f g:=by
 cases g with
 |box v=>obtain⟨b,cells,T,rfl,d,l⟩:=i;exact⟨b,_,T,rfl,(j b rfl).trans d,RepA.ev h _ _ l⟩
 |rc r=>obtain⟨b,x,rfl,d,l⟩:=i;exact⟨b,x,rfl,(j b rfl).trans d,F0.ev h l⟩
 |arr T e m z A=>
  rcases i with ⟨a,rfl,rfl⟩|⟨n,b,c,cells,rfl,d,o,p,q,t⟩|⟨n,b,c,y,rfl,u,o,p,q,t⟩
  ·exact .inl ⟨a,rfl,rfl⟩
  ·exact .inr (.inl ⟨n,b,c,_,rfl,(j b rfl).trans d,o,p,q,bO.mono (bm.mono h.fim h.fheap e) _ _ t⟩)
  ·exact .inr (.inr ⟨n,b,c,y,rfl,h.fim _ u,o,p,q.mono (h.fheap _ u),bO.mono (bm.mono h.fim h.fheap e) _ _ t⟩)
end
structure ASt where
 fr:Nat->AV
 hp:Hp
structure Ctx where
 W:World
 im:Nat->Prop
 own:Nat->Prop
 n:Nat
 defers:List Deferred
 Γ:Nat->Option AV
 h0:Hp
 μ0:Mu
 rd:Option Nat
 nm:Bool
def Zn (r:Nat):Deferred:={target:=.collected r,args:= #[]}
structure I4 (C:Ctx)(im:Nat->Prop)(μ:Mu)(w:World)(rs:List Nat):Prop where
 nodup:rs.Nodup
 none:C.nm=bc->rs=[]
 all:∀r∈rs,C.W.heap.size<=r/\r<w.heap.size/\¬im r/\(∀o,(μ o).blk≠ar r)/\w.heap[r]?=ar (.deferred (ar []))
structure Inv (C:Ctx)(im:Nat->Prop)(μ:Mu)(s:ASt)(a:Act)(w:World):Prop where
 os:w.os=C.W.os
 tape:w.tape=C.W.tape
 output:w.output=C.W.output
 grow:C.W.heap.size<=w.heap.size
 old:∀b,b<C.W.heap.size->¬C.own b->w.heap[b]?=C.W.heap[b]?
 imC:∀b,C.im b->im b
 imNew:∀b,im b->C.im b\/C.own b\/C.W.heap.size<=b
 imLt:∀b,im b->b<w.heap.size
 sep:∀o b,(μ o).blk=ar b->¬im b/\b<w.heap.size/\(C.own b\/C.W.heap.size<=b)
 inj:∀o o' b,(μ o).blk=ar b->(μ o').blk=ar b->o=o'
 dom:∀o,s.hp o=a6->μ o=.none
 obj:∀o ob,s.hp o=ar ob->mP w im μ s.hp (μ o) ob
 glob:∀g v,C.Γ g=ar v->cr w im μ s.hp v (.pointer (ar ⟨g,0,a6⟩))
 fr:∀x,cr w im μ s.hp (s.fr x) (a.tmps.getD x qP)
 size:a.tmps.size=C.n
 defers:∃rs,a.defers=rs.map Zn++C.defers/\I4 C im μ w rs
 pin:∀o ob,C.h0 o=ar ob->∃eU,s.hp o=ar eU/\fo ob (C.μ0 o) eU (μ o)
theorem I4.of_heap {C im μ w w' a}(h:I4 C im μ w a)(b:w'.heap=w.heap):I4 C im μ w' a:=
 ⟨h.nodup,h.none,λr c=>by rw[b];exact h.all r c⟩
def Rel C s a w  :=∃im μ,Inv C im μ s a w
def qB (f:Nat->AV)(d:Nat)(v:AV):Nat->AV:=λx=>bif dK x d then v else f x
def ASt.put (s:ASt)(d:Option Nat)(v:AV):ASt:=
 match d with|some d=>{s with fr:=qB s.fr d v}|none=>s
theorem wS f d v:qB f d v d=v:=by simp[qB]
theorem F3 f {d x} v (h:x≠d):qB f d v x=f x:=by
 let:dK x d=a8:=by grind [cb]
 simp[qB,this]
theorem Inv.step {C im cX μ ca s cT a w w'}(h:Inv C im μ s a w)
  (ev:Ev w im μ s.hp w' cX ca cT)
  (I:w'.os=w.os) (l:w'.tape=w.tape) (y:w'.output=w.output) (f:w.heap.size<=w'.heap.size)
  (i:∀b,b<w.heap.size->(∀o,(μ o).blk≠ar b)->w'.heap[b]?=w.heap[b]?)
  (c:∀b,cX b->im b\/(∃o,(μ o).blk=ar b)\/w.heap.size<=b) (m:∀b,cX b->b<w'.heap.size)
  (j:∀o b,(ca o).blk=ar b->¬cX b/\b<w'.heap.size/\((∃z,(μ z).blk=ar b)\/w.heap.size<=b))
  (A:∀o L b,(ca o).blk=ar b->(ca L).blk=ar b->o=L)
  (B:∀o,cT o=a6->ca o=.none)
  (D:∀o H,cT o=ar H->mP w' cX ca cT (ca o) H)
  dst (M:∀d,dst=ar d->d<C.n) av v (N:cr w' cX ca cT av v):
  Inv C cX ca ⟨(s.put dst av).fr,cT⟩ (a.put dst v) w':=by
 refine⟨I.trans h.os,l.trans h.tape,y.trans h.output,zv h.grow f,?_,λb u=>ev.fim b (h.imC b u),?_,m,?_,A,B,D,?_,?_,?_,?_,?_⟩
 ·intro b u F
  rw[i b (xd u h.grow) λo p=>?_,h.old b u F];rcases(h.sep o b p).2.2 with e|e
  all_goals grind
 ·intro b u
  rcases c b u with e|⟨o,e⟩|e
  ·exact h.imNew b e
  ·exact .inr (h.sep o b e).2.2
  ·exact .inr (.inr (zv h.grow e))
 ·intro o b p
  let ⟨e,q,t⟩:=j o b p;refine⟨e,q,?_⟩;rcases t with ⟨z,t⟩|t
  ·exact(h.sep z b t).2.2
  ·exact .inr (zv h.grow t)
 ·intro g O S;exact(h.glob g O S).ev ev
 ·intro x
  cases dst with
  |none=>exact(h.fr x).ev ev
  |some d=>
   by_cases J:x=d
   ·subst J
    let G:(s.put (ar x) av).fr x=av:=wS _ _ _;show cr w' cX ca cT _ _;rw[G];let T:x<a.tmps.size:=by rw[h.size];exact M x rfl
    simpa [Act.put,T] using N
   ·show cr w' cX ca cT (qB s.fr d av x) _
    rw[F3 _ _ J];let:(a.put (ar d) v).tmps.getD x qP=a.tmps.getD x qP:=by simp[Act.put,ke,TD (Ne.symm J)]
    rw[this];exact(h.fr x).ev ev
 ·cases dst<;>simp[Act.put,h.size]
 ·let ⟨U,e,q⟩:=h.defers
  refine⟨U,by cases dst<;>simp[Act.put,e],q.nodup,q.none,λr V=>?_⟩;let ⟨g1,g2,g3,g4,g5⟩:=q.all r V;refine⟨g1,xd g2 f,λW=>?_,λo p=>?_,(i r g2 g4).trans g5⟩
  ·rcases c r W with h|⟨o,h⟩|h
   ·exact g3 h
   ·exact g4 o h
   ·omega
  ·rcases(j o r p).2.2 with ⟨z,h⟩|h
   ·exact g4 z h
   ·omega
 ·intro o H p;let ⟨Z,e,q⟩:=h.pin o H p;let ⟨X,t,Y⟩:=ev.fob o _ e;exact⟨X,t,q.trans Y⟩
end Go.Vm
namespace Go.Vm
def mr :Value->AV
 | .int k n=>.d (.int k) n
 | .bool b=>.d .bool b
 | .string s=>.d .str s.data.toList
 | .float k b=>.d (.flt k) (aG k b)
 | .slice a6 0 0=>.nils
 | .pointer a6=>.nilp
 | .nilFunc=>.nilfn
 | .nilIface=>.nilif
 |_=>.undef
def ASt.ev (C:Ctx)(s:ASt):Operand->AV
 | .tmp t=>s.fr t
 | .const v=>mr v
 | .global g=>(C.Γ g).getD .undef
 | .func f=>.fn (.func f) [] []
theorem bp w im μ hp v:cr w im μ hp (mr v) v:=by
 unfold mr
 split<;>first
  |trivial
  |(refine⟨?_,rfl⟩;simp[RepA,bm,gI])
theorem Inv.ev {C im μ s a w}(h:Inv C im μ s a w) x:cr w im μ s.hp (s.ev C x) (a.eval x):=by
 cases x with
 |tmp t=>exact h.fr t
 |const v=>exact bp _ _ _ _ _
 |global g=>simp only[ASt.ev,Act.eval];cases b:C.Γ g with|none=>trivial|some v=>exact h.glob g v b
 |func f=>refine⟨?_,rfl⟩;simp only[RepA,ASt.ev,Act.eval,gI];grind [RepFs]
inductive AEx where
 |normal
 |exit (id:Nat)
 |ret
 |panic (t:TypeId) (n:Int)
def AEx.real :AEx->Exit
 | .normal=>.normal
 | .exit id=>.exit id
 | .ret=>.ret
 | .panic t n=>.panic [{v:=.iface t (.int .i64 n),recovered:=a8}]
def AEx.thn (N:ASt->Prop)(Q:AEx->ASt->Prop):AEx->ASt->Prop
 | .normal,s=>N s
 | .exit id,s=>Q (.exit id) s
 | .ret,s=>Q .ret s
 | .panic t n,s=>Q (.panic t n) s
def AEx.inBlk (id:Nat)(Q:AEx->ASt->Prop):AEx->ASt->Prop
 | .normal,s=>Q .normal s
 | .exit i,s=>bif dK i id then Q .normal s else Q (.exit i) s
 | .ret,s=>Q .ret s
 | .panic t n,s=>Q (.panic t n) s
def lft (C:Ctx)(Q:AEx->ASt->Prop):Exit->Act->World->Prop:=λe a w=>∃b s,e=b.real/\Q b s/\Rel C s a w
def fen (b:Option Nat)  :={Fence.wide with round:=b}
theorem tK a f:(fen a).fn f:=trivial
def AW (P:Program)(C:Ctx)(c:Code) Q s  :=∀a w,Rel C s a w->c.wpIn (fen C.rd) 0 P (lft C Q) a w
theorem zc {P e o w w' v}(h:(execOp e o).run P w=.ok (.value v) w'\/(execOp e o).run P w=.ok .skip w'):∀c,o.op≠.defer c:=by
 intro c g;let key:∀x a,(execOp e o).run P w=.ok x a->∃d,x=.defer d:=by intro x a b;simp only[execOp,g,hF,m0]at b;cases f:(resolve e c _).run P w with|ok d i=>rw[f]at b;cases b;exact⟨_,rfl⟩|halt h i=>rw[f]at b;simp[Result.andThen]at b
 grind
def Le C s b  :=∀a w,Rel C s a w->Rel C b a w
section
variable {P:Program}{C:Ctx}{Q:AEx->ASt->Prop}{s:ASt}
theorem Le.refl C s:Le C s s:=λ_ _ h=>h
theorem Le.trans {b c d}(h:Le C b c)(e:Le C c d):Le C b d:=λa w f=>e a w (h a w f)
theorem mG {c s'}(b:Le C s s')(h:AW P C c Q s'):AW P C c Q s:=λa w d=>h a w (b a w d)
theorem zK {c f}(h:AW P C c Q s)(g:∀e b,Q e b->f e b):AW P C c f s:=
 λa w i=>wpIn_mono (h a w i) λe o w' j=>by let ⟨l,b,m,d,n⟩:=j;exact⟨l,b,m,g _ _ d,n⟩
theorem ahF (h:Q .normal s):AW P C .skip Q s:=λ_ _ a=>wpIn_skip ⟨_,s,rfl,h,a⟩
theorem Zo {l}(h:Q .normal s):AW P C (.label l) Q s:=λ_ _ a=>wpIn_label ⟨_,s,rfl,h,a⟩
theorem arD (h:Q .ret s):AW P C .ret Q s:=λ_ _ a=>wpIn_ret ⟨.ret,s,rfl,h,a⟩
theorem ahG {id}(h:Q (.exit id) s):AW P C (.exit id) Q s:=λ_ _ a=>wpIn_exit ⟨_,s,rfl,h,a⟩
theorem arE {x y}(h:AW P C x (AEx.thn (λb=>AW P C y Q b) Q) s):AW P C (.seq x y) Q s:=λa w f=>
 wpIn_seq (wpIn_mono (h a w f) λe g w' i=>by obtain⟨j,b,rfl,c,d⟩:=i;cases j with|normal=>exact c g w' d|exit id=>exact⟨_,b,rfl,c,d⟩|ret=>exact⟨.ret,b,rfl,c,d⟩|panic t n=>exact⟨_,b,rfl,c,d⟩)
theorem Zp {id c}(h:AW P C c (AEx.inBlk id Q) s):AW P C (.block id c) Q s:=λa w j=>
 wpIn_block (wpIn_mono (h a w j) λe p w' l=>by
  obtain⟨m,d,rfl,b,f⟩:=l;cases m with
  |normal=>exact⟨_,d,rfl,b,f⟩
  |exit i=>
   simp only[AEx.real,Exit.inBlock];simp only[AEx.inBlk]at b;by_cases g:i=id
   ·subst g;simp only[if_true];simp at b;exact⟨_,d,rfl,b,f⟩
   ·rw[if_neg g]
    let:dK i id=a8:=by rw[←np];intro o;exact g (cb o)
    rw[this]at b;exact⟨_,d,rfl,b,f⟩
  |ret=>exact⟨.ret,d,rfl,b,f⟩
  |panic t n=>exact⟨_,d,rfl,b,f⟩)
theorem ahH {c x y}{b:Bool}(i:s.ev C c=.d .bool b)(j:b=bc->AW P C x Q s)(l:b=a8->AW P C y Q s):AW P C (.cond c x y) Q s:=by
 intro a w f;let g:=f;let ⟨im,μ,m⟩:=f;let e:=m.ev c;rw[i]at e;let h:a.eval c=.bool b:=by generalize a.eval c=v at e;let ⟨e,n⟩:=e;cases v<;>simp_all[RepA,bm,gI,bS,AV.isAgg,Ty.isAgg]
 cases b with|true=>exact wpIn_cond_true h (j rfl a w g)|false=>exact wpIn_cond_false h (l rfl a w g)
theorem pY {p:Nat->Prop}(h:∃n,p n):∃n,p n/\∀m,p m->n<=m:=by let ⟨n,a⟩:=h;induction n using Nat.strongRecOn with|_ n b=>grind
open Classical in
theorem I5 {F:Fence}{N:Nat}{c:Code}{Q:Exit->Act->World->Prop}(J:Nat->Act->World->Prop){n:Nat}{a:Act}{w:World}(o:J n a w)
  (d:∀n a w,J n a w->c.wpIn F N P (Exit.then (λi w'=>∃m,m<n/\J m i w') Q) a w):(Code.loop c).wpIn F N P Q a w:=by
 refine wpIn_loop (λa w=>∃n,J n a w) (λa w=>if h:∃n,J n a w then Classical.choose (pY h)else 0) ⟨n,o⟩ ?_
 intro a w f
 have g:=(Classical.choose_spec (pY f)).1
 refine wpIn_mono (d _ a w g) λe i w' j=>?_
 cases e with|normal=>obtain⟨m,p,l⟩:=j;have b:∃n,J n i w':=⟨m,l⟩;refine⟨b,?_⟩;simp only[dif_pos f,dif_pos b];exact Nat.lt_of_le_of_lt ((Classical.choose_spec (pY b)).2 _ l) p|_=>exact j
theorem ahI {c}(J:Nat->ASt->Prop){n}(o:J n s)
  (b:∀n s,J n s->AW P C c (AEx.thn (λd=>∃m f,m<n/\Le C d f/\J m f) Q) s):AW P C (.loop c) Q s:=by
 intro a w i
 refine I5 (λn a w=>∃s,J n s/\Rel C s a w) ⟨s,o,i⟩ ?_
 rintro n a w ⟨s,p,i⟩
 refine wpIn_mono (b n s p a w i) λe x w' q=>?_
 obtain⟨u,d,rfl,g,h⟩:=q
 cases u with|normal=>let ⟨m,f,v,j,l⟩:=g;exact⟨m,v,f,l,j _ _ h⟩|exit id=>exact⟨_,d,rfl,g,h⟩|ret=>exact⟨.ret,d,rfl,g,h⟩|panic t n=>exact⟨_,d,rfl,g,h⟩
end
structure Eff where
 dst:Option Nat
 val:AV
 rd:List Nat
 wr:List (Nat×au)
def aT (hp:Hp)(a:List (Nat×au)):Hp:=λo=>match a.find? (λp=>dK p.1 o)with|some p=>ar p.2|none=>hp o
def Eff.app (e:Eff)(s:ASt):ASt:=⟨(s.put e.dst e.val).fr,aT s.hp e.wr⟩
def mQ (P:Program)(C:Ctx)(ops:Array Oper)(i:Nat)(s:ASt)(e:Eff)  :=
 ∀o,ops[i]?=ar o->(∀d,o.dst=ar d->d<C.n)->e.dst=o.dst/\
 ∀b,(∀x∈o.looksAt ops,b.fr x=s.fr x)->(∀k,(k∈e.rd\/k∈e.wr.map (·.1))->b.hp k=s.hp k)->
 ∀a w,Rel C b a w->∀(K) (Q),(∀c w',Rel C (e.app b) c w'->K c w')->wpOpIn (fen C.rd) 0 P ops Q i K a w
def fp (ops:Array Oper) n  :=ops.toList.all λo=>match o.dst with|some d=>h8 d n|none=>bc
theorem db {ops n}(h:fp ops n=bc){i:Nat}{o}(a:ops[i]?=ar o):∀d,o.dst=ar d->d<n:=by intro d c;let b  :=ahm.2 (Array.mem_of_getElem? a);have:=gv.1 h o b;simp_all
section
variable {P:Program}{C:Ctx}{Q:AEx->ASt->Prop}{s:ASt}{ops:Array Oper}{K:ASt->Prop}
def Ng P C ops Q i s K  :=
 ∀a w,Rel C s a w->wpOpsIn (fen C.rd) 0 P ops (lft C (AEx.thn K Q)) (List.range' i (ops.size-i)) a w
theorem Zq (h:K s):Ng P C ops Q ops.size s K:=by intro a w b;simp only[M7,List.range'_zero,wpOpsIn];exact⟨.normal,s,rfl,h,b⟩
theorem Ed {i e}(c:i<ops.size)(d:fp ops C.n=bc)(h:mQ P C ops i s e)(f:Ng P C ops Q (i+1) (e.app s) K):Ng P C ops Q i s K:=by intro a w g;let b  :=WT c;let ⟨_,h⟩:=h _ b (db d b);rw[(by omega:ops.size-i=ops.size-(i+1)+1),List.range'_succ,wpOpsIn_cons];exact h s (λ_ _=>rfl) (λ_ _=>rfl) a w g _ _ λj w' l=>f j w' l
theorem TI {id}(h:Ng P C ops Q 0 s λb=>Q .normal b):AW P C (.region id ops a8) Q s:=by
 intro a w c;refine wpIn_region ?_;let:=h a w c;rw[Nat.sub_zero,←List.range_eq_range']at this
 let e:lft C (AEx.thn _ Q)=lft C Q:=by
  funext e a w;simp only[lft,eq_iff_iff];constructor
  ·rintro⟨d,b,f,g,c⟩;exact⟨d,b,f,by cases d<;>exact g,c⟩
  ·rintro⟨d,b,f,g,c⟩;exact⟨d,b,f,by cases d<;>exact g,c⟩
 rwa[e]at this
def dN (s:ASt):List Eff->(Nat->Bool)->Nat->ASt
 |[],_,_=>s
 |e::a,L,i=>dN (bif L i then e.app s else s) a L (i+1)
def qR (P:Program)(C:Ctx)(ops:Array Oper):Nat->ASt->List Eff->Prop
 |_,_,[]=>True
 |i,s,e::a=>mQ P C ops i s e/\qR P C ops (i+1) (e.app s) a
def gj (s:ASt):List Eff->ASt
 |[]=>s
 |e::a=>gj (e.app s) a
theorem Eff.app_fr_ne {e:Eff}{s x}(h:e.dst≠ar x):(e.app s).fr x=s.fr x:=by let ⟨dst,val,b,c⟩:=e;cases dst with|none=>rfl|some d=>exact F3 _ _ λa=>h (by rw[a])
theorem Eff.app_fr_eq {e:Eff}{s x}(h:e.dst=ar x):(e.app s).fr x=e.val:=by let ⟨dst,val,a,b⟩:=e;subst h;exact wS _ _ _
theorem ig {hp}{a:List (Nat×au)}{o}(h:o∉a.map (·.1)):aT hp a o=hp o:=by
 unfold aT;let:a.find? (λp=>dK p.1 o)=a6:=by grind [cb]
 rw[this]
theorem jN {hp cT}{a:List (Nat×au)}{o}(h:o∈a.map (·.1)):aT hp a o=aT cT a o:=by unfold aT;cases b:a.find? _ with|some p=>rfl|none=>grind [ye]
theorem jt {x L d}:∀(a) (s b) (i),s.fr x=b.fr x->(∀j e,a[j]?=ar e->e.dst=ar x->L (i+j)=d (i+j))->
  (dN s a L i).fr x=(dN b a d i).fr x
 |[],_,_,_,h,_=>h
 |e::a,s,b,i,h,f=>by
  refine jt a _ _ _ ?_ λj g l c=>by let:=f (j+1) g (by simpa using l) c;rwa[(by omega:i+(j+1)=i+1+j)]at this
  by_cases c:e.dst=ar x
  ·let m:=f 0 e (by simp) c;grind [Eff.app_fr_eq]
  grind [Eff.app_fr_ne]
theorem ju {k}{L c:Nat->Bool}:∀(a:List Eff) (s d:ASt) (i),s.hp k=d.hp k->(∀j e,a[j]?=ar e->k∈e.wr.map (·.1)->L (i+j)=c (i+j))->
  (dN s a L i).hp k=(dN d a c i).hp k
 |[],_,_,_,h,_=>h
 |e::a,s,d,i,h,f=>by
  refine ju a _ _ _ ?_ (λj l m b=>by let:=f (j+1) l (by simpa using m) b;rwa[(by omega:i+(j+1)=i+1+j)]at this);by_cases b:k∈e.wr.map (·.1)
  ·let g:=f 0 e (by simp) b;simp only[y8]at g;rw[g];cases c i with|true=>exact jN b|false=>simpa using h
  ·let n:∀s:ASt,(e.app s).hp k=s.hp k:=λs=>ig b
   grind
theorem qS :∀(a) (s) (L) (i),(∀j,j<a.length->L (i+j)=bc)->dN s a L i=gj s a
 |[],_,_,_,_=>rfl
 |e::a,s,L,i,h=>by let b:=h 0 (by simp);simp only[y8]at b;simp only[dN,gj,b,ai];exact qS a _ L _ λj c=>by let:=h (j+1) (by simp;omega);rwa[(by omega:i+(j+1)=i+1+j)]at this
theorem jb :∀(a) (s) (L) (i),(∀j,j<a.length->L (i+j)=a8)->dN s a L i=s
 |[],_,_,_,_=>rfl
 |e::a,s,L,i,h=>by let b:=h 0 (by simp);simp only[y8]at b;simp only[dN,b,al];exact jb a _ L _ λj c=>by let:=h (j+1) (by simp;omega);rwa[(by omega:i+(j+1)=i+1+j)]at this
theorem qR.get :∀(a) (s) (i j) (e),qR P C ops i s a->a[j]?=ar e->mQ P C ops (i+j) (dN s a (λk=>h8 k (i+j)) i) e
 |e0::a,s,i,0,e,h,b=>by
  simp only[o3,wR]at b;subst b;let:dN s (e0::a) (λk=>h8 k (i+0)) i=s:=jb _ _ _ _ λj _=>by rw[←np];intro c;let:=gx c;omega
  rw[this];exact h.1
 |e0::a,s,i,j+1,e,h,b=>by
  let d:=qR.get a _ _ j e h.2 (by simpa using b);rw[(by omega:i+1+j=i+(j+1))]at d
  let:dN s (e0::a) (λk=>h8 k (i+(j+1))) i=dN (e0.app s) a (λk=>h8 k (i+(j+1))) (i+1):=by
   let c:h8 i (i+(j+1))=bc:=by simp[h8]
   simp only[dN,c,ai]
  rw[this];exact d
 |[],_,_,_,_,_,b=>by simp at b
def F4 (ops:Array Oper)(c a:Oper)(e b:Eff)  :=
 (match c.dst with|some d=>!((a.looksAt ops).any (dK d))&&(match a.dst with|some f=>!(dK d f)|none=>bc)|none=>bc)&&
 (match a.dst with|some d=>!((c.looksAt ops).any (dK d))|none=>bc)&&
 e.wr.all (λp=>!(b.rd.any (dK p.1))&& !(b.wr.any λq=>dK p.1 q.1))&&
 b.wr.all (λp=>!(e.rd.any (dK p.1)))
def uR (o:Oper)(b:List Nat)  :=o.after.foldl (λa e=>if F2 .any e then a|||(2 ^ e.on|||b.getD e.on 0)else a) 0
def iz (ops:Array Oper)(b:List Eff)(a:List Nat)  :=
 dK b.length ops.size&&dK a.length ops.size&&
 (List.range ops.size).all λj=>
  match ops[j]? with
  |none=>bc
  |some o=>
   (dK (a.getD j 0|||uR o a) (uR o a))&&(o.after.toList.all λe=>!Region.binds .any e||h8 e.on j)&&
   (List.range j).all λi=>(a.getD j 0).testBit i||(match ops[i]?,b[i]?,b[j]? with|some c,ar d,ar f=>F4 ops c o d f|_,_,_=>bc)
end
end Go.Vm
namespace Go.Vm
def zd (L:Nat->Bool):Nat->Nat
 |0=>0
 |n+1=>zd L n+bif L n then 0 else 1
theorem Ee {L}:∀{n},zd L n=0->∀j,j<n->L j=bc
 |n+1,h,j,b=>by
  simp only[zd]at h;let a:L n=bc:=by grind
  rw[a]at h;simp only[ai,y8]at h;by_cases e:j=n
  ·grind
  ·exact Ee (by omega) j<|by omega
theorem AG {L a}:∀n,(∀j,j<n->a j=L j)->zd a n=zd L n
 |0,_=>rfl
 |n+1,h=>by simp only[zd];rw[AG n λj b=>h j<|by omega,h n<|by omega]
theorem I6 {L L' i}(a:L i=a8)(b:L' i=bc)(h:∀j,j≠i->L' j=L j):∀n,i<n->zd L' n+1=zd L n
 |n+1,c=>by
  simp only[zd];by_cases e:i=n
  ·grind [AG]
  ·rw[h n<|Ne.symm e]
   let:=I6 a b h n<|by omega
   omega
theorem AH (b:List Nat) i:∀(l:List Edge) (a),
  (l.foldl (λa e=>if F2 .any e then a|||(2 ^ e.on|||b.getD e.on 0)else a) a).testBit i=bc->
  a.testBit i=bc\/∃e∈l,F2 .any e=bc/\(i=e.on\/(b.getD e.on 0).testBit i=bc)
 |[],a,h=>.inl h
 |e::l,a,h=>by
  rcases AH b i l _ h with h|⟨c,d,f⟩
  all_goals grind
theorem Ef {o a i}(h:(uR o a).testBit i=bc):∃e∈o.after.toList,F2 .any e=bc/\(i=e.on\/(a.getD e.on 0).testBit i=bc):=by
 unfold uR at h;rw[←Array.foldl_toList]at h;rcases AH a i _ _ h with h|h
 ·simp at h
 ·exact h
section
variable {P:Program}{C:Ctx}{ops:Array Oper}
structure aCi (ops:Array Oper)(es:List Eff)(cl:List Nat):Prop where
 len:es.length=ops.size
 clo:∀j o,ops[j]?=ar o->∀i,(cl.getD j 0).testBit i=bc->(uR o cl).testBit i=bc
 edge:∀j o,ops[j]?=ar o->∀e∈o.after.toList,F2 .any e=bc->e.on<j
 pair:∀i j oi oj ei ej,i<j->ops[i]?=ar oi->ops[j]?=ar oj->es[i]?=ar ei->es[j]?=ar ej->(cl.getD j 0).testBit i=bc\/F4 ops oi oj ei ej=bc
theorem I7 {g l}(h:iz ops g l=bc):aCi ops g l:=by
 unfold iz at h;simp only[aX,gv,v8]at h;let ⟨⟨p,_⟩,m⟩:=h;refine⟨cb p,?_,?_,?_⟩
 ·grind [cb]
 ·intro j o n e q t;let c  :=(om.1 n).1;let:=m j c;simp only[n,aX]at this;let a:=gv.1 this.1.2 e q;simp only[t,Bool.not_true,Bool.false_or]at a;exact gx<|by simpa [h8] using a
 ·intro i j x y z A d u b f v;let c  :=(om.1 b).1;let:=m j c;simp only[b,aX,gv,v8]at this;let a:=this.2 i d;simp only[u,f,v,Bool.or_eq_true]at a;exact a
def aCj (ops:Array Oper)(L:Nat->Bool)  :=∀j o,ops[j]?=ar o->L j=bc->∀e∈o.after.toList,F2 .any e=bc->L e.on=bc
theorem I8 {g c}(d:aCi ops g c){L}(h:aCj ops L):
  ∀j o,ops[j]?=ar o->L j=bc->∀i,(c.getD j 0).testBit i=bc->L i=bc:=by
 intro j
 induction j using Nat.strongRecOn with
 |_ j p=>
  intro o b l i m;let ⟨e,f,a,q⟩:=Ef<|d.clo j o b i m
  let t:=d.edge j o b e f a;let n:=h j o b l e f a;grind
theorem j5 {d}{l:List Nat}(h:d∈l):l.any (dK d)=bc:=tr.2 ⟨d,h,ye d⟩
theorem kN {a b e c}(h:F4 ops a b e c=bc):
  (∀d,a.dst=ar d->d∉b.looksAt ops)/\(∀d,a.dst=ar d->b.dst≠ar d)/\(∀d,b.dst=ar d->d∉a.looksAt ops)/\
  (∀k,k∈e.wr.map (·.1)->k∉c.rd/\k∉c.wr.map (·.1))/\(∀k,k∈c.wr.map (·.1)->k∉e.rd):=by
 unfold F4 at h
 refine⟨?_,?_,?_,?_,?_⟩
 ·intro d f g;simp_all[j5]
 ·grind [ye]
 ·grind [T2,j5]
 ·grind [j5,dK,tr,ye]
 grind [gv,T2,j5]
theorem Eg {x L}:∀(a) (s) (i j) (e),a[j]?=ar e->e.dst=ar x->L (i+j)=bc->
  (∀d b,j<d->a[d]?=ar b->b.dst=ar x->L (i+d)=a8)->(dN s a L i).fr x=e.val
 |e0::a,s,i,0,e,c,l,m,f=>by
  simp only[o3,wR]at c;subst c;simp only[dN,ai]
  let:(dN _ a L _).fr x=(dN (e0.app s) a (λ_=>a8) _).fr x:=
   jt a _ _ _ rfl λj b g h=>by let:=f (j+1) b (by omega) (by simpa using g) h;rwa[(by omega:i+(j+1)=i+1+j)]at this
  simp_all[jb,Eff.app_fr_eq]
 |e0::a,s,i,j+1,e,c,l,m,f=>by
  refine Eg a _ _ j e (by simpa using c) l (by rwa[(by omega:i+1+j=i+(j+1))]) λd b n g h=>?_
  let:=f (d+1) b (by omega) (by simpa using g) h;grind
 |[],_,_,_,_,c,_,_,_=>by simp at c
theorem yg {k}{L:Nat->Bool}{hp0}:∀(a:List Eff) (s) (i j) (e:Eff),a[j]?=ar e->k∈e.wr.map (·.1)->L (i+j)=bc->
  (∀d b,j<d->a[d]?=ar b->k∈b.wr.map (·.1)->L (i+d)=a8)->(dN s a L i).hp k=aT hp0 e.wr k
 |e0::a,s,i,0,e,c,f,g,h=>by
  simp only[o3,wR]at c;subst c;simp only[y8]at g;simp only[dN,g,ai]
  let:(dN _ a L _).hp k=(dN (e0.app s) a (λ_=>a8) _).hp k:=
   ju a _ _ _ rfl<|λj b l m=>by let:=h (j+1) b (by omega) (by simpa using l) m;rwa[(by omega:i+(j+1)=i+1+j)]at this
  rw[this,jb _ _ _ _<|λ_ _=>rfl];exact jN f
 |e0::a,s,i,j+1,e,c,f,g,h=>by
  refine yg a _ _ j e (by simpa using c) f (by rwa[(by omega:i+1+j=i+(j+1))])<|λd b n l m=>?_
  let:=h (d+1) b (by omega) (by simpa using l) m;grind
 |[],_,_,_,_,c,_,_,_=>by simp at c
def I9 P C (ops:Array Oper) (d:List Nat) (g:Exit->Act->World->Prop) s0 (c:List Eff)  :=
 ∀(i) (o:Oper) (e:Eff),ops[i]?=ar o->c[i]?=ar e->e.dst=o.dst/\
 ∀b,(∀x∈o.looksAt ops,b.fr x=(dN s0 c (λk=>h8 k i) 0).fr x)->(∀k,(k∈e.rd\/k∈e.wr.map (·.1))->b.hp k=(dN s0 c (λk=>h8 k i) 0).hp k)->
 ((∀j,j<i->(d.getD i 0).testBit j=bc)->(∀j,i<j->j<ops.size->(d.getD j 0).testBit i=bc)->b=dN s0 c (λk=>h8 k i) 0)->
 ∀a w,Rel C b a w->∀K,(∀f w',Rel C (e.app b) f w'->K f w')->wpOpIn (fen C.rd) 0 P ops g i K a w
theorem ASt.ext' {s t:ASt}(a:∀x,s.fr x=t.fr x)(b:∀k,s.hp k=t.hp k):s=t:=by have e1:=funext a;have e2:=funext b;cases s with|mk f1 c=>simp_all
theorem Ja {s0 c cl Qr}(tJ:I9 P C ops cl Qr s0 c)(hck:iz ops c cl=bc)
  (hQ:∀a w,Rel C (gj s0 c) a w->Qr .normal a w):
  ∀(y) (b) (a) (w),b.size=ops.size->aCj ops (λj=>b.getD j a8)->zd (λj=>b.getD j a8) ops.size<=y->
   Rel C (dN s0 c (λj=>b.getD j a8) 0) a w->wpAnyIn (fen C.rd) 0 P .any ops Qr y b a w:=by
 let z:=I7 hck
 let X  :=λj o e ho J=>(tJ j o e ho J).1
 let f:∀j:Nat,j<ops.size->ops[j]?=ar ops[j]!:=by grind
 let p:∀(b:Array Bool) a w,b.size=ops.size->(∀j,j<ops.size->b.getD j _=bc)->Rel C (dN s0 c (λj=>b.getD j a8) 0) a w->Qr .normal a w:=by intro b a w _ B Y;rw[qS c s0 _ 0 (λj U=>by rw[hM];exact B j (by rw[←z.len];exact U))]at Y;exact hQ a w Y
 let N:∀(b:Array Bool),b.size=ops.size->adx .any ops b=[]->∀j,j<ops.size->b.getD j _=bc:=by
  intro b kF Y j;induction j using Nat.strongRecOn with
  |_ j ih=>
   intro U;cases hl:b.getD j a8 with
   |true=>rfl
   |false=>
    exfalso
    let hmem:j∈adx .any ops _:=by
     unfold adx;rw[List.mem_filter];refine⟨v8.2 U,?_⟩;let hj'  :=by omega
     let Z:b.getD j bc=a8:=by grind
     rw[Z,f j U];simp only[Bool.not_false,gb,ahb,YU];rw[ahC];intro e J;cases g:F2 .any e with|false=>rfl|true=>let dA:=z.edge j _ (f j U) e (ahm.2 J) g;grind
    grind
 intro y
 induction y with
 |zero=>
  intro b a w kF hd hcnt Y;let B:=Ee (Nat.le_zero.1 hcnt);refine⟨?_,p _ a w kF B Y⟩;unfold adx;rw[List.filter_eq_nil_iff];intro i I;let I:=v8.1 I;let Z:=B i I;let gh:i<b.size:=by omega
  let h2:b.getD i bc=bc:=by simp only[ke,WT gh,YU]at Z⊢;exact Z
  simp[h2]
 |succ y ih=>
  intro b a w kF hd hcnt Y;refine⟨λhnil=>p _ a w kF (N _ kF hnil) Y,?_⟩;intro i I;unfold adx at I;rw[List.mem_filter]at I;let ⟨I,IK⟩:=I;let I:=v8.1 I;let gh:i<b.size:=by omega
  let V:=f i I;rw[V]at IK;simp only[ahb,YU,aX,T2]at IK;let ⟨YL,hpre⟩:=IK;let W:b.getD i a8=a8:=by simp only[ke,WT gh,YU]at YL⊢;exact YL
  let O:∀e∈(ops[i]!).after.toList,F2 .any e=bc->b.getD e.on _=bc:=by intro e J g;let:=ahC.1 hpre e (ahm.1 J);simpa [g] using this
  let hie:i<c.length:=by rw[z.len];exact I
  let q  :=List.getElem?_eq_getElem hie;let ⟨hde,hrun⟩:=tJ i _ c[i] V q;let D:=I8 z hd
  let preI:∀j,(cl.getD i 0).testBit j=bc->b.getD j _=bc:=by
   intro j U;let ⟨e,J,g,hje⟩:=Ef (z.clo i _ V j U);let hle:=O e J g;let dA:=z.edge i _ V e J g;rcases hje with rfl|hje
   ·exact hle
   ·exact D e.on _ (f e.on (by omega)) hle j hje
  let t:∀j,i<j->j<ops.size->(cl.getD j 0).testBit i=bc->b.getD j _=a8:=by intro j _ F g;cases hl:b.getD j _ with|false=>rfl|true=>let:=D j _ (f j F) hl i g;rw[W]at this;cases this
  let same:∀(j:Nat) (u:Eff),c[j]?=ar u->(∀d,¬(j<i/\F4 ops _ _ u c[i]=bc/\d=bc)->¬(i<j/\F4 ops _ _ c[i] u=bc/\d=bc)->d=bc->b.getD j _=h8 j i):=by
   intro j u l d Z h2 hdt;let F:j<ops.size:=by rw[←z.len];exact(hT.1 l).1
   rcases ak0 j i with dA|heq|YM
   ·let S:h8 j i=bc:=sc dA
    rw[S];rcases z.pair j i _ _ _ _ dA (f j F) V l q with h|h
    ·exact preI j h
    ·exact(Z ⟨dA,h,hdt⟩).elim
   ·subst heq;rw[W];symm;rw[←np];intro g;let:=gx g;omega
   ·let S:h8 j i=a8:=by rw[←np];intro g;let:=gx g;omega
    rw[S];rcases z.pair i j _ _ _ _ YM V (f j F) q l with h|h
    ·exact t j YM F h
    ·exact(h2 ⟨YM,h,hdt⟩).elim
  refine hrun _ ?_ ?_ ?_ a w Y _ ?_
  ·intro x hx
   refine jt c s0 s0 0 rfl (λj u l v=>?_);let F:j<ops.size:=by rw[←z.len];exact(hT.1 l).1
   let G:(ops[j]!).dst=ar x:=by rw[←X j _ _ (f j F) l];exact v
   rw[hM];refine same j u l bc (λ⟨_,m,_⟩=>?_) (λ⟨_,m,_⟩=>?_) rfl
   ·exact(kN m).1 x G hx
   ·exact(kN m).2.2.1 x G hx
  ·intro k A
   refine ju c s0 s0 0 rfl (λj u l hkj=>?_);rw[hM];refine same j u l bc (λ⟨_,m,_⟩=>?_) (λ⟨_,m,_⟩=>?_) rfl
   ·let:=(kN m).2.2.2.1 k hkj
    rcases A with A|A
    ·exact this.1 A
    ·exact this.2 A
   ·rcases A with A|A
    ·exact(kN m).2.2.2.2 k hkj A
    ·exact((kN m).2.2.2.1 k A).2 hkj
  ·intro g hbs
   let e1:∀(j:Nat) (u:Eff),c[j]?=ar u->b.getD j _=h8 j i:=by
    intro j u l;let U:j<ops.size:=by rw[←z.len];exact(hT.1 l).1
    rcases Nat.lt_or_ge j i with h|h
    ·rw[show h8 j i=bc from sc h];exact preI j (g j h)
    ·let S:h8 j i=a8:=by rw[←np];intro g;let:=gx g;omega
     rw[S];rcases Nat.eq_or_lt_of_le h with rfl|h
     ·exact W
     ·exact t j h U (hbs j h U)
   refine ASt.ext' (λx=>?_) (λk=>?_)
   ·exact jt c s0 s0 0 rfl (λj u l _=>by rw[hM];exact e1 j u l)
   ·exact ju c s0 s0 0 rfl (λj u l _=>by rw[hM];exact e1 j u l)
  ·intro a' w' qt
   let hL':∀j,(b.setIfInBounds i bc).getD j a8=bif dK j i then bc else b.getD j a8:=by
    intro j;by_cases M:j=i
    ·subst M;simp[ke,gh]
    ·let g:dK j i=a8:=by rw[←np];intro g;exact M (cb g)
     simp[g,ke,TD (Ne.symm M)]
   let H:(b.setIfInBounds i bc).getD i _=bc:=by rw[hL',ye];rfl
   let n:∀j,j≠i->(b.setIfInBounds i bc).getD j _=b.getD j _:=by
    intro j M;let g:dK j i=a8:=by rw[←np];intro g;exact M (cb g)
    rw[hL',g];rfl
   refine ih (b.setIfInBounds i bc) a' w' (by simpa using kF) ?_ ?_ ?_
   ·intro j o ho hlj e J g
    show (b.setIfInBounds i bc).getD e.on a8=bc;by_cases M:j=i
    ·subst M;obtain rfl  :=hY (ho.symm.trans V);let dA:=z.edge j _ ho e J g;rw[n e.on (by omega)];exact O e J g
    ·let hlj':b.getD j a8=bc:=by rw[←n j M];exact hlj
     let:=hd j o ho hlj' e J g;by_cases hei':e.on=i
     ·rw[hei'];exact H
     ·rw[n _ hei'];exact this
   ·let:=I6 (L:=λj=>b.getD j a8) (L':=λj=>(b.setIfInBounds i bc).getD j a8) W H n ops.size I;omega
   ·let heq:(c[i]).app (dN s0 c (λj=>b.getD j a8) 0)=dN s0 c (λj=>(b.setIfInBounds i bc).getD j a8) 0:=by
     let wO:∀x,((c[i]).app (dN s0 c (λj=>b.getD j a8) 0)).fr x=(dN s0 c (λj=>(b.setIfInBounds i bc).getD j a8) 0).fr x:=by
      intro x;by_cases hx:(c[i]).dst=ar x
      ·rw[Eff.app_fr_eq hx]
       symm;refine Eg c s0 0 i c[i] q hx (by rw[hM];exact H) (λj u T l v=>?_);let F:j<ops.size:=by rw[←z.len];exact(hT.1 l).1
       rw[hM];show (b.setIfInBounds i bc).getD j a8=a8;rw[n j (by omega)];rcases z.pair i j _ _ _ _ T V (f j F) q l with h|h
       ·exact t j T F h
       ·let hx':(ops[i]!).dst=ar x:=by rw[←hde];exact hx
        let G:(ops[j]!).dst=ar x:=by rw[←X j _ _ (f j F) l];exact v
        exact((kN h).2.1 x hx' G).elim
      ·rw[Eff.app_fr_ne hx]
       refine jt c s0 s0 0 rfl (λj u l v=>?_);rw[hM]
       let M:j≠i:=by
        rintro rfl
        rw[q]at l;obtain rfl:=hY l;exact hx v
       exact(n j M).symm
     let jY:∀k,((c[i]).app (dN s0 c (λj=>b.getD j a8) 0)).hp k=(dN s0 c (λj=>(b.setIfInBounds i bc).getD j a8) 0).hp k:=by
      intro k;by_cases A:k∈(c[i]).wr.map (·.1)
      ·symm
       refine yg (hp0:=(dN s0 c (λj=>b.getD j a8) 0).hp) c s0 0 i c[i] q A (by rw[hM];exact H) (λj u T l v=>?_);let F:j<ops.size:=by rw[←z.len];exact(hT.1 l).1
       rw[hM];show (b.setIfInBounds i bc).getD j a8=a8;rw[n j (by omega)];rcases z.pair i j _ _ _ _ T V (f j F) q l with h|h
       ·exact t j T F h
       ·exact(((kN h).2.2.2.1 k A).2 v).elim
      ·show aT _ _ k=_
       rw[ig A];refine ju c s0 s0 0 rfl (λj u l v=>?_);rw[hM]
       let M:j≠i:=by
        rintro rfl
        rw[q]at l;obtain rfl:=hY l;exact A v
       exact(n j M).symm
     let e1:=funext wO
     let e2:=funext jY
     cases Z:(c[i]).app (dN s0 c (λj=>b.getD j a8) 0)with
     |mk f1 p1=>cases h2:dN s0 c (λj=>(b.setIfInBounds i bc).getD j a8) 0 with|mk f2 p2=>rw[Z,h2]at e1 e2;simp only at e1 e2;rw[e1,e2]
    rw[←heq];exact qt
theorem Jb {s0 a d f}(b:qR P C ops 0 s0 a)(g:fp ops C.n=bc):I9 P C ops d f s0 a:=by
 intro i o e c j;let h:=qR.get a s0 0 i e b j;rw[hM]at h;let ⟨l,m⟩:=h o c<|db g c
 grind
def Eff.bad (d:Option Nat):Eff:=⟨d,.undef,[],[(0,.box .undef)]⟩
def arF P C ops b m s  :=∀a w,Rel C s a w->∀K,wpOpIn (fen C.rd) 0 P ops b m K a w
def Eff.bad2 (d:Option Nat):Eff:=⟨d,.undef,[0],[]⟩
theorem Zr {s a w}(c:s.hp 0=ar (.box .undef))(h:Rel C s a w):False:=by let ⟨im,μ,d⟩:=h;let:=d.obj 0 _ c;let ⟨b,_,T,_,_,h⟩:=this;simp only[RepA]at h
theorem qT :∀(a b) (s) (L) (i),dN s (a++b) L i=dN (dN s a L i) b L (i+a.length)
 |[],_,_,_,_=>rfl
 |e::a,b,s,L,i=>by simp only[Ar,dN];rw[qT,bs,(by omega:i+1+a.length=i+(a.length+1))]
theorem Eh :∀(a:List _) (s) (L) (i),(dN s (a.map Eff.bad2) L i).hp 0=s.hp 0
 |[],_,_,_=>rfl
 |d::a,s,L,i=>by simp only[ox,dN];rw[Eh];cases L i<;>rfl
theorem Zs {a d}{b:List _}{s L}(c:L a.length=bc):(dN s (a++Eff.bad d::b.map Eff.bad2) L 0).hp 0=ar (.box .undef):=by rw[qT,hM];simp only[dN,c,ai];rw[Eh];rfl
theorem TJ {s0}{b:List Eff}{q:List Nat}{y:Exit->Act->World->Prop}{t}{m:List Oper}(u:qR P C ops 0 s0 b)(B:fp ops C.n=bc)(D:ops[b.length]?=ar t)(v:ops.toList.drop (b.length+1)=m)
  (c:∀j,j<b.length->(q.getD b.length 0).testBit j=bc) (d:∀j,b.length<j->j<ops.size->(q.getD j 0).testBit b.length=bc) (F:arF P C ops y b.length<|gj s0 b):I9 P C ops q y s0 (b++Eff.bad t.dst::(m.map (·.dst)).map Eff.bad2):=by
 let O:∀i j:Nat,i<=j->h8 j i=a8:=λi j h=>by rw[←np];intro g;let:=gx g;omega
 let cut:∀(i:Nat),i<=b.length->dN s0 (b++Eff.bad t.dst::(m.map (·.dst)).map Eff.bad2) (λk=>h8 k i) 0=dN s0 b (λk=>h8 k i) 0:=by grind [qT,jb]
 intro i o e p f
 rcases ak0 i _ with h|h|h
 ·rw[WX h]at f;let z:=qR.get b s0 0 i e u f;rw[hM]at z;let ⟨G,H⟩:=z o p (db B p);refine⟨G,λx A g _ a w l K I=>?_⟩;rw[cut i (by omega)]at A g;exact H x A g a w l K _ I
 ·subst h
  obtain rfl  :=hY (p.symm.trans D);rw[uN (ep _),M7,o3]at f;obtain rfl  :=hY f
  let e1  :=
   (cut _ (ep _)).trans (qS b s0 _ 0 (λj J=>by rw[hM];exact sc J))
  refine⟨rfl,λx _ _ M a w l K _=>?_⟩;rw[M c d,e1]at l;exact F a w l K
 ·rw[uN (by omega),(by omega:i-b.length=(i-b.length-1)+1),QB,yp,yp]at f
  let N:m[i-b.length-1]?=ar o:=by rw[←v,Qf,(by omega:b.length+1+(i-b.length-1)=i)];simpa using p
  rw[N]at f;obtain rfl  :=hY f;refine⟨rfl,λx _ g _ a w l _ _=>?_⟩;let:=g 0 (.inl (by simp[Eff.bad2]));rw[Zs (L:=λk=>h8 k i) (sc h)]at this;exact(Zr this l).elim
theorem Qh {q s a w}(c:s.hp q=ar (.box .undef))(h:Rel C s a w):False:=by let ⟨im,μ,d⟩:=h;let:=d.obj q _ c;let ⟨b,_,T,_,_,h⟩:=this;simp only[RepA]at h
def DJ (q:Nat)(a:List Nat)(d:Option Nat):Eff:=⟨d,.undef,a,[(q,.box .undef)]⟩
def TK (q:Nat)(d:Option Nat):Eff:=⟨d,.undef,[q],[]⟩
def Jc :Option Nat->List Nat
 |some d=>[d]
 |none=>[]
inductive mR (P:Program)(C:Ctx)(ops:Array Oper)(cl:List Nat)(m q:Nat):Nat->ASt->List Nat->List Eff->Prop
 |nil {i:Nat} {s:ASt} {dy:List Nat}:mR P C ops cl m q i s dy []
 |beh {i:Nat} {s:ASt} {dy:List Nat} {es:List Eff} {o:Oper}:ops[i]?=ar o->mR P C ops cl m q (i+1) s (Jc o.dst++dy) es->mR P C ops cl m q i s dy (TK q o.dst::es)
 |free {i:Nat} {s:ASt} {dy:List Nat} {e:Eff} {es:List Eff} {o:Oper}:ops[i]?=ar o->(∀x∈o.looksAt ops,x∉dy)->(∀k,(k∈e.rd\/k∈e.wr.map (·.1))->k≠q)->mQ P C ops i s e->mR P C ops cl m q (i+1) (e.app s) dy es->mR P C ops cl m q i s dy (e::es)
theorem arG {i j}(h:i<=j):h8 j i=a8:=by rw[←np];intro a;let:=gx a;omega
theorem ahJ {i j}(h:j<i):h8 j i=bc:=sc h
theorem Nh {I:List Nat}{m q}(J:fp ops C.n=bc){i s}{v:List Nat}{g:List Eff}(h:mR P C ops I m q i s v g):∀(T:ASt) (j) (e:Eff) (o),
  (∀x,x∉v->T.fr x=s.fr x)->(∀k,k≠q->T.hp k=s.hp k)->T.hp q=ar (.box .undef)->g[j]?=ar e->ops[i+j]?=ar o->e.dst=o.dst/\
  ∀l:ASt,(∀x∈o.looksAt ops,l.fr x=(dN T g (λk=>h8 k (i+j)) i).fr x)->(∀k,(k∈e.rd\/k∈e.wr.map (·.1))->l.hp k=(dN T g (λk=>h8 k (i+j)) i).hp k)->
  ∀a w,Rel C l a w->∀(K) (Q),(∀G w',Rel C (e.app l) G w'->K G w')->wpOpIn (fen C.rd) 0 P ops Q (i+j) K a w:=by
 induction h with
 |nil=>intro T j e o _ _ _ c;simp at c
 | @beh i s v g A d _ B=>
  intro T j e o y z D c p;cases j with
  |zero=>simp only[o3,wR]at c;subst c;grind [hY,jb,TK,h8,arG,Qh]
  |succ j=>
   simp only[dN,ahJ ((by omega:i<i+(j+1))),ai];rw[(by omega:i+(j+1)=i+1+j)]at p⊢;refine B _ j e o ?_ ?_ ?_ (by simpa using c) p
   ·intro x f
    let b  :=λL=>by let M:A.dst=ar x:=L;rw[M]at f;exact f (by simp[Jc])
    rw[Eff.app_fr_ne b];exact y x (λN=>f (q7.2 (.inr N)))
   ·intro k t;exact z k t
   ·exact D
 | @free i s v e0 g A d F u O _ B=>
  intro T j e o y z D c p;cases j with
  |zero=>simp only[o3,wR]at c;subst c;obtain rfl  :=hY (d.symm.trans p);let ⟨g1,g2⟩:=O A d (db J d);refine⟨g1,λl b H a w S K Q U=>?_⟩;rw[jb _ T (λk=>h8 k _) i (λk _=>arG (by omega))]at b H;exact g2 l (λx f=>(b x f).trans (y x (F x f))) (λk t=>(H k t).trans (z k (u k t))) a w S K Q U
  |succ j=>
   simp only[dN,ahJ ((by omega:i<i+(j+1))),ai];rw[(by omega:i+(j+1)=i+1+j)]at p⊢;refine B _ j e o ?_ ?_ ?_ (by simpa using c) p
   ·intro x f
    by_cases b:e0.dst=ar x
    ·rw[Eff.app_fr_eq b,Eff.app_fr_eq b]
    ·rw[Eff.app_fr_ne b,Eff.app_fr_ne b];exact y x f
   ·intro k t
    show aT _ _ k=aT _ _ k;by_cases b:k∈e0.wr.map (·.1)
    ·exact jN b
    ·rw[ig b,ig b];exact z k t
   ·show aT _ _ q=_;rw[ig (λb=>u q (.inr b) rfl)];exact D
theorem Ni {d m q i s c a}(h:mR P C ops d m q i s c a):∀(T),T.hp q=ar (.box .undef)->(gj T a).hp q=ar (.box .undef):=by
 induction h with
 |nil=>exact λ_ h=>h
 |beh _ _ b=>exact λT h=>b _ h
 | @free i s c e0 a j e f g l _ b=>intro T h;refine b _ ?_;show aT _ _ q=_;grind [ig]
def arH P C ops c m (d:Oper) (e:List Nat) (s:ASt)  :=
 ∀b,(∀x∈d.looksAt ops,b.fr x=s.fr x)->(∀k∈e,b.hp k=s.hp k)->∀a w,Rel C b a w->∀K,wpOpIn (fen C.rd) 0 P ops c m K a w
theorem tt :∀(a b) (s),gj s (a++b)=gj (gj s a) b
 |[],_,_=>rfl
 |e::a,b,s=>tt a b _
theorem Qi {q a d s}:((DJ q a d).app s).hp q=ar (.box .undef):=by show aT s.hp [(q,.box .undef)] q=_;simp[aT,te]
theorem Nj {s0 b v B D f q m}(y:qR P C ops 0 s0 b)(F:fp ops C.n=bc)(J:ops[b.length]?=ar f)
  (L:mR P C ops B b.length q (b.length+1) (gj s0 b) (Jc f.dst) v) (M:arH P C ops D b.length f m<|gj s0 b):I9 P C ops B D s0 (b++DJ q m f.dst::v):=by
 let cut:∀(i:Nat),i<=b.length->dN s0 (b++DJ q m f.dst::v) (λk=>h8 k i) 0=dN s0 b (λk=>h8 k i) 0:=by grind [qT,jb,arG]
 let l:∀(i:Nat),b.length<=i->dN s0 b (λk=>h8 k i) 0=gj s0 b:=λi T=>
  qS b s0 _ 0 λj U=>by rw[hM];exact ahJ<|by omega
 intro i o e p g
 rcases ak0 i _ with h|h|h
 ·rw[WX h]at g
  let G:=qR.get b s0 0 i e y g;rw[hM]at G;let ⟨z,V⟩:=G o p<|db F p
  refine⟨z,λt c d _ a w u K H=>?_⟩;rw[cut i<|by omega]at c d;grind
 ·subst h
  obtain rfl  :=hY<|p.symm.trans J
  rw[uN<|ep _,M7,o3]at g;obtain rfl  :=hY g;refine⟨rfl,λt c d _ a w u K _=>?_⟩;rw[cut _<|ep _,l _<|ep _]at c d;exact M t c (λk A=>d k<| .inl A) a w u K
 ·obtain⟨j,rfl⟩:∃j,i=b.length+1+j:=⟨i-(b.length+1),by omega⟩
  rw[uN<|by omega,(by omega:b.length+1+j-b.length=j+1),QB]at g;let I:=Nh F L ((DJ q m f.dst).app<|gj s0 b) j e o ?_ ?_ Qi g p
  ·refine⟨I.1,λt c d _ a w u K H=>?_⟩;rw[qT,l _<|by omega]at c d;simp only[dN,hM,ahJ<|by omega,ai]at c d;exact I.2 t c d a w u K _ H
  ·intro x N;exact Eff.app_fr_ne λO=>N<|by let S:f.dst=ar x:=O;rw[S];simp[Jc]
  ·intro k A;exact ig λz=>A<|by simpa [DJ] using z
end
theorem Rel.world {C s a w w'}(h:Rel C s a w)(c:w'.heap=w.heap)(l:w'.os=w.os)(e:w'.tape=w.tape)(f:w'.output=w.output):Rel C s a w':=by
 let ⟨im,μ,d⟩:=h;let i:∀b:Nat,w'.heap[b]?=w.heap[b]?:=λb=>by rw[c]
 let ev:Ev w im μ s.hp w' im μ s.hp:=⟨λ_ h=>h,λb _=>i b,λo m j=>⟨m,j,fo.refl _ _⟩⟩
 exact⟨im,μ,l.trans d.os,e.trans d.tape,f.trans d.output,by rw[c];exact d.grow,λb n p=>(i b).trans<|d.old b n p,d.imC,d.imNew,λb i=>by rw[c];exact d.imLt b i,
  λo b j=>by rw[c];exact d.sep o b j,d.inj,d.dom,λo m j=>(d.obj o m j).ev ev λb _=>i b,λg v q=>(d.glob g v q).ev ev,λx=>(d.fr x).ev ev,d.size,by let ⟨t,n,p⟩:=d.defers;exact⟨t,n,p.of_heap c⟩,d.pin⟩
section
variable {P:Program}{C:Ctx}{Q:AEx->ASt->Prop}{s s0:ASt}{ops:Array Oper}{K:ASt->Prop}
def Eff.key (e:Eff):Eff:=⟨e.dst,.undef,e.rd,e.wr.map λp=>(p.1,.box .undef)⟩
theorem Zt ops a b c d:F4 ops a b c.key d.key=F4 ops a b c d:=by grind [F4,Eff.key,List.all_map,List.any_map]
theorem mS ops a b:iz ops (a.map Eff.key) b=iz ops a b:=by unfold iz;simp only[List.length_map,yp];congr 1;congr 1;funext j;cases ops[j]? with|none=>rfl|some o=>simp only;congr 1;congr 1;funext i;cases ops[i]?<;>cases a[i]?<;>cases a[j]?<;>simp[Zt]
def aIe P C (Q:AEx->ASt->Prop) (ops:Array Oper) (d:List Nat) i (b:List Eff) s (K:ASt->Prop)  :=
 ∃a,qR P C ops i s a/\((iz ops (b++a) d=bc/\K (gj s a))\/
  (∃c,ops[i+a.length]?=ar c/\(∀j,i+a.length<j->j<ops.size->(d.getD j 0).testBit (i+a.length)=bc)/\b.length=i/\(∀j,j<i+a.length->(d.getD (i+a.length) 0).testBit j=bc)/\
   iz ops (b++a++Eff.bad c.dst::((ops.toList.drop<|i+a.length+1).map (·.dst)).map Eff.bad2) d=bc/\arF P C ops (lft C Q) (i+a.length) (gj s a))\/
  ∃c q e f,ops[i+a.length]?=ar c/\b.length=i/\mR P C ops d (i+a.length) q (i+a.length+1) (gj s a) (Jc c.dst) f/\iz ops (b++a++DJ q e c.dst::f) d=bc/\
   ((∀o g,C.h0 o=ar g->∃h,(gj s a).hp o=ar h)->arH P C ops (lft C Q) (i+a.length) c e (gj s a)))
def yh P C Q ops b i (c:List Eff) s K  :=
 ∀a,a.map Eff.key=c.reverse->aIe P C Q ops b i a s K
theorem AI {f i g e s K}(h:mQ P C ops i s e)(j:yh P C Q ops f (i+1) (e.key::g) (e.app s) K):yh P C Q ops f i g s K:=by
 intro a hp;let ⟨b,l,c⟩:=j (a++[e])<|by simp[hp]
 refine⟨e::b,⟨h,l⟩,?_⟩;let e1:i+1+b.length=i+(e::b).length:=by simp only[bs];omega
 rcases c with ⟨c,m⟩|⟨d,g1,g2,g3,g4,g5,g6⟩|⟨d,q,n,o,g1,g2,g3,g4,g5⟩
 ·exact .inl ⟨by simpa using c,m⟩
 ·rw[e1]at g1 g2 g4 g5 g6;exact .inr<| .inl ⟨d,g1,g2,by simpa using g3,g4,by simpa using g5,g6⟩
 ·rw[e1]at g1 g3 g5;exact .inr<| .inr ⟨d,q,n,o,g1,by simpa using g2,g3,by simpa using g4,g5⟩
theorem TL {a i b s K} ls (c:b=ls) (d:iz ops ls.reverse a=bc) (h:K s):yh P C Q ops a i b s K:=
 λe hp=>⟨[],trivial,.inl ⟨by rw[eT,←mS,hp,c];exact d,h⟩⟩
theorem TM {d:List Nat}{i}{c:List Eff}{s}{K:ASt->Prop}{f:Oper}(g:ops[i]?=ar f)(a:∀j,i<j->j<ops.size->(d.getD j 0).testBit i=bc)(n:c.length=i)(b:∀j,j<i->(d.getD i 0).testBit j=bc)
  (l:iz ops (c.reverse++Eff.bad f.dst::((ops.toList.drop<|i+1).map (·.dst)).map Eff.bad2) d=bc) (h:arF P C ops (lft C Q) i s):yh P C Q ops d i c s K:=by
 intro m hp
 refine⟨[],trivial,.inr<| .inl ⟨f,g,a,?_,b,?_,h⟩⟩
 ·let:=congrArg List.length hp;grind
 ·rw[eT,←mS]
  let e:c.reverse.map Eff.key=c.reverse:=by rw[←hp,List.map_map];simp[Function.comp,Eff.key]
  rw[←mS]at l;grind
theorem Qj (e:Eff):e.key.key=e.key:=by unfold Eff.key;simp
theorem Nk {d i a s K b q f c}(g:ops[i]?=ar b)(t:a.length=i)(j:mR P C ops d i q (i+1) s (Jc b.dst) c)
  (l:iz ops (a.reverse++DJ q f b.dst::c.map Eff.key) d=bc) (h:(∀o m,C.h0 o=ar m->∃n,s.hp o=ar n)->arH P C ops (lft C Q) i b f s):yh P C Q ops d i a s K:=by
 intro p hp
 refine⟨[],trivial,.inr<| .inr ⟨b,q,f,c,g,?_,j,?_,h⟩⟩
 ·let:=congrArg List.length hp;grind
 ·rw[eT,←mS]
  let e:a.reverse.map Eff.key=a.reverse:=by rw[←hp,List.map_map];simp[Qj]
  let e2:(c.map Eff.key).map Eff.key=c.map Eff.key:=by simp[Qj]
  rw[←mS]at l;grind
theorem TN {e:Eff}{s o}(h:∃a,s.hp o=ar a):∃a,(e.app s).hp o=ar a:=by show∃a,aT s.hp e.wr o=ar a;grind [aT]
theorem uS {o}:∀(a) (s),(∃b,s.hp o=ar b)->∃b,(gj s a).hp o=ar b
 |[],_,h=>h
 |_::a,_,h=>uS a _<|TN h
theorem ze {id s} cl (m:P.follows .mixedOrders=bc) (d:fp ops C.n=bc) (p:yh P C Q ops cl 0 [] s λt=>Q .normal t):AW P C (.region id ops bc) Q s:=by
 let ⟨i,c,h⟩:=p [] rfl;intro a w b;refine wpIn_region_any m ?_
 let fin:∀(e:List Eff),iz ops e cl=bc->I9 P C ops cl _ s e->(∀a w,Rel C _ a w->lft C Q .normal a w)->∀w',Rel C s a w'->wpAnyIn _ 0 P .any ops _ _ (WE ops.size a8) a w':=by
  intro e f u v w' x;refine Ja u f v ops.size _ a _ (by simp) ?_ ?_ ?_
  ·intro j o _ y;simp only[ke,YK]at y;grind
  ·let:∀n,zd (λj=>(WE ops.size a8).getD j a8) n=n:=by
    intro n
    induction n with
    |zero=>rfl
    |succ n G=>
     let:(WE ops.size _).getD n _=a8:=by simp only[ke,YK];split<;>rfl
     grind [zd]
   grind
  ·rw[jb _ _ _ _ λj _=>by simp only[ke,YK];split<;>rfl];exact x
 rcases h with ⟨z,A⟩|⟨B,g1,g2,_,g4,g5,g6⟩|⟨B,q,H,I,g1,_,g3,g4,g5⟩
 ·exact fin i (by simpa using z) (Jb c d) (λa w b=>⟨_,_,rfl,A,b⟩) _<|b.world rfl rfl rfl rfl
 ·simp only[hM]at g1 g2 g4 g6
  refine fin _ (by simpa using g5) (TJ c d g1 rfl g4 g2 g6) (λa w b=>?_) _<|b.world rfl rfl rfl rfl
  refine(Zr ?_ b).elim;rw[←qS _ s (λ_=>bc) 0 λ_ _=>rfl];exact Zs rfl
 ·simp only[hM]at g1 g3 g5
  let hp:∀o g,C.h0 o=ar g->∃l,(gj s i).hp o=ar l:=λo g D=>by let ⟨im,μ,F⟩:=b;let ⟨l,c,_⟩:=F.pin o g D;simp_all[uS]
  refine fin _ (by simpa using g4) (Nj c d g1 g3<|g5 hp) (λa w b=>?_) _<|b.world rfl rfl rfl rfl
  refine(Qh (q:=q) ?_ b).elim;rw[tt];exact Ni g3 _ Qi
end
end Go.Vm
namespace Go.Vm
section
variable {P:Program}{C:Ctx}
def cG P C (o:Oper) (e:Eff) (s:ASt)  :=
 ∀b:ASt,(∀x∈o.op.operands.toList,b.ev C x=s.ev C x)->(∀k,(k∈e.rd\/k∈e.wr.map (·.1))->b.hp k=s.hp k)->
 ∀im μ a w,Inv C im μ b a w->(∀d,o.dst=ar d->d<C.n)->
  ∃v w' cX ca,((execOp a.eval o).run P w=.ok (.value v) w'\/(v=qP/\(execOp a.eval o).run P w=.ok .skip w'))/\Inv C cX ca (e.app b) (a.put o.dst v) w'
theorem nZ {o}(h:o.guard=a6) y:w0 o y=bc:=by simp[w0,h]
theorem DK {ops}{o:Oper}{t}(h:.tmp t∈o.op.operands.toList):t∈o.looksAt ops:=by unfold Oper.looksAt;grind
theorem AJ {ops}{o:Oper}{s a:ASt}(h:∀x∈o.looksAt ops,a.fr x=s.fr x):∀x∈o.op.operands.toList,a.ev C x=s.ev C x:=by intro x b;cases x with|tmp t=>exact h t<|DK b|_=>rfl
def OpW P C (o:Oper) (e:Eff) (s:ASt)  :=
 ∀b:ASt,(∀x∈o.op.operands.toList,b.ev C x=s.ev C x)->(∀k,(k∈e.rd\/k∈e.wr.map (·.1))->b.hp k=s.hp k)->
 ∀a w,Rel C b a w->(∀d,o.dst=ar d->d<C.n)->∀(K) (Q),(∀c w',Rel C (e.app b) c w'->K c w')->o.wpIn (fen C.rd) 0 P a w K Q
theorem cG.w {o e s}(h:cG P C o e s):OpW P C o e s:=by
 intro g i j a w l m K Q c;let ⟨im,μ,hi⟩:=l;let ⟨v,w',cX,ca,b,d⟩:=h g i j im μ a w hi m;refine⟨λf _=>tK _ f,?_⟩;rw[Oper.semAt_eq _ _ _<|zc<|b.imp id (·.2)];rcases b with b|⟨rfl,b⟩
 ·rw[b];exact c _ _ ⟨cX,ca,d⟩
 ·rw[b];exact c _ _ ⟨cX,ca,d⟩
theorem Nl {ops i o e s}(b:ops[i]?=ar o)(c:o.guard=a6)(d:e.dst=o.dst)(h:OpW P C o e s):mQ P C ops i s e:=by
 intro q f g;obtain rfl  :=hY<|b.symm.trans f
 refine⟨d,λj l m a w n K Q p=>?_⟩;unfold wpOpIn;simp only[b,nZ c,if_true];exact h j (AJ l) m a w n g K Q p
theorem tL {ops:Array Oper}{j g:Nat}{b a s w}{im:Nat->Prop}{μ}(i:(ops[j]?).bind (·.dst)=ar g)(f:g<C.n)(h:s.fr g=.d .bool b)(e:Inv C im μ s a w):
  yielded ops a.tmps j=ar b:=by
 let c:=e.fr g
 rw[h]at c
 let l:g<a.tmps.size:=by rw[e.size];exact f
 have:a.tmps.getD g qP=.bool b:=by generalize a.tmps.getD g _=v at c;let ⟨m,o⟩:=c;cases v<;>simp_all[RepA,bm,gI,bS,AV.isAgg,Ty.isAgg]
 unfold yielded
 simp_all
theorem qU {ops:Array Oper}{o:Oper}{j a}{g:Nat}(b:o.guard=ar (j,a))(c:(ops[j]?).bind (·.dst)=ar g):g∈o.looksAt ops:=by unfold Oper.looksAt;grind
theorem ahK {ops:Array Oper}{i j g:Nat}{b o}{e:Eff}{s}(c:ops[i]?=ar o)(f:o.guard=ar (j,b))(l:(ops[j]?).bind (·.dst)=ar g)(q:g<C.n)
  (t:s.fr g=.d .bool b) (u:e.dst=o.dst) (h:OpW P C o e s):mQ P C ops i s e:=by
 intro G v x
 obtain rfl  :=hY<|c.symm.trans v
 refine⟨u,λy m z a w A K Q B=>?_⟩
 let ⟨im,μ,p⟩:=A
 let D:=tL l q ((m g<|qU f l).trans t) p
 let F:w0 o (yielded ops a.tmps)=bc:=by simp[w0,f,D]
 unfold wpOpIn
 simp only[c,F,if_true]
 exact h y (AJ m) z a w ⟨im,μ,p⟩ x K Q B
theorem Inv.put {im μ s a w w'}(e:Inv C im μ s a w)(c:w'.heap=w.heap)(i:w'.os=w.os)(f:w'.tape=w.tape)(g:w'.output=w.output)
  {dst} (q:∀d,dst=ar d->d<C.n) {j v} (t:cr w im μ s.hp j v):Inv C im μ ⟨(s.put dst j).fr,s.hp⟩ (a.put dst v) w':=by
 let l:∀b:Nat,w'.heap[b]?=w.heap[b]?:=λb=>by rw[c]
 let ev:Ev w im μ s.hp w' im μ s.hp:=⟨λ_ h=>h,λb _=>l b,λo m p=>⟨m,p,fo.refl _ _⟩⟩
 exact e.step ev i f g (by rw[c];exact ep _) (λb _ _=>l b) (λb h=>.inl h) λb h=>by rw[c];exact e.imLt b h
  (λo b h=>⟨(e.sep o b h).1,by rw[c];exact(e.sep o b h).2.1,.inl ⟨o,h⟩⟩) e.inj e.dom (λo m p=>(e.obj o m p).ev ev λb _=>l b) dst q j v<|t.ev ev
theorem Jd {w im μ hp}:cr w im μ hp (.tup []) qP:=⟨[],rfl,by simp[RepFs]⟩
theorem Zu {ops:Array Oper}{i j g:Nat}{b o s}(c:ops[i]?=ar o)(e:o.guard=ar (j,b))(h:(ops[j]?).bind (·.dst)=ar g)(m:g<C.n)
  (p:s.fr g=.d .bool (!b)):mQ P C ops i s ⟨o.dst,.tup [],[],[]⟩:=by
 intro A q t
 obtain rfl  :=hY<|c.symm.trans q
 refine⟨rfl,λB u D a w v K Q x=>?_⟩
 let ⟨im,μ,l⟩:=v
 let y:=tL h m ((u g<|qU e h).trans p) l
 let z:w0 o (yielded ops a.tmps)=a8:=by simp[w0,e,y]
 unfold wpOpIn
 simp only[c,z,WQ,if_false]
 refine⟨λf _=>tK _ f,x _ _ ⟨im,μ,?_⟩⟩
 exact l.put rfl rfl rfl rfl t Jd
theorem TO {ops:Array Oper}{i j g:Nat}{b o s}(d:ops[i]?=ar o)(e:o.guard=ar (j,b))(m:(ops[j]?).bind (·.dst)=ar g)(h:g<C.n)
  (p:s.fr g=.tup []):mQ P C ops i s ⟨o.dst,.tup [],[],[]⟩:=by
 intro A q t
 obtain rfl  :=hY<|d.symm.trans q
 refine⟨rfl,λB u D a w v K Q x=>?_⟩
 let ⟨im,μ,l⟩:=v
 let c:=l.fr g
 rw[(u g<|qU e m).trans p]at c
 let ⟨F,c,G⟩:=c
 let y:yielded ops a.tmps j=a6:=by unfold yielded;rw[ke]at c;grind
 let z:w0 o (yielded ops a.tmps)=a8:=by simp[w0,e,y]
 unfold wpOpIn
 simp only[d,z,WQ,if_false]
 refine⟨λf _=>tK _ f,x _ _ ⟨im,μ,?_⟩⟩
 exact l.put rfl rfl rfl rfl t Jd
theorem gm {o s c} rd
  (h:∀(w:World) (im:Nat->Prop) (μ:Mu) (hp:Hp) (d:Operand->Value),(∀x∈o.op.operands.toList,cr w im μ hp (s.ev C x)<|d x)->
   (∀k,k∈rd->hp k=s.hp k)->(∀k e,hp k=ar e->mP w im μ hp (μ k) e)->
   ∃v w',(execOp d o).run P w=.ok (.value v) w'/\w'.heap=w.heap/\w'.os=w.os/\w'.tape=w.tape/\w'.output=w.output/\cr w im μ hp c v):
  cG P C o ⟨o.dst,c,rd,[]⟩ s:=by
 intro u f g im μ a w hi i
 let ⟨v,w',b,j,l,m,n,p⟩:=h w im μ _ a.eval (λx q=>by rw[←f x q];exact hi.ev x) (λk t=>g k<| .inl t) hi.obj
 exact⟨v,w',im,μ,.inl b,hi.put j l m n i p⟩
theorem bJ {o s b}
  (h:∀(w:World) (im:Nat->Prop) (μ:Mu) (hp:Hp) (a:Operand->Value),(∀x∈o.op.operands.toList,cr w im μ hp (s.ev C x)<|a x)->
   ∃v,(execOp a o).run P w=.ok (.value v) w/\cr w im μ hp b v):
  cG P C o ⟨o.dst,b,[],[]⟩ s:=
 gm [] λw im μ hp a c _ _=>by let ⟨v,d,e⟩:=h w im μ hp a c;grind
def Nn :AV->Option Value
 | .d (.int k) n=>ar (.int k n)
 | .d .bool b=>ar (.bool b)
 | .d .str s=>ar (.string ⟨s.toArray⟩)
 | .nilif=>ar .nilIface
 | .nilp=>ar (.pointer a6)
 | .nilfn=>ar .nilFunc
 | .nils=>ar (.slice a6 0 0)
 |_=>a6
theorem cB {w im μ hp a u v}(h:Nn a=ar u)(b:cr w im μ hp a v):v=u:=by
 unfold Nn at h
 split at h<;>first
  |(let ⟨c,d⟩:=b;cases v<;>simp_all[RepA,bm,gI,bS,AV.isAgg,Ty.isAgg])
  |cases h
theorem mu {v a}(h:mr v=a) w im μ hp:cr w im μ hp a v:=h▸bp w im μ hp v
variable {s:ASt}{dst:Option Tmp}{ty:TypeId}{pos:String}{dD:Array Edge}{gd:Option (Nat×Bool)}
theorem ahL {x a}(b:s.ev C x=a):cG P C ⟨dst,.move x,ty,pos,dD,gd⟩ ⟨dst,a,[],[]⟩ s:=
 bJ λw im μ hp c h=>⟨c x,rfl,b▸h x<|by simp[cx]⟩
theorem TP {x a}(b:s.ev C x=a):cG P C ⟨dst,.assign x,ty,pos,dD,gd⟩ ⟨dst,a,[],[]⟩ s:=
 bJ λw im μ hp c h=>⟨c x,rfl,b▸h x<|by simp[cx]⟩
theorem kO {a b f x y c d r e}(g:Nn (s.ev C x)=ar c)(i:Nn (s.ev C y)=ar d)
  (j:(do eqGuard a b x y c d;binOp a b c d)=(pure r:Sem _)) (l:mr r=e):
  cG P C ⟨dst,.binOp a b x y f,ty,pos,dD,gd⟩ ⟨dst,e,[],[]⟩ s:=
 bJ λw im μ hp m h=>by
  let e1:=cB g<|h x<|by simp[cx]
  let e2:=cB i<|h y<|by simp[cx]
  refine⟨r,?_,mu l _ _ _ _⟩;simp only[execOp,e1,e2,j];rfl
theorem arI {k c e x y}{a b:Int}(f:s.ev C x=.d (.int k) a)(g:s.ev C y=.d (.int k) b)(i:b≠0):
  cG P C ⟨dst,.binOp .quo c x y e,ty,pos,dD,gd⟩ ⟨dst,.d (.int k)<|k.wrap<|a.tdiv b,[],[]⟩ s:=
 bJ λw im μ hp j h=>by
  let e1:=cB (by rw[f];rfl)<|h x<|by simp[cx]
  let e2:=cB (by rw[g];rfl)<|h y<|by simp[cx]
  refine⟨_,?_,bp _ _ _ _<| .int k _⟩;simp only[execOp,e1,e2];simp[eqGuard,binOp,Op.intDiv,i]
theorem arJ {k c e x y}{a b:Int}(f:s.ev C x=.d (.int k) a)(g:s.ev C y=.d (.int k) b)(i:b≠0):
  cG P C ⟨dst,.binOp .rem c x y e,ty,pos,dD,gd⟩ ⟨dst,.d (.int k)<|a.tmod b,[],[]⟩ s:=
 bJ λw im μ hp j h=>by
  let e1:=cB (by rw[f];rfl)<|h x<|by simp[cx]
  let e2:=cB (by rw[g];rfl)<|h y<|by simp[cx]
  refine⟨_,?_,bp _ _ _ _<| .int k _⟩;simp only[execOp,e1,e2];simp[eqGuard,binOp,Op.intDiv,i]
theorem Je {c:BinOp}{k g}{i j:TypeId}{x y}{a b:Int}{r:Value}{f:AV}(l:s.ev C x=.d (.int k) a)(m:s.ev C y=.d (.int g) b)(q:0<=b)
  (n:c=.shl\/c=.shr) (o:r=match c with| .shl=>.int k (k.wrap<|a*2 ^ (min b.toNat k.bits))|_=>.int k<|a.fdiv<|2 ^ (min b.toNat k.bits)) (p:mr r=f):
  cG P C ⟨dst,.binOp c i x y j,ty,pos,dD,gd⟩ ⟨dst,f,[],[]⟩ s:=
 bJ λw im μ hp t h=>by
  let e1:=cB (by rw[l];rfl)<|h x<|by simp[cx]
  let e2:=cB (by rw[m];rfl)<|h y<|by simp[cx]
  refine⟨r,?_,mu p _ _ _ _⟩;let e:¬b<0:=by omega
  simp only[execOp,e1,e2];rcases n with rfl|rfl<;>simp[eqGuard,binOp,Op.shift,e,o]
theorem Zv {xt yt x y}{a b:List _}(c:s.ev C x=.d .str a)(e:s.ev C y=.d .str b):
  cG P C ⟨dst,.binOp .eql xt x y yt,ty,pos,dD,gd⟩ ⟨dst,.d .bool<|a==b,[],[]⟩ s:=
 bJ λw im μ hp f h=>by
  let e1:=cB (by rw[c];rfl)<|h x<|by simp[cx]
  let e2:=cB (by rw[e];rfl)<|h y<|by simp[cx]
  refine⟨.bool<|a==b,?_,by simp[RepA,bm,gI],rfl⟩;simp only[execOp,e1,e2];simp[eqGuard,binOp,Op.stringOp]
theorem Zw {xt yt x y}{a b:List _}(c:s.ev C x=.d .str a)(e:s.ev C y=.d .str b):
  cG P C ⟨dst,.binOp .neq xt x y yt,ty,pos,dD,gd⟩ ⟨dst,.d .bool ! a==b,[],[]⟩ s:=
 bJ λw im μ hp f h=>by
  let e1:=cB (by rw[c];rfl)<|h x<|by simp[cx]
  let e2:=cB (by rw[e];rfl)<|h y<|by simp[cx]
  refine⟨.bool ! a==b,?_,by simp[RepA,bm,gI],rfl⟩;simp only[execOp,e1,e2];simp[eqGuard,binOp,Op.stringOp]
theorem TQ {xt yt x y}{a b:List _}(g:s.ev C x=.d .str a)(i:s.ev C y=.d .str b)(l:a.length+b.length<2 ^ 62):
  cG P C ⟨dst,.binOp .add xt x y yt,ty,pos,dD,gd⟩ ⟨dst,.d .str<|a++b,[],[]⟩ s:=
 bJ λw im μ hp m h=>by
  let e1:=cB (by rw[g];rfl)<|h x<|by simp[cx]
  let e2:=cB (by rw[i];rfl)<|h y<|by simp[cx]
  refine⟨.string ⟨(a++b).toArray⟩,?_,by simp[RepA,bm,gI],rfl⟩;let j:(⟨a.toArray⟩:ByteArray).size=a.length:=by simp[WG]
  let c:(⟨b.toArray⟩:ByteArray).size=b.length:=by simp[WG]
  let e:(⟨_⟩:ByteArray)++⟨_⟩=⟨(a++b).toArray⟩:=by rfl
  simp only[execOp,e1,e2]
  let f:¬(a.length+b.length:Nat)>IntKind.i64.max:=by
   (simp_all;omega)
  simp only[eqGuard,binOp,Op.stringOp,e,j,c,if_neg f];rfl
theorem apC {a c x u r b}(d:Nn (s.ev C x)=ar u)(e:Op.unary a u=pure r)(f:mr r=b):
  cG P C ⟨dst,.unOp a c x,ty,pos,dD,gd⟩ ⟨dst,b,[],[]⟩ s:=
 bJ λw im μ hp g h=>by
  let e1:=cB d<|h x<|by simp[cx]
  refine⟨r,?_,mu f _ _ _ _⟩;simp only[execOp,e1,e];rfl
theorem F5 {c x y a}(b:s.ev C c=.d .bool bc)(e:s.ev C x=a):cG P C ⟨dst,.pick c x y,ty,pos,dD,gd⟩ ⟨dst,a,[],[]⟩ s:=
 bJ λw im μ hp f h=>by
  let e1:=cB (by rw[b];rfl)<|h c<|by simp[cx]
  refine⟨f x,?_,e▸h x<|by simp[cx]⟩;simp[execOp,e1,asBool]
theorem DL {c x y a}(b:s.ev C c=.d .bool a8)(e:s.ev C y=a):cG P C ⟨dst,.pick c x y,ty,pos,dD,gd⟩ ⟨dst,a,[],[]⟩ s:=
 bJ λw im μ hp f h=>by
  let e1:=cB (by rw[b];rfl)<|h c<|by simp[cx]
  refine⟨f y,?_,e▸h y<|by simp[cx]⟩;simp[execOp,e1,asBool]
theorem Jf {k j a b x}{n:Int}{c}(e:s.ev C x=.d (.int k) n)(f:P.underlying a=ar c)(g:P.underlying b=ar (.int j)):
  cG P C ⟨dst,.convert a b x,ty,pos,dD,gd⟩ ⟨dst,.d (.int j)<|j.wrap n,[],[]⟩ s:=
 bJ λw im μ hp i h=>by
  let e1:=cB (by rw[e];rfl)<|h x<|by simp[cx]
  refine⟨_,?_,bp _ _ _ _<| .int j _⟩;simp only[execOp,e1,convert,hF,run_underlying f,run_underlying g,eE];rfl
theorem AK {k j a b x}{n:Int}{c}(e:s.ev C x=.d (.int k) n)(f:P.underlying a=ar c)(g:P.underlying b=ar (.float j)):
  cG P C ⟨dst,.convert a b x,ty,pos,dD,gd⟩ ⟨dst,.d (.flt j)<|aG j<|j.nearest n,[],[]⟩ s:=
 bJ λw im μ hp i h=>by
  let e1:=cB (by rw[e];rfl)<|h x<|by simp[cx]
  refine⟨_,?_,bp _ _ _ _<| .float j _⟩;simp only[execOp,e1,convert,hF,run_underlying f,run_underlying g,eE];rfl
theorem pZ {w im μ hp k}{b:Nat}{v}(h:cr w im μ hp (.d (.flt k) b) v):∃r,v=.float k r/\aG k r=b:=by let ⟨⟨r,a,c⟩,e⟩:=h;cases v<;>simp_all[gI,bS,AV.isAgg,Ty.isAgg]
theorem Ei (k:FloatKind):(k.format.read (Zm k)).isNaN=bc:=by cases k<;>decide +kernel
def AL (f:FloatKind)(b:Nat)(j:FloatKind):Option Nat:=
 if f=j then ar b else match f.decode b with| .nan _ _=>a6| .infinity s=>ar (j.encode (.infinity s))| .number s m e=>if (j.decode (j.encode (.number s m e))).isInfinity then a6 else ar (j.encode (.number s m e))
def AM (f:FloatKind)(b:Nat)(j:IntKind):Option Int:=
 match (f.decode b).toInt .zero with|some n=>if j.min<=n/\n<=j.max then ar n else a6|none=>a6
theorem tM {w im μ hp k}{b:Nat}{v}(h:cr w im μ hp (.d (.flt k) b) v)(a:(k.format.read b).isNaN=a8):v=.float k b:=by grind [pZ,aG,lG,Ei]
theorem arK {P w f j b z}(a:AL f b j=ar z):(Conv.floatToFloat f b j).run P w=.ok (.float j z) w:=by
 unfold AL at a;unfold Conv.floatToFloat;by_cases d:f=j
 ·simp_all
 ·rw[if_neg d]at a⊢;cases c:f.decode b with|nan s t=>rw[c]at a;cases a|infinity s=>rw[c]at a;cases a;rfl|number s m e=>by_cases g:(j.decode<|j.encode<| .number s m e).isInfinity=bc;all_goals simp_all
theorem arM {P w f j b n}(a:AM f b j=ar n):(Conv.floatToInt f b j).run P w=.ok (.int j n) w:=by
 unfold AM at a;unfold Conv.floatToInt;cases c:(f.decode b).toInt .zero with
 |none=>rw[c]at a;cases a
 |some m=>
  (simp_all;omega)
theorem AN {f j a c x}{b z:Nat}{e}(g:s.ev C x=.d (.flt f) b)(i:P.underlying a=ar e)(l:P.underlying c=ar (.float j))(m:(f.format.read b).isNaN=a8)(n:AL f b j=ar z):
  cG P C ⟨dst,.convert a c x,ty,pos,dD,gd⟩ ⟨dst,.d (.flt j)<|aG j z,[],[]⟩ s:=
 bJ λw im μ hp o h=>by let e1  :=tM (g▸h x<|by simp[cx]) m;let p:=arK (P:=P) (w:=w) n;refine⟨_,?_,bp _ _ _ _<| .float j z⟩;simp only[execOp,e1,convert,hF,run_underlying i,run_underlying l,eE];simp_all
theorem Np {f a x}{b:Nat}(c:s.ev C x=.d (.flt f) b)(e:(f.format.read b).isNaN=a8):
  cG P C ⟨dst,.unOp .neg a x,ty,pos,dD,gd⟩ ⟨dst,.d (.flt f)<|aG f<|Op.negFloat f b,[],[]⟩ s:=
 bJ λw im μ hp g h=>by let e1  :=tM (c▸h x<|by simp[cx]) e;refine⟨_,?_,bp _ _ _ _<| .float f _⟩;simp only[execOp,e1];rfl
theorem AO {f j a c x}{b:Nat}{n e}(g:s.ev C x=.d (.flt f) b)(i:P.underlying a=ar e)(l:P.underlying c=ar (.int j))(m:(f.format.read b).isNaN=a8)(o:AM f b j=ar n):
  cG P C ⟨dst,.convert a c x,ty,pos,dD,gd⟩ ⟨dst,.d (.int j) n,[],[]⟩ s:=
 bJ λw im μ hp p h=>by let e1  :=tM (g▸h x<|by simp[cx]) m;let q:=arM (P:=P) (w:=w) o;refine⟨_,?_,bp _ _ _ _<| .int j n⟩;simp only[execOp,e1,convert,hF,run_underlying i,run_underlying l,eE];simp_all
theorem p5 k r:aG k r=r\/(k.format.read r).isNaN=bc/\(k.format.read<|aG k r).isNaN=bc:=by grind [aG,lG,Ei]
theorem Ej {x y:zb}(h:x.isNaN=bc):x.sum y=a6:=by cases x<;>simp_all[wN,Ieee.Datum.sum]
theorem Ek {x y:zb}(h:y.isNaN=bc):x.sum y=a6:=by cases x<;>cases y<;>simp_all[wN,Ieee.Datum.sum]
theorem DM {x y:zb}(h:x.isNaN=bc):x.product y=a6:=by cases x<;>simp_all[wN,Ieee.Datum.product]
theorem DN {x y:zb}(h:y.isNaN=bc):x.product y=a6:=by cases x<;>cases y<;>simp_all[wN,Ieee.Datum.product]
theorem AP {d}{x y:zb}(h:x.isNaN=bc):x.quotient d y=a6:=by cases x<;>simp_all[wN,Ieee.Datum.quotient]
theorem AQ {d}{x y:zb}(h:y.isNaN=bc):x.quotient d y=a6:=by cases x<;>cases y<;>simp_all[wN,Ieee.Datum.quotient]
theorem Jg {x y:zb}(h:x.isNaN=bc):x.order y=a6:=by cases x<;>simp_all[wN,WH]
theorem Jh {x y:zb}(h:y.isNaN=bc):x.order y=a6:=by cases x<;>cases y<;>simp_all[wN,WH]
theorem F6 {x:zb}:x.opposite.isNaN=x.isNaN:=by cases x<;>rfl
theorem AR {α:Type}(k:FloatKind)(f:zb->zb->Option α)(a:∀x y,x.isNaN=bc->f x y=a6)(b:∀x y,y.isNaN=bc->f x y=a6) x y:
  f (k.format.read x) (k.format.read y)=f (k.format.read<|aG k x) (k.format.read<|aG k y):=by
 grind [p5]
def Nq (a:BinOp)(k:FloatKind)(x y:Nat):Option Nat:=
 match a with| .add=>k.format.add x y| .sub=>k.format.sub x y| .mul=>k.format.mul x y| .quo=>k.format.div x y|_=>a6
theorem Nr a k x y:Nq a k x y=Nq a k (aG k x) (aG k y):=by
 cases a<;>simp only[Nq,Ieee.Format.add,Ieee.Format.sub,Ieee.Format.mul,Ieee.Format.div]
 ·exact congrArg _<|AR k _ (λ_ _ h=>Ej h) (λ_ _ h=>Ek h) x y
 ·exact congrArg _<|AR k _ (λ_ _ h=>Ej h) (λ_ _ h=>Ek<|F6.trans h) x y
 ·exact congrArg _<|AR k _ (λ_ _ h=>DM h) (λ_ _ h=>DN h) x y
 ·exact congrArg _<|AR k _ (λ_ _ h=>AP h) (λ_ _ h=>AQ h) x y
theorem Ji (k:FloatKind) x y:k.format.order x y=k.format.order (aG k x) (aG k y):=
 AR k _ (λ_ _ h=>Jg h) (λ_ _ h=>Jh h) x y
def fop (a:BinOp)(k:FloatKind)(x y:Nat):Nat:=
 match Nq a k x y with|some r=>aG k r|none=>Zm k
theorem Qk k x y t:aG k ((Question.nanBits k x y).cut t)=Zm k:=by
 unfold aG;rw[if_pos];cases k with
 |f32=>
  let h:∀a b,a<2->b<2 ^ 23-1->(Ieee.single.read _).isNaN=bc:=by
   intro a b g i;let d:Ieee.single.signWeight=2147483648:=by decide
   let c:Ieee.single.binade=8388608:=by decide
   let f:Ieee.single.infRung=2139095040:=by decide
   unfold Ieee.Format.read;simp only[d,c,f];let e:(a*2 ^ 31+0x7f800000+1+b) % 2147483648=0x7f800000+1+b:=by omega
   rw[e,if_neg<|by omega,if_neg<|by omega,if_neg<|by omega];rfl
  exact h _ _ (WU _<|by decide)<|WU _<|by decide
 |f64=>
  let h:∀a b,a<2->b<2 ^ 52-1->(Ieee.double.read _).isNaN=bc:=by
   intro a b g i;let d:Ieee.double.signWeight=9223372036854775808:=by decide
   let c:Ieee.double.binade=4503599627370496:=by decide
   let f:Ieee.double.infRung=9218868437227405312:=by decide
   unfold Ieee.Format.read;simp only[d,c,f];let e:(a*2 ^ 63+0x7ff0000000000000+1+b) % 9223372036854775808=0x7ff0000000000000+1+b:=by omega
   rw[e,if_neg<|by omega,if_neg<|by omega,if_neg<|by omega];rfl
  exact h _ _ (WU _<|by decide)<|WU _<|by decide
theorem arN {e k j l x y}{a b:Nat}(o:e=.add\/e=.sub\/e=.mul\/e=.quo)(p:s.ev C x=.d (.flt k) a)(q:s.ev C y=.d (.flt k) b):
  cG P C ⟨dst,.binOp e j x y l,ty,pos,dD,gd⟩ ⟨dst,.d (.flt k)<|fop e k a b,[],[]⟩ s:=
 gm [] λw im μ hp t h _ _=>by
  let ⟨f,e1,u⟩:=pZ<|p▸h x<|by simp[cx]
  let ⟨g,e2,v⟩:=pZ<|q▸h y<|by simp[cx]
  let m:=Nr e k f g;rw[u,v]at m
  let c:(execOp t ⟨dst,.binOp e j x y l,ty,pos,dD,gd⟩).run P w=match Nq e k f g with
    |some r=>.ok (.value<| .float k r) w
    |none=>.ok (.value<| .float k<|(Question.nanBits k f g).cut<|w.tape w.drawn<| .nanBits k f g) {w with drawn:=w.drawn+1}:=by
   rcases o with rfl|rfl|rfl|rfl<;>simp only[execOp,e1,e2,eqGuard,binOp,Op.floatArith,Nq]<;>simp<;>split<;>simp_all[Question.forced]
  rw[m]at c;unfold fop;cases n:Nq e k a b with|some r=>rw[n]at c;exact⟨_,_,c,rfl,rfl,rfl,rfl,⟨r,rfl,rfl⟩,rfl⟩|none=>rw[n]at c;exact⟨_,_,c,rfl,rfl,rfl,rfl,⟨_,rfl,Qk k _ _ _⟩,rfl⟩
theorem ahM {c k g l x y}{a b:Nat}{r i}(j:c=.eql\/c=.neq\/c=.lss\/c=.leq\/c=.gtr\/c=.geq)
  (m:s.ev C x=.d (.flt k) a) (n:s.ev C y=.d (.flt k) b) (o:ahs c k a b=pure r) (p:mr r=i):
  cG P C ⟨dst,.binOp c g x y l,ty,pos,dD,gd⟩ ⟨dst,i,[],[]⟩ s:=
 bJ λw im μ hp v h=>by
  let ⟨e,e1,z⟩:=pZ<|m▸h x<|by simp[cx]
  let ⟨f,e2,A⟩:=pZ<|n▸h y<|by simp[cx]
  refine⟨r,?_,mu p _ _ _ _⟩;let q:ahs c k e f=ahs c k a b:=by unfold ahs;grind [Ji]
  let t:binOp c g (.float k e) (.float k f)=ahs c k e f:=by rcases j with rfl|rfl|rfl|rfl|rfl|rfl<;>simp[binOp]
  let u:eqGuard c g x y (.float k e) (.float k f)=pure ():=by rcases j with rfl|rfl|rfl|rfl|rfl|rfl<;>rfl
  simp only[execOp,e1,e2,t,q,o,u];rfl
end
end Go.Vm
namespace Go.Vm
def AV.asize :AV->Nat
 | .d t _=>t.size
 | .pr a b=>a.asize+b.asize
 |_=>1
theorem RepA.length {w im μ hp}:∀(a) (g),RepA w im μ hp a g->g.length=a.asize
 | .undef,_,c=>by simp only[RepA]at c
 | .d t x,g,c=>by simp only[RepA]at c;exact c.length
 | .ip t x,g,c=>by obtain⟨b,h,rfl,_⟩:=c;rfl
 | .op o p h,g,c=>by obtain⟨b,v,_,_,rfl⟩:=c;rfl
 | .os o n,g,c=>by obtain⟨T,e,m,z,xs,_,_,v,rfl,_⟩:=c;rfl
 | .oe o n i,g,c=>by obtain⟨T,e,m,z,xs,_,_,v,rfl,_⟩:=c;rfl
 | .ow o n i l,g,c=>by obtain⟨T,e,m,z,xs,_,_,v,rfl,_⟩:=c;rfl
 | .nils,g,c=>by subst c;rfl
 | .emp,g,c=>by obtain⟨a,rfl⟩:=c;rfl
 | .pr a b,g,c=>by obtain⟨j,q,rfl,y,A⟩:=c;rw[bK,RepA.length a j y,RepA.length b q A];rfl
 | .tup _,_,c=>by simp only[RepA]at c
 | .fn f _ cap,g,c=>by obtain⟨vs,B,rfl,_⟩:=c;rfl
 | .nilfn,g,c=>by subst c;rfl
 | .iface t v,g,c=>by obtain⟨u,rfl,_⟩:=c;rfl
 | .nilif,g,c=>by subst c;rfl
 | .nilp,g,c=>by subst c;rfl
 | .ref o,g,c=>by obtain⟨b,r,_,_,rfl⟩:=c;rfl
def lH (agg:Bool)(a:List Value)  :=if agg then .agg a.toArray else a.headD qP
theorem sf {v}(h:v.oneCell'=bc):v.cells= #[v]/\bS v=a8:=by cases v<;>simp_all[og,gI,bS]
theorem kP {a:AV}(h:a.isAgg=a8):a.asize=1:=by
 cases a<;>first
  |rfl
  |(rename_i t x;cases t<;>simp_all[AV.isAgg,Ty.isAgg,AV.asize,Ty.size])
  |simp_all[AV.isAgg]
theorem RepA.toV {w im μ hp a b}(h:RepA w im μ hp a b):cr w im μ hp a (lH a.isAgg b):=by
 let key:RepA w im μ hp a (lH a.isAgg b).cells.toList/\bS (lH a.isAgg b)=a.isAgg:=by
  cases f:a.isAgg with
  |true=>simp only[lH,if_true,gI,bS];exact⟨h,trivial⟩
  |false=>
   let d:=RepA.length a b h;rw[kP f]at d;let e:=RepA.one a b h
   match b,d,e,h with|[c],_,e,h=>grind [sf,lH,WQ,List.headD_cons]
 cases a<;>first
  |exact key
  |trivial
  |(simp only[RepA]at h)
def Ns :TypeDesc->Bool
 | .struct _| .array _ _=>bc
 |_=>a8
structure TyS (P:Program)(t:TypeId)(n:Nat)(agg:Bool):Prop where
 info:∃i,P.info? t=ar i/\i.size=n
 und:∃d,P.underlying t=ar d/\Ns d=agg
section
variable {P:Program}{C:Ctx}
theorem AS {t n agg}(h:TyS P t n agg) w:(isAgg t).run P w=.ok agg w:=by obtain⟨d,a,rfl⟩:=h.und;simp only[isAgg,hF,run_underlying a,eE];cases d<;>rfl
theorem qV {t n agg}(h:TyS P t n agg) w:(sizeOf t).run P w=.ok n w:=by obtain⟨i,a,rfl⟩:=h.info;simp[sizeOf,typeInfo,a]
theorem fP b a n:(⟨b,a,a6⟩:Addr).add n=⟨b,a+n,a6⟩:=by unfold Addr.add;split<;>simp_all
theorem mv {t n agg}(h:TyS P t n agg) w {b a d} (f:dJ w b a d) (e:d.length=n) (i:agg=a8->n=1):
  (loadVar t ⟨b,a,a6⟩).run P w=.ok (lH agg d) w:=by
 unfold loadVar
 simp only[hF,AS h,eE]
 cases agg with
 |true=>
  simp only[if_true,hF,qV h,eE];have:=run_loadCells_list (P:=P) w _ d λj v l=>by rw[fP];exact f j v l
  simp_all[lH]
 |false=>
  let m:=i rfl
  match d,e,f with|[c],_,f=>have g:=f 0 c rfl;simp_all[y8,lH]|[],e,_=>simp at e;omega|_::_::_,e,_=>simp at e;omega
def mT (μ:Mu)(o:Nat)(a:Pl):Mu:=λx=>bif dK x o then a else μ x
theorem cU μ o a:mT μ o a o=a:=by simp[mT]
theorem fy μ {o x} pl (h:x≠o):mT μ o pl x=μ x:=by
 let:dK x o=a8:=by rw[←np];intro a;exact h<|cb a
 simp[mT,this]
theorem gO hp o a:aT hp [(o,a)] o=ar a:=by simp[aT,te]
theorem mw hp {o x} ob (h:x≠o):aT hp [(o,ob)] x=hp x:=ig<|by simpa using h
structure n4 (w w':World)(old:Option Nat):Prop where
 os:w'.os=w.os
 tape:w'.tape=w.tape
 output:w'.output=w.output
 grow:w.heap.size<=w'.heap.size
 blk:∀b,b<w.heap.size->old≠ar b->w'.heap[b]?=w.heap[b]?
theorem Inv.evObj {im μ s a w w'}(d:Inv C im μ s a w){o f g}
  (l:∀c,s.hp o=ar c->fo c (μ o) f g) (j:n4 w w' (μ o).blk):Ev w im μ s.hp w' im (mT μ o g) (aT s.hp [(o,f)]):=by
 refine⟨λ_ h=>h,λb i=>j.blk b (d.imLt b i) λe=>(d.sep o b e).1 i,λx c m=>?_⟩
 grind [gO,cU,mw,fy,fo.refl]
theorem Inv.obj1 {im μ s a w w'}(f:Inv C im μ s a w){o m l}
  (B:∀t,s.hp o=ar t->fo t (μ o) m l) (g:n4 w w' (μ o).blk)
  (z:∀b,l.blk=ar b->b<w'.heap.size/\((μ o).blk=ar b\/w.heap.size<=b))
  (p:mP w' im (mT μ o l) (aT s.hp [(o,m)]) l m) {dst} (D:∀d,dst=ar d->d<C.n) {av v}
  (F:cr w' im (mT μ o l) (aT s.hp [(o,m)]) av v):
  Inv C im (mT μ o l) ⟨(s.put dst av).fr,aT s.hp [(o,m)]⟩ (a.put dst v) w':=by
 let ev:=f.evObj B g
 refine f.step ev g.os g.tape g.output g.grow (λb u G=>g.blk b u<|G o) (λb h=>.inl h) (λb h=>xd (f.imLt b h) g.grow) ?_ ?_ ?_ ?_ dst D av v F
 ·intro x b c
  by_cases e:x=o
  ·subst e
   rw[cU]at c;let ⟨A,i⟩:=z b c;refine⟨?_,A,i.imp (λh=>⟨x,h⟩) id⟩;rcases i with i|i
   ·exact(f.sep x b i).1
   ·intro H;let:=f.imLt b H;omega
  ·rw[fy _ _ e]at c;let ⟨A,i,_⟩:=f.sep x b c;exact⟨A,xd i g.grow,.inl ⟨x,c⟩⟩
 ·intro x y b c j
  by_cases ex:x=o
  ·by_cases q:y=o
   ·rw[ex,q]
   ·subst ex
    rw[cU]at c;rw[fy _ _ q]at j;rcases(z b c).2 with h|h
    ·exact f.inj _ _ b h j
    ·let:=(f.sep y b j).2.1;omega
  ·by_cases q:y=o
   ·subst q
    rw[cU]at j;rw[fy _ _ ex]at c;rcases(z b j).2 with h|h
    ·exact f.inj _ _ b c h
    ·let:=(f.sep x b c).2.1;omega
   ·rw[fy _ _ ex]at c;rw[fy _ _ q]at j;exact f.inj _ _ b c j
 ·intro x c
  by_cases e:x=o
  ·grind [gO]
  ·rw[mw _ _ e]at c;rw[fy _ _ e];exact f.dom x c
 ·intro x t c
  by_cases e:x=o
  ·subst e;rw[gO]at c;obtain rfl:=hY c;rw[cU];exact p
  ·rw[mw _ _ e]at c;rw[fy _ _ e];refine(f.obj x t c).ev ev λb u=>g.blk b (f.sep x b u).2.1<|λI=>e<|f.inj _ _ b u I
theorem Jj w c a:n4 w (w.alloc c) a:=
 ⟨rfl,rfl,rfl,by simp,λb d _=>heap_alloc_old w c d⟩
theorem Nt t v w:(newVar t v).run P w=.ok ⟨w.heap.size,0,a6⟩ (w.alloc<| .cells v.cells t):=by rfl
theorem Inv.newBox {im μ s a w}(e:Inv C im μ s a w){d o}(i:d<C.n)(j:s.hp o=a6){c cells T}
  (l:RepA w im μ s.hp c cells.toList):
  Inv C im (mT μ o<| .at w.heap.size) ⟨(s.put (ar d)<| .op o [] 0).fr,aT s.hp [(o,.box c)]⟩ (a.put (ar d)<| .pointer<|some ⟨w.heap.size,0,a6⟩) (w.alloc<| .cells cells T):=by
 let f:∀b,s.hp o=ar b->fo b (μ o) (.box c) (.at w.heap.size):=λb h=>by rw[j]at h;cases h
 let g:n4 w (w.alloc<| .cells cells T) (μ o).blk:=Jj _ _ _
 let ev:=e.evObj f g
 refine e.obj1 f g ?_ ?_ (λm h=>by cases h;exact i) ?_
 ·simp[Pl.blk,wR]
 ·exact⟨_,_,T,rfl,heap_alloc_new w _,RepA.ev ev _ _ l⟩
 ·refine⟨?_,rfl⟩;grind [RepA,gI,cU,gO]
variable {s:ASt}{dst:Option Tmp}{ty:TypeId}{pos:String}{dD:Array Edge}{gd:Option (Nat×Bool)}
theorem cr.cells {w}{im:Nat->Prop}{μ hp a v}(h:cr w im μ hp a v)(b:match a with| .undef=>a8| .tup _=>a8|_=>bc):RepA w im μ hp a v.cells.toList/\bS v=a.isAgg:=by
 cases a<;>first
  |exact h
  |(simp at b)
def AV.plain :AV->Bool
 | .undef=>a8
 | .tup _=>a8
 |_=>bc
theorem cr.toA {w im μ hp a v}(h:cr w im μ hp a v)(b:a.plain=bc):RepA w im μ hp a v.cells.toList/\bS v=a.isAgg:=by
 cases a<;>first
  |exact h
  |(simp[AV.plain]at b)
theorem arO {d o:Nat}{t x c}(e:s.ev C x=c)(f:c.plain=bc)(g:s.hp o=a6):
  cG P C ⟨ar d,.box t x,ty,pos,dD,gd⟩ ⟨ar d,.op o [] 0,[],[(o,.box c)]⟩ s:=by
 intro p h i im μ a w b j
 let l  :=(h x<|by simp[cx]).trans e
 let m  :=(i o<| .inr<|by simp).trans g
 let n:=(l▸b.ev x).toA f
 refine⟨_,_,im,_,.inl ?_,b.newBox (T:=t) (j d rfl) m n.1⟩
 rfl
def pf :(t:Ty)->t.den
 | .int _=>(0:Int)
 | .bool=>a8
 | .str=>[]
 | .flt _=>(0:Nat)
 | .slice _=>[]
 | .unit=>()
 | .pair a b=>(pf a,pf b)
 | .arr n e=>eo n (pf e)
def jk :Ty->List Value
 | .int k=>[.int k 0]
 | .bool=>[.bool a8]
 | .str=>[.string ⟨#[]⟩]
 | .flt k=>[.float k 0]
 | .slice _=>[.slice a6 0 0]
 | .unit=>[]
 | .pair a b=>jk a++jk b
 | .arr n e=>(eo n (jk e)).flatten
theorem bO.replicate {α R a}{x:α}(h:R a x):∀n,bO R (eo n a).flatten<|eo n x
 |0=>rfl
 |n+1=>⟨a,_,by simp[List.replicate_succ],h,bO.replicate h n⟩
theorem dR w im:∀t,bm w im t (jk t)<|pf t
 | .int _=>rfl
 | .bool=>rfl
 | .str=>rfl
 | .flt k=>⟨0,rfl,by cases k<;>decide +kernel⟩
 | .slice _=>⟨a6,0,rfl,ep _,k7 _,λ_=>rfl,rfl⟩
 | .unit=>rfl
 | .pair a b=>⟨_,_,rfl,dR w im a,dR w im b⟩
 | .arr n e=>⟨by simp[pf],bO.replicate (dR w im e) n⟩
def TyZ (P:Program) t ty  :=∃i z,P.info? t=ar i/\i.zero=ar z/\z.cells.toList=jk ty
theorem AT {t ty}(h:TyZ P t ty) w:∃z,(zeroValue t).run P w=.ok z w/\z.cells.toList=jk ty:=by let ⟨i,z,a,b,c⟩:=h;exact⟨z,by simp[zeroValue,typeInfo,a,b],c⟩
inductive Sub :AV->List Nat->Nat->AV->Prop
 |here {v:AV}:Sub v [] 0 v
 |prH {a b:AV} {p:List Nat} {off:Nat} {u:AV}:Sub a p off u->Sub (.pr a b) (0::p) off u
 |prT {a b:AV} {i:Nat} {p:List Nat} {off:Nat} {u:AV}:Sub b (i::p) off u->Sub (.pr a b) ((i+1)::p) (a.asize+off) u
 |dH {a b:Ty} {x:(Ty.pair a b).den} {p:List Nat} {off:Nat} {u:AV}:Sub (.d a x.1) p off u->Sub (.d (.pair a b) x) (0::p) off u
 |dT {a b:Ty} {x:(Ty.pair a b).den} {i:Nat} {p:List Nat} {off:Nat} {u:AV}:Sub (.d b x.2) (i::p) off u->Sub (.d (.pair a b) x) ((i+1)::p) (a.size+off) u
 |arr {n:Nat} {e:Ty} {xs:List e.den} {y:e.den} {i:Nat} {p:List Nat} {off:Nat} {u:AV}:xs[i]?=ar y->Sub (.d e y) p off u->Sub (.d (.arr n e) xs) (i::p) (i*e.size+off) u
theorem Sub.sound {w im μ hp v p b u}(h:Sub v p b u):
  ∀a,RepA w im μ hp v a->∃f g j,a=f++(g++j)/\f.length=b/\RepA w im μ hp u g:=by
 induction h with
 |here=>exact λa c=>⟨[],a,[],by simp,rfl,c⟩
 |prH _ d=>grind [RepA]
 |prT _ d=>grind [RepA,bK,RepA.length]
 |dH _ d=>
  intro a c;obtain⟨o,q,rfl,t,x⟩:=c;obtain⟨f,g,j,rfl,l,m⟩:=d o<|by exact t
  grind
 |dT _ d=>
  intro a c;obtain⟨o,q,rfl,t,x⟩:=c;obtain⟨f,g,j,rfl,l,m⟩:=d q<|by exact x
  grind [bK,bm.length]
 | @arr n e F y i p b u A _ d=>
  intro a c;let ⟨G,l⟩:=c;let z:=bO.length (bm.length e) _ _ l;let ⟨B,D⟩:=bO.get (bm.length e) l A;let ⟨f,g,j,H,I,m⟩:=d _<|B
  refine⟨a.take (i*e.size)++f,g,j++a.drop (i*e.size+e.size),?_,?_,m⟩;all_goals grind [MX,tn,bK,fl,OC,ga]
theorem AV.plain_of_RepA {w im μ hp a b}(h:RepA w im μ hp a b):a.plain=bc:=by
 cases a<;>first
  |rfl
  |(simp only[RepA]at h)
theorem Nu {t x c y}(l:s.ev C x=.ip c y)(m:TyS P t c.size c.isAgg):
  cG P C ⟨dst,.load t x,ty,pos,dD,gd⟩ ⟨dst,.d c y,[],[]⟩ s:=
 bJ λw im μ hp i h=>by
  let ⟨n,f⟩:=l▸h x<|by simp[cx]
  let ⟨b,g,e,A,o,p,j⟩:=n;let q:i x=.pointer (ar ⟨b,g,a6⟩):=by generalize i x=v at e f;cases v<;>simp_all[gI,bS,AV.isAgg]
  let u:=j.length;let z:RepA w im μ hp (.d c y) o:=j;refine⟨_,?_,z.toV⟩;simp only[execOp,q,Instr.loadAt,Bd,hF,m0,eE];rw[mv m w p u λf=>by let:=kP (a:=.d c y) f;simpa [AV.asize] using this];rfl
theorem wT {w im μ hp o p a v}(h:cr w im μ hp (.op o p a) v):
  ∃b u,μ o=.at b/\hp o=ar (.box u)/\v=.pointer (ar ⟨b,a,a6⟩):=by
 let ⟨c,d⟩:=h
 simp only[RepA]at c
 cases v<;>simp_all[gI,bS,AV.isAgg]
theorem iw {w b cells T c}(h:w.heap[b]?=ar (.cells cells T c)):dJ w b 0 cells.toList:=by intro j v a;rw[Array.getElem?_toList]at a;simp[World.cell?,h,a]
theorem Nv {t x o p d a v u}(j:s.ev C x=.op o p d)(hp:s.hp o=ar (.box v))(l:Sub v p a u)(m:a=d)
  (n:TyS P t u.asize u.isAgg):cG P C ⟨dst,.load t x,ty,pos,dD,gd⟩ ⟨dst,u,[o],[]⟩ s:=
 gm [o] λw im μ cT L h q y=>by
  subst m;let ⟨b,M,z,N,A⟩:=wT<|j▸h x<|by simp[cx]
  let B  :=(q o<|by simp).trans hp;let ⟨D,_,T,g,F,G⟩:=y o _ B;obtain rfl:D=b:=by rw[z]at g;cases g;rfl
  let ⟨O,S,U,H,I,i⟩:=l.sound _ G;let e:=iw F;rw[H]at e;let c:=(dJ.append e).2;rw[hM,I]at c;let f:=(dJ.append c).1;refine⟨_,w,?_,rfl,rfl,rfl,rfl,i.toV⟩;simp only[execOp,A,Instr.loadAt,Bd,hF,m0,eE];rw[mv n w f (RepA.length _ _ i) λJ=>kP J];rfl
def Jk (P:Program) t (f k:Nat)  :=∃b a i,P.underlying t=ar (.struct b)/\b[f]?=ar a/\a.offset=k/\P.info? a.type=ar i/\i.size≠0
theorem qW {t f k}(h:Jk P t f k) w b off:(Instr.fieldAt t (.pointer<|some ⟨b,off,a6⟩) f).run P w=.ok (.pointer<|some ⟨b,off+k,a6⟩) w:=by obtain⟨j,a,i,c,d,rfl,e,g⟩:=h;simp[Instr.fieldAt,run_underlying c,d,Bd,fieldPlace,sizeOf,typeInfo,e,g,fP]
theorem Jl {t x f k o p d c a}(e:s.ev C x=.op o p c)(g:Jk P t f k)(i:p++[f]=d)(l:c+k=a):
  cG P C ⟨dst,.fieldAddr t x f,ty,pos,dD,gd⟩ ⟨dst,.op o d a,[],[]⟩ s:=
 bJ λw im μ cT m h=>by
  let ⟨b,n,q,u,j⟩:=wT<|e▸h x<|by simp[cx]
  refine⟨.pointer<|some ⟨b,c+k,a6⟩,?_,?_,rfl⟩
  ·simp only[execOp,j,hF,qW g,eE];rfl
  grind [RepA,gI]
theorem Jm {t x f k a j g y l}(n:s.ev C x=.ip j y)(o:Jk P t f k)(p:Sub (.d j y) [f] a<| .d g l)(q:a=k):
  cG P C ⟨dst,.fieldAddr t x f,ty,pos,dD,gd⟩ ⟨dst,.ip g l,[],[]⟩ s:=
 bJ λw im μ hp m h=>by
  subst q;let ⟨u,z⟩:=n▸h x<|by simp[cx]
  let ⟨b,i,e,A,B,D,F⟩:=u;let G:m x=.pointer (ar ⟨b,i,a6⟩):=by generalize m x=v at e z;cases v<;>simp_all[gI,bS,AV.isAgg]
  let ⟨M,H,N,I,J,L⟩:=p.sound (μ:=μ) (hp:=hp) B<|F
  subst I;let c:=(dJ.append D).2;rw[J]at c;refine⟨.pointer<|some ⟨b,i+a,a6⟩,?_,?_,rfl⟩
  ·simp only[execOp,G,hF,qW o,eE];rfl
  ·exact⟨b,_,rfl,A,H,(dJ.append c).1,L⟩
inductive mU :AV->List Nat->Nat->AV->AV->Prop
 |here {v u:AV}:u.asize=v.asize->mU v [] 0 u u
 |prH {a b a':AV} {p:List Nat} {off:Nat} {u:AV}:mU a p off u a'->mU (.pr a b) (0::p) off u (.pr a' b)
 |prT {a b b':AV} {i:Nat} {p:List Nat} {off:Nat} {u:AV}:mU b (i::p) off u b'->mU (.pr a b) ((i+1)::p) (a.asize+off) u (.pr a b')
 |dHp {a b:Ty} {x:(Ty.pair a b).den} {a':AV} {p:List Nat} {off:Nat} {u:AV}:mU (.d a x.1) p off u a'->mU (.d (.pair a b) x) (0::p) off u (.pr a' (.d b x.2))
 |dTp {a b:Ty} {x:(Ty.pair a b).den} {b':AV} {i:Nat} {p:List Nat} {off:Nat} {u:AV}:mU (.d b x.2) (i::p) off u b'->mU (.d (.pair a b) x) ((i+1)::p) (a.size+off) u (.pr (.d a x.1) b')
 |dH {a b:Ty} {x:(Ty.pair a b).den} {y:a.den} {p:List Nat} {off:Nat} {u:AV}:mU (.d a x.1) p off u (.d a y)->mU (.d (.pair a b) x) (0::p) off u (.d (.pair a b) (y,x.2))
 |dT {a b:Ty} {x:(Ty.pair a b).den} {y:b.den} {i:Nat} {p:List Nat} {off:Nat} {u:AV}:mU (.d b x.2) (i::p) off u (.d b y)->mU (.d (.pair a b) x) ((i+1)::p) (a.size+off) u (.d (.pair a b) (x.1,y))
 |arr {n:Nat} {e:Ty} {xs:List e.den} {y y':e.den} {i:Nat} {p:List Nat} {off:Nat} {u:AV}:xs[i]?=ar y->mU (.d e y) p off u (.d e y')->
   mU (.d (.arr n e) xs) (i::p) (i*e.size+off) u (.d (.arr n e) (xs.set i y'))
theorem mU.sound {w im μ hp v p B u F}(h:mU v p B u F):
  ∀a,RepA w im μ hp v a->∀b,RepA w im μ hp u b->∃c d f,a=c++(d++f)/\c.length=B/\d.length=b.length/\RepA w im μ hp F (c++(b++f)):=by
 induction h with
 |here H=>exact λa j b g=>⟨[],a,[],by simp,rfl,by rw[RepA.length _ _ j,RepA.length _ _ g,H],by simpa using g⟩
 |prH _ m=>grind [RepA]
 |prT _ m=>intro a j b g;obtain⟨o,t,rfl,q,A⟩:=j;obtain⟨c,d,f,rfl,l,x,z⟩:=m t A b g;exact⟨o++c,d,f,by simp,by rw[bK,RepA.length _ _ q,l],x,by exact⟨o,_,by simp,q,z⟩⟩
 |dHp _ m=>intro a j b g;obtain⟨o,t,rfl,q,A⟩:=j;obtain⟨c,d,f,rfl,l,x,z⟩:=m o (by exact q) b g;exact⟨c,d,f++t,by simp,l,x,by exact⟨_,t,by simp,z,A⟩⟩
 |dTp _ m=>intro a j b g;obtain⟨o,t,rfl,q,A⟩:=j;obtain⟨c,d,f,rfl,l,x,z⟩:=m t (by exact A) b g;exact⟨o++c,d,f,by simp,by rw[bK,bm.length _ _ _ q,l],x,by exact⟨o,_,by simp,q,z⟩⟩
 |dH _ m=>intro a j b g;obtain⟨o,t,rfl,q,A⟩:=j;obtain⟨c,d,f,rfl,l,x,z⟩:=m o (by exact q) b g;exact⟨c,d,f++t,by simp,l,x,by exact⟨_,t,by simp,z,A⟩⟩
 |dT _ m=>intro a j b g;obtain⟨o,t,rfl,q,A⟩:=j;obtain⟨c,d,f,rfl,l,x,z⟩:=m t (by exact A) b g;exact⟨o++c,d,f,by simp,by rw[bK,bm.length _ _ _ q,l],x,by exact⟨o,_,by simp,q,z⟩⟩
 | @arr n e O y S i p B u G _ m=>
  intro a j b g;let ⟨I,l⟩:=j;let D:=bO.length (bm.length e) _ _ l;let hi  :=(hT.1 G).1;let ⟨J,L⟩:=bO.get (bm.length e) l G;obtain⟨c,d,f,M,N,x,z⟩:=m _ (by exact J) b g;let e1:a=a.take _++((a.drop<|i*e.size).take _++a.drop (i*e.size+e.size)):=by rw[←MX,tn,tn]
  refine⟨a.take (i*e.size)++c,d,f++a.drop (i*e.size+e.size),?_,?_,x,?_⟩
  ·rw[M]at e1;simpa using e1
  ·rw[bK,fl,D,N,OC];exact ga _<|by omega
  ·refine⟨by simpa using I,?_⟩;let:=bO.set (bm.length e) l hi z;rw[nY,x1]at this;simpa using this
theorem tu {t n agg}(h:TyS P t n agg) w {b a cells T} (g:w.heap[b]?=ar (.cells cells T (0,0))) {v d e f}
  (m:cells.toList=d++(e++f)) (o:d.length=a) (p:e.length=v.cells.toList.length) (i:v.cells.toList.length=n) (j:∀x∈v.cells.toList,x.oneCell'=bc):
  (storeVar t ⟨b,a,a6⟩ v).run P w=.ok () (w.setRow b (d++(v.cells.toList++f)).toArray):=by
 let l:v.cells.size=n:=by rw[←i];simp
 let c:a+0+v.cells.toList.length<=cells.size:=by grind [nn,bK]
 let q:=run_storeCells_at P b a T _ 0 _ w g c j
 unfold storeVar
 simp only[hF,qV h,eE,l]
 grind
theorem Jn {t x y o p g c v u q}(M:s.ev C x=.op o p g)(N:s.ev C y=u)(O:u.plain=bc)(hp:s.hp o=ar (.box v))(S:mU v p c u q)
  (U:c=g) {agg} (V:TyS P t u.asize agg):cG P C ⟨a6,.store t x y,ty,pos,dD,gd⟩ ⟨a6,.undef,[],[(o,.box q)]⟩ s:=by
 intro W F X im μ a w i hd
 subst U
 let Y  :=(F x<|by simp[cx]).trans M
 let z  :=(F y<|by simp[cx]).trans N
 let G  :=(X o<| .inr<|by simp).trans hp
 let ⟨b,u',n,h2,Z⟩:=wT<|Y▸i.ev x
 let ⟨f,hua⟩:=(z▸i.ev y).toA O
 let ⟨j,_,T,H,A,hr⟩:=i.obj o _ G
 obtain rfl:j=b:=by rw[n]at H;cases H;rfl
 let ⟨c1,c2,c3,zJ,Zi,pW,l⟩:=S.sound _ hr _ f
 let m:=tu V w A zJ Zi pW (RepA.length _ _ f)<|RepA.one _ _ f
 let I:∀B,W.hp o=ar B->fo B _ (.box q) _:=by intro B J;rw[G]at J;obtain rfl:=hY J;exact n.symm
 let L:n4 w (w.setRow j (c1++((a.eval y).cells.toList++c3)).toArray) (μ o).blk:=
  ⟨rfl,rfl,rfl,by simp[WJ],λk _ D=>setRow_other w j k _ λe=>D<|by rw[n,e];rfl⟩
 let ev:=i.evObj I L
 refine⟨_,_,im,_,.inr ⟨rfl,?_⟩,i.obj1 I L ?_ ?_ (λd h=>by cases h) trivial⟩
 ·simp only[execOp,Z,Instr.storeAt,Bd,hF,m0,eE,m]
 ·intro k D;cases D;let dA  :=(om.1 A).1;exact⟨by simpa [WJ] using dA,.inl<|by rw[n];rfl⟩
 ·exact⟨j,_,T,rfl,setRow_heap w j _ _ _ _ A,RepA.ev ev _ _<|by simpa using l⟩
theorem RepFs.get {w im μ hp}:∀{l} {c} {i:Nat} {a},RepFs w im μ hp l c->l[i]?=ar a->∃v,c[i]?=ar v/\RepA w im μ hp a v.cells.toList/\bS v=a.isAgg
 |b::l,c,0,a,h,d=>by grind [RepFs]
 |b::l,c,i+1,a,h,d=>by
  obtain⟨v,f,rfl,_,_,e⟩:=h;obtain⟨g,j,m⟩:=RepFs.get e<|by simpa using d
  grind
 |[],_,_,_,_,d=>by simp at d
theorem cr.ofA {w im μ hp a v}(h:RepA w im μ hp a v.cells.toList)(b:bS v=a.isAgg):cr w im μ hp a v:=by
 cases a<;>first
  |trivial
  |exact⟨h,b⟩
  |(simp only[RepA]at h)
theorem Nw {x i l a}(b:s.ev C x=.tup l)(c:l[i]?=ar a):cG P C ⟨dst,.extract x i,ty,pos,dD,gd⟩ ⟨dst,a,[],[]⟩ s:=
 bJ λw im μ hp m h=>by
  let ⟨n,d,e⟩:=b▸h x<|by simp[cx]
  let ⟨v,f,g,j⟩:=RepFs.get e c;refine⟨v,?_,cr.ofA g j⟩;simp[execOp,d,Instr.extract,f]
def aCk P t (f k n:Nat) agg  :=∃b a,P.underlying t=ar (.struct b)/\b[f]?=ar a/\a.offset=k/\TyS P a.type n agg
theorem Jo {t n agg}(h:TyS P t n agg) w {cs d a e} (g:cs.toList=d++(a++e)) (b:a.length=n) (i:agg=a8->n=1):
  (part t cs d.length).run P w=.ok (lH agg a) w:=by
 let f:cs=(d++(a++e)).toArray:=by rw[←g]
 unfold part
 simp only[hF,AS h,eE]
 cases agg with
 |true=>simp only[if_true,hF,qV h,eE,m0,lH];simp_all
 |false=>
  let j:=i rfl
  match a,b with|[c],_=>simp_all[lH]|[],b=>simp at b;omega|_::_::_,b=>simp at b;omega
theorem TR {t x f k b v u}(m:s.ev C x=v)(n:v.plain=bc)(o:v.isAgg=bc)(p:Sub v [f] b u)(q:aCk P t f k u.asize u.isAgg)(B:b=k):
  cG P C ⟨dst,.field t x f,ty,pos,dD,gd⟩ ⟨dst,u,[],[]⟩ s:=
 bJ λw im μ hp j h=>by
  let ⟨y,e⟩:=(m▸h x<|by simp[cx]).toA n;let ⟨D,z,A,g,c,i⟩:=q;let ⟨F,G,H,l,I,d⟩:=p.sound _ y;let ⟨cells,a⟩:∃cells,j x=.agg cells:=by generalize j x=v at e;cases v<;>simp_all[bS]
  rw[a]at l;refine⟨_,?_,d.toV⟩;have hp:=Jo i w (cs:=cells) l (RepA.length _ _ d) λe=>kP e
  simp only[execOp,a,Instr.field,hF,run_underlying A,eE,g,c,asAgg,m0];simp_all
end
end Go.Vm
namespace Go.Vm
def lim  :=4294967296
section
variable {P:Program}{C:Ctx}
def SlT (P:Program) t esz  :=∃e i,P.underlying t=ar (.slice e)/\P.info? e=ar i/\i.size=esz
def ArT (P:Program) t n esz  :=∃e i,P.underlying t=ar (.array n e)/\P.info? e=ar i/\i.size=esz
theorem mP.arr {w im μ hp d T e m z c}(h:mP w im μ hp d<| .arr T e m z c):
  (∃a,d=.nil a/\c=[])\/∃b cap f,(d=.row b cap\/d=.fz b cap)/\c.length<=cap/\cap<=maxLen/\dJ w b 0 f/\bO (bm w im e) f c:=by
 rcases h with h|⟨_,b,cap,cells,g,n,i,j,o,l⟩|⟨_,b,cap,f,g,n,i,j,o,l⟩
 ·exact .inl h
 ·refine .inr ⟨b,cap,_,.inl g,i,j,?_,l⟩
  let:=(iw n).sub 0<|c.length*e.size
  simpa using this
 ·exact .inr ⟨b,cap,f,.inr g,i,j,o,l⟩
inductive Src (hp:Hp):AV->(e:Ty)->List e.den->Prop
 |d {e:Ty} {xs:List e.den}:Src hp (.d (.slice e) xs) e xs
 |os {o n:Nat} {T:TypeId} {e:Ty} {z:Bool} {xs:List e.den}:hp o=ar (.arr T e n z xs)->Src hp (.os o n) e xs
 |nils {e:Ty}:Src hp .nils e []
 |emp {e:Ty}:Src hp .emp e []
def AV.objs :AV->List Nat
 | .os o _=>[o]
 | .oe o _ _=>[o]
 | .ow o _ _ _=>[o]
 | .op o _ _=>[o]
 |_=>[]
theorem Src.hp {hp cT a e b}(h:Src hp a e b)(c:∀k∈a.objs,cT k=hp k):Src cT a e b:=by cases h with|d=>exact .d|os f=>exact .os<|(c _<|by simp[AV.objs]).trans f|nils=>exact .nils|emp=>exact .emp
def arP w im (e:Ty) xs (v:Value)  :=
 ∃a c,v=.slice a xs.length c/\xs.length<=c/\(xs=[]\/∃b d f,a=ar ⟨b,d,a6⟩/\dJ w b d f/\bO (bm w im e) f xs)
theorem bj {v a n cap}(h:v.cells.toList=[.slice a n cap])(b:bS v=a8):v=.slice a n cap:=by cases v<;>simp_all[gI,bS]
theorem Src.sound {w im μ hp a e l v}(h:Src hp a e l)(m:cr w im μ hp a v)
  (F:∀k y,hp k=ar y->mP w im μ hp (μ k) y):arP w im e l v:=by
 cases h with
 |d=>
  let ⟨f,g⟩:=m;let ⟨i,cap,p,A,M,N,q⟩:=f;refine⟨i,cap,bj p g,A,?_⟩;cases i with
  |none=>exact .inl q
  |some i=>
   rcases q with q|⟨O,_,G,S,U⟩
   ·exact .inl q
   ·let ⟨b,H,V⟩:=i;grind
 | @os o n T e z l B=>
  let ⟨f,g⟩:=m;let ⟨W,X,Y,Z,yc,D,I,u,p,A,J⟩:=f;rw[B]at D;cases D;let c:=J rfl;rcases(F o _ B).arr with ⟨i,cT,rfl⟩|⟨b,cap,G,cT,L,IM,t,x⟩
  ·rw[cT]at c;subst c;exact⟨i,0,bj p g,ep _,.inl rfl⟩
  ·have j:u=.slice (ar ⟨b,0,a6⟩) l.length cap:=by rcases cT with cT|cT<;>rw[cT]at c<;>exact c
   subst j;exact⟨_,cap,bj p g,L,.inr ⟨b,0,_,rfl,t,x⟩⟩
 |nils=>let ⟨f,g⟩:=m;exact⟨a6,0,bj f g,ep _,.inl rfl⟩
 |emp=>let ⟨f,g⟩:=m;let ⟨i,f⟩:=f;exact⟨i,0,bj f g,ep _,.inl rfl⟩
variable {s:ASt}{dst:Option Tmp}{ty:TypeId}{pos:String}{dD:Array Edge}{gd:Option (Nat×Bool)}
theorem F7 {x t e c a b}(f:s.ev C x=a)(g:Src s.hp a e c)(j:SlT P t b):
  cG P C ⟨dst,.call ⟨.builtin .len, #[x], #[t]⟩,ty,pos,dD,gd⟩ ⟨dst,.d (.int .i64) (c.length:Int),a.objs,[]⟩ s:=
 gm _ λw im μ hp q h l m=>by let ⟨u,n,o,_⟩:=(g.hp l).sound (f▸h x<|by simp[cx,pd]) m;let ⟨v,i,p,_,_⟩:=j;refine⟨_,w,?_,rfl,rfl,rfl,rfl,bp _ _ _ _<| .int .i64 _⟩;simp[execOp,resolve,invoke,builtin,o,Builtin.len_,run_underlying p,goInt]
theorem Ny {x t}{l:List _}(a:s.ev C x=.d .str l)(b:P.underlying t=ar .string):
  cG P C ⟨dst,.call ⟨.builtin .len, #[x], #[t]⟩,ty,pos,dD,gd⟩ ⟨dst,.d (.int .i64) (l.length:Int),[],[]⟩ s:=
 bJ λw im μ hp e h=>by
  let e1:=cB (by rw[a];rfl)<|h x<|by simp[cx,pd]
  refine⟨_,?_,bp _ _ _ _<| .int .i64 _⟩;let c:(⟨l.toArray⟩:ByteArray).size=l.length:=by simp[WG]
  simp[execOp,resolve,invoke,builtin,e1,Builtin.len_,run_underlying b,goInt,c]
theorem iO {w im μ hp k}{n:Int}{v}(h:cr w im μ hp (.d (.int k) n) v):v=.int k n:=cB rfl h
theorem Nz {x y t e}{c:List _}{k}{n:Int}{z}(p:s.ev C x=.d (.slice e) c)(q:s.ev C y=.d (.int k) n)(u:SlT P t e.size)(v:0<=n)(m:c[n.toNat]?=ar z):
  cG P C ⟨dst,.indexAddr t x y,ty,pos,dD,gd⟩ ⟨dst,.ip e z,[],[]⟩ s:=
 bJ λw im μ hp U h=>by
  let ⟨A,B⟩:=p▸h x<|by simp[cx]
  let e2:=iO<|q▸h y<|by simp[cx]
  let ⟨f,D,F,_,_,_,g⟩:=A;have G:=bj F B;let ⟨V,i,H,I,J⟩:=u;let o  :=(hT.1 m).1;cases f with
  |none=>let j  :=g;rw[j]at o;simp at o
  |some f=>
   rcases g with g|⟨L,M,W,N,O⟩
   ·grind
   ·let ⟨b,l,X⟩:=f
    subst L;let ⟨S,T⟩:=bO.get (bm.length e) O m;refine⟨.pointer<|some ⟨b,l+n.toNat*e.size,a6⟩,?_,?_,rfl⟩
    ·let a:n<c.length:=by omega
     simp[execOp,G,e2,YN,asIntOf,run_underlying H,v,a,sizeOf,typeInfo,I,J,fP]
    ·exact⟨b,_,rfl,M,_,N.sub _ _,S⟩
theorem AU {x y t m e}{f:List _}{k}{n:Int}{z}(l:s.ev C x=.ip (.arr m e) f)(o:s.ev C y=.d (.int k) n)(p:ArT P t m e.size)(q:0<=n)(g:f[n.toNat]?=ar z):
  cG P C ⟨dst,.indexAddr t x y,ty,pos,dD,gd⟩ ⟨dst,.ip e z,[],[]⟩ s:=
 bJ λw im μ hp j h=>by
  let ⟨u,A⟩:=l▸h x<|by simp[cx]
  let e2:=iO<|o▸h y<|by simp[cx]
  let ⟨b,a,B,D,S,F,G⟩:=u;let H:j x=.pointer (ar ⟨b,a,a6⟩):=by generalize j x=v at B A;cases v<;>simp_all[gI,bS,AV.isAgg]
  let ⟨T,I⟩:=G;let ⟨U,i,J,L,M⟩:=p;let V  :=(hT.1 g).1;let ⟨N,O⟩:=bO.get (bm.length e) I g;refine⟨.pointer<|some ⟨b,a+n.toNat*e.size,a6⟩,?_,?_,rfl⟩
  ·let c:n<m:=by omega
   simp[execOp,H,e2,YN,asIntOf,run_underlying J,q,c,sizeOf,typeInfo,L,M,fP,Bd]
  ·exact⟨b,_,rfl,D,_,F.sub _ _,N⟩
theorem AX {x y t m o p j c f a v e}{l:List _}{k}{n:Int}{z}(u:s.ev C x=.op o p c)(hp:s.hp o=ar (.box v))
  (A:Sub v p f<| .d (.arr m e) l) (B:s.ev C y=.d (.int k) n) (D:ArT P t m e.size) (F:0<=n) (G:l[n.toNat]?=ar z) (q:p++[n.toNat]=j) (V:c+n.toNat*e.size=a):
  cG P C ⟨dst,.indexAddr t x y,ty,pos,dD,gd⟩ ⟨dst,.op o j a,[o],[]⟩ s:=
 gm [o] λw im μ cT W h H I=>by
  let ⟨b,X,Y,Z,J⟩:=wT<|u▸h x<|by simp[cx]
  let e2:=iO<|B▸h y<|by simp[cx]
  let L  :=(H o<|by simp).trans hp;let ⟨b',_,T,he,hc,M⟩:=I o _ L;let ⟨c1,c2,c3,_,_,N⟩:=A.sound _ M;simp only[RepA,bm]at N;let ⟨et,i,O,S,U⟩:=D;let dA  :=(hT.1 G).1;refine⟨.pointer<|some ⟨b,c+n.toNat*e.size,a6⟩,w,?_,rfl,rfl,rfl,rfl,?_,rfl⟩
  ·let g:n<m:=by omega
   simp[execOp,J,e2,YN,asIntOf,run_underlying O,F,g,sizeOf,typeInfo,S,U,fP,Bd]
  grind [RepA,gI]
theorem Jp {x y t o m T e q c k}{n:Int}{z}(A:s.ev C x=.os o m)(B:s.hp o=ar (.arr T e m q c))(D:s.ev C y=.d (.int k) n)
  (F:SlT P t e.size) (G:0<=n) (H:c[n.toNat]?=ar z):cG P C ⟨dst,.indexAddr t x y,ty,pos,dD,gd⟩ ⟨dst,.oe o m n.toNat,[o],[]⟩ s:=
 gm [o] λw im μ hp Y h I J=>by
  let ⟨L,M⟩:=A▸h x<|by simp[cx]
  let e2:=iO<|D▸h y<|by simp[cx]
  let l  :=(I o<|by simp).trans B;let ⟨Z,e',m',z',yc,v,N,u,O,h1,S⟩:=L;rw[l]at v;cases v;have a:=S rfl;let U  :=(hT.1 H).1;let ⟨et,i,V,W,p⟩:=F;rcases(J o _ l).arr with ⟨ad,cT,rfl⟩|⟨b,f,cs,cT,_⟩
  ·simp at U
  ·have g:u=.slice (ar ⟨b,0,a6⟩) c.length f:=by rcases cT with cT|cT<;>rw[cT]at a<;>exact a
   subst g;let X:=bj O M;refine⟨.pointer<|some ⟨b,n.toNat*e.size,a6⟩,w,?_,rfl,rfl,rfl,rfl,?_,rfl⟩
   ·let j:n<c.length:=by omega
    simp[execOp,X,e2,YN,asIntOf,run_underlying V,G,j,sizeOf,typeInfo,W,p,fP]
   ·exact⟨T,e,m,q,c,l,ep _,_,rfl,rfl,λ_=>⟨b,f,cT,rfl⟩⟩
theorem Jq {x y t o m j q T e f g k}{n:Int}(v:s.ev C x=.ow o m j q)(z:s.hp o=ar (.arr T e m f g))(A:s.ev C y=.d (.int k) n)
  (B:SlT P t e.size) (D:0<=n) (F:n<q):cG P C ⟨dst,.indexAddr t x y,ty,pos,dD,gd⟩ ⟨dst,.oe o m<|j+n.toNat,[o],[]⟩ s:=
 gm [o] λw im μ hp V h G W=>by
  let ⟨H,I⟩:=v▸h x<|by simp[cx]
  let e2:=iO<|A▸h y<|by simp[cx]
  let l  :=(G o<|by simp).trans z;let ⟨X,Y,Z,z',yc,p,J,u,L,h1,M⟩:=H;rw[l]at p;cases p;obtain⟨b,a,N,rfl⟩:=M rfl;let ⟨et,i,O,S,c⟩:=B;let U:=bj L I;refine⟨.pointer<|some ⟨b,(j+n.toNat)*e.size,a6⟩,w,?_,rfl,rfl,rfl,rfl,?_,rfl⟩
  ·simp[execOp,U,e2,YN,asIntOf,run_underlying O,D,F,sizeOf,typeInfo,S,c,fP,nY]
  ·exact⟨T,e,m,f,g,l,ep _,_,rfl,rfl,λ_=>⟨b,a,N,rfl⟩⟩
theorem NA {t x o m i T e D n z}(F:s.ev C x=.oe o m i)(G:s.hp o=ar (.arr T e m D n))(p:n[i]?=ar z)(H:TyS P t e.size e.isAgg):
  cG P C ⟨dst,.load t x,ty,pos,dD,gd⟩ ⟨dst,.d e z,[o],[]⟩ s:=
 gm [o] λw im μ hp q h I J=>by
  let ⟨L,g⟩:=F▸h x<|by simp[cx]
  let y  :=(I o<|by simp).trans G;obtain⟨Z,e',m',z',yc,A,M,u,N,h1,O⟩:=L;rw[y]at A;cases A;obtain⟨b,j,qN,rfl⟩:=O rfl;let S  :=(hT.1 p).1;rcases(J o _ y).arr with ⟨ad,cT,rfl⟩|⟨B,f,cs,cT,_,_,U,V⟩
  ·simp at S
  ·obtain⟨rfl,rfl⟩:B=b/\f=j:=by
    grind
   let W:q x=.pointer (ar ⟨B,i*e.size,a6⟩):=by generalize q x=v at N g;cases v<;>simp_all[gI,bS,AV.isAgg]
   let ⟨X,l⟩:=bO.get (bm.length e) V p
   let Y:RepA w im μ hp (.d e z) _:=by exact X
   let c:=U.sub (i*e.size) e.size
   rw[hM]at c
   refine⟨_,w,?_,rfl,rfl,rfl,rfl,Y.toV⟩
   simp only[execOp,W,Instr.loadAt,Bd,hF,m0,eE]
   rw[mv H w c l λg=>by let:=kP (a:=.d e z) g;simpa [AV.asize] using this]
   rfl
theorem dc w {k} {n:Int} {y:Nat} (a:0<=n) (b:n<=y) c:(Instr.sliceBound (.int k n) y c).run P w=.ok n.toNat w:=by simp[Instr.sliceBound,asIntOf,a,b]
def jv (C:Ctx)(s:ASt)(x:Option Operand)(a n:Nat):Prop:=
 match x with|none=>n=a|some x=>∃(k:IntKind) (z:Int),s.ev C x=.d (.int k) z/\0<=z/\z.toNat=n
theorem iP w {lo c:Option Value} {len cap l h:Nat} (f:match lo with|none=>l=0|some v=>∃k z,v=.int k z/\0<=z/\z.toNat=l) (d:match c with|none=>h=len|some v=>∃k z,v=.int k z/\0<=z/\z.toNat=h)
  (i:l<=h) (j:h<=cap) b:(xe b len cap lo c a6).run P w=.ok (l,h,cap) w:=by
 cases lo with
 |none=>subst f;cases c with|none=>subst d;simp[xe]|some v=>obtain⟨k,z,rfl,e,rfl⟩:=d;simp[xe,dc w e (by omega:z<=cap)]
 |some u=>obtain⟨m,g,rfl,a,rfl⟩:=f;cases c with|none=>subst d;simp[xe,dc w a (by omega:g<=(h:Nat))]|some v=>obtain⟨k,z,rfl,e,rfl⟩:=d;simp[xe,dc w e (by omega:z<=cap),dc w a (by omega:g<=(z.toNat:Nat))]
theorem fX {s}{x:Option _}{a n}(h:jv C s x a n){w}{im:Nat->Prop}{μ hp}{b:Operand->Value}(c:∀o,x=ar o->cr w im μ hp (s.ev C o) (b o)):
  match x.map b with|none=>n=a|some v=>∃k z,v=.int k z/\0<=z/\z.toNat=n:=by
 cases x with|none=>exact h|some o=>let ⟨k,z,d,e,f⟩:=h;exact⟨k,z,iO<|d▸c o rfl,e,f⟩
theorem NB {t x m u e}{c:List _}{l h}(A:s.ev C x=.d (.slice e) c)(B:SlT P t e.size)(D:jv C s m 0 l)(F:jv C s u c.length h)
  (G:l<=h) (Z:h<=c.length):cG P C ⟨dst,.slice t x m u a6,ty,pos,dD,gd⟩ ⟨dst,.d (.slice e)<|(c.take h).drop l,[],[]⟩ s:=
 bJ λw im μ hp ρ n=>by
  let ⟨y,H⟩:=A▸n x (by simp[cx]);simp only[RepA,bm]at y;let ⟨a,cap,I,h3,h4,J,f⟩:=y;let L:=bj I H;let ⟨et,i,M,N,O⟩:=B;let S:=iP (P:=P) w (cap:=cap) (fX D λo p=>n o (by subst p;simp[cx])) (fX F λo p=>n o (by subst p;cases m<;>simp[cx])) G (by omega) bc;refine⟨.slice (if cap=l then a else a.map (·.add (l*e.size))) (h-l) (cap-l),?_,?_,rfl⟩
  ·simp[execOp,L,yb,AF,run_underlying M,S,sizeOf,typeInfo,N,O]
  ·simp only[RepA,bm,gI]
   let T:((c.take h).drop l).length=h-l:=by rw[km,fl];omega
   refine⟨_,_,by rw[T],by omega,by omega,?_,?_⟩
   ·grind [Option.map_eq_none_iff]
   ·by_cases z:cap=l
    ·let:(c.take h).drop l=[]:=by
      grind
     rw[if_pos z,this]
     cases a with|none=>rfl|some a=>exact .inl rfl
    ·rw[if_neg z]
     cases a with
     |none=>let q  :=f;rw[q];simp[pX]
     |some a=>
      rcases f with f|⟨U,V,cs,W,X⟩
      ·rw[f];exact .inl (by simp)
      ·let ⟨b,Y,sp⟩:=a
       subst U;simp only[ahb,fP,pX];refine .inr ⟨trivial,V,_,?_,bO.drop (bm.length e) (bO.take (bm.length e) X h) l⟩;intro j v g;rw[Qf,T1]at g;split at g
       ·let:=W _ _ g;rw[Nf];exact this
       ·cases g
theorem F8 {t x b g}{a:List _}{l h}(i:s.ev C x=.d .str a)(j:P.underlying t=ar .string)(m:jv C s b 0 l)(n:jv C s g a.length h)
  (p:l<=h) (q:h<=a.length):cG P C ⟨dst,.slice t x b g a6,ty,pos,dD,gd⟩ ⟨dst,.d .str<|(a.take h).drop l,[],[]⟩ s:=
 bJ λw im μ hp y c=>by
  let e1:=cB (by rw[i];rfl)<|c x<|by simp[cx]
  let u:(⟨a.toArray⟩:ByteArray).size=a.length:=by simp[WG]
  let v:=iP (P:=P) w (fX m λo e=>c o<|by subst e;simp[cx]) (fX n λo e=>c o<|by subst e;cases b<;>simp[cx]) p q a8;refine⟨.string ⟨((a.take h).drop l).toArray⟩,?_,by simp[RepA,bm,gI],rfl⟩;let f:(⟨a.toArray⟩:ByteArray).extract l h=⟨((a.take h).drop l).toArray⟩:=by apply ByteArray.ext;rw[ByteArray.data_extract];grind
  simp[execOp,e1,yb,AF,run_underlying j,u,v,f]
theorem F9 {t x c f a e u g h}(v:s.ev C x=g)(y:Src s.hp g e u)(A:SlT P t h)(B:jv C s a 0 0)(D:s.ev C c=.d (.int .i64) 0)(j:s.ev C f=.d (.int .i64) 0):
  cG P C ⟨dst,.slice t x a (ar c)<|some f,ty,pos,dD,gd⟩ ⟨dst,.emp,g.objs,[]⟩ s:=
 gm _ λw im μ hp M b F G=>by
  let ⟨l,H,m,n,_⟩:=(y.hp F).sound (v▸b x<|by simp[cx]) G;let ⟨N,i,p,q,O⟩:=A;let e1:=iO<|D▸b c<|by cases a<;>simp[cx]
  let e2:=iO<|j▸b f<|by cases a<;>simp[cx]
  let I:=fX B λo J=>b o<|by subst J;simp[cx]
  refine⟨.slice l 0 0,w,?_,rfl,rfl,rfl,rfl,⟨l,rfl⟩,rfl⟩;cases a with
  |none=>simp[execOp,m,e1,e2,yb,AF,run_underlying p,xe,dc,sizeOf,typeInfo,q]
  |some a=>
   let ⟨k,z,L,S,T⟩:=I;obtain rfl:z=0:=by omega
   simp[execOp,m,L,e1,e2,yb,AF,run_underlying p,xe,dc,sizeOf,typeInfo,q]
end
end Go.Vm
namespace Go.Vm
section
variable {P:Program}{C:Ctx}{s:ASt}{dst:Option Tmp}{ty:TypeId}{pos:String}{dD:Array Edge}{gd:Option (Nat×Bool)}
inductive Ga :AV->(t:Ty)->t.den->Prop
 |d {t:Ty} {x:t.den}:Ga (.d t x) t x
 |nils {e:Ty}:Ga .nils (.slice e) []
 |pr {a b:AV} {ta tb:Ty} {x:ta.den} {y:tb.den}:Ga a ta x->Ga b tb y->Ga (.pr a b) (.pair ta tb) (x,y)
theorem Ga.sound {w im μ hp a t x}(h:Ga a t x):∀b,RepA w im μ hp a b->bm w im t b x:=by induction h with|d=>intro b c;simpa only[RepA] using c|nils=>intro b c;exact⟨a6,0,c,ep _,k7 _,λ_=>rfl,rfl⟩|pr _ _ f g=>intro b c;let ⟨i,j,e,l,m⟩:=c;exact⟨i,j,e,f i l,g j m⟩
theorem Ga.plain {a t x}(h:Ga a t x):a.plain=bc:=by cases h<;>rfl
structure ElT (P:Program)(t T:TypeId)(e:Ty):Prop where
 und:P.underlying t=ar (.slice T)
 info:∃i z,P.info? T=ar i/\i.size=e.size/\i.bytes<=4096/\i.zero=ar z/\z.cells.toList=jk e
 pos:0<e.size
def mV {α:Type}:List α->List (Nat×α)->List α
 |l,[]=>l
 |l,(i,x)::r=>mV (l.set i x) r
theorem El (cells:Array Value):∀(b:List _) (k) (a:Array Value),k+b.length<=a.size-> 
  ((b.zipIdx k).foldl (λe (c,j)=>e.setIfInBounds j c) a).toList=a.toList.take k++b++a.toList.drop (k+b.length)
 |[],k,a,_=>by simp
 |d::b,k,a,h=>by simp only[List.zipIdx_cons,zm];simp only[bs]at h;rw[El cells b _ _<|by simp;omega];simp only[Array.toList_setIfInBounds,bs];rw[List.take_set,List.drop_set];grind [List.take_succ_eq_append_getElem,List.set_append_right,fl,Nf,Nat.add_comm]
theorem Zx off (b:List _):∀(a:Array Value) (k), 
  (b.zipIdx k).foldl (λe (c,j)=>e.setIfInBounds (off+j) c) a=(b.zipIdx<|off+k).foldl (λe (c,j)=>e.setIfInBounds j c) a:=by
 induction b with|nil=>intro a k;rfl|cons d b f=>intro a k;simp only[List.zipIdx_cons,zm];rw[f];rfl
theorem Em {a cells i v c b size}(hp:a i=ar (b,size))(f:v.cells.toList.length=size)(d:b+size<=cells.size):
  ag9 a cells ((i,v)::c)=ag9 a (cells.toList.take b++v.cells.toList++cells.toList.drop (b+size)).toArray c:=by
 let g:v.cells.size=size:=by rw[←f];simp
 let e:v.cells.zipIdx.foldl _ _=(cells.toList.take b++v.cells.toList++cells.toList.drop _).toArray:=by rw[←Array.foldl_toList,Array.toList_zipIdx,Zx];apply yl;rw[y8,El cells _ _ _<|by rw[f];exact d,f]
 simp only[ag9,hp,g]
 grind
theorem wU {w im e}:∀(a) (d) (cells) (c),bO (bm w im e) cells.toList c->
  a.length=d.length->(∀(k i:Nat) (v),a[k]?=ar (i,v)->∃y,d[k]?=ar (i,y)/\bm w im e v.cells.toList y/\i<c.length)->
  ∃f,ag9 (λi=>ar (i*e.size,e.size)) cells a=ar f/\bO (bm w im e) f.toList (mV c d)
 |[],[],cells,c,h,_,_=>⟨_,rfl,h⟩
 |(i,v)::a,(p,D)::d,cells,c,h,g,hp=>by
  let ⟨y,n,o,q⟩:=hp 0 i v rfl;simp only[o3,wR,Prod.mk.injEq]at n;obtain⟨rfl,rfl⟩:=n;let l:=bO.length (bm.length e) _ _ h;let m:(p+1)*e.size<=c.length*e.size:=ga _<|by omega
  rw[nY,x1]at m;rw[nn]at l;let b:=bO.set (bm.length e) h q o;rw[nY,x1]at b;rw[Em rfl (bm.length e _ _ o)<|by omega]
  exact wU _ d _ _ (by simpa using b) (by simpa using g) λk j u t=>by
   let ⟨z,x,A,B⟩:=hp (k+1) j u<|by simpa using t
   exact⟨z,by simpa using x,A,by simpa using B⟩
 |[],_::_,_,_,_,g,_=>by simp at g
 |_::_,[],_,_,_,g,_=>by simp at g
theorem oE {e}{z:Array _}(a:z.toList=jk e):∀n:Nat,((WY<|n*e.size).map (z[· % z.size]!)).toList=(eo n<|jk e).flatten:=by
 let b:z.size=e.size:=by rw[←nn,a,(dR default (λ_=>True) e).length]
 intro n;rw[Array.toList_map,Array.toList_range,b];induction n with
 |zero=>simp
 |succ n c=>
  rw[nY,x1,List.range_add,Cp,c,List.replicate_succ',List.flatten_append];congr 1;simp only[List.map_map,List.flatten_cons,List.flatten_nil,eT];apply List.ext_getElem?;intro j;by_cases d:j<e.size
  ·let f:(n*e.size+j) % e.size=j:=by rw[Nat.add_comm,Nat.add_mul_mod_self_right];exact Nat.mod_eq_of_lt d
   grind
  grind
theorem mW t a w:(newRow t a).run P w=.ok ⟨w.heap.size,0,a6⟩ (w.alloc<| .cells a t):=by simp[newRow]
theorem Inv.newArr {im μ a}{w w1:World}(j:Inv C im μ s a w)(l:w1.heap=w.heap)(q:w1.os=w.os)(t:w1.tape=w.tape)(u:w1.output=w.output){d o}(v:d<C.n)(x:s.hp o=a6)
  {cells T e xs cap} (c:xs.length<=cap) (f:cap<=maxLen) (y:cells.size=cap*e.size) (z:bO (bm w im e) (cells.toList.take<|xs.length*e.size) xs):
  Inv C im (mT μ o<| .row w.heap.size cap) ⟨(s.put (ar d)<| .os o 0).fr,aT s.hp [(o,.arr T e 0 a8 xs)]⟩ (a.put (ar d)<| .slice (ar ⟨w.heap.size,0,a6⟩) xs.length cap) (w1.alloc<| .cells cells T):=by
 let m:∀i,s.hp o=ar i->fo i (μ o) (.arr T e 0 a8 xs) (.row w.heap.size cap):=λi h=>by rw[x]at h;cases h
 let g:w1.heap.size=w.heap.size:=by rw[l]
 let p:n4 w (w1.alloc<| .cells cells T) (μ o).blk:=⟨q,t,u,by simp[g],λb A _=>by rw[heap_alloc_old w1 _<|by omega,l]⟩
 let ev:=j.evObj m p
 refine j.obj1 m p ?_ ?_ (λB h=>by cases h;exact v) ?_
 ·simp_all[Pl.blk,wR]
 ·refine .inr<| .inl ⟨rfl,_,cap,_,rfl,?_,c,f,y,bO.mono (bm.mono ev.fim ev.fheap e) _ _ z⟩
  rw[←g];exact heap_alloc_new w1 _
 ·refine⟨?_,rfl⟩;exact⟨T,e,0,_,xs,gO _ _ _,ep _,_,rfl,rfl,λ_=>by rw[cU];rfl⟩
theorem Gb {d o:Nat}{t T x y e G H}{n:Int}(g:ElT P t T e)(I:s.hp o=a6)(J:s.ev C x=.d (.int G) n)(L:s.ev C y=.d (.int H) n)(j:0<=n)(M:n<=lim):
  cG P C ⟨ar d,.makeSlice t x y,ty,pos,dD,gd⟩ ⟨ar d,.os o 0,[],[(o,.arr T e 0 a8<|eo n.toNat<|pf e)]⟩ s:=by
 intro s1 D N im μ a w l O
 let S  :=(N o<| .inr<|by simp).trans I
 let e1:=iO<|(D x<|by simp[cx]).trans J▸l.ev x
 let e2:=iO<|(D y<|by simp[cx]).trans L▸l.ev y
 let ⟨i,z,p,U,V,q,W⟩:=g.info
 obtain⟨m,rfl⟩:=Int.eq_ofNat_of_zero_le j
 let X:m<=4294967296:=by unfold lim at M;omega
 let Y:IntKind.i64.wrap m=m:=by unfold IntKind.wrap IntKind.bits IntKind.signed;simp only[gb,decide_eq_true_eq,ge_iff_le];rw[Int.emod_eq_of_lt (by omega)<|by omega,if_neg (by omega)]
 let Z  :=by let  :=Nat.mul_le_mul V X;omega
 let u:=oE W m
 let b:=l.newArr rfl rfl rfl rfl (O d rfl) S (cells:=(WY (m*e.size)).map _) (T:=T) (xs:=eo m (pf e)) (cap:=m) (by simp) (by unfold maxLen;omega) (by simp)
  (by rw[u,List.length_replicate,hP (by let:=(bO.replicate (dR w im e) m).length (bm.length e);rw[this];simp)];exact bO.replicate (dR w im e) m)
 refine⟨_,_,im,_,.inl ?_,b⟩
 let v:¬(m:Int)<0:=by omega
 let A:¬(i.bytes:Int)*m>2 ^ 48:=by omega
 let F:∀w,(sizeOf T).run P w=.ok e.size w:=λw=>by simp[sizeOf,typeInfo,p,U]
 simp only[execOp,Instr.makeSlice,hF,run_underlying g.und,eE,e1,e2,asInt,asIntOf,m0,typeInfo,run_program,p,Y]
 simp only[Bool.or_eq_true,v,A,Int.lt_irrefl,or_self,decide_false,if_false,WQ,gt_iff_lt]
 by_cases c:m=0
 ·subst c
  let B:∀f:Nat->Value,(WY 0).map f= #[]:=λf=>WA (by simp)
  simp[mW,run_askRoom,F,B]
 ·let kC:¬m*e.size=0:=by
   intro h
   rcases Nat.mul_eq_zero.1 h with h|h
   ·exact c h
   ·let:=g.pos;omega
  simp[mW,run_askRoom,F,kC,zeroValue,typeInfo,p,q]
theorem qv {t e T f i}(g:P.underlying t=ar (.slice T))(a:P.underlying e=ar (.slice f))(h:P.info? T=ar i) w ty base b n cap c (d:n<=cap):
  (adN #[t,e] ty #[.slice base n cap,.slice b 0 c]).run P w=.ok (.slice base n cap) w:=by
 cases base<;>cases b<;>simp[adN,run_underlying g,run_underlying a,sizeOf,typeInfo,h,Builtin.lenOf,d,Builtin.firstCells,loadCells,loadCellsFrom,storeCells]
theorem qX {t T e}(H:ElT P t T e) w im ty {pl d f v0 v1}
  (I:fe pl d.length v0) (J:(∃a,pl=.nil a/\d=[])\/∃b c cells,pl=.row b c/\w.heap[b]?=ar (.cells cells T (0,0))/\d.length<=c/\c<=maxLen/\cells.size=c*e.size/\bO (bm w im e) (cells.toList.take (d.length*e.size)) d)
  (hsrc:arP w im e f v1) (hlim:d.length+f.length<=lim) (lX:∀b,pl.blk=ar b->¬im b) (_himlt:∀b,im b->b<w.heap.size):
  ∃y w' u,(adN #[t,t] ty #[v0,v1]).run P w=.ok y w'/\n4 w w' pl.blk/\(∀b,u.blk=ar b->b<w'.heap.size/\(pl.blk=ar b\/w.heap.size<=b))/\
   (f=[]/\u=pl\/f≠[])/\fe u (d++f).length y/\y.oneCell'=bc/\
   ((∃a,u=.nil a/\d++f=[])\/∃b c cells,u=.row b c/\w'.heap[b]?=ar (.cells cells T (0,0))/\(d++f).length<=c/\c<=maxLen/\cells.size=c*e.size/\
    bO (bm w im e) (cells.toList.take ((d++f).length*e.size)) (d++f)):=by
 let ⟨i,z,jZ,W,Dz,hz1,YQ⟩:=H.info
 obtain⟨a1,X,rfl,hc1,hs⟩:=hsrc
 by_cases N:f=[]
 ·subst N
  rcases J with ⟨a,rfl,rfl⟩|⟨b,c,cells,rfl,O,Y,h2,Z,h4⟩
  ·simp only[fe]at I;subst I;exact⟨_,w,_,qv H.und H.und jZ w ty a a1 0 0 X<|ep _,⟨rfl,rfl,rfl,ep _,λ_ _ _=>rfl⟩,(λb h=>by cases h),.inl ⟨rfl,rfl⟩,rfl,rfl,.inl ⟨a,rfl,rfl⟩⟩
  ·simp only[fe]at I;subst I;let dA  :=(om.1 O).1;refine⟨_,w,_,qv H.und H.und jZ w ty _ a1 _ c X Y,⟨rfl,rfl,rfl,ep _,λ_ _ _=>rfl⟩,λk h=>?_,.inl ⟨rfl,rfl⟩,by simp[fe],rfl,.inr ⟨b,c,_,rfl,O,by simpa using Y,h2,Z,by simpa using h4⟩⟩;cases h;exact⟨dA,.inl rfl⟩
 ·rcases hs with hs|⟨sb,L,x,rfl,hsc,A⟩
  ·exact(N hs).elim
  ·let G:=bO.length (bm.length e) _ _ A
   let hone:=bO.one (bm.one e) _ _ A;let hyl  :=List.length_pos_iff.2 N;let n:d.length+f.length<=4294967296:=hlim;let q:(d.length+f.length)*i.bytes<=140737488355328:=by let:=Nat.mul_le_mul n Dz;omega
   let o:∀j v,x[j]?=ar v->w.cell? ((⟨sb,L,a6⟩:Addr).add j)=ar v:=λj v hj=>by rw[fP];exact hsc j v hj
   let M:∀(b0:Addr) (n0 g:Nat) (l:List _),n0=d.length->g<d.length+f.length->l.length=n0*e.size->(∀j v,l[j]?=ar v->w.cell? (b0.add j)=ar v)->bO _ l d-> 
     ∀(m:Option Nat),∃y w' u,(adN #[t,t] ty #[.slice _ n0 g,.slice _ _ X]).run P w=.ok y w'/\n4 w w' m/\(∀b,u.blk=ar b->b<w'.heap.size/\(m=ar b\/w.heap.size<=b))/\
      fe u (d++f).length y/\y.oneCell'=bc/\
      ∃b c cells,u=.row b c/\w'.heap[b]?=ar (.cells cells T _)/\(d++f).length<=c/\c<=maxLen/\cells.size=c*e.size/\bO _ (cells.toList.take<|(d++f).length*e.size) _:=by
    intro b0 n0 g l hn0 B S U V m
    subst hn0
    let hr:=run_append_grow w t ty T i z H.und jZ hz1 b0 _ g l (by rw[W];exact S) U _ _ X x (by rw[W];exact G) o B (by omega)<|growslice_fits B q
    let MW:=grownCap_ge w (d.length+f.length) g T
    let M8:=grownCap_le_maxLen w (d.length+f.length) g T<|by unfold maxLen;omega
    refine⟨_,_,_,hr,⟨rfl,rfl,rfl,by simp,λk hk _=>heap_alloc_old _ _ hk⟩,λb h=>?_,by simp[fe],rfl,_,_,_,rfl,heap_alloc_new _ _,by simpa using MW,M8,?_,?_⟩
    ·cases h;exact⟨by simp,.inr<|ep _⟩
    ·let D:z.cells.size=e.size:=by rw[←nn,YQ,(dR default (λ_=>True) e).length]
     simp only[F1,YO,size_zeroCells,D,S,G,←nY];congr 1;omega
    ·let F:(d++f).length*e.size=(l++x).length:=by rw[bK,bK,S,G,nY]
     simp only[Nc];rw[F,WO];exact bO.append _ _ _ _ V A
   rcases J with ⟨a,rfl,rfl⟩|⟨b,c,cells,rfl,O,Y,h2,Z,h4⟩
   ·simp only[fe]at I
    subst I;cases a with
    |none=>
     let hr:=run_append_nil w t ty T i z H.und jZ hz1 _ _ X x (by rw[W];exact G) o hyl (by simp at n;omega)<|by simp at q;omega
     let MW:=grownCap_ge w f.length 0 T;let M8:=grownCap_le_maxLen w f.length 0 T<|by unfold maxLen;simp at n;omega
     refine⟨_,_,_,hr,⟨rfl,rfl,rfl,by simp,λk hk _=>heap_alloc_old w.drew _ hk⟩,λb h=>?_,.inr N,by simp[fe],rfl,.inr ⟨w.heap.size,_,_,rfl,heap_alloc_new w.drew _,by simpa using MW,M8,?_,?_⟩⟩
     ·cases h;exact⟨by simp,.inr<|ep _⟩
     ·let D:z.cells.size=e.size:=by rw[←nn,YQ,(dR default (λ_=>True) e).length]
      simp only[F1,YO,size_zeroCells,D,G,←nY];congr 1;omega
     ·simp only[Nc,pb];rw[←G,WO];exact A
    |some ad=>let ⟨y,w',u,g1,g2,g3,g4,g5,g6⟩:=M ad 0 0 [] rfl (by simpa using hyl) (by simp) (by simp) rfl a6;exact⟨y,w',u,g1,g2,g3,.inr N,g4,g5,.inr g6⟩
   ·simp only[fe]at I
    subst I;by_cases p:d.length+f.length<=c
    ·let hle:(d.length+f.length)*e.size<=c*e.size:=ga _ p
     rw[nY]at hle;let hr:=run_append_room (P:=P) w t ty T i H.und jZ b d.length c cells O ⟨sb,L,a6⟩ f.length X x (by rw[W];exact G) o hone p<|by rw[W,G,Z];exact hle
     let dA  :=(om.1 O).1;rw[W]at hr;refine⟨_,_,.row b c,hr,⟨rfl,rfl,rfl,by simp[WJ],λk _ hk=>setRow_other w b k _ λhe=>hk<|by rw[he];rfl⟩,λk h=>?_,.inr N,by simp[fe],rfl,.inr ⟨b,c,_,rfl,setRow_heap w b cells _ T _ O,by simpa using p,h2,?_,?_⟩⟩
     ·cases h;exact⟨by simpa [WJ] using dA,.inl rfl⟩
     ·let hx:d.length*e.size<=c*e.size:=ga _ Y;simp only[YO,bK,fl,km,nn,Z,G];omega
     ·let hx:d.length*e.size<=c*e.size:=ga _ Y
      let Zi:(cells.toList.take<|d.length*e.size).length=d.length*e.size:=by simp only[fl,nn,Z];omega
      let F:(d++f).length*e.size=(cells.toList.take (d.length*e.size)++x).length:=by rw[bK,bK,Zi,G,nY]
      rw[F,WO];exact bO.append _ _ _ _ h4 A
    ·let hx:d.length*e.size<=c*e.size:=ga _ Y
     let hca:=(iw O).sub 0<|d.length*e.size
     simp only[List.drop_zero,y8]at hca;let ⟨y,w',u,g1,g2,g3,g4,g5,g6⟩:=M ⟨b,0,a6⟩ d.length c _ rfl (by omega) (by simp only[fl,nn,Z];omega) (λj v hj=>by rw[fP];exact hca j v hj) h4<|some b
     exact⟨y,w',u,g1,g2,g3,.inr N,g4,g5,.inr g6⟩
theorem Gc {t T x y o n e i j l}(N:ElT P t T e)(O:s.ev C x=.os o n)(S:s.hp o=ar (.arr T e n a8 i))(U:s.ev C y=l)(V:Src s.hp l e j)
  (d:i.length+j.length<=lim):
  cG P C ⟨dst,.call ⟨.builtin .append, #[x,y], #[t,t]⟩,ty,pos,dD,gd⟩ ⟨dst,.os o (n+1),l.objs,[(o,.arr T e (n+1) a8 (i++j))]⟩ s:=by
 intro W F G im μ a w c X
 let Y  :=(F x<|by simp[cx,pd]).trans O
 let m  :=(F y<|by simp[cx,pd]).trans U
 let p  :=(G o<| .inr<|by simp).trans S
 let Z  :=V.hp λk hk=>G k<| .inl hk
 let f:=Z.sound (m▸c.ev y) c.obj
 let ⟨H,fx⟩:=Y▸c.ev x
 simp only[RepA]at H
 obtain⟨T',e',m',z',yc,I,hle,u,hc,h1,J⟩:=H
 rw[p]at I
 cases I
 have g:=J rfl
 clear J
 let hv:a.eval x=u:=by have  :=hc;generalize a.eval x=v at this fx;cases v<;>simp_all[gI,bS,AV.isAgg]
 let ⟨q,w',wP,g1,g2,g3,g4,g5,g6,g7⟩:=qX N w im ty g (by
  rcases c.obj o _ p with h|⟨_,h⟩|⟨h,_⟩
  ·exact .inl h
  ·exact .inr h
  ·cases h) f d (λb hb=>(c.sep o b hb).1) c.imLt
 let L:∀z,W.hp o=ar z->fo z (μ o) (.arr T e _ a8<|i++j) wP:=by intro z M;rw[p]at M;obtain rfl:=hY M;exact⟨_,_,_,rfl,.inr<|Nat.lt_succ_self _⟩
 let ev:=c.evObj L g2
 refine⟨q,w',im,_,.inl ?_,c.obj1 L g2 g3 ?_ X ?_⟩
 ·simp only[execOp,resolve,invoke,builtin,hF,m0,eE,List.map_toArray,ox,List.map_nil,hv,g1]
 ·rcases g7 with ⟨b,A,B⟩|⟨b,D,cells,A,B,h4,h5,h6,h7⟩
  ·exact .inl ⟨b,A,B⟩
  ·exact .inr<| .inl ⟨rfl,b,D,_,A,B,h4,h5,h6,bO.mono (bm.mono ev.fim ev.fheap e) _ _ h7⟩
 ·refine cr.ofA ?_<|by cases q<;>simp_all[og,bS,AV.isAgg]
  simp only[RepA];exact⟨T,e,_,_,_,gO _ _ _,ep _,q,by rw[(sf g6).1],g6,λ_=>by rw[cU];exact g5⟩
theorem tv {d o t T x y e m q}(N:ElT P t T e)(O:s.hp o=a6)(n:s.ev C x=.nils\/s.ev C x=.emp)(S:s.ev C y=q)(U:Src s.hp q e m)
  (i:m.length<=lim):
  cG P C ⟨d,.call ⟨.builtin .append, #[x,y], #[t,t]⟩,ty,pos,dD,gd⟩ ⟨d,.os o 0,q.objs,[(o,.arr T e 0 a8 m)]⟩ s:=by
 intro V F G im μ a w c W
 let X  :=F x<|by simp[cx,pd]
 let u  :=(F y<|by simp[cx,pd]).trans S
 let H  :=(G o<| .inr<|by simp).trans O
 let Y  :=U.hp λk Z=>G k<| .inl Z
 let j:=Y.sound (u▸c.ev y) c.obj
 let ⟨g,hv⟩:∃g,a.eval x=.slice g 0 0:=by
  let f:=c.ev x;rw[X]at f;rcases n with n|n<;>rw[n]at f<;>let ⟨l,I⟩:=f<;>simp only[RepA]at l
  ·exact⟨a6,bj l I⟩
  ·let ⟨g,l⟩:=l;exact⟨g,bj l I⟩
 let ⟨v,w',wP,g1,g2,g3,g4,g5,g6,g7⟩:=qX N w im ty (pl:=.nil g) rfl (.inl ⟨g,rfl,rfl⟩) j (by simpa using i) (λb p=>by cases p) c.imLt
 simp only[pb]at g5 g7
 let J:∀z,V.hp o=ar z->fo z (μ o) (.arr T e 0 a8 m) wP:=λz L=>by rw[H]at L;cases L
 let M:n4 w w' (μ o).blk:=by rw[c.dom o H];exact g2
 let ev:=c.evObj J M
 refine⟨v,w',im,_,.inl ?_,c.obj1 J M (λb p=>⟨(g3 b p).1,.inr ?_⟩) ?_ W ?_⟩
 ·simp only[execOp,resolve,invoke,builtin,hF,m0,eE,List.map_toArray,ox,List.map_nil,hv,g1]
 ·rcases(g3 b p).2 with h|h
  ·cases h
  ·exact h
 ·rcases g7 with ⟨b,A,B⟩|⟨b,D,cells,A,B,h4,h5,h6,h7⟩
  ·exact .inl ⟨b,A,B⟩
  ·exact .inr<| .inl ⟨rfl,b,D,_,A,B,h4,h5,h6,bO.mono (bm.mono ev.fim ev.fheap e) _ _ h7⟩
 ·refine cr.ofA ?_<|by cases v<;>simp_all[og,bS,AV.isAgg]
  exact⟨T,e,_,_,_,gO _ _ _,ep _,v,by rw[(sf g6).1],g6,λ_=>by rw[cU];exact g5⟩
end
end Go.Vm
namespace Go.Vm
mutual
def AV.free :AV->Bool
  | .undef=>a8
  | .d _ _=>bc
  | .ip _ _=>bc
  | .op _ _ _=>a8
  | .os _ _=>a8
  | .oe _ _ _=>a8
  | .ow _ _ _ _=>a8
  | .nils=>bc
  | .emp=>bc
  | .pr a b=>a.free&&b.free
  | .tup _=>a8
  | .fn _ first c=>frees first&&frees c
  | .nilfn=>bc
  | .iface _ v=>v.free
  | .nilif=>bc
  | .nilp=>bc
  | .ref _=>a8
def frees :List AV->Bool
  |[]=>bc
  |a::l=>a.free&&frees l
end
section
variable {w:World}{im:Nat->Prop}{μ ca:Mu}{hp cT:Hp}
mutual
/-- what names no object stands whatever the objects Qa -/
theorem RepA.free :∀(a:AV) (h:List Value),a.free=bc->RepA w im μ hp a h->RepA w im ca cT a h
  | .undef,_,g,_=>by simp[AV.free]at g
  | .d t x,h,_,c=>by simp only[RepA]at c⊢;exact c
  | .ip t x,h,_,c=>by simp only[RepA]at c⊢;exact c
  | .op _ _ _,_,g,_=>by simp[AV.free]at g
  | .os _ _,_,g,_=>by simp[AV.free]at g
  | .oe _ _ _,_,g,_=>by simp[AV.free]at g
  | .ow _ _ _ _,_,g,_=>by simp[AV.free]at g
  | .nils,h,_,c=>by simp only[RepA]at c⊢;exact c
  | .emp,h,_,c=>by simp only[RepA]at c⊢;exact c
  | .pr a b,h,g,c=>by simp only[AV.free,aX]at g;simp only[RepA]at c⊢;obtain⟨m,n,e,i,j⟩:=c;exact⟨m,n,e,RepA.free a m g.1 i,RepA.free b n g.2 j⟩
  | .tup _,_,g,_=>by simp[AV.free]at g
  | .fn f first l,h,g,c=>by simp only[AV.free,aX]at g;simp only[RepA]at c⊢;obtain⟨o,p,e,i,j⟩:=c;exact⟨o,p,e,RepFs.free first o g.1 i,RepFs.free l p g.2 j⟩
  | .nilfn,h,_,c=>by simp only[RepA]at c⊢;exact c
  | .iface t v,h,g,c=>by simp only[AV.free]at g;simp only[RepA]at c⊢;obtain⟨u,e,i,j⟩:=c;simp_all[RepA.free]
  | .nilif,h,_,c=>by simp only[RepA]at c⊢;exact c
  | .nilp,h,_,c=>by simp only[RepA]at c⊢;exact c
  | .ref _,_,g,_=>by simp[AV.free]at g
theorem RepFs.free :∀(l:List AV) (c:List Value),frees l=bc->RepFs w im μ hp l c->RepFs w im ca cT l c
  |[],c,_,b=>by simp only[RepFs]at b⊢;exact b
  |a::l,c,d,b=>by simp only[frees,aX]at d;simp only[RepFs]at b⊢;obtain⟨v,f,e,g,h,i⟩:=b;exact⟨v,f,e,RepA.free a _ d.1 g,h,RepFs.free l f d.2 i⟩
end
end
theorem jD {a:AV}(h:a.free=bc):a.plain=bc:=by cases a<;>simp_all[AV.free,AV.plain]
def iQ (C:Ctx)  :=∀g v,C.Γ g=ar v->v.free=bc
inductive jw where
 |keep
 |reset (m:Nat)
 |shift (k:Nat)
def jw.app :jw->Nat->Option Nat
 | .keep,n=>ar n
 | .reset m,n=>bif dK n m then ar 0 else a6
 | .shift k,n=>ar (k+n)
theorem jw.mono {c:jw}{n m d e}(a:c.app n=ar d)(b:c.app m=ar e)(h:n<=m):d<=e/\(d=e->n=m):=by
 cases c with
 |keep=>cases a;cases b;exact⟨h,id⟩
 |reset k=>
  simp only[jw.app]at a b;cases f:dK n k with|false=>rw[f]at a;cases a|true=>cases g:dK m k with|false=>rw[g]at b;cases b|true=>simp_all
 |shift k=>cases a;cases b;exact⟨by omega,λh=>by omega⟩
abbrev Sg :=List (Nat×Nat×jw)
def Sg.get :Sg->Nat->Option (Nat×jw)
 |[],_=>a6
 |(a,b)::r,o=>bif dK o a then ar b else Sg.get r o
def Sg.inv :Sg->Nat->Option Nat
 |[],_=>a6
 |(a,b,_)::r,o=>bif dK o b then ar a else Sg.inv r o
def Sg.good :Sg->Bool
 |[]=>bc
 |(a,b,_)::r=>(match Sg.get r a with|none=>bc|some _=>a8)&&(match Sg.inv r b with|none=>bc|some _=>a8)&&Sg.good r
theorem lY {a b:Nat}(h:dK a b=a8):a≠b:=λe=>by subst e;rw[ye]at h;cases h
theorem Sg.inv_of_get :∀{σ:Sg},σ.good=bc->∀{o c} {d},σ.get o=ar (c,d)->σ.inv c=ar o
 |[],_,_,_,_,h=>by cases h
 |(a,b,i)::r,e,o,c,d,h=>by simp only[Sg.good,aX]at e;let ⟨_,f⟩:=e;simp only[Sg.get]at h;simp only[Sg.inv];cases g:dK o a with|true=>simp_all|false=>rw[g]at h;let j:=Sg.inv_of_get f h;grind [dK,cb]
theorem Sg.get_of_inv :∀{σ:Sg},σ.good=bc->∀{o c},σ.inv c=ar o->∃d,σ.get o=ar (c,d)
 |[],_,_,_,h=>by cases h
 |(a,b,i)::r,e,o,c,h=>by simp only[Sg.good,aX]at e;let ⟨_,f⟩:=e;simp only[Sg.inv]at h;simp only[Sg.get];cases g:dK c b with|true=>simp_all|false=>rw[g]at h;let ⟨d,j⟩:=Sg.get_of_inv f h;grind [dK,cb]
mutual
def AV.ren (σ:Sg):AV->Option AV
  | .undef=>a6
  | .d t x=>ar (.d t x)
  | .ip t x=>ar (.ip t x)
  | .op o p h=>match σ.get o with|some (c,_)=>ar (.op c p h)|none=>a6
  | .os o n=>match σ.get o with|some (c,e)=>(match e.app n with|some g=>ar (.os c g)|none=>a6)|none=>a6
  | .oe o n i=>match σ.get o with|some (c,e)=>(match e.app n with|some g=>ar (.oe c g i)|none=>a6)|none=>a6
  | .ow o n i l=>match σ.get o with|some (c,e)=>(match e.app n with|some g=>ar (.ow c g i l)|none=>a6)|none=>a6
  | .nils=>ar .nils
  | .emp=>ar .emp
  | .pr a b=>match a.ren σ with|some m=>(match b.ren σ with|some q=>ar (.pr m q)|none=>a6)|none=>a6
  | .tup _=>a6
  | .fn f first j=>match rens σ first with|some l=>(match rens σ j with|some u=>ar (.fn f l u)|none=>a6)|none=>a6
  | .nilfn=>ar .nilfn
  | .iface t v=>match v.ren σ with|some y=>ar (.iface t y)|none=>a6
  | .nilif=>ar .nilif
  | .nilp=>ar .nilp
  | .ref o=>match σ.get o with|some (c,_)=>ar (.ref c)|none=>a6
def rens (σ:Sg):List AV->Option (List AV)
  |[]=>ar []
  |a::l=>match a.ren σ with|some b=>(match rens σ l with|some c=>ar (b::c)|none=>a6)|none=>a6
end
def TS (σ:Sg):List (ao×AV)->Option (List (ao×AV))
 |[]=>ar []
 |(k,a)::l=>match a.ren σ with|some b=>(match TS σ l with|some c=>ar ((k,b)::c)|none=>a6)|none=>a6
def Zy (σ:Sg):List (Nat×AV)->List (Nat×AV)
 |[]=>[]
 |(k,a)::l=>match a.ren σ with|some b=>(k,b)::Zy σ l|none=>Zy σ l
def j3.ren (σ:Sg):j3->Option j3
 | .map l=>match TS σ l with|some a=>ar (.map a)|none=>a6
 | .loop b c d=>ar (.loop b (Zy σ c) d)
theorem j3.ren_isMap {σ}{r a:j3}(h:r.ren σ=ar a):a.isMap=r.isMap:=by
 cases r with
 |map l=>simp only[j3.ren]at h;split at h<;>first|(cases h;rfl)|cases h
 |loop b c d=>cases h;rfl
def au.ren (σ:Sg)(a:jw):au->Option au
 | .rc r=>match r.ren σ with|some b=>ar (.rc b)|none=>a6
 | .box v=>match v.ren σ with|some c=>ar (.box c)|none=>a6
 | .arr T e m z d=>match a.app m with|some f=>ar (.arr T e f z d)|none=>a6
def ObR (b:jw):au->au->Prop
 | .box _,.box _=>True
 | .rc r,.rc c=>c.isMap=r.isMap
 | .arr T e m z d,f=>∃a,b.app m=ar a/\f=.arr T e a z d
 |_,_=>False
theorem au.ren_obR {σ b c f}(h:c.ren σ b=ar f):ObR b c f:=by
 cases c with
 |box v=>simp only[au.ren]at h;cases a:v.ren σ with|none=>rw[a]at h;cases h|some g=>rw[a]at h;cases h;trivial
 |rc r=>simp only[au.ren]at h;cases a:r.ren σ with|none=>rw[a]at h;cases h|some g=>rw[a]at h;cases h;exact j3.ren_isMap a
 |arr T e m z j=>simp only[au.ren]at h;cases d:b.app m with|none=>rw[d]at h;cases h|some i=>rw[d]at h;cases h;exact⟨i,d,rfl⟩
theorem AV.ren_agg {σ}(a b:AV)(h:a.ren σ=ar b):a.isAgg=b.isAgg:=by cases a<;>simp only[AV.ren]at h;all_goals (repeat' split at h)<;>first|(cases h;rfl)|cases h
structure uT (σ:Sg)(μ ca:Mu)(hp cT:Hp):Prop where
 ob:∀o o' φ,σ.get o=ar (o',φ)->ca o'=μ o/\∀ob,hp o=ar ob->∃eU,cT o'=ar eU/\ObR φ ob eU
section
variable {w:World}{im:Nat->Prop}{μ ca:Mu}{hp cT:Hp}{σ:Sg}
mutual
theorem RepA.ren (h:uT σ μ ca hp cT):∀(a D:AV) (q:List Value),a.ren σ=ar D->RepA w im μ hp a q->RepA w im ca cT D q
  | .undef,_,_,e,_=>by simp only[AV.ren]at e;cases e
  | .d t x,_,q,e,c=>by simp only[AV.ren]at e;cases e;simp only[RepA]at c⊢;exact c
  | .ip t x,_,q,e,c=>by simp only[AV.ren]at e;cases e;simp only[RepA]at c⊢;exact c
  | .op o p off,D,q,e,c=>by
    simp only[AV.ren]at e;cases j:σ.get o with|none=>rw[j]at e;cases e|some of=>obtain⟨F,A⟩:=of;rw[j]at e;cases e;simp only[RepA]at c⊢;obtain⟨b,v,g,y,G⟩:=c;obtain⟨g1,g2⟩:=h.ob o F A j;obtain⟨H,g3,g4⟩:=g2 _ y;cases H with|box v'=>exact⟨b,v',g1.trans g,g3,G⟩|arr _ _ _ _ _=>exact g4.elim|rc _=>exact g4.elim
  | .os o n,D,q,e,c=>by
    simp only[AV.ren]at e;cases j:σ.get o with|none=>rw[j]at e;cases e|some of=>obtain⟨F,A⟩:=of;rw[j]at e;simp only at e;cases B:A.app n with|none=>rw[B]at e;cases e|some Z=>rw[B]at e;cases e;simp only[RepA]at c⊢;obtain⟨T,I,m,z,J,g,y,v,G,L,M⟩:=c;obtain⟨g1,g2⟩:=h.ob o F A j;obtain⟨H,g3,N,g4,rfl⟩:=g2 _ g;obtain⟨O,S⟩:=jw.mono B g4 y;exact⟨T,I,N,z,J,g3,O,v,G,L,λU=>by rw[g1];exact M (S U)⟩
  | .oe o n i,D,q,e,c=>by
    simp only[AV.ren]at e;cases j:σ.get o with|none=>rw[j]at e;cases e|some of=>obtain⟨F,A⟩:=of;rw[j]at e;simp only at e;cases B:A.app n with|none=>rw[B]at e;cases e|some Z=>rw[B]at e;cases e;simp only[RepA]at c⊢;obtain⟨T,I,m,z,J,g,y,v,G,L,M⟩:=c;obtain⟨g1,g2⟩:=h.ob o F A j;obtain⟨H,g3,N,g4,rfl⟩:=g2 _ g;obtain⟨O,S⟩:=jw.mono B g4 y;exact⟨T,I,N,z,J,g3,O,v,G,L,λU=>by rw[g1];exact M (S U)⟩
  | .ow o n i l,D,q,e,c=>by
    simp only[AV.ren]at e;cases j:σ.get o with|none=>rw[j]at e;cases e|some of=>obtain⟨F,A⟩:=of;rw[j]at e;simp only at e;cases B:A.app n with|none=>rw[B]at e;cases e|some Z=>rw[B]at e;cases e;simp only[RepA]at c⊢;obtain⟨T,I,m,z,J,g,y,v,G,L,M⟩:=c;obtain⟨g1,g2⟩:=h.ob o F A j;obtain⟨H,g3,N,g4,rfl⟩:=g2 _ g;obtain⟨O,S⟩:=jw.mono B g4 y;exact⟨T,I,N,z,J,g3,O,v,G,L,λU=>by rw[g1];exact M (S U)⟩
  | .nils,_,q,e,c=>by simp only[AV.ren]at e;cases e;simp only[RepA]at c⊢;exact c
  | .emp,_,q,e,c=>by simp only[AV.ren]at e;cases e;simp only[RepA]at c⊢;exact c
  | .pr a b,D,q,e,c=>by
    simp only[AV.ren]at e;cases g:a.ren σ with|none=>rw[g]at e;cases e|some X=>rw[g]at e;simp only at e;cases y:b.ren σ with|none=>rw[y]at e;cases e|some Y=>rw[y]at e;cases e;simp only[RepA]at c⊢;obtain⟨c1,c2,V,g1,g2⟩:=c;exact⟨c1,c2,V,RepA.ren h a X c1 g g1,RepA.ren h b Y c2 y g2⟩
  | .tup _,_,_,e,_=>by simp only[AV.ren]at e;cases e
  | .fn f first W,D,q,e,c=>by
    simp only[AV.ren]at e;cases g:rens σ first with|none=>rw[g]at e;cases e|some X=>rw[g]at e;simp only at e;cases y:rens σ W with|none=>rw[y]at e;cases e|some Y=>rw[y]at e;cases e;simp only[RepA]at c⊢;obtain⟨vs,us,V,g1,g2⟩:=c;exact⟨vs,us,V,RepFs.ren h first X vs g g1,RepFs.ren h W Y us y g2⟩
  | .nilfn,_,q,e,c=>by simp only[AV.ren]at e;cases e;simp only[RepA]at c⊢;exact c
  | .iface t v,D,q,e,c=>by simp only[AV.ren]at e;cases g:v.ren σ with|none=>rw[g]at e;cases e|some v1=>rw[g]at e;cases e;simp only[RepA]at c⊢;obtain⟨u,V,g1,g2⟩:=c;exact⟨u,V,RepA.ren h v v1 _ g g1,g2.trans (AV.ren_agg v v1 g)⟩
  | .nilif,_,q,e,c=>by simp only[AV.ren]at e;cases e;simp only[RepA]at c⊢;exact c
  | .nilp,_,q,e,c=>by simp only[AV.ren]at e;cases e;simp only[RepA]at c⊢;exact c
  | .ref o,D,q,e,c=>by
    simp only[AV.ren]at e;cases j:σ.get o with|none=>rw[j]at e;cases e|some of=>obtain⟨F,A⟩:=of;rw[j]at e;cases e;simp only[RepA]at c⊢;obtain⟨b,r,g,y,G⟩:=c;obtain⟨g1,g2⟩:=h.ob o F A j;obtain⟨H,g3,g4⟩:=g2 _ y;cases H with|rc r'=>have g5:r'.isMap=r.isMap:=g4;exact⟨b,r',g1.trans g,g3,by rw[G];simp only[j3.val,g5]⟩|arr _ _ _ _ _=>exact g4.elim|box _=>exact g4.elim
theorem RepFs.ren (h:uT σ μ ca hp cT):∀(l f:List AV) (c:List Value),rens σ l=ar f->RepFs w im μ hp l c->RepFs w im ca cT f c
  |[],_,c,e,b=>by simp only[rens]at e;cases e;simp only[RepFs]at b⊢;exact b
  |a::l,f,c,e,b=>by
    simp only[rens]at e;cases d:a.ren σ with|none=>rw[d]at e;cases e|some i=>rw[d]at e;simp only at e;cases g:rens σ l with|none=>rw[g]at e;cases e|some m=>rw[g]at e;cases e;simp only[RepFs]at b⊢;obtain⟨v,j,n,g1,g2,g3⟩:=b;exact⟨v,j,n,RepA.ren h a i _ d g1,g2.trans (AV.ren_agg a i d),RepFs.ren h l m j g g3⟩
end
theorem qu.ren (h:uT σ μ ca hp cT):∀(l d) (b),TS σ l=ar d->qu w im μ hp l b->qu w im ca cT d b
 |[],_,b,e,f=>by cases e;exact f
 |(k,a)::l,d,b,e,f=>by
  simp only[TS]at e;cases c:a.ren σ with|none=>rw[c]at e;cases e|some i=>rw[c]at e;cases g:TS σ l with|none=>rw[g]at e;cases e|some m=>rw[g]at e;cases e;let ⟨x,j,g1,g2,g3,g4,g5⟩:=f;exact⟨x,j,g1,g2,RepA.ren h a i _ c g3,g4.trans (AV.ren_agg a i c),qu.ren h l m j g g5⟩
theorem cr.ren (h:uT σ μ ca hp cT){a c v}(e:a.ren σ=ar c)(d:cr w im μ hp a v):cr w im ca cT c v:=by
 let key:∀{b:AV},RepA w im μ hp b _->bS v=b.isAgg->b.ren σ=ar c->cr w im ca cT c v:=λ{b} g i e=>by
  let f:=RepA.ren h b c _ e g;let j:=i.trans (AV.ren_agg b c e)
  cases c<;>first
   |exact⟨f,j⟩
   |trivial
   |(simp only[RepA]at f)
 cases a<;>first
  |(cases e;done)
  |exact key d.1 d.2 e
theorem AY (h:uT σ μ ca hp cT){b:Array _}:∀{l},(∀p∈l,cr w im μ hp p.2 (b.getD p.1 qP))->∀p∈Zy σ l,cr w im ca cT p.2 (b.getD p.1 qP)
 |[],_=>λp hp=>by cases hp
 |(k,a)::l,c=>by
  intro p hp;simp only[Zy]at hp;cases d:a.ren σ with
  |none=>rw[d]at hp;exact AY h (λq e=>c q (by simp[e])) p hp
  |some f=>
   rw[d]at hp;rcases kt.1 hp with rfl|hp
   ·exact cr.ren h d (c (k,a) (by simp))
   ·exact AY h (λq e=>c q (by simp[e])) p hp
theorem F0.ren (h:uT σ μ ca hp cT){r d x}(e:r.ren σ=ar d)(f:F0 w im μ hp r x):F0 w im ca cT d x:=by
 cases r with
 |map l=>
  simp only[j3.ren]at e;split at e
  ·rename_i q g;cases e;let ⟨i,a,b,c⟩:=f;exact⟨i,_,b,qu.ren h _ _ _ g c⟩
  ·cases e
 |loop t u v=>cases e;let ⟨r,b,c,j,m,n,o,p⟩:=f;exact⟨r,b,c,j,m,n,AY h o,p⟩
end
end Go.Vm
namespace Go.Vm
inductive aq where
 |ret (l:List AV)
 |panic (t:TypeId) (n:Int)
def gP (w:World)(im:Nat->Prop)(μ:Mu)(hp:Hp):aq->Ending->Prop
 | .ret [a],e=>∃v,e=.returned v/\RepA w im μ hp a v.cells.toList/\bS v=a.isAgg
 | .ret l,e=>∃b:List _,e=.returned (.tuple b.toArray)/\RepFs w im μ hp l b
 | .panic t n,e=>e=.panicked [{v:=.iface t (.int .i64 n),recovered:=a8}]
structure mX (w:World)(im:Nat->Prop)(μ:Mu)(hp:Hp):Prop where
 sep:∀o b,(μ o).blk=ar b->¬im b/\b<w.heap.size
 inj:∀o o' b,(μ o).blk=ar b->(μ o').blk=ar b->o=o'
 dom:∀o,hp o=a6->μ o=.none
 obj:∀o ob,hp o=ar ob->mP w im μ hp (μ o) ob
structure gk (W:World)(im:Nat->Prop)(μ:Mu)(h0:Hp)(w':World)(cX:Nat->Prop)(ca:Mu)(h1:Hp):Prop where
 os:w'.os=W.os
 tape:w'.tape=W.tape
 output:w'.output=W.output
 grow:W.heap.size<=w'.heap.size
 old:∀b,b<W.heap.size->(∀o,(μ o).blk≠ar b)->w'.heap[b]?=W.heap[b]?
 imSub:∀b,im b->cX b
 imNew:∀b,cX b->im b\/(∃o,(μ o).blk=ar b)\/W.heap.size<=b
 imLt:∀b,cX b->b<w'.heap.size
 own:∀o b,(ca o).blk=ar b->(∃o0,(μ o0).blk=ar b)\/W.heap.size<=b
 fob:∀o ob,h0 o=ar ob->∃eU,h1 o=ar eU/\fo ob (μ o) eU (ca o)
 inv:mX w' cX ca h1
def qY (a:Nat->Option AV)(W:World)(im:Nat->Prop)  :=∀g v,a g=ar v->cr W im (λ_=>.none) (λ_=>a6) v (.pointer (ar ⟨g,0,a6⟩))
def FnH (P:Program)(j:Nat->Option AV)(f:FuncId)(c:List AV)(d:Hp)(R:aq->Hp->Prop)  :=
 (∀(h) (w),(callFunc f h).run P w=.ok (.enter f h) w)/\
 ∀(W) (im) (μ) (a),(∀b,im b->b<W.heap.size)->qY j W im->mX W im μ d->RepFs W im μ d c a->
  Calls P f a.toArray W λe w'=>∃i g cX ca,R i g/\gk W im μ d w' cX ca g/\gP w' cX ca g i e
def AZ :List AV->AV
 |[a]=>a
 |l=>.tup l
theorem A0 {w}{im:Nat->Prop}{μ hp}{l:List AV}{e}(h:gP w im μ hp (.ret l) e):∃v,e=.returned v/\∃c,RepFs w im μ hp l c/\v=if h:c.toArray.size=1 then c.toArray[0]else .tuple c.toArray:=by
 match l,h with|[a],h=>let ⟨v,d,f,g⟩:=h;exact⟨v,d,[v],by exact⟨v,[],rfl,f,g,rfl⟩,rfl⟩|[],h=>let ⟨c,d,f⟩:=h;grind [RepFs]|a::b::l,h=>let ⟨c,d,f⟩:=h;grind [RepFs]
theorem TT {w}{im:Nat->Prop}{μ hp}{l:List AV}{d:List _}(h:RepFs w im μ hp l d):cr w im μ hp (AZ l) (if h:d.toArray.size=1 then d.toArray[0]else .tuple d.toArray):=by
 match l,h with|[a],h=>obtain⟨v,e,rfl,f,c,rfl⟩:=h;exact cr.ofA f c|[],h=>have c:=h;subst c;exact⟨[],rfl,h⟩|a::b::l,h=>let c:=h;obtain⟨v,e,rfl,_,_,i,g,rfl,_⟩:=c;exact⟨_,by simp,h⟩
section
variable {P:Program}{C:Ctx}
structure fg (σ:Sg)(hp h0:Hp):Prop where
 good:σ.good=bc
 fwd:∀o o' φ,σ.get o=ar (o',φ)->∃ob eU,hp o=ar ob/\ob.ren σ φ=ar eU/\h0 o'=ar eU
 dom:∀o',σ.inv o'=a6->h0 o'=a6
structure uU (σ fE:Sg)(hp H1:Hp)(wr:List (Nat×au)):Prop where
 good:fE.good=bc
 bwd:∀o' o φ,fE.get o'=ar (o,φ)->∃ob eU,H1 o'=ar ob/\ob.ren fE φ=ar eU/\aT hp wr o=ar eU
 passed:∀o o' φ,σ.get o=ar (o',φ)->∃FW,fE.get o'=ar (o,FW)/\∀m v,φ.app m=ar v->FW.app v=ar m
 fresh:∀o' o φ,fE.get o'=ar (o,φ)->σ.inv o'=ar o\/(σ.inv o'=a6/\hp o=a6)
 keys:∀o,o∈wr.map (·.1)->∃o' φ,fE.get o'=ar (o,φ)
theorem jw.smono {c:jw}{a b d e}(f:c.app a=ar d)(g:c.app b=ar e)(h:a<b):d<e:=by let i:=jw.mono f g (Nat.le_of_lt h);omega
open Classical in
noncomputable def jl (σ:Sg)(μ:Mu):Mu:=λa=>match σ.inv a with|some o=>μ o|none=>.none
open Classical in
noncomputable def kH (a:Sg)(ca μ:Mu):Mu:=λo=>match a.inv o with|some b=>ca b|none=>μ o
theorem mP.ren {w im μ ca hp cT σ j l c n}(h:uT σ μ ca hp cT)(e:c.ren σ j=ar n)(d:mP w im μ hp l c):mP w im ca cT l n:=by
 cases c with
 |box v=>simp only[au.ren]at e;cases a:v.ren σ with|none=>rw[a]at e;cases e|some p=>rw[a]at e;cases e;let ⟨b,cells,T,f,g,i⟩:=d;exact⟨b,_,T,f,g,RepA.ren h v p _ a i⟩
 |rc r=>simp only[au.ren]at e;cases a:r.ren σ with|none=>rw[a]at e;cases e|some q=>rw[a]at e;cases e;let ⟨b,x,f,g,i⟩:=d;exact⟨b,x,f,g,F0.ren h a i⟩
 |arr T t m z u=>simp only[au.ren]at e;cases o:j.app m with|none=>rw[o]at e;cases e|some y=>rw[o]at e;cases e;exact d
theorem fg.inv {σ hp h0}(H:fg σ hp h0){w im μ}(l:∀o b,(μ o).blk=ar b->¬im b/\b<w.heap.size)(m:∀o a b,(μ o).blk=ar b->(μ a).blk=ar b->o=a)
  (n:∀o p,hp o=ar p->mP w im μ hp (μ o) p):mX w im (jl σ μ) h0/\uT σ μ (jl σ μ) hp h0:=by
 let q:∀o a d,σ.get o=ar (a,d)->jl σ μ a=μ o:=λo a d h=>by simp only[jl,Sg.inv_of_get H.good h]
 let t:uT σ μ _ hp h0:=⟨λo a d h=>⟨q o a d h,λp v=>by let ⟨x,u,j,f,g⟩:=H.fwd o a d h;rw[v]at j;cases j;exact⟨u,g,au.ren_obR f⟩⟩⟩
 let c:∀a b,(jl σ μ a).blk=ar b->∃o,σ.inv a=ar o/\(μ o).blk=ar b:=λa b h=>by unfold jl at h;cases i:σ.inv a with|none=>rw[i]at h;cases h|some o=>rw[i]at h;exact⟨o,rfl,h⟩
 refine⟨⟨?_,?_,?_,?_⟩,t⟩
 ·intro a b h;let ⟨o,_,f⟩:=c a b h;exact l o b f
 ·intro y z b j f;let ⟨A,g1,B⟩:=c y b j;let ⟨D,g2,F⟩:=c z b f;obtain rfl:=m A D b B F;let ⟨G,e1⟩:=Sg.get_of_inv H.good g1;let ⟨I,e2⟩:=Sg.get_of_inv H.good g2;rw[e1]at e2;cases e2;rfl
 ·intro a h;unfold jl;cases i:σ.inv a with|none=>rfl|some o=>let ⟨d,e⟩:=Sg.get_of_inv H.good i;let ⟨_,u,_,_,g⟩:=H.fwd o a d e;rw[h]at g;cases g
 ·intro a u h;cases i:σ.inv a with|none=>rw[H.dom a i]at h;cases h|some o=>let ⟨d,e⟩:=Sg.get_of_inv H.good i;let ⟨p,x,j,f,g⟩:=H.fwd o a d e;rw[h]at g;cases g;rw[q o a d e];exact mP.ren t f (n o p j)
theorem Inv.backE {im cX μ ca M a w w' σ i h0 H1 wr}(J:Inv C im μ M a w)(H:fg σ M.hp h0)(B:uU σ i M.hp H1 wr)
  (S:gk w im (jl σ μ) h0 w' cX ca H1) {dst} (hd:∀d,dst=ar d->d<C.n) {av v} (hv:cr w' cX (kH i ca μ) (aT M.hp wr) av v):
  Inv C cX (kH i ca μ) ⟨(M.put dst av).fr,aT M.hp wr⟩ (a.put dst v) w'/\Ev w im μ M.hp w' cX (kH i ca μ) (aT M.hp wr):=by
 let nX:∀o c q,σ.get o=ar (c,q)->jl σ μ c=μ o:=λo c q h=>by simp only[jl,Sg.inv_of_get H.good h]
 let j:∀c b,(jl σ μ c).blk=ar b->∃o q,σ.get o=ar _/\(μ o).blk=ar b:=λc b h=>by unfold jl at h;cases p:σ.inv c with|none=>rw[p]at h;cases h|some o=>rw[p]at h;let ⟨q,e⟩:=Sg.get_of_inv H.good p;exact⟨o,q,e,h⟩
 let l:∀c o q,i.get c=ar (o,q)->kH i ca μ o=ca c:=λc o q h=>by simp only[kH,Sg.inv_of_get B.good h]
 let f:∀o,i.inv o=a6->kH i ca μ o=μ o:=λo h=>by simp only[kH,h]
 let D:∀o,i.inv o=a6->aT _ wr o=M.hp o:=λo h=>ig λhm=>by let ⟨c,q,e⟩:=B.keys o hm;rw[Sg.inv_of_get B.good e]at h;cases h
 let N:∀o c q,σ.get o=ar _->i.inv o=ar c:=λo c q h=>by let ⟨F,e,_⟩:=B.passed o c q h;exact Sg.inv_of_get B.good e
 let hsg':uT i ca _ H1 _:=⟨λc o q h=>⟨l c o q h,λob iF=>by let ⟨tq,eU,t,g,U⟩:=B.bwd c o q h;rw[iF]at t;cases t;exact⟨eU,U,au.ren_obR g⟩⟩⟩
 have ev:Ev w im μ M.hp w' cX (kH i ca μ) (aT M.hp wr):=by
  refine⟨S.imSub,λb A=>S.old b (J.imLt b A) λc iy=>?_,λo ob L=>?_⟩
  ·let ⟨o,_,_,h⟩:=j c b iy;exact(J.sep o b h).1 A
  ·cases p:i.inv o with
   |none=>exact⟨ob,by rw[D o p];exact L,by rw[f o p];exact fo.refl _ _⟩
   |some c=>
    let ⟨F,G⟩:=Sg.get_of_inv B.good p;let ⟨tq,AA,t,g,U⟩:=B.bwd c o F G;rcases B.fresh c o F G with hf|⟨_,hf⟩
    ·let ⟨q,e⟩:=Sg.get_of_inv H.good hf
     let ⟨obc,obc',g1,g2,g3⟩:=H.fwd o c q e;rw[L]at g1;cases g1;let ⟨ob1',k1,V⟩:=S.fob c _ g3;rw[t]at k1;cases k1;rw[nX o c q e]at V;refine⟨AA,U,?_⟩;rw[l c o F G];let ⟨φ'',e'',hr⟩:=B.passed o c q e;rw[G]at e'';cases e'';cases ob with
     |box v=>
      simp only[au.ren]at g2;cases I:v.ren σ with
      |none=>rw[I]at g2;cases g2
      |some v'=>
       rw[I]at g2;cases g2;cases tq with|arr _ _ _ _ _=>exact V.elim|rc _=>exact V.elim|box u=>simp only[au.ren]at g;cases hu:u.ren i with|none=>rw[hu]at g;cases g|some u'=>rw[hu]at g;cases g;exact V
     |rc v=>
      simp only[au.ren]at g2;cases I:v.ren σ with
      |none=>rw[I]at g2;cases g2
      |some v'=>
       rw[I]at g2;cases g2;cases tq with|arr _ _ _ _ _=>exact V.elim|box _=>exact V.elim|rc u=>simp only[au.ren]at g;cases hu:u.ren i with|none=>rw[hu]at g;cases g|some u'=>rw[hu]at g;cases g;exact⟨V.1,(j3.ren_isMap hu).trans (V.2.trans (j3.ren_isMap I))⟩
     |arr T el m z xs=>
      simp only[au.ren]at g2;cases hm:q.app m with
      |none=>rw[hm]at g2;cases g2
      |some v0=>
       rw[hm]at g2;cases g2;obtain⟨m1,z1,ys,rfl,k3⟩:=V;simp only[au.ren]at g;cases I1:F.app m1 with
       |none=>rw[I1]at g;cases g
       |some m2=>
        rw[I1]at g;cases g;refine⟨m2,z1,ys,rfl,?_⟩;let hb0:=hr m v0 hm;rcases k3 with ⟨q1,q2,q3⟩|q1
        ·subst q1;rw[hb0]at I1;cases I1;exact .inl ⟨rfl,q2,q3⟩
        ·exact .inr (jw.smono hb0 I1 q1)
    ·rw[hf]at L;cases L
 refine⟨J.step ev S.os S.tape S.output S.grow ?_ ?_ S.imLt ?_ ?_ ?_ ?_ dst hd av v hv,ev⟩
 ·intro b A hno;exact S.old b A λc iy=>by let ⟨o,_,_,h⟩:=j c b iy;exact hno o h
 ·intro b A
  rcases S.imNew b A with h|⟨c,h⟩|h
  ·exact .inl h
  ·let ⟨o,_,_,h⟩:=j c b h;exact .inr (.inl ⟨o,h⟩)
  ·exact .inr (.inr h)
 ·intro o b A
  cases p:i.inv o with
  |none=>
   rw[f o p]at A;let ⟨g1,g2,_⟩:=J.sep o b A;refine⟨λhc=>?_,xd g2 S.grow,.inl ⟨o,A⟩⟩;rcases S.imNew b hc with h|⟨c,h⟩|h
   ·exact g1 h
   ·let ⟨X,Y,e1,t⟩:=j c b h;obtain rfl:=J.inj _ _ b t A;rw[N _ _ _ e1]at p;cases p
   ·omega
  |some c=>
   let ⟨F,G⟩:=Sg.get_of_inv B.good p;rw[l c o F G]at A;let ⟨g1,g2⟩:=S.inv.sep c b A;refine⟨g1,g2,?_⟩;rcases S.own c b A with ⟨o0,h⟩|h
   ·let ⟨X,_,_,t⟩:=j o0 b h;exact .inl ⟨X,t⟩
   ·exact .inr h
 ·intro X o2 b t g
  let O:∀x y,i.inv x=a6->(∃y',i.inv y=ar y')->(kH i ca μ x).blk=ar b->(kH i ca μ y).blk=ar b->False:=by
   intro x y hx ⟨y',hy⟩ Z hby
   rw[f x hx]at Z;let ⟨F,G⟩:=Sg.get_of_inv B.good hy;rw[l y' y F G]at hby
   rcases S.own y' b hby with ⟨o0,h⟩|h
   ·let ⟨o1',Y,e1,k1⟩:=j o0 b h;obtain rfl:=J.inj _ _ b k1 Z;rw[N _ _ _ e1]at hx;cases hx
   ·let:=(J.sep x b Z).2.1;omega
  cases W:i.inv X with
  |none=>cases TF:i.inv o2 with|none=>rw[f X W]at t;rw[f o2 TF]at g;exact J.inj _ _ b t g|some y=>exact(O X o2 W ⟨y,TF⟩ t g).elim
  |some x=>cases TF:i.inv o2 with|none=>exact(O o2 X TF ⟨x,W⟩ g t).elim|some y=>let ⟨Y,e1⟩:=Sg.get_of_inv B.good W;let ⟨φ2,e2⟩:=Sg.get_of_inv B.good TF;rw[l _ _ _ e1]at t;rw[l _ _ _ e2]at g;obtain rfl:=S.inv.inj _ _ b t g;rw[e1]at e2;cases e2;rfl
 ·intro o L;cases p:i.inv o with|none=>rw[D o p]at L;rw[f o p];exact J.dom o L|some c=>let ⟨F,G⟩:=Sg.get_of_inv B.good p;let ⟨_,eU,_,_,U⟩:=B.bwd c o F G;rw[L]at U;cases U
 ·intro o ob L
  cases p:i.inv o with
  |none=>
   rw[D o p]at L;rw[f o p];refine(J.obj o ob L).ev ev λb A=>S.old b (J.sep o b A).2.1 (λc iy=>?_)
   let ⟨X,Y,e1,k1⟩:=j c b iy;obtain rfl:=J.inj _ _ b k1 A;rw[N _ _ _ e1]at p;cases p
  |some c=>let ⟨F,G⟩:=Sg.get_of_inv B.good p;let ⟨tq,eU,t,g,U⟩:=B.bwd c o F G;rw[L]at U;cases U;rw[l c o F G];exact mP.ren hsg' g (S.inv.obj c tq t)
theorem Inv.back {im cX μ ca b a w w' σ c h0 f e}(g:Inv C im μ b a w)(H:fg σ b.hp h0)(B:uU σ c b.hp f e)
  (S:gk w im (jl σ μ) h0 w' cX ca f) {dst} (h:∀d,dst=ar d->d<C.n) {av v} (i:cr w' cX (kH c ca μ) (aT b.hp e) av v):
  Inv C cX (kH c ca μ) ⟨(b.put dst av).fr,aT b.hp e⟩ (a.put dst v) w':=(g.backE H B S h i).1
end
end Go.Vm
namespace Go.Vm
section
variable {P:Program}{C:Ctx}{s:ASt}
theorem En {σ}{a b:AV}(h:a.ren σ=ar b):a.plain=bc:=by cases a<;>first|rfl|(cases h)
theorem oF {w im μ hp σ}:∀{l f} {c},rens σ l=ar f->c.length=l.length->(∀(i:Nat) (a) (v),l[i]?=ar a->c[i]?=ar v->cr w im μ hp a v)->RepFs w im μ hp l c
 |[],_,c,_,d,_=>by grind [List.eq_nil_of_length_eq_zero,RepFs]
 |a::l,f,v::c,h,d,g=>by
  simp only[rens]at h;cases e:a.ren σ with
  |none=>rw[e]at h;cases h
  |some o=>
   rw[e]at h;cases j:rens σ l with
   |none=>rw[j]at h;cases h
   |some p=>
    let ⟨g1,g2⟩:=(g 0 a v rfl rfl).toA<|En e
    exact⟨v,c,rfl,g1,g2,oF j (by simpa using d) λi b u m n=>g (i+1) b u (by simpa using m)<|by simpa using n⟩
 |_::_,_,[],_,d,_=>by simp at d
theorem yi {σ}:∀{l m r},rens σ (l++m)=ar r->∃b c,rens σ l=ar b/\rens σ m=ar c/\r=b++c
 |[],m,r,h=>⟨[],r,rfl,h,rfl⟩
 |a::l,m,r,h=>by
  simp only[Ar,rens]at h⊢;cases d:a.ren σ with|none=>rw[d]at h;cases h|some f=>rw[d]at h;cases e:rens σ (l++m)with|none=>rw[e]at h;cases h|some g=>obtain⟨b,c,g1,g2,rfl⟩:=yi e;grind
theorem RepFs.append {w im μ hp}:∀{l m} {b c},RepFs w im μ hp l b->RepFs w im μ hp m c->RepFs w im μ hp (l++m) (b++c)
 |[],_,b,c,h,d=>by grind [RepFs]
 |a::l,m,b,c,h,d=>by obtain⟨v,e,rfl,f,g,i⟩:=h;exact⟨v,_,rfl,f,g,RepFs.append i d⟩
theorem fg.of_agree {σ hp c d}(H:fg σ hp d)(e:∀o a b,σ.get o=ar (a,b)->c o=hp o):fg σ c d:=
 ⟨H.good,λo a b h=>by rw[e o a b h];exact H.fwd o a b h,H.dom⟩
theorem uU.of_agree {σ g hp i j}{f:List (Nat×au)}(B:uU σ g hp j f)(c:∀d o e,g.get d=ar (o,e)->o∈f.map (·.1))(l:∀o,o∈f.map (·.1)->i o=hp o):uU σ g i j f:=
 ⟨B.good,λd o e h=>by let ⟨m,n,p,q,t⟩:=B.bwd d o e h;exact⟨m,n,p,q,by rw[jN<|c d o e h];exact t⟩,B.passed,λd o e h=>(B.fresh d o e h).imp id λ⟨a,b⟩=>⟨a,by rw[l o<|c d o e h];exact b⟩,B.keys⟩
def Zz C b w c d w'  :=∃im μ cX ca a,Inv C im μ b a w/\Inv C cX ca c d w'/\Ev w im μ b.hp w' cX ca c.hp
theorem Zz.rel {c a w w' b}(h:Zz C c w a b w'):Rel C a b w':=by let ⟨_,_,cX,ca,_,_,h,_⟩:=h;exact⟨cX,ca,h⟩
theorem Zz.keep {H z w w' L u}(h:Zz C H w z L w')
  (I:∀o,u o=z.hp o\/∃(T:TypeId) (e:Ty) (m:Nat) (d:List _) (i:TypeId) (j:Ty) (l:List _),H.hp o=ar (.arr T e m bc d)/\z.hp o=ar (.arr i j m bc l)/\u o=H.hp o):Rel C ⟨z.fr,u⟩ L w':=by
 let ⟨im,μ,cX,ca,a,S,c,B⟩:=h
 let D:∀(o:Nat) (T:TypeId) (e:Ty) (m:Nat) (d:List _) (i:TypeId) (j:Ty) (l:List _),H.hp o=ar (.arr T e m bc d)->z.hp o=ar (.arr i j m bc l)->
   fo (.arr i j m bc l) _ _ (ca o)/\mP w' cX ca u (ca o) (.arr T e m bc d):=by
  intro o T e m d i j l n y
  obtain⟨U,g1,m1,z1,ys,rfl,g2⟩:=B.fob o _ n
  rw[y]at g1
  cases g1
  rcases g2 with ⟨_,g3,g4⟩|g2
  ·let p:=S.obj o _ n
   let J:ca o=μ o:=by
    rcases g4 with g4|⟨b,V,g4,g5⟩
    ·exact g4
    ·rcases p with ⟨ad,p,_⟩|⟨p,_⟩|⟨_,M,t,N,p,_⟩
     all_goals grind
   refine⟨⟨m,bc,d,rfl,.inl ⟨rfl,g3.symm,.inl rfl⟩⟩,?_⟩;rw[J];rcases p with p|⟨p,_⟩|⟨_,M,t,N,W,O,X,Y,Z,q6⟩
   ·exact .inl p
   ·cases p
   ·exact .inr<| .inr ⟨rfl,M,t,N,W,B.fim _ O,X,Y,Z.mono<|B.fheap _ O,bO.mono (bm.mono B.fim B.fheap e) _ _ q6⟩
  ·omega
 let q:Ev w' cX ca z.hp w' cX ca u:=by
  refine⟨λ_ h=>h,λ_ _=>rfl,λo A f=>?_⟩;rcases I o with h|⟨T,e,m,d,i,j,l,n,y,F⟩
  ·exact⟨A,by rw[h];exact f,fo.refl _ _⟩
  ·rw[y]at f;cases f;exact⟨_,F.trans n,(D o T e m d i j l n y).1⟩
 refine⟨cX,ca,c.os,c.tape,c.output,c.grow,c.old,c.imC,c.imNew,c.imLt,c.sep,c.inj,λo f=>?_,λo A f=>?_,λg v hg=>(c.glob g v hg).ev q,λx=>(c.fr x).ev q,c.size,c.defers,λo A f=>?_⟩
 ·rcases I o with h|⟨T,e,m,d,i,j,l,n,y,F⟩
  ·exact c.dom o<|h.symm.trans f
  ·let G:u o=a6:=f;rw[F,n]at G;cases G
 ·rcases I o with h|⟨T,e,m,d,i,j,l,n,y,F⟩
  ·exact(c.obj o A<|h.symm.trans f).ev q λ_ _=>rfl
  ·let G:u o=ar A:=f;rw[F,n]at G;cases G;exact(D o T e m d i j l n y).2
 ·let ⟨U,g1,g2⟩:=c.pin o A f;let ⟨AA,k1,k2⟩:=q.fob o _ g1;exact⟨AA,k1,g2.trans k2⟩
theorem Gd {o:Oper}{x}{D at':Array _}{f}{S z:List AV}{σ J h0 H1}{L:List (Nat×au)}{AE}(ho:o.op=.call ⟨.value x,D,at'⟩)(hg:iQ C)
  (hx:s.ev C x=.fn (.func f) [] S) (l:rens σ (D.toList.map (s.ev C)++S)=ar z) (H:fg σ s.hp h0) (hf:FnH P C.Γ f z h0 (λae T=>ae=AE/\T=H1)) (B:uU σ J s.hp H1 L)
  (U:∀M o N,J.get M=ar (o,N)->o∈L.map (·.1))
  {m:ASt} (gN:∀y∈o.op.operands.toList,m.ev C y=s.ev C y) (jY:∀k,k∈L.map (·.1)->m.hp k=s.hp k) {a w} (hr:Rel C m a w) (hd:∀d,o.dst=ar d->d<C.n)
  K Q
  (V:∀(A O:List AV) (a':Act) (w':World),AE=.ret A->rens J A=ar O->Zz C m w ⟨(m.put o.dst (AZ O)).fr,aT m.hp L⟩ a' w'->K a' w')
  (W:∀A,AE=.ret A->∃O,rens J A=ar O)
  (X:∀(t:TypeId) (n:Int) (w':World),AE=.panic t n->Rel C ⟨m.fr,aT m.hp L⟩ a w'->Q (.panic [{v:=.iface t (.int .i64 n),recovered:=a8}]) a w'):o.wpIn (fen C.rd) 0 P a w K Q:=by
 let ⟨im,μ,p⟩:=hr
 let Y:∀o M N,σ.get o=ar _->m.hp o=s.hp o:=λo M N h=>by let ⟨FW,e,_⟩:=B.passed o M N h;grind
 let Z:=H.of_agree Y
 let B1:=B.of_agree U jY
 let uL  :=(gN x (by rw[ho];simp[cx,pd])).trans hx
 let ⟨hr,fx⟩:=uL▸p.ev x
 simp only[RepA,RepFs]at hr
 let ⟨vs,us,F,IL,hus⟩:=hr
 subst IL
 let hv:a.eval x=.func (.func f) #[] us.toArray:=by generalize a.eval x=v at F fx;cases v<;>simp_all[gI,bS,AV.isAgg]
 let ⟨la,lc,ra,rc,_⟩:=yi l
 let hA:RepFs w im μ m.hp _ (D.toList.map _):=by
  refine oF ra (by simp) ?_;intro i b u hb hu;rw[yp,zn]at hb hu;obtain⟨y,hy,rfl⟩:=hb;obtain⟨y',hy',rfl⟩:=hu;obtain rfl  :=hY (hy.symm.trans hy');let hm:y∈o.op.operands.toList:=by rw[ho];simp only[cx,pd,Nc];exact q7.2 (.inr (ik hy))
  rw[←gN y hm];exact p.ev y
 let hAll:=RepFs.append hA hus
 let ⟨hI,hS⟩:=Z.inv (λo b h=>⟨(p.sep o b h).1,(p.sep o b h).2.1⟩) p.inj p.obj
 let G:=RepFs.ren hS _ _ _ l hAll
 let q:=hf.2 w im _ _ p.imLt (λg v h=>by let ⟨T,h2⟩:=(p.glob g v h).toA (jD (hg g v h));exact cr.ofA (RepA.free _ _ (hg g v h) T) h2) hI G
 let hrun:(execOp a.eval o).run P w=.ok (.enter f (D.toList.map _++us).toArray) w:=by
  let:=hf.1 (D.map a.eval++us.toArray) w;let e:(D.toList.map a.eval++us).toArray=D.map a.eval++us.toArray:=by apply yl;simp
  rw[e];simp only[execOp,ho,resolve,hv,WV,hF,m0,eE,invoke,ahD,this]
 refine⟨λf _=>tK _ f,?_⟩
 rw[Oper.semAt_eq _ _ _ (by intro c hc;rw[ho]at hc;cases hc),hrun,Oper.uponIn_enter]
 refine⟨(λh=>nomatch h),?_⟩
 let hci  :=(callsIn_wide (n:=0-1)).2 q
 refine hci.mono ?_
 rintro e w' ⟨ae,T,cX,ca,⟨rfl,rfl⟩,tJ,he⟩
 let j:=λdst hd av v hv=>p.backE (dst:=dst) Z B1 tJ hd (av:=av) (v:=v) hv
 cases ae with|ret A=>obtain⟨v,rfl,vs,IL,hveq⟩:=A0 he;let ⟨O,DA⟩:=W A rfl;let hsg':uT J ca (kH J ca μ) T (aT m.hp L):=⟨λM o N h=>⟨by simp only[kH,Sg.inv_of_get B1.good h],λob iF=>by let ⟨tq,eU,g1,g2,g3⟩:=B1.bwd M o N h;rw[iF]at g1;cases g1;exact⟨eU,g3,au.ren_obR g2⟩⟩⟩;let I:=TT (RepFs.ren hsg' _ _ _ DA IL);rw[←hveq]at I;exact V A O _ _ rfl DA ⟨im,μ,cX,_,a,p,(j o.dst hd _ v I).1,(j o.dst hd _ v I).2⟩|panic t n=>have Zg  :=he;subst Zg;exact X t n w' rfl ⟨cX,_,(j a6 (λd h=>by cases h) .undef qP trivial).1⟩
theorem ZA {o:Oper}{x}{j g:Array _}{f}{d b l m:List AV}{σ h n p}{i:List (Nat×au)}(q:o.op=.call ⟨.value x,j,g⟩)(t:iQ C)
  (u:s.ev C x=.fn (.func f) [] d) (c:rens σ (j.toList.map (s.ev C)++d)=ar b) (H:fg σ s.hp n) (v:FnH P C.Γ f b n<|λy z=>y=.ret l/\z=p) (B:uU σ h s.hp p i)
  (e:∀A o D,h.get A=ar (o,D)->o∈i.map (·.1)) (F:rens h l=ar m):OpW P C o ⟨o.dst,AZ m,[],i⟩ s:=by
 intro T G I a w J L K Q M
 refine Gd q t u c H v B e G (λk N=>I k<| .inr N) J L K Q ?_ ?_ ?_
 ·intro U V O w' e1 e2 S;cases e1;rw[F]at e2;cases e2;exact M O w' S.rel
 all_goals grind
theorem TU {o:Oper}{x}{n p:Array _}{f}{i d u v:List AV}{σ q y z}{h b:List (Nat×au)}{j:List Nat}(D:o.op=.call ⟨.value x,n,p⟩)(F:iQ C)
  (G:s.ev C x=.fn (.func f) [] i) (g:rens σ (n.toList.map (s.ev C)++i)=ar d) (H:fg σ s.hp y) (I:FnH P C.Γ f d y<|λJ c=>J=.ret u/\c=z) (B:uU σ q s.hp z h)
  (l:∀L o M,q.get L=ar (o,M)->o∈h.map (·.1)) (N:rens q u=ar v)
  (O:∀k∈h.map (·.1),k∈j\/k∈b.map (·.1))
  (t:∀(c:Hp),(∀k∈h.map (·.1),c k=s.hp k)->∀o,aT c b o=aT c h o\/∃(T:TypeId) (e:Ty) (m:Nat) (n:List _) (S:TypeId) (U:Ty) (V:List _),c o=ar (.arr T e m bc n)/\aT c h o=ar (.arr S U m bc V)/\aT c b o=c o):
  OpW P C o ⟨o.dst,AZ v,j,b⟩ s:=by
 intro s1 W X a w Y Z K Q hK
 let A  :=λk t=>X k<|O k t
 refine Gd D F G g H I B l W A Y Z K Q ?_ ?_ ?_
 ·intro r1 r2 a' w' e1 e2 qt;cases e1;rw[N]at e2;cases e2;exact hK a' w'<|qt.keep<|t _ A
 all_goals grind
theorem qZ {o:Oper}{x}{l j:Array _}{f}{e b:List AV}{t n σ m p q}{i:List (Nat×au)}(z:o.op=.call ⟨.value x,l,j⟩)(A:iQ C)
  (D:s.ev C x=.fn (.func f) [] e) (c:rens σ (l.toList.map (s.ev C)++e)=ar b) (H:fg σ s.hp p) (F:FnH P C.Γ f b p<|λG I=>G=.panic t n/\I=q) (B:uU σ m s.hp q i)
  (g:∀J o L,m.get J=ar (o,L)->o∈i.map (·.1)) {h:ASt} (M:∀y∈o.op.operands.toList,h.ev C y=s.ev C y) (N:∀k,k∈i.map (·.1)->h.hp k=s.hp k)
  {a w} (O:Rel C h a w) (S:∀d,o.dst=ar d->d<C.n) K {Q} (T:∀u w',Rel C ⟨h.fr,aT h.hp i⟩ u w'->Q (.panic [{v:=.iface t<| .int .i64 n,recovered:=a8}]) u w'):
  o.wpIn (fen C.rd) 0 P a w K Q:=by
 refine Gd z A D c H F B g M N O S K _ ?_ ?_ ?_
 all_goals grind
inductive oG (P:Program)(s:ASt):List ResultVar->List AV->Prop
 |nil:oG P s [] []
 |tmp {t:Nat} {a:AV} {l:List ResultVar} {l':List AV}:s.fr t=a->a.plain=bc->oG P s l l'->oG P s (.tmp t::l) (a::l')
 |cell {t o:Nat} {T:TypeId} {a:AV} {l:List ResultVar} {l':List AV}:s.fr t=.op o [] 0->s.hp o=ar (.box a)->TyS P T a.asize a.isAgg->oG P s l l'->oG P s (.cell t T::l) (a::l')
def tN (a:Array Value):ResultVar->Sem Value
 | .tmp t=>pure (a.getD t qP)
 | .cell x t=>do loadVar t (←asAddr (a.getD x qP))
theorem n5 {im μ a w}(d:Inv C im μ s a w):∀{l} {f},oG P s l f->
  ∃c,(l.mapM<|tN a.tmps).run P w=.ok c w/\RepFs w im μ s.hp f c
 |_,_,.nil=>⟨[],rfl,by simp[RepFs]⟩
 |_,_,.tmp (t:=t) j m h=>by
  let ⟨c,g,n⟩:=n5 d h;let ⟨g1,g2⟩:=(j▸d.fr t).toA m;refine⟨a.tmps.getD t qP::c,?_,?_⟩
  ·simp_all[List.mapM_cons,tN]
  grind [RepFs]
 |_,_,.cell (t:=t) (o:=o) (a:=v) p q x h=>by
  let ⟨c,g,n⟩:=n5 d h;let ⟨b,u,y,G,z⟩:=wT<|p▸d.fr t
  let ⟨A,cells,H,i,B,e⟩:=d.obj o _ q;obtain rfl:A=b:=by rw[y]at i;cases i;rfl
  let D:=mv x w (iw B) (RepA.length _ _ e) λF=>kP F
  let ⟨g1,g2⟩:=(e.toV).toA<|AV.plain_of_RepA e
  refine⟨lH v.isAgg cells.toList::c,?_,?_⟩
  ·simp only[List.mapM_cons,tN,hF,z,asAddr,m0,eE,D,g]
  grind [RepFs]
def mY :List AV->Nat->AV
 |[],_=>.undef
 |a::_,0=>a
 |_::l,x+1=>mY l x
theorem mZ :∀(l) (x),mY l x=(l[x]?).getD .undef
 |[],x=>by simp[mY]
 |a::l,0=>rfl
 |a::l,x+1=>mZ l x
def Jr (W:World)(im:Nat->Prop)(μ:Mu)(a:Hp)(n:Nat)(c:Nat->Option AV)(nm:=false):Ctx:=⟨W,im,λb=>∃o,(μ o).blk=ar b,n,[],c,a,μ,a6,nm⟩
theorem my {W im μ hp}:∀{l} {b},RepFs W im μ hp l b->b.length=l.length
 |[],b,h=>by subst h;rfl
 |a::l,b,h=>by obtain⟨v,d,rfl,_,_,c⟩:=h;simp[my c]
theorem A1 {m W im μ j a c n}(t:∀b,im b->b<W.heap.size)(f:∀g v,m g=ar v->v.free=bc)(e:qY m W im)(i:mX W im μ j)
  (d:RepFs W im μ j c a) (B:c.length<=n) (nm:=false):Inv (Jr W im μ j n m nm) im μ ⟨mY c,j⟩ {tmps:=a.toArray++WE (n-a.toArray.size) qP,defers:=[]} W:=by
 let p:=my d
 refine⟨rfl,rfl,rfl,ep _,λ_ _ _=>rfl,λ_ h=>h,λ_ h=>.inl h,t,λo b h=>⟨(i.sep o b h).1,(i.sep o b h).2,.inl ⟨o,h⟩⟩,i.inj,i.dom,i.obj,λg v h=>?_,?_,?_,⟨[],rfl,ahw,λ_=>rfl,λr u=>by cases u⟩,λo y h=>⟨y,h,fo.refl _ _⟩⟩
 ·let ⟨l,q⟩:=(e g v h).toA<|jD<|f g v h
  exact cr.ofA (RepA.free _ _ (f g v h) l) q
 ·intro x
  simp only;rw[mZ];cases z:c[x]? with
  |none=>trivial
  |some D=>
   let ⟨v,l,q,F⟩:=RepFs.get d z;let A  :=(hT.1 l).1;let:(a.toArray++WE (n-a.toArray.size) qP).getD x qP=v:=by rw[ke,Array.getElem?_append_left<|by simpa using A];simp[l]
   grind [cr.ofA]
 ·simp[Jr];omega
theorem yj {fn a w im μ hp e b}(n:(fn.results.toList.mapM<|tN a).run P w=.ok b w)(i:RepFs w im μ hp e b):
  ∃v,(results fn a).run P w=.ok v w/\gP w im μ hp (.ret e) (.returned v):=by
 let f:(fn.results.mapM<|tN a).run P w=.ok b.toArray w:=by simp_all[Array.mapM_eq_mapM_toList]
 let key:∀g:ResultVar->Sem _,(∀r,g r=tN a r)->(do let d←fn.results.mapM g;pure<|if h:d.size=1 then d[0]else .tuple d).run P w=.ok (if h:b.toArray.size=1 then b.toArray[0]else .tuple b.toArray) w:=by intro g j;obtain rfl  :=funext j;simp_all
 refine⟨if h:b.toArray.size=1 then b.toArray[0]else .tuple b.toArray,?_,?_⟩
 ·exact key _ λr=>by cases r<;>rfl
 ·match e,b,i with
  |[],b,c=> 
   subst c;exact⟨[],rfl,by simp[RepFs]⟩
  |[r],b,c=>obtain⟨v,d,rfl,g1,g2,rfl⟩:=c;exact⟨v,rfl,g1,g2⟩
  |r::o::e,b,c=>let l:=c;obtain⟨v,d,rfl,g1,g2,p,m,rfl,_⟩:=l;exact⟨_,by simp,c⟩
structure arQ (rs:List Nat)(w w':World):Prop where
 os:w'.os=w.os
 tape:w'.tape=w.tape
 output:w'.output=w.output
 size:w'.heap.size=w.heap.size
 heap:∀b,b∉rs->w'.heap[b]?=w.heap[b]?
theorem uV {F n f a R g u}(i:u≠.run):∀(c) (w),c.Nodup->(∀r∈c,w.heap[r]?=ar (.deferred<|some []))->
  (∀w',arQ c w w'->LeavesInM F n P f a R g u w')->LeavesInM F n P f a R (c.map Zn++g) u w
 |[],w,_,_,h=>h w ⟨rfl,rfl,rfl,rfl,λ_ _=>rfl⟩
 |r::c,w,l,m,h=>by
  let ⟨o,e⟩:=List.nodup_cons.1 l;let p:=m r<|by simp
  refine⟨i,.inl ⟨r,_,rfl,run_takeDeferred p,uV i c _ e (λt v=>?_) λw' d=>h w' ?_⟩⟩
  ·grind [Zj]
  ·refine⟨d.os,d.tape,d.output,by rw[d.size];simp,λb j=>?_⟩;rw[d.heap b λq=>j<|by simp[q],Zj<|by rintro rfl;exact j<|by simp]
theorem Inv.unmark {C im μ s a w w' n}(c:Inv C im μ s a w)(i:I4 C im μ w n)(d:arQ n w w'):Inv C im μ s {a with defers:=C.defers} w':=by
 let p  :=λb h e=>(i.all b e).2.2.1 h
 let j  :=λo b h e=>(i.all b e).2.2.2.1 o h
 let ev:Ev w im μ s.hp w' im μ s.hp:=⟨λ_ h=>h,λb h=>d.heap b<|p b h,λo l m=>⟨l,m,fo.refl _ _⟩⟩
 exact⟨d.os.trans c.os,d.tape.trans c.tape,d.output.trans c.output,by rw[d.size];exact c.grow,λb q t=>(d.heap b λe=>by let:=(i.all b e).1;omega).trans<|c.old b q t,c.imC,c.imNew,λb h=>by rw[d.size];exact c.imLt b h,
  λo b h=>by rw[d.size];exact c.sep o b h,c.inj,c.dom,λo l m=>(c.obj o l m).ev ev λb h=>d.heap b<|j o b h,λg v u=>(c.glob g v u).ev ev,λx=>(c.fr x).ev ev,c.size,⟨[],by simp,ahw,λ_=>rfl,λr e=>by cases e⟩,c.pin⟩
def ZB σ (a b:AV)  :=b=.undef\/a.ren σ=ar b\/∃l c,a=.tup l/\b=.tup c/\rens σ l=ar c
theorem ZB.sound {w im μ ca hp cT σ a c}(h:uT σ μ ca hp cT)(b:ZB σ a c){v}(d:cr w im μ hp a v):cr w im ca cT c v:=by
 rcases b with rfl|b|⟨l,i,rfl,rfl,b⟩
 ·trivial
 ·let ⟨f,j⟩:=d.toA<|En b
  grind [cr.ofA,RepA.ren,AV.ren_agg]
 ·let ⟨g,e,f⟩:=d;exact⟨g,e,RepFs.ren h _ _ _ b f⟩
theorem fo.obR {d g f p q}(a:fo d p g q)(b:ObR .keep g f):fo d p f q:=by
 cases g with
 |box v=>
  cases f with|arr _ _ _ _ _=>exact b.elim|rc _=>exact b.elim|box i=>cases d with|box j=>exact a|rc _=>exact a.elim|arr T e m z h=>let ⟨_,_,_,c,_⟩:=a;cases c
 |rc v=>
  cases f with|arr _ _ _ _ _=>exact b.elim|box _=>exact b.elim|rc i=>cases d with|box j=>exact a.elim|rc _=>exact⟨a.1,(b).trans a.2⟩|arr T e m z h=>let ⟨_,_,_,c,_⟩:=a;cases c
 |arr T e m z h=>obtain⟨l,c,rfl⟩:=b;cases c;exact a
theorem Ql {s t σ}(B:iQ C)(H:fg σ s.hp t.hp)(J:∀x,ZB σ (s.fr x)<|t.fr x)(l:∀o i,C.h0 o=ar i->σ.get o=ar (o,.keep)):Le C s t:=by
 rintro a w ⟨im,μ,c⟩
 let ⟨u,D⟩:=H.inv (λo b h=>⟨(c.sep o b h).1,(c.sep o b h).2.1⟩) c.inj c.obj;let n:∀p b,(jl σ μ p).blk=ar b->∃o,(μ o).blk=ar b:=λp b h=>by unfold jl at h;cases F:σ.inv p with|none=>rw[F]at h;cases h|some o=>rw[F]at h;exact⟨o,h⟩
 refine⟨im,_,c.os,c.tape,c.output,c.grow,c.old,c.imC,c.imNew,c.imLt,?_,u.inj,u.dom,u.obj,?_,λx=>(J x).sound D<|c.fr x,c.size,?_,?_⟩
 ·intro p b h;let ⟨o,f⟩:=n p b h;exact c.sep o b f
 ·intro g v h
  let ⟨f,d⟩:=(c.glob g v h).toA<|jD<|B g v h
  exact cr.ofA (RepA.free _ _ (B g v h) f) d
 ·let ⟨L,f,d⟩:=c.defers;refine⟨L,f,d.nodup,d.none,λr M=>?_⟩;let ⟨g1,g2,g3,g4,g5⟩:=d.all r M;grind
 ·intro o i h
  let y:=l o i h;let ⟨G,f,d⟩:=c.pin o i h;let ⟨g1,g2⟩:=D.ob o o .keep y;let ⟨A,N,j⟩:=g2 G f;refine⟨A,N,?_⟩;rw[g1];cases G with
  |box v=>
   cases A with|arr _ _ _ _ _=>exact j.elim|rc _=>exact j.elim|box O=>cases i with|box S=>exact d|rc _=>exact d.elim|arr T e m z I=>let ⟨_,_,_,q,_⟩:=d;cases q
  |rc v=>
   cases A with|arr _ _ _ _ _=>exact j.elim|box _=>exact j.elim|rc O=>cases i with|box S=>exact d.elim|rc _=>exact⟨d.1,(j).trans d.2⟩|arr T e m z I=>let ⟨_,_,_,q,_⟩:=d;cases q
  |arr T e m z I=>obtain⟨U,q,rfl⟩:=j;cases q;exact d
theorem Eo {o T e m l}(h:s.hp o=ar (.arr T e m a8 l)):Le C s ⟨s.fr,aT s.hp [(o,.arr T e m bc l)]⟩:=by
 rintro a w ⟨im,μ,g⟩
 let i:=gO s.hp o<| .arr T e m bc l
 let A:∀x,x≠o->aT s.hp [(o,.arr T e m bc l)] x=s.hp x:=λx c=>mw s.hp _ c
 rcases g.obj o _ h with ⟨D,cT,rfl⟩|⟨_,b,p,cells,cT,t,F,G,N,H⟩|⟨I,_⟩
 ·-- nothing in memory
  let J:∀n,s.hp o=ar n->fo n _ _ (μ o):=λn B=>by rw[h]at B;cases B;exact⟨m,bc,[],rfl,.inl ⟨rfl,rfl,.inl rfl⟩⟩
  let L:n4 w w (μ o).blk:=⟨rfl,rfl,rfl,ep _,λ_ _ _=>rfl⟩;let:=g.obj1 (dst:=a6) (av:=.undef) (v:=qP) J L (λb t=>by rw[cT]at t;cases t) (.inl ⟨D,cT,rfl⟩) (λd h=>by cases h) trivial;exact⟨im,_,this⟩
 ·let j:(μ o).blk=ar b:=by rw[cT];rfl
  let ⟨O,M,S⟩:=g.sep o b j
  let ev:Ev w im μ s.hp w (λk=>im k\/k=b) (mT μ o _) (aT s.hp _):=by
   refine⟨λ_ h=>.inl h,λ_ _=>rfl,λx n c=>?_⟩;by_cases f:x=o
   ·subst f;rw[h]at c;cases c;exact⟨_,i,m,bc,l,rfl,.inl ⟨rfl,rfl,.inr ⟨b,p,cT,cU _ _ _⟩⟩⟩
   grind [fy,fo.refl]
  refine⟨_,_,g.step (dst:=a6) (av:=.undef) (v:=qP) ev rfl rfl rfl (ep _) (λ_ _ _=>rfl) ?_ ?_ ?_ ?_ ?_ ?_ (λd h=>by cases h) trivial⟩
  ·grind
  ·rintro k (z|rfl)
   ·exact g.imLt k z
   ·exact M
  ·intro x k c
   by_cases f:x=o
   ·subst f;rw[cU]at c;cases c
   ·rw[fy _ _ f]at c
    let ⟨g1,g2,_⟩:=g.sep x k c;refine⟨?_,g2,.inl ⟨x,c⟩⟩
    rintro(z|rfl)
    ·exact g1 z
    ·exact f<|g.inj _ _ _ c j
  ·intro x y k c u
   by_cases f:x=o
   ·subst f;rw[cU]at c;cases c
   ·by_cases q:y=o
    ·subst q;rw[cU]at u;cases u
    ·rw[fy _ _ f]at c;rw[fy _ _ q]at u;exact g.inj _ _ k c u
  ·intro x c
   by_cases f:x=o
   ·grind
   ·rw[A x f]at c;rw[fy _ _ f];exact g.dom x c
  ·intro x n c
   by_cases f:x=o
   ·subst f
    rw[i]at c;cases c;rw[cU];refine .inr<| .inr ⟨rfl,b,p,_,rfl,.inr rfl,F,G,?_,bO.mono (bm.mono ev.fim ev.fheap e) _ _ H⟩
    let:=(iw t).sub 0<|l.length*e.size
    simpa using this
   ·rw[A x f]at c;rw[fy _ _ f];exact(g.obj x n c).ev ev λ_ _=>rfl
 ·cases I
end
end Go.Vm
namespace Go.Vm
section
variable {P:Program}{C:Ctx}{s:ASt}
def NC P i o d g (R:Bool->Hp->Prop)  :=
 ∀(W) (im) (μ) (l) (a),(∀b,im b->b<W.heap.size)->qY i W im->mX W im μ g->μ o=.at l->RepFs W im μ g d a->
  ∃r,W.heap[l]?=ar (.loop r)/\a.length=r.params.size/\
   RoundIn Fence.wide 0 P l r.fn ((r.params.zip a.toArray).foldl (λf p=>f.setIfInBounds p.1 p.2) r.tmps) r.assign r.body W
    λe w'=>∃c h cX ca,e=.returned (.bool c)/\R c h/\gk W im μ g w' cX ca h
theorem TV {o:Oper}{x}{A Z:Array _}{q j r0 args σ fE h0 H1}{wr:List (Nat×au)}{c}(W:o.op=.call ⟨.value x,A,Z⟩)(hg:iQ C)
  (hx:s.ev C x=.ref q) (hq:s.hp q=ar (.rc r0)) (hm:r0.isMap=a8) (hargs:rens σ (.ref q::A.toList.map (s.ev C))=ar (.ref j::args)) (H:fg σ s.hp h0) (hf:NC P C.Γ j args h0 (λM X=>M=c/\X=H1)) (B:uU σ fE s.hp H1 wr)
  (N:∀j o D,fE.get j=ar (o,D)->o∈wr.map (·.1)):OpW P C o ⟨o.dst,.d .bool c,[],wr⟩ s:=by
 intro s1 gN jY a w hr hd K Q hK
 let ⟨im,μ,n⟩:=hr
 let O  :=λk hk=>jY k (.inr hk)
 let F:∀o j D,σ.get o=ar _->s1.hp o=s.hp o:=λo j D h=>by let ⟨FW,e,_⟩:=B.passed o j D h;grind
 let I:=H.of_agree F
 let B1:=B.of_agree N O
 let ⟨D,G,m⟩:∃D,σ.get q=ar (j,D)/\rens σ (A.toList.map (s.ev C))=ar args:=by grind [rens,AV.ren]
 let hq1  :=(F q j D G).trans hq
 let uL  :=(gN x (by rw[W];simp[cx,pd])).trans hx
 let ⟨S,fx⟩:=uL▸n.ev x
 simp only[RepA]at S
 let ⟨l,r1,hl,I3,J⟩:=S
 rw[hq1]at I3
 cases I3
 have t:(a.eval x).cells.toList=[.func (.yield l) #[] #[]]:=by rw[J];simp only[j3.val,hm];rfl
 let hv:a.eval x=.func (.yield l) #[] #[]:=by generalize a.eval x=v at t fx;cases v<;>simp_all[gI,bS,AV.isAgg]
 let hA:RepFs w im μ s1.hp _ (A.toList.map _):=by
  refine oF m (by simp) ?_;intro i b u hb hu;rw[yp,zn]at hb hu;obtain⟨y,Y,rfl⟩:=hb;obtain⟨y',hy',rfl⟩:=hu;obtain rfl  :=hY (Y.symm.trans hy');let hm:y∈o.op.operands.toList:=by rw[W];simp only[cx,pd,Nc];exact q7.2 (.inr (ik Y))
  rw[←gN y hm];exact n.ev y
 let ⟨hI,hS⟩:=I.inv (λo b h=>⟨(n.sep o b h).1,(n.sep o b h).2.1⟩) n.inj n.obj
 let L:=RepFs.ren hS _ _ _ m hA
 let sX:jl σ μ j=.at l:=by rw[(by simp only[jl,Sg.inv_of_get I.good G]:jl σ μ j=μ q)];exact hl
 let ⟨r,hrl,T,z⟩:=hf w im (jl σ μ) l _ n.imLt (λg v h=>by let ⟨X,h2⟩:=(n.glob g v h).toA (jD (hg g v h));exact cr.ofA (RepA.free _ _ (hg g v h) X) h2) hI sX L
 let U:(execOp a.eval o).run P w=.ok (.round l r.fn ((r.params.zip (A.toList.map a.eval).toArray).foldl (λV p=>V.setIfInBounds p.1 p.2) r.tmps) r.assign r.body) w:=by
  let e:(A.toList.map a.eval).toArray=A.map a.eval:=by apply yl;simp
  let Y:=run_yield (P:=P) (w:=w) (args:=A.map a.eval) hrl (by simpa using T);rw[e];simp only[execOp,W,resolve,hv,WV,hF,m0,eE,invoke,ahD];exact Y
 refine⟨λf _=>tK _ f,?_⟩
 rw[Oper.semAt_eq _ _ _ (by intro c hc;rw[W]at hc;cases hc),U,Oper.uponIn_round]
 refine⟨(λh=>nomatch h),?_⟩
 let hci  :=z
 refine hci.mono ?_
 rintro e w' ⟨M,X,cX,ca,rfl,⟨rfl,rfl⟩,tJ⟩
 exact hK _ _ ⟨cX,_,n.back (dst:=o.dst) I B1 tJ hd (av:=.d .bool M) (v:=.bool M) (bp _ _ _ _ (.bool M))⟩
def ahN (W:World)(im:Nat->Prop)(μ:Mu)(a:Hp)(n:Nat)(c:Nat->Option AV)(l:Nat):Ctx:=⟨W,im,λb=>∃o,(μ o).blk=ar b,n,[],c,a,μ,ar l,bc⟩
def ym (f:Nat->AV):List Tmp->List AV->Nat->AV
 |t::b,a::c=>ym (qB f t a) b c
 |_,_=>f
theorem Ep {w im μ hp}:∀(d:List Tmp) (g) (c) (f) (b:Array _),RepFs w im μ hp g c->d.length=g.length->(∀t∈d,t<b.size)->(∀x,cr w im μ hp (f x)<|b.getD x qP)->
  (∀x,cr w im μ hp (ym f d g x)<|((d.zip c).foldl (λb p=>b.setIfInBounds p.1 p.2) b).getD x qP)/\((d.zip c).foldl (λb p=>b.setIfInBounds p.1 p.2) b).size=b.size
 |[],[],c,f,b,_,_,_,h=>by simpa [ym] using h
 |t::d,a::g,c,f,b,m,i,l,h=>by
  obtain⟨v,n,rfl,o,q,u⟩:=m;let y:=l t<|by simp
  let ⟨g1,g2⟩:=Ep d g n (qB f t a) (b.setIfInBounds t v) u (by simpa using i) λz j=>by simpa using l z<|by simp[j] λx=>by
   by_cases e:x=t
   ·subst e
    rw[wS];let:(b.setIfInBounds x v).getD x qP=v:=by simp[ke,y]
    rw[this];exact cr.ofA o q
   ·rw[F3 _ _ e]
    let:(b.setIfInBounds t v).getD x qP=b.getD x qP:=by simp[ke,TD<|Ne.symm e]
    rw[this];exact h x
  exact⟨g1,by simpa using g2⟩
 |[],_::_,_,_,_,_,i,_,_=>by simp at i
 |_::_,[],_,_,_,_,i,_,_=>by simp at i
def Qm :AEx->Option (Option Jmp)
 | .normal=>ar a6
 | .ret=>ar (ar .ret)
 | .exit id=>ar (ar (.exit id))
 | .panic _ _=>a6
def Er :Option Jmp->FZ
 |none=>.ready
 |some j=>.done j
def aCl (e:Hp)(o:Nat)(R:Bool->Hp->Prop):AEx->ASt->Prop:=λex c=>
 ∃j a b σ d,Qm ex=ar j/\c.hp o=ar (.rc (.loop a b .busy))/\fg σ (aT c.hp [(o,.rc (.loop a b (Er j)))]) d/\(∀o f,e o=ar f->σ.get o=ar (o,.keep))/\R j.isNone d
theorem Inv.loopTo {im μ a w}(g:Inv C im μ s a w){o e i u}(z:s.hp o=ar (.rc<| .loop e i u)):
  ∃l r,μ o=.at l/\w.heap[l]?=ar (.loop r)/\u.ok r/\r.params=e.ps/\r.assign=e.assign/\r.body=e.body/\r.tmps.size=e.n/\(∀p∈i,cr w im μ s.hp p.2<|r.tmps.getD p.1 qP)/\
   ∀(c) (j),c.params=r.params->c.assign=r.assign->c.body=r.body->c.tmps=r.tmps->j.ok c->Inv C im μ ⟨s.fr,aT s.hp [(o,.rc<| .loop e i j)]⟩ a (w.putObj l<| .loop c):=by
 obtain⟨l,x,m,A,r,rfl,B,D,F,G,H,M⟩:=g.obj o _ z
 refine⟨l,r,m,A,M,B,D,F,G,H,λc j e1 e2 e3 e4 e5=>?_⟩
 let N  :=(om.1 A).1
 let I:∀q,s.hp o=ar q->fo q _ (.rc<| .loop e i j) (μ o):=λq J=>by rw[z]at J;cases J;exact⟨rfl,rfl⟩
 let L:n4 w (w.putObj l<| .loop c) (μ o).blk:=⟨rfl,rfl,rfl,by simp,λb _ f=>Zj<|by rintro rfl;exact f<|by rw[m];rfl⟩
 let ev:=g.evObj I L
 let t:mT μ o _=μ:=by funext y;unfold mT;cases f:dK y o with|true=>rw[cb f];rfl|false=>rfl
 let:=g.obj1 (dst:=a6) (av:=.undef) (v:=qP) I L (λb f=>⟨by simpa using (g.sep o b f).2.1,.inl f⟩) (by rw[m];exact⟨l,_,rfl,World.putObj_heap_same N,c,rfl,e1.trans B,e2.trans D,e3.trans F,by rw[e4];exact G,λp hp=>by rw[e4];let:=(H p hp).ev ev;rw[m]at this;exact this,e5⟩) (λd h=>by cases h) trivial
 rw[t]at this
 exact this
theorem Ge {N o d fr i z R f}(O:∀g v,N g=ar v->v.free=bc)(S:z o=ar (.rc (.loop d fr .ready)))
  (hf:∀x,f x=.undef\/∃a,(x,a)∈fr/\f x=a) (D:d.ps.size=i.length) (hps:∀t∈d.ps.toList,t<d.n)
  (h:∀W im μ l,AW P (ahN W im μ z d.n N l) d.assign (λex s1=>ex=.normal/\∃uO uP,s1.hp o=ar (.rc (.loop uO uP .ready))/\
   AW P (ahN W im μ z d.n N l) d.body (aCl z o R) ⟨s1.fr,aT s1.hp [(o,.rc (.loop uO uP .busy))]⟩) ⟨ym f d.ps.toList i,z⟩):NC P N o i z R:=by
 intro W im μ l m lX F J hl A
 obtain⟨T,x,Qc,hx,r,rfl,L,h2,h3,h4,h5,h6⟩:=J.obj o _ S
 obtain rfl:T=l:=by rw[hl]at Qc;cases Qc;rfl
 let hvl:=my A
 refine⟨r,hx,by rw[hvl,L];exact D.symm,?_⟩
 let G:(r.params.zip m.toArray).foldl (λq p=>q.setIfInBounds p.1 p.2) r.tmps=(d.ps.toList.zip m).foldl (λq p=>q.setIfInBounds p.1 p.2) r.tmps:=by grind [Array.toList_zip]
 rw[G]
 let wO:∀x,cr W im μ z (f x) (r.tmps.getD x qP):=λx=>by
  rcases hf x with h|⟨a,ha,h⟩
  ·rw[h];trivial
  grind
 let ⟨U,kF⟩:=Ep d.ps.toList i m f _ A (by simpa using D) (λt ht=>by rw[h4];exact hps t ht) wO
 let V:Inv (ahN W im μ z d.n N T) im μ ⟨_,z⟩ {tmps:=(d.ps.toList.zip m).foldl _ _,defers:=[]} W:=by
  refine⟨rfl,rfl,rfl,ep _,λ_ _ _=>rfl,λ_ h=>h,λ_ h=>.inl h,lX,λo b h=>⟨(J.sep o b h).1,(J.sep o b h).2,.inl ⟨o,h⟩⟩,J.inj,J.dom,J.obj,λg v h=>?_,U,?_,⟨[],rfl,ahw,λ_=>rfl,λr hr=>by cases hr⟩,λo M h=>⟨M,h,fo.refl _ _⟩⟩
  ·let ⟨L,h2⟩:=(F g v h).toA<|jD<|O g v h
   exact cr.ofA (RepA.free _ _ (O g v h) L) h2
  ·show _=d.n;grind
 rw[h2,h3]
 refine roundIn_of_wpIn trivial ?_
 refine wpIn_mono (h W im μ T _ _ ⟨im,μ,V⟩) ?_
 rintro e a1 w1 ⟨ae,s1,rfl,⟨rfl,uO,uP,M9,H⟩,im1,Qd,jZ⟩
 let Zi:Qd o=.at T:=by let ⟨eU,g1,g2⟩:=jZ.pin o _ S;rw[M9]at g1;cases g1;exact g2.1.trans hl
 let ⟨l1,r1,I1,uL,X,_,_,_,_,_,hto⟩:=jZ.loopTo M9
 obtain rfl:l1=T:=by rw[Zi]at I1;cases I1;rfl
 refine⟨_,run_beginRound uL X.1,?_⟩
 let qA:=hto {r1 with state:=.busy} .busy rfl rfl rfl rfl rfl
 refine wpIn_mono (H _ _ ⟨im1,Qd,qA⟩) ?_
 rintro e a3 w3 ⟨ae,s3,rfl,⟨j,lc2,fr2,σ,I0,hj,Y,hH,u,hR⟩,Z,μ3,Dz⟩
 let hl3:μ3 o=.at l1:=by let ⟨eU,g1,g2⟩:=Dz.pin o _ S;rw[Y]at g1;cases g1;exact g2.1.trans hl
 let ⟨l3,r3,hm3,hx3,hst3,_,_,_,_,_,hto3⟩:=Dz.loopTo Y
 obtain rfl:l3=l1:=by rw[hl3]at hm3;cases hm3;rfl
 let B:∀(jc:Option Code),jc=j.map Jmp.code->∃v w',(Instr.endRound l3 jc).run P w3=.ok v w'/\∃c L cX ca,Ending.returned v=.returned (.bool c)/\R c L/\gk W im μ z w' cX ca L:=by
  rintro jc rfl
  refine⟨_,_,run_endRound _ hx3,_,I0,Z,jl σ μ3,by cases j<;>rfl,hR,?_⟩;let y:=hto3 {r3 with state:=if (j.map Jmp.code).isNone then .ready else .done,pending:=j.map _} (Er j) rfl rfl rfl rfl<|by cases j with|none=>exact⟨rfl,rfl⟩|some j=>exact⟨rfl,rfl⟩
  let tJ:∀(u:∀o M,z o=ar M->σ.get o=ar _),gk W im μ z _ Z _ I0:=λu=>by
   let ⟨hI',hS'⟩:=hH.inv (λo b h=>⟨(y.sep o b h).1,(y.sep o b h).2.1⟩) y.inj y.obj;refine⟨y.os,y.tape,y.output,y.grow,λb hb hno=>y.old b hb λ⟨o,S⟩=>hno o S,y.imC,y.imNew,y.imLt,λo b h=>?_,λo M iF=>?_,hI'⟩
   ·unfold jl at h;cases hq:σ.inv o with|none=>rw[hq]at h;cases h|some o1=>rw[hq]at h;exact(y.sep o1 b h).2.2
   ·let hσ:=u o M iF;let ⟨tq,k1,k2⟩:=y.pin o M iF;let ⟨g1,g2⟩:=hS'.ob o o .keep hσ;let ⟨AA,k3,k4⟩:=g2 tq k1;refine⟨AA,k3,?_⟩;rw[g1];exact fo.obR k2 k4
  exact tJ u
 cases ae with|normal=>cases hj;exact B a6 rfl|ret=>cases hj;exact B _ rfl|exit id=>cases hj;exact B _ rfl|panic t n=>cases hj
def ahO (Q:AEx->ASt->Prop)(S:ASt):FZ->Prop
 | .ready=>Q .normal S
 | .done .ret=>Q .ret S
 | .done (.exit id)=>Q (.exit id) S
 |_=>False
theorem ZC (w:World) x y:((w.alloc x).alloc y).heap[w.heap.size]?=ar x/\((w.alloc x).alloc y).heap[w.heap.size+1]?=ar y/\((w.alloc x).alloc y).heap.size=w.heap.size+2/\∀b,b<w.heap.size->((w.alloc x).alloc y).heap[b]?=w.heap[b]?:=by
 refine⟨?_,?_,by simp,λb a=>?_⟩
 ·rw[heap_alloc_old _ _<|by simp];exact World.alloc_heap_new w x
 ·have:=World.alloc_heap_new (w.alloc x) y;simp_all
 ·rw[heap_alloc_old _ _<|by simp;omega,heap_alloc_old _ _ a]
theorem Gf {Q fop J assign body f U N fr o d σ fE hh H1 wr AE}(hg:iQ C)(hnm:C.nm=a8)(IK:C.rd=a6)
  (y:s.ev C fop=.fn (.func f) [] U) (h0:s.hp o=a6) (wO:∀p∈fr,p.2=s.fr p.1) {G} (iF:G=.rc (.loop ⟨d,J,assign,body,C.n⟩ fr .ready))
  (c:rens σ (.ref o::U)=ar N) (H:fg σ (aT s.hp [(o,G)]) hh) (hf:FnH P C.Γ f N hh λae h1=>ae=AE/\h1=H1) (B:uU σ fE (aT s.hp [(o,G)]) H1 wr)
  (hret:∀rs,AE=.ret rs->∃uO uP st,aT (aT s.hp [(o,G)]) wr o=ar (.rc (.loop uO uP st))/\ahO Q ⟨s.fr,aT (aT (aT s.hp [(o,G)]) wr) [(o,.rc (.loop uO uP .over))]⟩ st)
  (hpan:∀t n,AE=.panic t n->Q (.panic t n) ⟨s.fr,aT (aT s.hp [(o,G)]) wr⟩):AW P C (.rangeFunc fop J assign body) Q s:=by
 subst iF
 rintro a w ⟨im,μ,I⟩
 let ⟨hr,fx⟩:=y▸I.ev fop
 simp only[RepA,RepFs]at hr
 let ⟨vs,us,V,IL,hus⟩:=hr
 subst IL
 have hv:a.eval fop=.func (.func f) #[] us.toArray:=by generalize a.eval fop=v at V fx;cases v<;>simp_all[gI,bS,AV.isAgg]
 refine wpIn_rangeFunc λfn _=>?_
 let ⟨k1,k2,k3,k4⟩:=ZC w (.deferred<|some [])<| .loop {state:=.ready,pending:=a6,fn,tmps:=a.tmps,params:=J,assign,body,defers:=w.heap.size}
 have u:=run_enterLoop_outer (P:=P) (w:=w) fn a.tmps J assign body
 generalize hw2:(w.alloc _).alloc _=O at k1 k2 k3 k4 u
 let hw:n4 w O (μ o).blk:=by rw[←hw2];exact⟨rfl,rfl,rfl,by simp;omega,λb hb _=>by rw[hw2];exact k4 b hb⟩
 let hmo:(μ o).blk=a6:=by rw[I.dom o h0];rfl
 let kB:∀G,s.hp o=ar G->fo G (μ o) (.rc<| .loop ⟨d,J,assign,body,C.n⟩ fr .ready) (.at<|w.heap.size+1):=λG h=>by rw[h0]at h;cases h
 have ev:=I.evObj kB hw
 have m:=I.obj1 (dst:=a6) (av:=.undef) (v:=qP) kB hw λb hb=>by cases hb;exact⟨by omega,.inr<|by omega⟩
  ⟨_,_,rfl,k2,_,rfl,rfl,rfl,rfl,I.size,λp hp=>by rw[wO p hp];exact(I.fr p.1).ev ev,rfl,rfl⟩ (λd h=>by cases h) trivial
 have S:Inv C im (mT μ o<| .at<|w.heap.size+1) ⟨s.fr,aT s.hp [(o,.rc<| .loop ⟨d,J,assign,body,C.n⟩ fr .ready)]⟩ {a with defers:=[Zn w.heap.size]++a.defers} O:=by
  refine⟨m.os,m.tape,m.output,m.grow,m.old,m.imC,m.imNew,m.imLt,m.sep,m.inj,m.dom,m.obj,m.glob,m.fr,m.size,?_,m.pin⟩;let ⟨rs,h1,h2⟩:=I.defers;refine⟨w.heap.size::rs,by rw[h1];rfl,List.nodup_cons.2 ⟨λhm=>by let:=(h2.all _ hm).2.1;omega,h2.nodup⟩,(λh=>by rw[hnm]at h;cases h),λr hr=>?_⟩;rcases kt.1 hr with rfl|hr
  ·refine⟨I.grow,by omega,λh=>by let:=I.imLt _ h;omega,λx y=>?_,k1⟩
   by_cases e:x=o
   ·subst e;rw[cU]at y;simp[Pl.blk]at y
   ·rw[fy _ _ e]at y;let:=(I.sep x _ y).2.1;omega
  ·let ⟨g1,g2,g3,g4,g5⟩:=h2.all r hr
   refine⟨g1,by omega,g3,λx y=>?_,(k4 r g2).trans g5⟩;by_cases e:x=o
   ·subst e
    rw[cU]at y;let hx2  :=by simpa [Pl.blk] using y
    omega
   ·rw[fy _ _ e]at y;exact g4 x y
 generalize hmu:mT μ o (.at<|w.heap.size+1)=W at S ev
 let T:W o=.at (w.heap.size+1):=by rw[←hmu,cU]
 let hA:RepFs O im W (aT s.hp [(o,.rc<| .loop ⟨d,J,assign,body,C.n⟩ fr .ready)]) (.ref o::U) (.func (.yield<|w.heap.size+1) #[] #[]::us):=by simp only[RepFs,RepA];exact⟨_,_,rfl,⟨_,_,T,gO _ _ _,rfl⟩,rfl,RepFs.ev ev _ _ hus⟩
 let ⟨hI,hS⟩:=H.inv (λo b h=>⟨(S.sep o b h).1,(S.sep o b h).2.1⟩) S.inj S.obj
 let X:=RepFs.ren hS _ _ _ c hA
 have L:=hf.2 O im (jl σ W) _ S.imLt (λg v h=>by
  let ⟨h1,h2⟩:=(S.glob g v h).toA<|jD<|hg g v h
  exact cr.ofA (RepA.free _ _ (hg g v h) h1) h2) hI X
 refine⟨w.heap.size+1,[Zn w.heap.size],O,⟨.fn (.func f) us.toArray, #[.func (.yield<|w.heap.size+1) #[] #[]]⟩,O,f,(.func (.yield<|w.heap.size+1) #[] #[]::us).toArray,O,?_,?_,λf' _=>tK _ f',?_,(λh=>nomatch h),?_⟩
 ·show (Instr.enterLoop fn a.tmps J assign body C.rd).run P w=_;rw[IK];exact u
 ·simp only[resolve,hv,WV,m0];simp[Act.eval]
 ·let:=hf.1 (#[.func (.yield<|w.heap.size+1) #[] #[]]++us.toArray) O;simp only[invoke];rw[this];simp
 ·let hci  :=(callsIn_wide (n:=0-1)).2 L
  refine hci.mono ?_
  rintro e w' ⟨ae,h1,cX,ca,⟨rfl,rfl⟩,tJ,he⟩
  let A:=S.back (dst:=a6) H B tJ (λd h=>by cases h) (av:=.undef) (v:=qP) trivial;let ⟨Y,φ,D⟩:∃Y φ,σ.get o=ar (Y,φ):=by simp only[rens,AV.ren]at c;cases hg':σ.get o with|none=>rw[hg']at c;cases c|some of=>exact⟨of.1,of.2,rfl⟩
  let ⟨FW,Z,_⟩:=B.passed o Y φ D
  have hmo3:kH fE ca W o=.at (w.heap.size+1):=by
   rw[(by simp only[kH,Sg.inv_of_get B.good Z]:kH fE ca W o=ca Y)];let ⟨tq,ob1',g1,g2,g3⟩:=H.fwd o Y φ D;rw[gO]at g1;cases g1;let ⟨AA,g4,g5⟩:=tJ.fob Y _ g3;let hmi:jl σ W Y=W o:=by simp only[jl,Sg.inv_of_get H.good D]
   let hk:=au.ren_obR g2;cases ob1' with|box _=>exact hk.elim|arr _ _ _ _ _=>exact hk.elim|rc r1=>cases AA with|box _=>exact g5.elim|arr _ _ _ _ _=>exact g5.elim|rc r2=>rw[g5.1,hmi,T]
  cases ae with
  |ret rs=>
   obtain⟨v,rfl,_⟩:=A0 he;let ⟨uO,uP,st,hol,i⟩:=hret rs rfl;let ⟨l,r,hl,hxl,M,_,_,_,_,_,hto⟩:=A.loopTo (o:=o) hol;obtain rfl:l=w.heap.size+1:=by rw[hmo3]at hl;cases hl;rfl
   let Na:=hto {r with state:=.exhausted} .over rfl rfl rfl rfl trivial;let F:Rel C ⟨s.fr,aT (aT (aT s.hp [(o,.rc<| .loop ⟨d,J,assign,body,C.n⟩ fr .ready)]) wr) [(o,.rc<| .loop uO uP .over)]⟩ {a with defers:=[Zn w.heap.size]++a.defers} (w'.putObj (w.heap.size+1)<| .loop {r with state:=.exhausted}):=⟨cX,_,Na⟩;show∃jump w₄,_/\_;cases st with|ready=>exact⟨a6,_,(run_endLoop hxl<|by rw[M.1];simp).trans<|congrArg (λp=>Result.ok p _) M.2,.normal,_,rfl,i,F⟩|busy=>exact i.elim|over=>exact i.elim|done j=>refine⟨ar j.code,_,(run_endLoop hxl<|by rw[M.1];simp).trans<|congrArg (λp=>Result.ok p _) M.2,?_⟩;cases j with|ret=>exact wpIn_ret ⟨.ret,_,rfl,i,F⟩|exit id=>exact wpIn_exit ⟨.exit id,_,rfl,i,F⟩
  |panic t n=>have Zg  :=he;subst Zg;exact⟨.panic t n,_,rfl,hpan t n rfl,cX,_,A⟩
end
end Go.Vm
namespace Go.Vm
inductive Stp (S E:Type) where
 |next (s:S)
 |done (e:E)
def A2 {S E}(a:S->Option (Stp S E)):Nat->S->Option E
 |0,_=>a6
 |n+1,s=>
  match a s with|none=>a6|some (.next b)=>A2 a n b|some (.done e)=>ar e
def fu  :=18446744073709551616
def idx {α:Type}(xs:List α)(i:Int)  :=if 0<=i then xs[i.toNat]? else a6
def cut {α:Type}(a:List α)(l h:Int)  :=if 0<=l/\l<=h/\h<=a.length then ar ((a.take h.toNat).drop l.toNat)else a6
def app {α:Type}(xs a:List α)  :=if xs.length+a.length<=lim then ar (xs++a)else a6
def quo (k:IntKind)(a b:Int)  :=if b=0 then a6 else ar<|k.wrap<|a.tdiv b
def rem (a b:Int)  :=if b=0 then a6 else ar<|a.tmod b
def ND (a b:ao)  :=if a.length+b.length<4611686018427387904 then ar (a++b)else a6
def mk {α:Type}(n:Int)(z:α)  :=if 0<=n/\n<=lim then ar (eo n.toNat z)else a6
theorem bC {α a:Type}{m}{f:α->Option a}{r}(h:m.bind f=ar r):∃x,m=ar x/\f x=ar r:=by cases m with|none=>cases h|some x=>exact⟨x,rfl,h⟩
theorem j6 {α a i}{x:α}(h:idx a i=ar x):0<=i/\a[i.toNat]?=ar x:=by grind [idx]
theorem A3 {α}{a b c:List α}(h:app a b=ar c):a.length+b.length<=lim/\a++b=c:=by unfold app at h;grind
theorem Js {k a b z}(h:quo k a b=ar z):b≠0/\k.wrap (a.tdiv b)=z:=by unfold quo at h;grind
theorem Jt {a b z}(h:rem a b=ar z):b≠0/\a.tmod b=z:=by unfold rem at h;grind
theorem rb {α}{a b:List α}{l h}(c:cut a l h=ar b):0<=l/\l.toNat<=h.toNat/\0<=h/\h.toNat<=a.length/\(a.take h.toNat).drop l.toNat=b:=by unfold cut at c;grind
theorem yq {a b z}(h:ND a b=ar z):a.length+b.length<2 ^ 62/\a++b=z:=by unfold ND at h;grind
theorem ahP {α n z}{l:List α}(h:mk n z=ar l):0<=n/\n<=lim/\eo n.toNat z=l:=by unfold mk at h;grind
def wV (l:ao)(n:Int)  :=if 0<=n then (l[n.toNat]?).map λz=>(z.toNat:Int)else a6
theorem TW {l n z}(h:wV l n=ar z):0<=n/\∃b,l[n.toNat]?=ar b/\b.toNat=z:=by unfold wV at h;grind
def shl (k:IntKind)(a b:Int)  :=if 0<=b then ar (k.wrap<|a*2 ^ min b.toNat k.bits)else a6
def shr (k:IntKind)(a b:Int)  :=if 0<=b then ar (a.fdiv<|2 ^ min b.toNat k.bits)else a6
def arR (P:Program) t  :=∃d,P.underlying t=ar d/\(match d with| .interface _=>a8|_=>bc)=bc
section
variable {P:Program}{C:Ctx}{s:ASt}
variable {dst:Option Tmp}{ty:TypeId}{pos:String}{dD:Array Edge}{gd:Option (Nat×Bool)}
theorem cG.cast {o}{d:Option Tmp}{a b c f}(h:cG P C o ⟨d,a,c,f⟩ s)(e:a=b):cG P C o ⟨d,b,c,f⟩ s:=e▸h
theorem Inv.grown {im μ a w w'}(c:Inv C im μ s a w)(l:w'.os=w.os)(m:w'.tape=w.tape)(p:w'.output=w.output)(e:w.heap.size<=w'.heap.size)(f:∀b,b<w.heap.size->w'.heap[b]?=w.heap[b]?)
  {d} (q:∀x,d=ar x->x<C.n) {g v} (t:cr w' im μ s.hp g v):Inv C im μ ⟨(s.put d g).fr,s.hp⟩ (a.put d v) w':=by
 let ev:Ev w im μ s.hp w' im μ s.hp:=⟨λ_ h=>h,λb h=>f b<|c.imLt b h,λo i j=>⟨i,j,fo.refl _ _⟩⟩
 exact c.step ev l m p e (λb h _=>f b h) (λb h=>.inl h) (λb h=>xd (c.imLt b h) e) (λo b h=>⟨(c.sep o b h).1,xd (c.sep o b h).2.1 e,.inl ⟨o,h⟩⟩) c.inj c.dom
  (λo i j=>(c.obj o i j).ev ev λb h=>f b (c.sep o b h).2.1) d q g v t
theorem Es {w im μ hp b}:∀(l:List _),(∀x∈l,cr w im μ hp (s.ev C x)<|b x)->(∀x∈l,(s.ev C x).plain=bc)->RepFs w im μ hp (l.map<|s.ev C) (l.map b)
 |[],_,_=>by simp[RepFs]
 |x::l,h,hp=>by
  let ⟨c,d⟩:=(h x<|by simp).toA<|hp x<|by simp
  exact⟨_,_,rfl,c,d,Es l λy a=>h y<|by simp[a] λy a=>hp y<|by simp[a]⟩
theorem Ju {f cap b}(d:cap.toList.map (s.ev C)=b)(hp:∀a∈b,a.plain=bc):cG P C ⟨dst,.makeFunc f #[] cap,ty,pos,dD,gd⟩ ⟨dst,.fn f [] b,[],[]⟩ s:=
 bJ λw im μ cT e h=>by
  subst d;refine⟨.func f #[]<|cap.map e,?_,?_,rfl⟩
  ·simp[execOp,Instr.makeFunc]
  ·simp only[RepA,RepFs,gI];refine⟨[],_,by congr 2;apply yl;simp,rfl,Es _ (λx c=>h x<|by simpa [cx] using c) λx c=>hp _<|QA.2 ⟨x,c,rfl⟩⟩
theorem A4 {x o p a}(d:s.ev C x=.op o p a):cG P C ⟨dst,.nilCheck x,ty,pos,dD,gd⟩ ⟨dst,.op o p a,[],[]⟩ s:=
 bJ λw im μ hp e h=>by
  let c:=d▸h x<|by simp[cx]
  let ⟨b,u,g,i,f⟩:=wT c;exact⟨e x,by simp[execOp,f],c⟩
theorem arS {x y c k e}{a b:Int}(f:s.ev C x=.d (.int k) a)(g:s.ev C y=.d (.int e) b):cG P C ⟨dst,.call ⟨.builtin .max, #[x,y],c⟩,ty,pos,dD,gd⟩ ⟨dst,.d (.int k)<|if b>a then b else a,[],[]⟩ s:=
 bJ λw im μ hp i h=>by
  let e1:=iO<|f▸h x<|by simp[cx,pd]
  let e2:=iO<|g▸h y<|by simp[cx,pd]
  refine⟨_,?_,bp _ _ _ _<| .int k _⟩;simp[execOp,resolve,invoke,builtin,e1,e2,Builtin.max_,Builtin.max2]
theorem arT {x y c k e}{a b:Int}(f:s.ev C x=.d (.int k) a)(g:s.ev C y=.d (.int e) b):cG P C ⟨dst,.call ⟨.builtin .min, #[x,y],c⟩,ty,pos,dD,gd⟩ ⟨dst,.d (.int k)<|if b<a then b else a,[],[]⟩ s:=
 bJ λw im μ hp i h=>by
  let e1:=iO<|f▸h x<|by simp[cx,pd]
  let e2:=iO<|g▸h y<|by simp[cx,pd]
  refine⟨_,?_,bp _ _ _ _<| .int k _⟩;simp[execOp,resolve,invoke,builtin,e1,e2,Builtin.min_,Builtin.min2]
theorem Gg {x y t}{l:List _}{k}{n:Int}{z}(b:s.ev C x=.d .str l)(c:s.ev C y=.d (.int k) n)(e:P.underlying t=ar .string)(f:0<=n)(g:l[n.toNat]?=ar z):
  cG P C ⟨dst,.index t x y,ty,pos,dD,gd⟩ ⟨dst,.d (.int .u8) (z.toNat:Int),[],[]⟩ s:=
 bJ λw im μ hp o h=>by
  let e1:=cB (by rw[b];rfl)<|h x<|by simp[cx]
  let e2:=iO<|c▸h y<|by simp[cx]
  refine⟨_,?_,bp _ _ _ _<| .int .u8 _⟩;let ⟨i,a⟩:=hT.1 g
  let j:(⟨_⟩:ByteArray)[n.toNat]?=ar z:=by
   let m  :=by simpa [WG] using i
   rw[getElem?_pos _ n.toNat m];exact congrArg ar a
  simp[execOp,e1,e2,Instr.index,asIntOf,run_underlying e,f,j]
theorem Gh {t x v}(a:s.ev C x=v)(b:v.plain=bc)(c:arR P t):cG P C ⟨dst,.makeInterface t x,ty,pos,dD,gd⟩ ⟨dst,.iface t v,[],[]⟩ s:=
 bJ λw im μ hp e h=>by
  let ⟨d,f,g⟩:=c;let i:=(a▸h x<|by simp[cx]).toA b;refine⟨.iface t<|e x,?_,?_,rfl⟩
  ·simp only[execOp,Instr.makeInterface,hF,run_underlying f,eE];cases d<;>first|rfl|simp at g
  grind [RepA,gI]
theorem A5 {x e y}(g:s.ev C x=.ip e y):cG P C ⟨dst,.nilCheck x,ty,pos,dD,gd⟩ ⟨dst,.ip e y,[],[]⟩ s:=
 bJ λw im μ hp a h=>by
  let f:=g▸h x<|by simp[cx]
  let c:=f;let ⟨i,j⟩:=f;let ⟨b,d,l,_⟩:=i;let m:a x=.pointer (ar ⟨b,d,a6⟩):=by generalize a x=v at l j;cases v<;>simp_all[gI,bS,AV.isAgg]
  exact⟨a x,by simp[execOp,m],c⟩
theorem ahQ {k c e x y}{a b z:Int}(f:s.ev C x=.d (.int k) a)(g:s.ev C y=.d (.int k) b)(h:quo k a b=ar z):
  cG P C ⟨dst,.binOp .quo c x y e,ty,pos,dD,gd⟩ ⟨dst,.d (.int k) z,[],[]⟩ s:=(arI f g (Js h).1).cast<|by rw[(Js h).2]
theorem ahR {k c e x y}{a b z:Int}(f:s.ev C x=.d (.int k) a)(g:s.ev C y=.d (.int k) b)(h:rem a b=ar z):
  cG P C ⟨dst,.binOp .rem c x y e,ty,pos,dD,gd⟩ ⟨dst,.d (.int k) z,[],[]⟩ s:=(arJ f g (Jt h).1).cast<|by rw[(Jt h).2]
theorem ahS {k e f g x y}{a b z:Int}(i:s.ev C x=.d (.int k) a)(j:s.ev C y=.d (.int e) b)(h:shl k a b=ar z):
  cG P C ⟨dst,.binOp .shl f x y g,ty,pos,dD,gd⟩ ⟨dst,.d (.int k) z,[],[]⟩ s:=by
 unfold shl at h
 by_cases c:0<=b
 ·rw[if_pos c]at h;cases h;exact Je i j c (.inl rfl) rfl rfl
 grind
theorem ahT {k e f g x y}{a b z:Int}(i:s.ev C x=.d (.int k) a)(j:s.ev C y=.d (.int e) b)(h:shr k a b=ar z):
  cG P C ⟨dst,.binOp .shr f x y g,ty,pos,dD,gd⟩ ⟨dst,.d (.int k) z,[],[]⟩ s:=by
 unfold shr at h
 by_cases c:0<=b
 ·rw[if_pos c]at h;cases h;exact Je i j c (.inr rfl) rfl rfl
 grind
theorem A6 {w im μ hp t k}{n:Int}{v}(h:cr w im μ hp (.iface t<| .d (.int k) n) v):v=.iface t (.int k n):=by
 let ⟨a,f⟩:=h;simp only[RepA]at a;obtain⟨u,g,b,c⟩:=a;have e:u=.int k n:=by simp only[bm]at b;cases u<;>simp_all[gI,bS,AV.isAgg,Ty.isAgg]
 cases v<;>simp_all[gI,bS,AV.isAgg]
theorem ahU {x a c t k}{n:Int}(e:s.ev C x=.iface t (.d (.int k) n))(b:∃m,P.underlying a=ar (.interface m)):
  cG P C ⟨dst,.binOp .neq a x (.const .nilIface) c,ty,pos,dD,gd⟩ ⟨dst,.d .bool bc,[],[]⟩ s:=
 bJ λw im μ hp j h=>by
  let ⟨m,b⟩:=b;let e1:=A6<|e▸h x<|by simp[cx]
  let e2  :=cB rfl<|h (.const .nilIface)<|by simp[cx]
  let f:(I2 a (.iface t<| .int k n) .nilIface).run P w=.ok _ w:=by show (ahh (9999+1) a _ _).run P w=_;rw[WK];simp only[hF,run_underlying b,eE];rfl
  let g:binOp .neq a (.iface t _) .nilIface=(do pure<| .bool !(←I2 a (.iface t<| .int k n) .nilIface)):=rfl;let i:eqGuard .neq a x (.const .nilIface) (.iface t<| .int k n) .nilIface=pure ():=rfl;refine⟨_,?_,bp _ _ _ _<| .bool bc⟩;simp only[execOp,e1,e2,i,g];simp[f]
theorem Jv {x a c}(e:s.ev C x=.nilif)(b:∃m,P.underlying a=ar (.interface m)):
  cG P C ⟨dst,.binOp .neq a x (.const .nilIface) c,ty,pos,dD,gd⟩ ⟨dst,.d .bool a8,[],[]⟩ s:=
 bJ λw im μ hp j h=>by
  let ⟨m,b⟩:=b;let e1  :=cB (by rw[e];rfl)<|h x<|by simp[cx]
  let e2  :=cB rfl<|h (.const .nilIface)<|by simp[cx]
  let f:(I2 a .nilIface .nilIface).run P w=.ok bc w:=by show (ahh (9999+1) a _ _).run P w=_;rw[WK];simp only[hF,run_underlying b,eE];rfl
  let g:binOp .neq a .nilIface .nilIface=(do pure<| .bool !(←I2 a .nilIface .nilIface)):=rfl;let i:eqGuard .neq a x (.const .nilIface) .nilIface .nilIface=pure ():=by simp[eqGuard]
  refine⟨_,?_,bp _ _ _ _<| .bool _⟩;simp only[execOp,e1,e2,i,g];simp[f]
theorem DO {x a t k}{n:Int}(b:s.ev C x=.iface t (.d (.int k) n))(c:arR P t):
  cG P C ⟨dst,.typeAssert x a t bc,ty,pos,dD,gd⟩ ⟨dst,.tup [.d (.int k) n,.d .bool bc],[],[]⟩ s:=
 bJ λw im μ hp g h=>by
  let ⟨d,e,f⟩:=c;let e1:=A6<|b▸h x<|by simp[cx]
  refine⟨_,?_,[.int k n,.bool bc],rfl,?_⟩
  ·simp only[execOp,e1,Instr.typeAssert,hF,run_underlying e,eE];cases d<;>first|(exact Bool.noConfusion f)|(dsimp only;rw[if_pos rfl];rfl)
  ·exact⟨_,_,rfl,rfl,rfl,_,_,rfl,rfl,rfl,rfl⟩
theorem ahV {t T e}(d:ElT P t T e):cG P C ⟨dst,.buildSlice t 0 #[],ty,pos,dD,gd⟩ ⟨dst,.emp,[],[]⟩ s:=by
 intro n o p im μ a w g j;let ⟨i,z,l,q,u,m,v⟩:=d.info;refine⟨.slice (ar ⟨w.heap.size,0,a6⟩) 0 0,_,im,μ,.inl ?_,g.grown (w':=w.alloc<| .cells #[] T) rfl rfl rfl (by simp) (λb h=>heap_alloc_old w _ h) j ⟨⟨_,rfl⟩,rfl⟩⟩;let c:∀f:Nat->Value,(WY 0).map f= #[]:=λf=>WA<|by simp
 simp[execOp,Instr.buildSlice,hF,run_underlying d.und,eE,sizeOf,typeInfo,run_program,l,m0,ag9,mW,c]
def StT (P:Program) t (a:List<|Nat×Nat)  :=∃c,P.underlying t=ar (.struct c)/\c.toList.length=a.length/\∀(i:Nat) (f) (p),c.toList[i]?=ar f->a[i]?=ar p->f.offset=p.1/\∃b,P.info? f.type=ar b/\b.size=p.2
inductive wW (C:Ctx)(s:ASt)(places:List (Nat×Nat)):List (Nat×Operand)->AV->AV->Prop
 |nil {v:AV}:wW C s places [] v v
 |cons {i off off' sz:Nat} {x:Operand} {u v v' v'':AV} {l:List (Nat×Operand)}:s.ev C x=u->u.plain=bc->places[i]?=ar (off,sz)->u.asize=sz->mU v [i] off' u v'->off'=off->wW C s places l v' v''->wW C s places ((i,x)::l) v v''
theorem A7 {w im μ hp a place}{m:Operand->Value}(n:∀i p,a[i]?=ar p->place i=ar p):∀{l} {v o},wW C s a l v o->
  (∀p∈l,cr w im μ hp (s.ev C p.2)<|m p.2)->∀cells,RepA w im μ hp v cells.toList->∃b,ag9 place cells (l.map λp=>(p.1,m p.2))=ar b/\RepA w im μ hp o b.toList
 |_,_,_,.nil,_,cells,f=>⟨_,rfl,f⟩
 |_,_,_,.cons (i:=i) (x:=x) y g c z d H h,q,cells,f=>by
  let ⟨e,A⟩:=(y▸q (i,x)<|by simp).toA g;let j:=RepA.length _ _ e;let ⟨B,D,F,G,I,J,t⟩:=d.sound _ f _ e;let u:cells.size=B.length+(D.length+F.length):=by rw[←nn,G];simp
  simp only[ox];rw[Em (n _ _ c) (by rw[j];exact z)<|by omega];refine A7 n h λp hp=>q p<|by simp[hp] _ ?_
  grind
def A8 :Ty->Bool
 | .slice _=>bc
 | .pair a b=>A8 a||A8 b
 |_=>a8
def uW :Ty->AV
 | .slice _=>.nils
 | .pair a b=>bif A8 a||A8 b then .pr (uW a) (uW b)else .d _<|pf<| .pair a b
 |c=>.d c<|pf c
theorem Et w im μ hp c:RepA w im μ hp (uW c) (jk c):=by induction c with|slice e=>simp only[uW,RepA,jk]|pair a b d f=>grind [uW,A8,RepA,jk,dR]|_=>exact dR w im _
theorem ZD {t a b q v}(F:StT P t b)(G:TyZ P t q)(H:wW C s b a.toList (uW q) v)(I:v.isAgg=bc):
  cG P C ⟨dst,.build t a,ty,pos,dD,gd⟩ ⟨dst,v,[],[]⟩ s:=
 bJ λw im μ hp B h=>by
  let ⟨J,L,j,m⟩:=F;let ⟨z,u,y⟩:=AT G w
  let c:(J.mapM λf=>(do pure (f.offset,←sizeOf _):Sem _)).run P w=.ok _ w:=by
   rw[Array.mapM_eq_mapM_toList,Sem.run_map]
   let:∀(l:List _) (d:List _),l.length=d.length->(∀(i:Nat) (f:Field) (p:Nat×Nat),l[i]?=ar f->d[i]?=ar p->f.offset=p.1/\∃e,P.info? f.type=ar e/\e.size=p.2)->
     (l.mapM λf=>(do pure (f.offset,←sizeOf f.type):Sem _)).run P w=.ok d w:=by
    intro l
    induction l with
    |nil=>intro d j _;cases d<;>simp_all
    |cons f l M=>
     intro d j D
     match d,j with
     |p::d,j=>
      let ⟨N,e,O,S⟩:=D 0 f p rfl rfl;have:=M d (by simpa using j) λi f p T hp=>D (i+1) f p (by simpa using T)<|by simpa using hp
      rw[List.mapM_cons,hF];have U:(do pure (f.offset,←sizeOf f.type)).run P w=.ok p w:=by simp[sizeOf,typeInfo,O,N,S]
      simp_all
   rw[this _ _ j m];rfl
  let ⟨A,g,n⟩:=A7 (place:=λi=>b.toArray[i]?) (λi p hp=>by simpa using hp) H (λp hp=>h p.2<|by simp only[cx];exact QA.2 ⟨p,hp,rfl⟩) z.cells<|by rw[y];exact Et w im _ _ q
  refine⟨.agg A,?_,cr.ofA (by simpa [gI] using n)<|by rw[I];rfl⟩;let o:(a.map λ(i,x)=>(i,B x)).toList=a.toList.map λp=>(p.1,B p.2):=by simp
  simp only[execOp,Instr.build,hF,u,eE,run_underlying L];rw[c];simp only[eE,o,g,m0]
structure ArE (P:Program)(t:TypeId)(n:Nat)(e:Ty):Prop where
 und:∃T,P.underlying t=ar (.array n T)/\TyS P T e.size e.isAgg
 zero:TyZ P t (.arr n e)
theorem yr {t n agg}(h:TyS P t n agg) w:(sizeOf t).run P w=.ok n w:=by let ⟨i,a,b⟩:=h.info;simp[sizeOf,typeInfo,a,b]
theorem tw {α}:∀(a) (l:List α),(mV l a).length=l.length
 |[],_=>rfl
 |_::a,l=>by simp only[mV];rw[tw];simp
theorem Jw {t n a e m}(F:ArE P t n e)(c:a.toList.length=m.length)
  (hp:∀(k i:Nat) (x:Operand),a.toList[k]?=ar (i,x)->∃y,m[k]?=ar (i,y)/\s.ev C x=.d e y/\i<n):
  cG P C ⟨dst,.build t a,ty,pos,dD,gd⟩ ⟨dst,.d (.arr n e)<|mV (eo n<|pf e) m,[],[]⟩ s:=
 bJ λw im μ cT q h=>by
  let ⟨⟨T,G,u⟩,H⟩:=F;let ⟨z,A,B⟩:=AT H w;let I:=(dR w im<| .arr n e).2
  let ⟨D,b,f⟩:=wU (w:=w) (im:=im) (a.toList.map λp=>(p.1,q p.2)) m z.cells (eo n<|pf e) (by rw[B];exact I) (by simpa using c) λk j v g=>by
   rw[yp,zn]at g;obtain⟨⟨J,x⟩,g,L⟩:=g;obtain⟨rfl,rfl⟩:=L;let ⟨y,M,N,O⟩:=hp k J x g;let o:=h x<|QA.2 ⟨_,ik g,rfl⟩
   rw[N]at o;let ⟨o,_⟩:=o;exact⟨y,M,o,by simpa using O⟩
  refine⟨.agg D,?_,?_⟩
  ·let l:(a.map λ(i,x)=>(i,q x)).toList=a.toList.map λp=>(p.1,q p.2):=by simp
   simp only[execOp,Instr.build,hF,A,eE,run_underlying G,yr u,l,b,m0]
  ·refine cr.ofA ?_ rfl;exact⟨by rw[tw];simp,f⟩
theorem Gi {x y t m e}{D:List _}{k}{n:Int}{z}(I:s.ev C x=.d (.arr m e) D)(J:s.ev C y=.d (.int k) n)(L:ArE P t m e)(h:idx D n=ar z):
  cG P C ⟨dst,.index t x y,ty,pos,dD,gd⟩ ⟨dst,.d e z,[],[]⟩ s:=
 bJ λw im μ hp F G=>by
  let ⟨⟨T,M,l⟩,_⟩:=L;let e2:=iO<|J▸G y<|by simp[cx]
  let ⟨N,H⟩:=j6 h;let ⟨O,p⟩:=I▸G x<|by simp[cx]
  let ⟨S,g⟩:=O;let o:∃c,F x=.agg c:=by generalize F x=v at p;cases v<;>simp_all[bS,AV.isAgg,Ty.isAgg]
  let ⟨c,o⟩:=o;rw[o]at g;simp only[gI]at g;let ⟨q,u⟩:=bO.get (bm.length e) g H;let U:n.toNat<m:=by rw[←S];exact(hT.1 H).1
  let A:(n.toNat+1)*e.size<=c.toList.length:=by grind
  rw[nY,x1]at A;let f:c.toList=c.toList.take (n.toNat*e.size)++((c.toList.drop<|n.toNat*e.size).take e.size++(c.toList.drop<|n.toNat*e.size).drop e.size):=by grind [tn]
  let i:(c.toList.take<|n.toNat*e.size).length=n.toNat*e.size:=by rw[fl];omega
  let b:=Jo l w f u λp=>kP (a:=.d e z) p
  rw[i]at b;refine⟨lH e.isAgg<|(c.toList.drop<|n.toNat*e.size).take e.size,?_,?_⟩
  ·let j:0<=n/\n<m:=⟨N,by omega⟩;simp only[execOp,e2,o,Instr.index,asIntOf,hF,m0,eE,run_underlying M];rw[if_pos j];simp only[hF,yr l,eE,b]
  ·let B:RepA w im μ hp (.d e z) _:=by exact q
   exact B.toV
inductive lI (hp:Hp):AV->(t:Ty)->t.den->Prop
 |d {t:Ty} {x:t.den}:lI hp (.d t x) t x
 |nils {e:Ty}:lI hp .nils (.slice e) []
 |emp {e:Ty}:lI hp .emp (.slice e) []
 |os {o n:Nat} {T:TypeId} {e:Ty} {xs:List e.den}:hp o=ar (.arr T e n bc xs)->lI hp (.os o n) (.slice e) xs
 |pr {a b:AV} {ta tb:Ty} {x:ta.den} {y:tb.den}:lI hp a ta x->lI hp b tb y->lI hp (.pr a b) (.pair ta tb) (x,y)
def AV.osl :AV->List Nat
 | .os o _=>[o]
 | .pr a b=>a.osl++b.osl
 |_=>[]
theorem lI.congr {hp cT a t x}(h:lI hp a t x):(∀k∈a.osl,cT k=hp k)->lI cT a t x:=by
 induction h with
 |d=>exact λ_=>.d
 |nils=>exact λ_=>.nils
 |emp=>exact λ_=>.emp
 |os h=>exact λb=>.os<|(b _<|by simp[AV.osl]).trans h
 |pr _ _ c e=>exact λb=>.pr (c λk h=>b k<|by simp[AV.osl,h])<|e λk h=>b k<|by simp[AV.osl,h]
theorem lI.plain {hp a t x}(h:lI hp a t x):a.plain=bc:=by cases h<;>rfl
theorem lI.agg {hp a t x}(h:lI hp a t x):a.isAgg=t.isAgg:=by cases h<;>rfl
theorem lI.sound {w im μ hp}(D:∀k q,hp k=ar q->mP w im μ hp (μ k) q){a t x}(h:lI hp a t x):∀g,RepA w im μ hp a g->bm w im t g x:=by
 induction h with
 |d=>intro g f;exact f
 |nils=>intro g f;exact⟨a6,0,f,ep _,k7 _,λ_=>rfl,rfl⟩
 |emp=>
  intro g f;let ⟨i,f⟩:=f;refine⟨i,0,f,ep _,k7 _,λ_=>rfl,?_⟩;cases i
  ·exact rfl
  ·exact .inl rfl
 | @os o n T e O v=>
  intro g f;let ⟨S,U,V,W,X,y,F,u,G,z,H⟩:=f;rw[v]at y;cases y;let c:=H rfl;subst G;rcases D o _ v with ⟨i,cT,rfl⟩|⟨I,_⟩|⟨_,b,cap,g,cT,J,L,M,j,l⟩
  ·rw[cT]at c
   subst c;refine⟨i,0,rfl,ep _,k7 _,λ_=>rfl,?_⟩;cases i
   ·exact rfl
   ·exact .inl rfl
  ·cases I
  ·rw[cT]at c;subst c;exact⟨_,cap,rfl,L,M,(λh=>by cases h),.inr ⟨rfl,J,g,j,l⟩⟩
 |pr _ _ m p=>intro g f;let ⟨A,B,e,z,N⟩:=f;exact⟨A,B,e,m A z,p B N⟩
theorem A9 {d o:Nat}{t T n b e q xs} YR (J:ElT P t T e) (h0:s.hp o=a6) (hn:n*e.size<=2 ^ 24) (G:b.toList.length=q.length)
  (hp:∀(k i:Nat) (x:Operand),b.toList[k]?=ar (i,x)->∃y,q[k]?=ar (i,y)/\lI s.hp (s.ev C x) e y/\(∀k∈(s.ev C x).osl,k∈YR)/\i<n) (H:mV (eo n<|pf e) q=xs):
  cG P C ⟨ar d,.buildSlice t n b,ty,pos,dD,gd⟩ ⟨ar d,.os o 0,YR,[(o,.arr T e 0 a8 xs)]⟩ s:=by
 intro s1 gN V im μ a w L hd
 let P9  :=(V o<| .inr<|by simp).trans h0
 let ⟨i,z,W,qA,Dz,M,YQ⟩:=J.info
 let N:=oE YQ n
 let B:bO _ ((WY _).map _).toList _:=by rw[N];exact bO.replicate (dR w im e) n
 let ⟨out,c,m⟩:=wU (b.toList.map λp=>(p.1,a.eval p.2)) q _ _ B (by simpa using G) λk j v D=>by
  rw[yp,zn]at D;obtain⟨⟨j',x⟩,D,he⟩:=D;obtain⟨rfl,rfl⟩:=he;let ⟨y,hy,O,IK,dA⟩:=hp k j' x D;let X  :=O.congr<|λk D=>V k<| .inl<|IK k D
  let Y  :=gN x<|by
   exact QA.2 ⟨_,ik D,rfl⟩
  let Z:=(L.ev x).toA<|by rw[Y];exact X.plain
  rw[Y]at Z;exact⟨y,hy,X.sound L.obj _ Z.1,by simpa using dA⟩
 rw[H]at m
 let I:xs.length=n:=by
  rw[←H];let:∀(q:List _) (l:List e.den),(mV l q).length=l.length:=by intro q;induction q with|nil=>intro l;rfl|cons y q ih=>intro l;simp only[mV];rw[ih];simp
  rw[this];simp
 let S:=bO.length (bm.length e) _ _ m
 rw[nn]at S
 let u:=L.newArr rfl rfl rfl rfl (hd d rfl) P9 (T:=T) (xs:=xs) (cap:=n) (by omega) (by let:n<=n*e.size:=Nat.le_mul_of_pos_right _ J.pos;unfold maxLen;omega) (by rw[S,I])<|by rw[←S,hP<|by simp];exact m
 rw[I]at u
 refine⟨_,_,im,_,.inl ?_,u⟩
 let kC:¬n*e.size>2 ^ 24:=by omega
 let A:(b.map λ(i,x)=>(i,a.eval x)).toList=b.toList.map λp=>(p.1,a.eval p.2):=by simp
 simp only[execOp,Instr.buildSlice,hF,run_underlying J.und,eE,sizeOf,typeInfo,run_program,W,m0,qA,if_neg kC]
 by_cases F:n*e.size=0
 ·have U:n=0:=by
   rcases Nat.mul_eq_zero.1 F with h|h
   ·exact h
   ·let:=J.pos;omega
  subst U
  let g:∀f:Nat->Value,(WY<|0*e.size).map f= #[]:=λf=>WA<|by simp
  rw[g]at c
  simp only[if_pos F,m0,eE,g,A,c,hF,mW]
 ·simp only[if_neg F,zeroValue,hF,typeInfo,run_program,W,m0,eE,M];rw[A,c];simp[mW]
theorem Gj {t x y o m i T e c z}(hx:s.ev C x=.oe o m i)(ho:s.hp o=ar (.arr T e m a8 c))(V:i<c.length)(hy:lI s.hp (s.ev C y) e z) YR (IK:∀k∈(s.ev C y).osl,k∈YR)
  {agg} (ht:TyS P t e.size agg):cG P C ⟨a6,.store t x y,ty,pos,dD,gd⟩ ⟨a6,.undef,YR,[(o,.arr T e m a8 (c.set i z))]⟩ s:=by
 intro s1 W X im μ a w q hd
 let uL  :=(W x (by simp[cx])).trans hx
 let L  :=W y (by simp[cx])
 let B  :=hy.congr λk D=>X k (.inl (IK k D))
 let M  :=(X o (.inr (by simp))).trans ho
 let ⟨Y,fx⟩:=uL▸q.ev x
 let ⟨F,hua⟩:=(L▸q.ev y).toA B.plain
 let n:=B.sound q.obj _ F
 simp only[RepA]at Y
 obtain⟨T',e',m',z',yc,Z,hle,u,hc,h1,iv⟩:=Y
 rw[M]at Z
 cases Z
 obtain⟨b,N,J,rfl⟩:=iv rfl
 rcases q.obj o _ M with ⟨ad,cT,rfl⟩|⟨_,A,g,cells,cT,O,j,G,kF,hl⟩|⟨hz,_⟩
 ·simp at V
 ·obtain⟨rfl,rfl⟩:A=b/\g=N:=by
   grind
  replace J:=cT
  let hv:a.eval x=.pointer (ar ⟨A,i*e.size,a6⟩):=by generalize a.eval x=v at hc fx;cases v<;>simp_all[gI,bS,AV.isAgg]
  let hlen:=bO.length (bm.length e) _ _ hl
  let f:=bm.length e _ _ n
  let H:(i+1)*e.size<=c.length*e.size:=ga _ (by omega)
  let hle2:c.length*e.size<=cells.size:=by rw[kF];exact ga _ j
  rw[nY,x1]at H
  let zJ:cells.toList=cells.toList.take (i*e.size)++((cells.toList.drop (i*e.size)).take e.size++cells.toList.drop (i*e.size+e.size)):=by grind [MX,tn]
  let l1:(cells.toList.take (i*e.size)).length=i*e.size:=by rw[fl,nn];omega
  let l2:((cells.toList.drop (i*e.size)).take e.size).length=(a.eval y).cells.toList.length:=by rw[fl,km,nn,f];omega
  let I:=tu ht w O zJ l1 l2 f (bm.one e _ _ n)
  let kB:∀S,s1.hp o=ar S->fo S _ (.arr T e m _ (c.set i z)) _:=by intro S iF;rw[M]at iF;obtain rfl:=hY iF;exact⟨m,a8,_,rfl,.inl ⟨rfl,by simp,.inl J.symm⟩⟩
  let hw:n4 w (w.setRow A (cells.toList.take (i*e.size)++((a.eval y).cells.toList++cells.toList.drop (i*e.size+e.size))).toArray) (μ o).blk:=
   ⟨rfl,rfl,rfl,by simp[WJ],λk _ D=>setRow_other w A k _ λe=>D (by rw[J,e];rfl)⟩
  let ev:=q.evObj kB hw
  refine⟨qP,_,im,_,.inr ⟨rfl,?_⟩,q.obj1 (dst:=a6) kB hw ?_ ?_ (λd h=>by cases h) trivial⟩
  ·simp only[execOp,hv,Instr.storeAt,Bd,hF,m0,eE,I]
  ·intro k D;cases D;let dA  :=(om.1 O).1;exact⟨by simpa [WJ] using dA,.inl (by rw[J];rfl)⟩
  ·refine .inr (.inl ⟨rfl,A,g,_,rfl,setRow_heap w A _ _ _ _ O,by simpa using j,G,?_,?_⟩)
   ·rw[←kF];simp only[YO,bK,fl,km,nn,f];omega
   ·let l:=bO.set (bm.length e) hl V n
    rw[nY,x1]at l;let p:=bO.mono (bm.mono ev.fim ev.fheap e) _ _ l
    let he:(cells.toList.take (i*e.size)++((a.eval y).cells.toList++cells.toList.drop (i*e.size+e.size))).take ((c.set i z).length*e.size)=
      (cells.toList.take (c.length*e.size)).take (i*e.size)++(a.eval y).cells.toList++(cells.toList.take (c.length*e.size)).drop (i*e.size+e.size):=by
     let U:(cells.toList.take (i*e.size)++(a.eval y).cells.toList).length=i*e.size+e.size:=by rw[bK,l1,f]
     rw[List.length_set,List.take_take,OC (by omega:i*e.size<=c.length*e.size),←gl,List.take_append,U,hP (by omega),List.drop_take]
    rw[he];exact p
 ·cases hz
end
end Go.Vm
namespace Go.Vm
inductive Tr where
 |e
 |n (l:Tr) (v:AV) (r:Tr)
def Tr.get :Tr->Nat->AV
 | .e,_=>.undef
 | .n l v r,k=>bif dK k 0 then v else bif dK (k % 2) 1 then l.get (k/2)else r.get (k/2-1)
def Tr.set :Tr->Nat->AV->Tr
 | .e,_,_=>.e
 | .n l v r,k,a=>bif dK k 0 then .n l a r else bif dK (k % 2) 1 then .n (l.set (k/2) a) v r else .n l v (r.set (k/2-1) a)
def Tr.has :Tr->Nat->Bool
 | .e,_=>a8
 | .n l _ r,k=>bif dK k 0 then bc else bif dK (k % 2) 1 then l.has (k/2)else r.has (k/2-1)
def Tr.full :Nat->Tr
 |0=>.e
 |d+1=>.n (Tr.full d) .undef (Tr.full d)
def Tr.clr :Tr->Tr
 | .e=>.e
 | .n l _ r=>.n l.clr .undef r.clr
theorem Tr.get_clr :∀(t:Tr) (k),t.clr.get k=.undef
 | .e,_=>rfl
 | .n l v r,k=>by simp[Tr.clr,Tr.get,Tr.get_clr]
theorem Tr.has_clr :∀(t:Tr) (k),t.clr.has k=t.has k
 | .e,_=>rfl
 | .n l v r,k=>by simp[Tr.clr,Tr.has,Tr.has_clr]
theorem Tr.has_set :∀(t:Tr) (k) (a) (j),(t.set k a).has j=t.has j
 | .e,_,_,_=>rfl
 | .n l v r,k,a,j=>by
  simp only[Tr.set];cases dK k 0 with|true=>rfl|false=>cases dK _ 1 with|true=>simp only[al,ai,Tr.has,Tr.has_set l]|false=>simp only[al,Tr.has,Tr.has_set r]
theorem Tr.get_set :∀(t:Tr) (k) (a) (j),t.has k=bc->(t.set k a).get j=bif dK j k then a else t.get j
 | .e,_,_,_,h=>by cases h
 | .n l v r,k,a,j,h=>by
  simp only[Tr.has]at h;simp only[Tr.set];cases g:dK k 0 with
  |true=>grind [cb,Tr.get,dK]
  |false=>
   rw[g]at h;let o:=lY g;cases f:dK _ 1 with
   |true=>
    rw[f]at h;let i:=cb f;simp only[al,ai,Tr.get];cases m:dK j 0 with
    |true=>grind [cb]
    |false=>
     cases c:dK _ 1 with
     |true=>simp only[al,ai];rw[Tr.get_set l _ a _ h];congr 1;cases d:dK j k with|true=>rw[cb d];exact ye _|false=>let:=lY d;grind [cb]
     |false=>
      let b:=lY c;let:dK j k=a8:=by rw[←np];intro d;have:=cb d;subst this;exact b i
      simp[this]
   |false=>
    rw[f]at h;let i:=lY f;simp only[al,Tr.get];cases m:dK j 0 with
    |true=>grind [cb]
    |false=>
     let p:=lY m;cases c:dK _ 1 with|true=>grind [cb]|false=>let b:=lY c;simp only[al];rw[Tr.get_set r _ a _ h];congr 1;cases d:dK j k with|true=>rw[cb d];exact ye _|false=>let:=lY d;rw[←np];intro q;let:=cb q;omega
theorem Tr.get_full :∀(d k),(Tr.full d).get k=.undef
 |0,_=>rfl
 |d+1,k=>by simp[Tr.full,Tr.get,Tr.get_full]
theorem Tr.has_full :∀(d k),k+1<2 ^ d->(Tr.full d).has k=bc
 |0,k,h=>by simp at h
 |d+1,k,h=>by
  simp only[Tr.full,Tr.has];cases a:dK k 0 with|true=>rfl|false=>let:=lY a;cases b:dK _ 1 with|true=>let:=cb b;exact Tr.has_full d _<|by omega|false=>exact Tr.has_full d _<|by omega
def az (d:Nat):List (Nat×AV)->Tr
 |[]=>Tr.full d
 |(x,a)::l=>(az d l).set x a
theorem Jx d:∀(l) (k),(az d l).has k=(Tr.full d).has k
 |[],_=>rfl
 |(x,a)::l,k=>by simp only[az,Tr.has_set,Jx d l]
theorem re d:∀(l) (k),(az d l).get k=.undef\/∃a,(k,a)∈l/\(az d l).get k=a
 |[],k=>.inl<|Tr.get_full d k
 |(x,a)::l,k=>by
  simp only[az];cases c:(az d l).has x with
  |true=>
   rw[Tr.get_set _ _ _ _ c];cases f:dK k x with
   |true=>exact .inr ⟨a,by rw[cb f];simp,rfl⟩
   |false=>
    rcases re d l k with h|⟨b,g,i⟩
    all_goals grind
  |false=>
   let key:∀(t:Tr) (k j:Nat),t.has k=a8->(t.set k a).get j=t.get j:=by intro t;induction t with|e=>intro k j _;rfl|n l v r m o=>grind [Tr.has,Tr.set,dK,Tr.get]
   rcases re d l k with h|⟨b,g,i⟩
   all_goals grind
abbrev LHp :=List (Nat×au)
def aD :LHp->Nat->Option au
 |[],_=>a6
 |(a,b)::r,o=>bif dK a o then ar b else aD r o
theorem wX :∀(l) (o),aD l o=match l.find? (λp=>dK p.1 o)with|some p=>ar p.2|none=>a6
 |[],_=>rfl
 |(a,b)::r,o=>by simp only[aD,te];cases dK a o with|true=>rfl|false=>exact wX r o
theorem bV a l:aD (a++l)=aT (aD l) a:=by funext o;induction a with|nil=>simp[aT,te]|cons p r b=>simp only[Ar,aD,aT,te]at b⊢;grind
structure LSt where
 fr:Tr
 hp:LHp
 nx:Nat
def LSt.toA (s:LSt):ASt:=⟨s.fr.get,aD s.hp⟩
structure E1 where
 av:AV
 rd:List Nat
 wr:LHp
 nx:Nat
def LSt.app (s:LSt)(dst:Option Nat)(e:E1):LSt:=
 ⟨match dst with|some d=>s.fr.set d e.av|none=>s.fr,e.wr++s.hp,e.nx⟩
def AV.asD (a:AV)(t:Ty):Option t.den:=
 match a with| .d b x=>if h:b=t then ar (h▸x)else a6|_=>a6
theorem AV.asD_some {a:AV}{t x}(h:a.asD t=ar x):a=.d t x:=by unfold AV.asD at h;grind
def toD (hp:LHp):AV->(t:Ty)->Option t.den
 | .d c x,t=>if h:c=t then ar (h▸x)else a6
 | .nils,.slice _=>ar []
 | .emp,.slice _=>ar []
 | .os o n,.slice e=>
  match aD hp o with|some (.arr _ f m z g)=>bif dK n m&&z then (if h:f=e then ar (h▸g)else a6)else a6|_=>a6
 | .pr a b,.pair i j=>
  match toD hp a i with|some x=>(match toD hp b j with|some y=>ar (x,y)|none=>a6)|none=>a6
 |_,_=>a6
theorem pg {hp}:∀{a} {t} {x},toD hp a t=ar x->lI (aD hp) a t x
 | .d u v,t,x,h=>by
  simp only[toD]at h;split at h
  ·rename_i i;subst i;cases h;exact .d
  ·cases h
 | .pr a b,.pair j l,x,h=>by
  simp only[toD]at h;cases f:toD hp a j with|none=>rw[f]at h;cases h|some y=>rw[f]at h;cases g:toD hp b l with|none=>rw[g]at h;cases h|some A=>rw[g]at h;cases h;exact .pr (pg f)<|pg g
 | .nils,.slice _,x,h=>by cases h;exact .nils
 | .emp,.slice _,x,h=>by cases h;exact .emp
 | .os o n,.slice e,x,h=>by
  simp only[toD]at h;split at h
  ·rename_i T B m z D p
   cases c:dK n m&&z with
   |false=>rw[c]at h;cases h
   |true=>
    rw[c]at h;split at h
    ·rename_i q;subst q;simp only[aX]at c;have:=cb c.1;subst this;cases c.2;cases h;exact .os p
    ·cases h
  ·cases h
 | .pr _ _,.int _,_,h=>by cases h
 | .pr _ _,.bool,_,h=>by cases h
 | .pr _ _,.str,_,h=>by cases h
 | .pr _ _,.flt _,_,h=>by cases h
 | .pr _ _,.slice _,_,h=>by cases h
 | .pr _ _,.unit,_,h=>by cases h
 | .pr _ _,.arr _ _,_,h=>by cases h
 | .nils,.int _,_,h=>by cases h
 | .nils,.bool,_,h=>by cases h
 | .nils,.str,_,h=>by cases h
 | .nils,.flt _,_,h=>by cases h
 | .nils,.pair _ _,_,h=>by cases h
 | .nils,.unit,_,h=>by cases h
 | .nils,.arr _ _,_,h=>by cases h
 | .emp,.int _,_,h=>by cases h
 | .emp,.bool,_,h=>by cases h
 | .emp,.str,_,h=>by cases h
 | .emp,.flt _,_,h=>by cases h
 | .emp,.pair _ _,_,h=>by cases h
 | .emp,.unit,_,h=>by cases h
 | .emp,.arr _ _,_,h=>by cases h
 | .os _ _,.int _,_,h=>by cases h
 | .os _ _,.bool,_,h=>by cases h
 | .os _ _,.str,_,h=>by cases h
 | .os _ _,.flt _,_,h=>by cases h
 | .os _ _,.pair _ _,_,h=>by cases h
 | .os _ _,.unit,_,h=>by cases h
 | .os _ _,.arr _ _,_,h=>by cases h
 | .undef,_,_,h=>by cases h
 | .ip _ _,_,_,h=>by cases h
 | .op _ _ _,_,_,h=>by cases h
 | .oe _ _ _,_,_,h=>by cases h
 | .ow _ _ _ _,_,_,h=>by cases h
 | .tup _,_,_,h=>by cases h
 | .fn _ _ _,_,_,h=>by cases h
 | .nilfn,_,_,h=>by cases h
 | .iface _ _,_,_,h=>by cases h
 | .nilif,_,_,h=>by cases h
 | .nilp,_,_,h=>by cases h
 | .ref _,_,_,h=>by cases h
def arU (hp:LHp)(a:AV)(e:Ty):Option (List e.den):=
 match a with
 | .d (.slice b) c=>if h:b=e then ar (h▸c)else a6
 | .nils=>ar []
 | .emp=>ar []
 | .os o n=>
  match aD hp o with|some (.arr _ b m _ c)=>bif dK n m then (if h:b=e then ar (h▸c)else a6)else a6|_=>a6
 |_=>a6
theorem TX {hp a e f}(h:arU hp a e=ar f):Src (aD hp) a e f:=by
 unfold arU at h;split at h
 ·split at h
  ·rename_i b;subst b;cases h;exact .d
  ·cases h
 ·cases h;exact .nils
 ·cases h;exact .emp
 ·split at h
  ·rename_i o n _ T i m z j g
   cases c:dK n m with
   |false=>rw[c]at h;cases h
   |true=>
    rw[c]at h;split at h
    ·rename_i b;subst b;have:=cb c;subst this;cases h;exact .os g
    ·cases h
  ·cases h
 ·cases h
def TY (hp:LHp)(a:AV)(b:Option Ty):Option ((e:Ty)×List e.den):=
 match a with
 | .d (.slice e) c=>ar ⟨e,c⟩
 | .nils=>(match b with|some e=>ar ⟨e,[]⟩|none=>a6)
 | .emp=>(match b with|some e=>ar ⟨e,[]⟩|none=>a6)
 | .os o n=>
  match aD hp o with|some (.arr _ e m _ c)=>bif dK n m then ar ⟨e,c⟩else a6|_=>a6
 |_=>a6
theorem sg {hp a b e f}(h:TY hp a b=ar ⟨e,f⟩):Src (aD hp) a e f:=by
 unfold TY at h;split at h
 ·cases h;exact .d
 ·split at h
  ·cases h;exact .nils
  ·cases h
 ·split at h
  ·cases h;exact .emp
  ·cases h
 ·split at h
  ·rename_i o n _ T i m z j g;cases c:dK n m with|false=>rw[c]at h;cases h|true=>rw[c]at h;cases h;have:=cb c;subst this;exact .os g
  ·cases h
 ·cases h
variable {R:Type}
def jE :(t:Ty)->t.den->List Nat->(Nat->AV->Option R)->Option R
 | .pair a _,x,0::p,k=>jE a x.1 p k
 | .pair a b,x,(i+1)::p,k=>jE b x.2 (i::p) (λc u=>k (a.size+c) u)
 | .arr _ e,f,i::p,k=>(f[i]?).bind λy=>jE e y p (λc u=>k (i*e.size+c) u)
 |t,x,[],k=>k 0 (.d t x)
 |_,_,_::_,_=>a6
def fQ :AV->List Nat->(Nat->AV->Option R)->Option R
 | .d t x,p,k=>jE t x p k
 | .pr a _,0::p,k=>fQ a p k
 | .pr a b,(i+1)::p,k=>fQ b (i::p) (λc u=>k (a.asize+c) u)
 |a,[],k=>k 0 a
 |_,_::_,_=>a6
theorem mH :∀(t) (x) (p) (k) (r:R),jE t x p k=ar r->∃c u,Sub (.d t x) p c u/\k c u=ar r
 | .pair a b,x,[],k,r,h=>⟨0,_,.here,by simpa [jE] using h⟩
 | .pair a b,x,0::p,k,r,h=>by let ⟨c,u,f,g⟩:=mH a x.1 p k r h;exact⟨c,u,.dH f,g⟩
 | .pair a b,x,(i+1)::p,k,r,h=>by let ⟨c,u,f,g⟩:=mH b x.2 _ _ r h;exact⟨_,u,.dT f,g⟩
 | .arr n e,j,[],k,r,h=>⟨0,_,.here,by simpa [jE] using h⟩
 | .arr n e,j,i::p,k,r,h=>by let ⟨y,l,h⟩:=bC h;let ⟨c,u,f,g⟩:=mH e y p _ r h;exact⟨_,u,.arr l f,g⟩
 | .int _,x,[],k,r,h=>⟨0,_,.here,by simpa [jE] using h⟩
 | .bool,x,[],k,r,h=>⟨0,_,.here,by simpa [jE] using h⟩
 | .str,x,[],k,r,h=>⟨0,_,.here,by simpa [jE] using h⟩
 | .flt _,x,[],k,r,h=>⟨0,_,.here,by simpa [jE] using h⟩
 | .slice _,x,[],k,r,h=>⟨0,_,.here,by simpa [jE] using h⟩
 | .unit,x,[],k,r,h=>⟨0,_,.here,by simpa [jE] using h⟩
 | .int _,x,_::_,k,r,h=>by simp[jE]at h
 | .bool,x,_::_,k,r,h=>by simp[jE]at h
 | .str,x,_::_,k,r,h=>by simp[jE]at h
 | .flt _,x,_::_,k,r,h=>by simp[jE]at h
 | .slice _,x,_::_,k,r,h=>by simp[jE]at h
 | .unit,x,_::_,k,r,h=>by simp[jE]at h
theorem ph :∀(a) (p) (k) (r:R),fQ a p k=ar r->∃c u,Sub a p c u/\k c u=ar r
 | .d t x,p,k,r,h=>mH t x p k r h
 | .pr a b,[],k,r,h=>⟨0,_,.here,by simpa [fQ] using h⟩
 | .pr a b,0::p,k,r,h=>by let ⟨c,u,e,f⟩:=ph a p k r h;exact⟨c,u,.prH e,f⟩
 | .pr a b,(i+1)::p,k,r,h=>by let ⟨c,u,e,f⟩:=ph b _ _ r h;exact⟨_,u,.prT e,f⟩
 | .undef,[],k,r,h=>⟨0,_,.here,by simpa [fQ] using h⟩
 | .ip _ _,[],k,r,h=>⟨0,_,.here,by simpa [fQ] using h⟩
 | .op _ _ _,[],k,r,h=>⟨0,_,.here,by simpa [fQ] using h⟩
 | .os _ _,[],k,r,h=>⟨0,_,.here,by simpa [fQ] using h⟩
 | .oe _ _ _,[],k,r,h=>⟨0,_,.here,by simpa [fQ] using h⟩
 | .ow _ _ _ _,[],k,r,h=>⟨0,_,.here,by simpa [fQ] using h⟩
 | .nils,[],k,r,h=>⟨0,_,.here,by simpa [fQ] using h⟩
 | .emp,[],k,r,h=>⟨0,_,.here,by simpa [fQ] using h⟩
 | .tup _,[],k,r,h=>⟨0,_,.here,by simpa [fQ] using h⟩
 | .fn _ _ _,[],k,r,h=>⟨0,_,.here,by simpa [fQ] using h⟩
 | .nilfn,[],k,r,h=>⟨0,_,.here,by simpa [fQ] using h⟩
 | .iface _ _,[],k,r,h=>⟨0,_,.here,by simpa [fQ] using h⟩
 | .nilif,[],k,r,h=>⟨0,_,.here,by simpa [fQ] using h⟩
 | .nilp,[],k,r,h=>⟨0,_,.here,by simpa [fQ] using h⟩
 | .ref _,[],k,r,h=>⟨0,_,.here,by simpa [fQ] using h⟩
 | .undef,_::_,k,r,h=>by simp[fQ]at h
 | .ip _ _,_::_,k,r,h=>by simp[fQ]at h
 | .op _ _ _,_::_,k,r,h=>by simp[fQ]at h
 | .os _ _,_::_,k,r,h=>by simp[fQ]at h
 | .oe _ _ _,_::_,k,r,h=>by simp[fQ]at h
 | .ow _ _ _ _,_::_,k,r,h=>by simp[fQ]at h
 | .nils,_::_,k,r,h=>by simp[fQ]at h
 | .emp,_::_,k,r,h=>by simp[fQ]at h
 | .tup _,_::_,k,r,h=>by simp[fQ]at h
 | .fn _ _ _,_::_,k,r,h=>by simp[fQ]at h
 | .nilfn,_::_,k,r,h=>by simp[fQ]at h
 | .iface _ _,_::_,k,r,h=>by simp[fQ]at h
 | .nilif,_::_,k,r,h=>by simp[fQ]at h
 | .nilp,_::_,k,r,h=>by simp[fQ]at h
 | .ref _,_::_,k,r,h=>by simp[fQ]at h
def mkL (a b:Ty)(c:AV)(y:b.den):AV:=match c.asD a with|some x=>.d (.pair a b) (x,y)|none=>.pr c (.d b y)
def mkR (a b:Ty)(x:a.den)(c:AV):AV:=match c.asD b with|some y=>.d (.pair a b) (x,y)|none=>.pr (.d a x) c
def oH :(t:Ty)->t.den->List Nat->AV->(Nat->AV->Option R)->Option R
 | .pair a b,x,0::p,u,k=>oH a x.1 p u (λc g=>k c (mkL a b g x.2))
 | .pair a b,x,(i+1)::p,u,k=>oH b x.2 (i::p) u (λc h=>k (a.size+c) (mkR a b x.1 h))
 | .arr n e,f,i::p,u,k=>(f[i]?).bind λy=>oH e y p u (λc j=>match j.asD e with|some l=>k (i*e.size+c) (.d (.arr n e) (f.set i l))|none=>a6)
 |t,_,[],u,k=>bif dK u.asize t.size then k 0 u else a6
 |_,_,_::_,_,_=>a6
def jm :AV->List Nat->AV->(Nat->AV->Option R)->Option R
 | .d t x,p,u,k=>oH t x p u k
 | .pr a b,0::p,u,k=>jm a p u (λc e=>k c (.pr e b))
 | .pr a b,(i+1)::p,u,k=>jm b (i::p) u (λc f=>k (a.asize+c) (.pr a f))
 |a,[],u,k=>bif dK u.asize a.asize then k 0 u else a6
 |_,_::_,_,_=>a6
theorem Jy t x u k (r:R) (h:oH t x [] u k=ar r):∃a e,mU (.d t x) [] a u e/\k a e=ar r:=by
 let b:(bif dK u.asize t.size then k 0 u else a6)=ar r:=by grind [oH]
 cases c:dK _ _ with|false=>rw[c]at b;cases b|true=>rw[c]at b;exact⟨0,u,.here<|by simpa [AV.asize] using cb c,b⟩
theorem sh :∀(t) (x) (p) (u) (k) (r:R),oH t x p u k=ar r->∃f l,mU (.d t x) p f u l/\k f l=ar r
 |t,x,[],u,k,r,h=>Jy t x u k r h
 | .pair a b,x,0::p,u,k,r,h=>by let ⟨f,l,j,c⟩:=sh a x.1 p u _ r h;unfold mkL at c;cases g:l.asD a with|none=>rw[g]at c;exact⟨f,_,.dHp j,c⟩|some y=>rw[g]at c;rw[AV.asD_some g]at j;exact⟨f,_,.dH j,c⟩
 | .pair a b,x,(i+1)::p,u,k,r,h=>by let ⟨f,l,j,c⟩:=sh b x.2 _ u _ r h;unfold mkR at c;cases g:l.asD b with|none=>rw[g]at c;exact⟨_,_,.dTp j,c⟩|some y=>rw[g]at c;rw[AV.asD_some g]at j;exact⟨_,_,.dT j,c⟩
 | .arr n e,o,i::p,u,k,r,h=>by let ⟨y,m,h⟩:=bC h;let ⟨f,l,j,c⟩:=sh e y p u _ r h;cases g:l.asD e with|none=>simp only[g]at c;cases c|some q=>simp only[g]at c;rw[AV.asD_some g]at j;exact⟨_,_,.arr m j,c⟩
 | .int _,x,_::_,u,k,r,h=>by simp[oH]at h
 | .bool,x,_::_,u,k,r,h=>by simp[oH]at h
 | .str,x,_::_,u,k,r,h=>by simp[oH]at h
 | .flt _,x,_::_,u,k,r,h=>by simp[oH]at h
 | .slice _,x,_::_,u,k,r,h=>by simp[oH]at h
 | .unit,x,_::_,u,k,r,h=>by simp[oH]at h
theorem ZE a u k (r:R) (h:jm a [] u k=ar r):∃b c,mU a [] b u c/\k b c=ar r:=by
 cases a;case d t x=>exact Jy t x u k r h
 all_goals
  simp only[jm]at h
  revert h
  cases e:dK _ _ with|false=>intro h;cases h|true=>intro h;exact⟨0,u,.here<|cb e,h⟩
theorem si :∀(a) (p) (u) (k) (r:R),jm a p u k=ar r->∃c e,mU a p c u e/\k c e=ar r
 |a,[],u,k,r,h=>ZE a u k r h
 | .d t x,i::p,u,k,r,h=>sh t x _ u k r h
 | .pr a b,0::p,u,k,r,h=>by let ⟨c,e,f,g⟩:=si a p u _ r h;exact⟨c,_,.prH f,g⟩
 | .pr a b,(i+1)::p,u,k,r,h=>by let ⟨c,e,f,g⟩:=si b _ u _ r h;exact⟨_,_,.prT f,g⟩
 | .undef,_::_,u,k,r,h=>by simp[jm]at h
 | .ip _ _,_::_,u,k,r,h=>by simp[jm]at h
 | .op _ _ _,_::_,u,k,r,h=>by simp[jm]at h
 | .os _ _,_::_,u,k,r,h=>by simp[jm]at h
 | .oe _ _ _,_::_,u,k,r,h=>by simp[jm]at h
 | .ow _ _ _ _,_::_,u,k,r,h=>by simp[jm]at h
 | .nils,_::_,u,k,r,h=>by simp[jm]at h
 | .emp,_::_,u,k,r,h=>by simp[jm]at h
 | .tup _,_::_,u,k,r,h=>by simp[jm]at h
 | .fn _ _ _,_::_,u,k,r,h=>by simp[jm]at h
 | .nilfn,_::_,u,k,r,h=>by simp[jm]at h
 | .iface _ _,_::_,u,k,r,h=>by simp[jm]at h
 | .nilif,_::_,u,k,r,h=>by simp[jm]at h
 | .nilp,_::_,u,k,r,h=>by simp[jm]at h
 | .ref _,_::_,u,k,r,h=>by simp[jm]at h
end Go.Vm
namespace Go.Vm
universe u
variable {R:Type}
structure FnE where
 run:{R:Type}->List AV->LHp->(aq->LHp->Option R)->Option R
structure p6 where
 run:{R:Type}->List AV->(AV->Option R)->Option R
structure iA where
 run:{R:Type}->Nat->List AV->LHp->(Bool->LHp->Option R)->Option R
structure Env where
 P:Program
 Γ:List (Nat×AV)
 ty:List (Nat×Ty)
 calls:List (Nat×FnE)
 exts:List (Nat×p6)
 round:Option iA:=a6
def lk {α:Type u}:List (Nat×α)->Nat->Option α
 |[],_=>a6
 |(a,b)::r,o=>bif dK a o then ar b else lk r o
theorem jn {α:Type u}:∀{l} {o} {b:α},lk l o=ar b->(o,b)∈l
 |[],_,_,h=>by cases h
 |(a,c)::r,o,b,h=>by simp only[lk]at h;cases d:dK a o with|true=>rw[d]at h;cases h;rw[cb d];simp|false=>rw[d]at h;simp[jn h]
def Env.gam (E:Env)  :=lk E.Γ
def LSt.ev (E:Env)(s:LSt):Operand->AV
 | .tmp t=>s.fr.get t
 | .const v=>mr v
 | .global g=>(match lk E.Γ g with|some v=>v|none=>.undef)
 | .func f=>.fn (.func f) [] []
structure ft (P:Program)(t:TypeId)(τ:Ty):Prop where
 info:∃i z,P.info? t=ar i/\i.size=τ.size/\i.bytes<=4096/\i.zero=ar z/\z.cells.toList=jk τ
 und:∃d,P.underlying t=ar d/\Ns d=τ.isAgg
structure Env.OK (E:Env):Prop where
 ty:∀p∈E.ty,ft E.P p.1 p.2
def ZF (P:Program)(t:TypeId):Option (Nat×Bool):=
 match P.info? t with|some i=>(match P.underlying t with|some d=>ar (i.size,Ns d)|none=>a6)|none=>a6
theorem Ba {P t n b}(h:ZF P t=ar (n,b)):TyS P t n b:=by
 unfold ZF at h;split at h
 ·rename_i i a
  split at h
  ·rename_i d c;cases h;exact⟨⟨i,a,rfl⟩,d,c,rfl⟩
  ·cases h
 ·cases h
def Bb (P:Program)(t:TypeId)(n:Nat)(b:Bool):Bool:=
 match ZF P t with|some (m,c)=>dK m n&&bif c then b else !b|none=>a8
theorem pj {P t n b}(h:Bb P t n b=bc):TyS P t n b:=by
 unfold Bb at h;split at h
 ·grind [cb,Ba]
 ·cases h
def tyN (P:Program)(t:TypeId)(n:Nat):Bool:=match ZF P t with|some (m,_)=>dK m n|none=>a8
theorem Jz {P t n}(h:tyN P t n=bc):∃b,TyS P t n b:=by
 unfold tyN at h;split at h
 ·rename_i m c a;rw[←cb h];exact⟨c,Ba a⟩
 ·cases h
def mz (P:Program)(t:TypeId)(n:Nat):Bool:=
 match P.underlying t with|some (.slice e)=>(match P.info? e with|some i=>dK i.size n|none=>a8)|_=>a8
theorem gQ {P t n}(h:mz P t n=bc):SlT P t n:=by
 unfold mz at h;split at h
 ·rename_i e a
  split at h
  ·rename_i i b;exact⟨e,i,a,b,cb h⟩
  ·cases h
 ·cases h
def TZ (P:Program)(t:TypeId)(m n:Nat):Bool:=
 match P.underlying t with|some (.array l e)=>dK l m&&(match P.info? e with|some i=>dK i.size n|none=>a8)|_=>a8
theorem Eu {P t m n}(h:TZ P t m n=bc):ArT P t m n:=by
 unfold TZ at h;split at h
 ·rename_i l e b
  simp only[aX]at h;let ⟨c,a⟩:=h;split at a
  ·rename_i i d;rw[←cb c];exact⟨e,i,b,d,cb a⟩
  ·cases a
 ·cases h
def T0 (E:Env)(t:TypeId):Option (TypeId×Ty):=
 match E.P.underlying t with|some (.slice T)=>(match lk E.ty T with|some e=>bif h8 0 e.size then ar (T,e)else a6|none=>a6)|_=>a6
theorem m4 {E}(b:E.OK){t T e}(h:T0 E t=ar (T,e)):ElT E.P t T e:=by
 unfold T0 at h;split at h
 ·rename_i n c
  split at h
  ·rename_i o d;cases a:h8 0 _ with|false=>rw[a]at h;cases h|true=>rw[a]at h;cases h;let ⟨i,z,f,g,j,l,m⟩:=(b.ty _<|jn d).info;exact⟨c,⟨i,z,f,g,j,l,m⟩,gx a⟩
  ·cases h
 ·cases h
theorem cK {E C}(a:C.Γ=E.gam)(s:LSt) x:s.toA.ev C x=s.ev E x:=by cases x with|tmp t=>rfl|const v=>rfl|global g=>simp only[ASt.ev,LSt.ev,a,Env.gam];grind|func f=>rfl
def E1.eff (e:E1)(dst:Option Nat):Eff:=⟨dst,e.av,e.rd,e.wr⟩
def LSt.pv (s:LSt)(a:AV):E1:=⟨a,[],[],s.nx⟩
def LSt.pr (s:LSt)(a:AV)(b:List Nat):E1:=⟨a,b,[],s.nx⟩
def gZ (E:Env) C o (s:LSt) (k:E1->Option R) r  :=∃e,k e=ar r/\OpW E.P C o (e.eff o.dst) s.toA
theorem gZ.of {E C o s k}{r:R} e (a:k e=ar r) (h:cG E.P C o (e.eff o.dst) s.toA):gZ E C o s k r:=⟨e,a,h.w⟩
def NF (c:BinOp)(k:IntKind)(a b:Int):Option AV:=
 match c with| .add=>ar (.d (.int k) (k.wrap (a+b)))| .sub=>ar (.d (.int k) (k.wrap (a-b)))| .mul=>ar (.d (.int k) (k.wrap (a*b)))| .and=>ar (.d (.int k) (k.wrap (q9 k.bits a&&&q9 k.bits b).toNat))| .or=>ar (.d (.int k) (k.wrap (q9 k.bits a|||q9 k.bits b).toNat))| .xor=>ar (.d (.int k) (k.wrap (q9 k.bits a ^^^ q9 k.bits b).toNat))| .andNot=>ar (.d (.int k) (k.wrap (q9 k.bits a&&& ~~~ q9 k.bits b).toNat))| .eql=>ar (.d .bool (a==b))| .neq=>ar (.d .bool (a !=b))| .lss=>ar (.d .bool (a7 (a<b)))| .leq=>ar (.d .bool (a7 (a<=b)))| .gtr=>ar (.d .bool (a7 (a>b)))| .geq=>ar (.d .bool (a7 (a>=b)))|_=>a6
def ZG (c:BinOp)(k:FloatKind)(a b:Nat):Option AV:=
 match c with| .add=>ar (.d (.flt k) (fop .add k a b))| .sub=>ar (.d (.flt k) (fop .sub k a b))| .mul=>ar (.d (.flt k) (fop .mul k a b))| .quo=>ar (.d (.flt k) (fop .quo k a b))| .eql=>ar (.d .bool (k.format.order a b==ar .eq))| .neq=>ar (.d .bool (k.format.order a b !=ar .eq))| .lss=>ar (.d .bool (k.format.order a b==ar .lt))| .leq=>ar (.d .bool (k.format.order a b==ar .lt||k.format.order a b==ar .eq))| .gtr=>ar (.d .bool (k.format.order a b==ar .gt))| .geq=>ar (.d .bool (k.format.order a b==ar .gt||k.format.order a b==ar .eq))|_=>a6
def T3 (P:Program)(t:TypeId):Bool:=match P.underlying t with|some (.interface _)=>bc|_=>a8
theorem Ew {P t}(h:T3 P t=bc):∃m,P.underlying t=ar (.interface m):=by grind [T3]
def T5 (P:Program)(t:TypeId):Bool:=match P.underlying t with|some .bool=>bc|_=>a8
theorem Ex {P t}(h:T5 P t=bc):P.underlying t=ar .bool:=by grind [T5]
section
variable {P:Program}{C:Ctx}{s:ASt}{dst:Option Tmp}{ty:TypeId}{pos:String}{dD:Array Edge}{gd:Option (Nat×Bool)}
theorem Bc {c}(d:P.underlying c=ar .bool) a b w:(I2 c (.bool a)<| .bool b).run P w=.ok (a==b) w:=by show (ahh (9999+1) c _ _).run P w=_;rw[WK];simp only[hF,run_underlying d,eE];rfl
theorem arV {c e x y}{a b:Bool}(f:s.ev C x=.d .bool a)(g:s.ev C y=.d .bool b)(i:P.underlying c=ar .bool):
  cG P C ⟨dst,.binOp .eql c x y e,ty,pos,dD,gd⟩ ⟨dst,.d .bool<|a==b,[],[]⟩ s:=
 bJ λw im μ hp m h=>by
  let e1:=cB (by rw[f];rfl)<|h x<|by simp[cx]
  let e2:=cB (by rw[g];rfl)<|h y<|by simp[cx]
  let j:binOp .eql c (.bool a) _=(do pure<| .bool<|←I2 c _<| .bool b):=rfl;let l:eqGuard .eql c x y (.bool a) (.bool b)=pure ():=by simp[eqGuard]
  refine⟨_,?_,bp _ _ _ _<| .bool _⟩;simp only[execOp,e1,e2,l,j];simp[Bc i]
theorem arW {c e x y}{a b:Bool}(f:s.ev C x=.d .bool a)(g:s.ev C y=.d .bool b)(i:P.underlying c=ar .bool):
  cG P C ⟨dst,.binOp .neq c x y e,ty,pos,dD,gd⟩ ⟨dst,.d .bool ! a==b,[],[]⟩ s:=
 bJ λw im μ hp m h=>by
  let e1:=cB (by rw[f];rfl)<|h x<|by simp[cx]
  let e2:=cB (by rw[g];rfl)<|h y<|by simp[cx]
  let j:binOp .neq c (.bool a) _=(do pure<| .bool !(←I2 c _<| .bool b)):=rfl;let l:eqGuard .neq c x y (.bool a) (.bool b)=pure ():=by simp[eqGuard]
  refine⟨_,?_,bp _ _ _ _<| .bool _⟩;simp only[execOp,e1,e2,l,j];simp[Bc i]
end
theorem Qn {P C s dst ty pos dD gd x y f u T e g j}(v:s.ev C x=j)(z:Src s.hp j e g)(A:g≠[])(B:s.ev C y=.nils)(D:P.underlying f=ar (.slice T)) b:
  cG P C ⟨dst,.binOp (bif b then .neq else .eql) f x y u,ty,pos,dD,gd⟩ ⟨dst,.d .bool b,j.objs,[]⟩ s:=
 gm _ λw im μ hp I h F G=>by
  let ⟨J,a,o,p,l⟩:=(z.hp F).sound (v▸h x<|by cases b<;>simp[cx]) G;let ⟨q,H⟩:=B▸h y<|by cases b<;>simp[cx]
  simp only[RepA]at q;let e2:=bj q H;obtain⟨i,c,L,rfl,_⟩:=l.resolve_left A;let t:(I2 f (.slice (ar ⟨i,c,a6⟩) g.length a)<| .slice a6 0 0).run P w=.ok _ w:=by show (ahh (9999+1) f _ _).run P w=_;rw[WK];simp only[hF,run_underlying D,eE];rfl
  cases b with|false=>let m:binOp .eql f (.slice _ _ a) _=(do pure<| .bool<|←I2 f (.slice (ar ⟨i,c,a6⟩) g.length a)<| .slice a6 0 0):=rfl;let n:eqGuard .eql f x y (.slice (ar ⟨i,c,a6⟩) g.length a) (.slice a6 0 0)=pure ():=rfl;refine⟨_,w,?_,rfl,rfl,rfl,rfl,bp _ _ _ _<| .bool _⟩;simp only[al,execOp,o,e2,n,m];simp[t]|true=>let m:binOp .neq f (.slice _ _ a) _=(do pure<| .bool !(←I2 f (.slice (ar ⟨i,c,a6⟩) g.length a)<| .slice a6 0 0)):=rfl;let n:eqGuard .neq f x y (.slice (ar ⟨i,c,a6⟩) g.length a) (.slice a6 0 0)=pure ():=rfl;refine⟨_,w,?_,rfl,rfl,rfl,rfl,bp _ _ _ _<| .bool bc⟩;simp only[ai,execOp,o,e2,n,m];simp[t]
theorem yu {P C s dst ty pos dD gd x y a i T}(j:s.ev C x=.nils)(l:s.ev C y=.nils)(m:P.underlying a=ar (.slice T)) b:
  cG P C ⟨dst,.binOp (bif b then .eql else .neq) a x y i,ty,pos,dD,gd⟩ ⟨dst,.d .bool b,[],[]⟩ s:=
 bJ λw im μ hp q h=>by
  let ⟨n,c⟩:=j▸h x<|by cases b<;>simp[cx]
  let ⟨o,p⟩:=l▸h y<|by cases b<;>simp[cx]
  let e1:=bj n c;let e2:=bj o p;let g:(I2 a (.slice a6 0 0)<| .slice a6 0 0).run P w=.ok bc w:=by show (ahh (9999+1) a _ _).run P w=_;rw[WK];simp only[hF,run_underlying m,eE];rfl
  cases b with|true=>let e:binOp .eql a (.slice a6 0 0) _=(do pure<| .bool<|←I2 a _<| .slice a6 0 0):=rfl;let f:eqGuard .eql a x y (.slice a6 0 0) (.slice a6 0 0)=pure ():=rfl;refine⟨_,?_,bp _ _ _ _<| .bool bc⟩;simp only[ai,execOp,e1,e2,f,e];simp[g]|false=>let e:binOp .neq a (.slice a6 0 0) _=(do pure<| .bool !(←I2 a _<| .slice a6 0 0)):=rfl;let f:eqGuard .neq a x y (.slice a6 0 0) (.slice a6 0 0)=pure ():=rfl;refine⟨_,?_,bp _ _ _ _<| .bool _⟩;simp only[al,execOp,e1,e2,f,e];simp[g]
def eqI :(c:Ty)->c.den->c.den->Bool
 | .int _,x,y=>decide ((x:Int)=y)
 | .pair a b,x,y=>eqI a x.1 y.1&&eqI b x.2 y.2
 |_,_,_=>bc
def NG (P:Program):List Field->Ty->Nat->Bool
 |[],.unit,_=>bc
 |f::c,.pair (.int _) b,a=>decide (f.name≠ "_")&&dK f.offset a&&(match P.underlying f.type with|some (.int _)=>bc|_=>a8)&&NG P c b (a+1)
 |_,_,_=>a8
theorem uX {P w im i j}:∀(m) (d) (c) (n o) (x y),NG P m d c=bc->bm w im d n x->bm w im d o y->i.toList.drop c=n->j.toList.drop c=o->
  (Op.eqFields 9999 i j m).run P w=.ok (eqI d x y) w
 |[],d,c,n,o,x,y,h,z,A,p,q=>by cases d<;>simp[NG]at h;rfl
 |f::m,d,c,n,o,x,y,h,z,A,p,q=>by
  cases d with
  |pair a b=>
   cases a with
   |int k=>
    simp only[NG,aX,decide_eq_true_eq]at h;let ⟨⟨⟨g1,g2⟩,g3⟩,g4⟩:=h;let e:=cb g2;obtain⟨S,B,rfl,rfl,t⟩:=z;obtain⟨T,D,rfl,rfl,G⟩:=A;let H  :=by let:=congrArg (λl=>l[0]?) p;simpa using this
    let I  :=by let:=congrArg (λl=>l[0]?) q;simpa using this
    let u:i.toList.drop (c+1)=B:=by rw[←MX,p];rfl
    let v:j.toList.drop (c+1)=D:=by rw[←MX,q];rfl
    split at g3
    ·rename_i J g
     let F:(isAgg f.type).run P w=.ok a8 w:=by simp[isAgg,run_underlying g]
     let L:(part f.type i f.offset).run P w=.ok (.int k x.1) w:=by simp[part,F,e,H]
     let M:(part f.type j f.offset).run P w=.ok (.int k y.1) w:=by simp[part,F,e,I]
     let N:=run_equalIn_int w 9998 _ k J x.1 y.1 g;let U:=uX m b _ B D x.2 y.2 g4 t G u v;simp only[Op.eqFields,if_pos g1,hF,L,M,eE,N,eqI];by_cases O:x.1=y.1;all_goals simp_all
    ·cases g3
   |_=>simp[NG]at h
  |_=>simp[NG]at h
def stI (P:Program)(t:TypeId)(a:Ty):Bool:=
 match P.underlying t with|some (.struct b)=>NG P b.toList a 0&& !(P.stoodInHeld t)&& !(P.eqGuardType P.depth t)&&a.isAgg|_=>a8
theorem Qo {P C s dst ty pos dD gd x y c A e a b}(B:s.ev C x=.d e a)(D:s.ev C y=.d e b)(i:stI P c e=bc) ng:
  cG P C ⟨dst,.binOp (bif ng then .neq else .eql) c x y A,ty,pos,dD,gd⟩ ⟨dst,.d .bool<|bif ng then ! eqI e a b else eqI e a b,[],[]⟩ s:=
 bJ λw im μ hp p h=>by
  unfold stI at i;split at i
  ·rename_i F q
   simp only[aX,T2]at i;let ⟨⟨⟨g1,g2⟩,g3⟩,g4⟩:=i;let ⟨t,j⟩:=B▸h x<|by cases ng<;>simp[cx]
   let ⟨l,m⟩:=D▸h y<|by cases ng<;>simp[cx]
   let u:P.fieldsOf c=F:=by unfold Program.fieldsOf;rw[q]
   let ⟨f,e1⟩:∃f,p x=.agg f:=by generalize p x=v at j;cases v<;>simp_all[bS,AV.isAgg]
   let ⟨g,e2⟩:∃g,p y=.agg g:=by generalize p y=v at m;cases v<;>simp_all[bS,AV.isAgg]
   rw[e1]at t;rw[e2]at l;let n:=uX _ e 0 _ _ a b g1 t l rfl rfl;let o:(ahh 10000 c _ _).run P w=.ok _ w:=by rw[run_equalIn_struct w 9999 c f g (by rw[u];exact q) g2,u];exact n
   let z:=λG=>run_eqGuard_agg w G c x y f g g3
   cases ng with|false=>refine⟨_,?_,bp _ _ _ _<| .bool _⟩;let:=run_eql_struct (P:=P) w c f g;rw[o]at this;simp only[al,execOp,e1,e2];simp[z,this]|true=>refine⟨_,?_,bp _ _ _ _<| .bool _⟩;let:=run_neq_struct (P:=P) w c f g;rw[o]at this;simp only[ai,execOp,e1,e2];simp[z,this]
  ·cases i
def T6 (E:Env)(e:BinOp)(f:TypeId)(c:Ty)(a:c.den)(v:AV)(s:LSt)(k:E1->Option R):Option R:=
 match v.asD c with|some b=>bif stI E.P f c then (match e with| .eql=>k (s.pv (.d .bool (eqI c a b)))| .neq=>k (s.pv (.d .bool (!(eqI c a b))))|_=>a6)else a6|none=>a6
theorem ahW {E C s k}{r:R}{dst ty pos dD gd}(i:C.Γ=E.gam){j e l x y f a}(m:s.ev E x=.d f a)(h:T6 E j e f a (s.ev E y) s k=ar r):gZ E C ⟨dst,.binOp j e x y l,ty,pos,dD,gd⟩ s k r:=by
 unfold T6 at h;let ex:=cK i s x;let g:=cK i s y;rw[m]at ex;split at h
 ·rename_i b n
  rw[AV.asD_some n]at g;cases c:stI E.P e f with
  |false=>rw[c]at h;cases h
  |true=>
   rw[c]at h;split at h
   ·exact .of _ h<|Qo ex g c a8
   ·exact .of _ h<|Qo ex g c bc
   ·cases h
 ·cases h
def Ey (E:Env)(b:BinOp)(c:TypeId)(a:AV)(s:LSt)(k:E1->Option R):Option R:=
 match E.P.underlying c with
 |some (.slice _)=>
  (match a with
  | .nils=>(match b with| .eql=>k (s.pv (.d .bool bc))| .neq=>k (s.pv (.d .bool a8))|_=>a6)
  |a=>
   (match TY s.hp a a6 with|some ⟨_,_::_⟩=>(match b with| .eql=>k (s.pr (.d .bool a8) a.objs)| .neq=>k (s.pr (.d .bool bc) a.objs)|_=>a6)|_=>a6))
 |_=>a6
theorem ZH {E C s k}{r:R}{dst ty pos dD gd}(c:C.Γ=E.gam){d e g x y}(i:s.ev E y=.nils)(h:Ey E d e (s.ev E x) s k=ar r):gZ E C ⟨dst,.binOp d e x y g,ty,pos,dD,gd⟩ s k r:=by
 unfold Ey at h;let ex:=cK c s x;let a:=cK c s y;rw[i]at a;split at h
 ·rename_i T b
  split at h
  ·rename_i j
   rw[j]at ex;split at h
   ·exact .of _ h<|yu ex a b bc
   ·exact .of _ h<|yu ex a b _
   ·cases h
  ·split at h
   ·rename_i f
    split at h
    ·exact .of _ h<|Qn ex (sg f) (by simp) a b _
    ·exact .of _ h<|Qn ex (sg f) (by simp) a b bc
    ·cases h
   ·cases h
 ·cases h
def Ez (E:Env)(e:BinOp)(f:TypeId)(x y:Operand)(s:LSt)(k:E1->Option R):Option R:=
 match s.ev E x,s.ev E y with
 | .d (.int c) a,.d (.int g) b=>
  (match e with
  | .shl=>(shl c a b).bind λz=>k (s.pv (.d (.int c) z))
  | .shr=>(shr c a b).bind λz=>k (s.pv (.d (.int c) z))
  | .quo=>if c=g then (quo c a b).bind λz=>k (s.pv (.d (.int c) z))else a6
  | .rem=>if c=g then (rem a b).bind λz=>k (s.pv (.d (.int c) z))else a6
  |e=>if c=g then (match NF e c a b with|some v=>k (s.pv v)|none=>a6)else a6)
 | .d .bool a,.d .bool b=>
  (match e with| .eql=>bif T5 E.P f then k (s.pv (.d .bool (a==b)))else a6| .neq=>bif T5 E.P f then k (s.pv (.d .bool (!(a==b))))else a6|_=>a6)
 | .d .str a,.d .str b=>
  (match e with
  | .eql=>k (s.pv (.d .bool (a==b)))
  | .neq=>k (s.pv (.d .bool (!(a==b))))
  | .add=>(ND a b).bind λz=>k (s.pv (.d .str z))
  |_=>a6)
 | .d (.flt c) a,.d (.flt g) b=>if c=g then (match ZG e c a b with|some v=>k (s.pv v)|none=>a6)else a6
 | .iface _ (.d (.int _) _),.nilif=>(match e,y with| .neq,.const .nilIface=>bif T3 E.P f then k (s.pv (.d .bool bc))else a6|_,_=>a6)
 | .nilif,.nilif=>(match e,y with| .neq,.const .nilIface=>bif T3 E.P f then k (s.pv (.d .bool a8))else a6|_,_=>a6)
 |a,.nils=>Ey E e f a s k
 | .d (.pair a b) z,v=>T6 E e f (.pair a b) z v s k
 |_,_=>a6
section
variable {E:Env}{C:Ctx}{s:LSt}{k:E1->Option R}{r:R}{dst:Option Tmp}{ty:TypeId}{pos:String}{dD:Array Edge}{gd:Option (Nat×Bool)}
theorem ZI (q:C.Γ=E.gam){p xt yt x y}(h:Ez E p xt x y s k=ar r):gZ E C ⟨dst,.binOp p xt x y yt,ty,pos,dD,gd⟩ s k r:=by
 unfold Ez at h;let ex:=cK q s x;let d:=cK q s y;split at h
 ·rename_i c a u b f g
  rw[f]at ex;rw[g]at d;split at h
  ·let ⟨z,l,h⟩:=bC h;exact .of _ h<|ahS ex d l
  ·let ⟨z,l,h⟩:=bC h;exact .of _ h<|ahT ex d l
  ·split at h
   ·rename_i o;subst o;let ⟨z,l,h⟩:=bC h;exact .of _ h<|ahQ ex d l
   ·cases h
  ·split at h
   ·rename_i o;subst o;let ⟨z,l,h⟩:=bC h;exact .of _ h<|ahR ex d l
   ·cases h
  ·split at h
   ·rename_i o;subst o
    cases m:NF p c a b with
    |none=>rw[m]at h;cases h
    |some v=>
     rw[m]at h;refine .of _ h ?_;let i:Nn (s.toA.ev C x)=ar _:=by rw[ex];rfl
     let j:Nn (s.toA.ev C y)=ar _:=by rw[d];rfl
     cases p<;>simp only[NF,wR,reduceCtorEq]at m<;>subst m
     ·exact kO (r:=.int c _) i j (by cases c<;>rfl) rfl
     ·exact kO (r:=.int c _) i j (by cases c<;>rfl) rfl
     ·exact kO (r:=.int c _) i j (by cases c<;>rfl) rfl
     ·exact kO (r:=.int c _) i j (by cases c<;>rfl) rfl
     ·exact kO (r:=.int c _) i j (by cases c<;>rfl) rfl
     ·exact kO (r:=.int c _) i j (by cases c<;>rfl) rfl
     ·exact kO (r:=.int c _) i j (by cases c<;>rfl) rfl
     ·exact kO (r:=.bool _) i j (by cases c<;>rfl) rfl
     ·exact kO (r:=.bool _) i j (by cases c<;>rfl) rfl
     ·exact kO (r:=.bool _) i j (by cases c<;>rfl) rfl
     ·exact kO (r:=.bool _) i j (by cases c<;>rfl) rfl
     ·exact kO (r:=.bool _) i j (by cases c<;>rfl) rfl
     ·exact kO (r:=.bool _) i j (by cases c<;>rfl) rfl
   ·cases h
 ·rename_i a b f g
  rw[f]at ex;rw[g]at d;split at h
  ·cases e:T5 E.P xt with|false=>rw[e]at h;cases h|true=>rw[e]at h;exact .of _ h<|arV ex d<|Ex e
  ·cases e:T5 E.P xt with|false=>rw[e]at h;cases h|true=>rw[e]at h;exact .of _ h<|arW ex d<|Ex e
  ·cases h
 ·rename_i a b f g
  rw[f]at ex;rw[g]at d;split at h
  ·exact .of _ h<|Zv ex d
  ·exact .of _ h<|Zw ex d
  ·let ⟨z,l,h⟩:=bC h;exact .of _ h<|by let:=TQ (P:=E.P) (dst:=dst) (ty:=ty) (pos:=pos) (dD:=dD) (gd:=gd) (xt:=xt) (yt:=yt) ex d (yq l).1;rw[(yq l).2]at this;exact this
  ·cases h
 ·rename_i c a u b f g
  rw[f]at ex;rw[g]at d;split at h
  ·rename_i o;subst o
   cases m:ZG p c a b with
   |none=>rw[m]at h;cases h
   |some v=>
    rw[m]at h;refine .of _ h ?_
    cases p<;>first
     |(cases m;exact arN (by simp) ex d)
     |(cases m;exact ahM (by simp) ex d rfl rfl)
     |cases m
  ·cases h
 ·rename_i t kk n f g
  rw[f]at ex;rw[g]at d;split at h
  ·cases e:T3 E.P xt with|false=>rw[e]at h;cases h|true=>rw[e]at h;exact .of _ h<|ahU ex<|Ew e
  ·cases h
 ·rename_i f g
  rw[f]at ex;rw[g]at d;split at h
  ·cases e:T3 E.P xt with|false=>rw[e]at h;cases h|true=>rw[e]at h;exact .of _ h<|Jv ex<|Ew e
  ·cases h
 ·rename_i g;exact ZH q g h
 ·rename_i f _;exact ahW q f h
 ·cases h
def T7 (E:Env)(a:UnOp)(x:Operand)(s:LSt)(k:E1->Option R):Option R:=
 match a,s.ev E x with| .not,.d .bool b=>k (s.pv (.d .bool (!b)))| .neg,.d (.int j) n=>k (s.pv (.d (.int j) (j.wrap (0-n))))| .neg,.d (.flt f) b=>bif (f.format.read b).isNaN then a6 else k (s.pv (.d (.flt f) (aG f (Op.negFloat f b))))|_,_=>a6
theorem ahX (e:C.Γ=E.gam){a g x}(h:T7 E a x s k=ar r):gZ E C ⟨dst,.unOp a g x,ty,pos,dD,gd⟩ s k r:=by
 unfold T7 at h;let ex:=cK e s x;split at h
 ·rename_i b c;rw[c]at ex;exact .of _ h<|apC (by rw[ex];rfl) rfl rfl
 ·rename_i j n c;rw[c]at ex;exact .of _ h<|apC (by rw[ex];rfl) rfl rfl
 ·rename_i f b c;rw[c]at ex;cases d:(f.format.read b).isNaN with|true=>rw[d]at h;cases h|false=>rw[d]at h;exact .of _ h<|Np ex d
 ·cases h
def wY (E:Env)(c x y:Operand)(s:LSt)(k:E1->Option R):Option R:=
 match s.ev E c with| .d .bool b=>bif b then k (s.pv (s.ev E x))else k (s.pv (s.ev E y))|_=>a6
theorem T8 (a:C.Γ=E.gam){c x y}(h:wY E c x y s k=ar r):gZ E C ⟨dst,.pick c x y,ty,pos,dD,gd⟩ s k r:=by
 unfold wY at h;let d:=cK a s c;split at h
 ·rename_i b e;rw[e]at d;cases b with|true=>exact .of _ h<|F5 d<|cK a s x|false=>exact .of _ h<|DL d<|cK a s y
 ·cases h
def wZ (E:Env)(a c:TypeId)(x:Operand)(s:LSt)(k:E1->Option R):Option R:=
 match s.ev E x,E.P.underlying a,E.P.underlying c with
 | .d (.int _) n,ar _,ar (.int j)=>k (s.pv (.d (.int j) (j.wrap n)))
 | .d (.int _) n,ar _,ar (.float j)=>k (s.pv (.d (.flt j) (aG j (j.nearest n))))
 | .d (.flt f) b,ar _,ar (.float j)=>bif (f.format.read b).isNaN then a6 else (AL f b j).bind λz=>k (s.pv (.d (.flt j) (aG j z)))
 | .d (.flt f) b,ar _,ar (.int j)=>bif (f.format.read b).isNaN then a6 else (AM f b j).bind λz=>k (s.pv (.d (.int j) z))
 |_,_,_=>a6
theorem T9 (o:C.Γ=E.gam){l m x}(h:wZ E l m x s k=ar r):gZ E C ⟨dst,.convert l m x,ty,pos,dD,gd⟩ s k r:=by
 unfold wZ at h;let ex:=cK o s x;split at h
 ·rename_i p n i j a c d;rw[a]at ex;exact .of _ h<|Jf ex c d
 ·rename_i p n i j a c d;rw[a]at ex;exact .of _ h<|AK ex c d
 ·rename_i f b i j a c d
  rw[a]at ex;cases e:(f.format.read b).isNaN with|true=>rw[e]at h;cases h|false=>rw[e]at h;cases g:AL f b j with|none=>rw[g]at h;cases h|some z=>rw[g]at h;exact .of _ h<|AN ex c d e g
 ·rename_i f b i j a c d
  rw[a]at ex;cases e:(f.format.read b).isNaN with|true=>rw[e]at h;cases h|false=>rw[e]at h;cases g:AM f b j with|none=>rw[g]at h;cases h|some z=>rw[g]at h;exact .of _ h<|AO ex c d e g
 ·cases h
def qw (hp:LHp)(o:Nat)(x:Option R):Option R:=match aD hp o with|none=>x|some _=>a6
theorem kQ {hp o x}(h:qw hp o x=ar r):aD hp o=a6/\x=ar r:=by unfold qw at h;grind
def EA E x (s:LSt) (k:E1->Option R)  :=
 bif (s.ev E x).plain then qw s.hp s.nx (k ⟨.op s.nx [] 0,[],[(s.nx,.box<|s.ev E x)],s.nx+1⟩)else a6
theorem ZJ (a:C.Γ=E.gam){d:Nat}{t x}(h:EA E x s k=ar r):gZ E C ⟨ar d,.box t x,ty,pos,dD,gd⟩ s k r:=by unfold EA at h;cases hp:(s.ev E x).plain with|false=>rw[hp]at h;cases h|true=>rw[hp]at h;let ⟨b,h⟩:=kQ h;exact .of _ h<|arO (cK a s x) hp b
def NH (E:Env)(t:TypeId):Option AV:=
 match lk E.ty t with|some a=>ar (uW a)|none=>(match E.P.info? t with|some i=>(match i.zero with|some z=>(match z with| .nilFunc=>ar .nilfn| .nilIface=>ar .nilif| .pointer a6=>ar .nilp|_=>a6)|none=>a6)|none=>a6)
theorem NI (c:E.OK){t a}(h:NH E t=ar a) w im μ hp:∃z,(zeroValue t).run E.P w=.ok z w/\RepA w im μ hp a z.cells.toList:=by
 unfold NH at h;split at h
 ·rename_i m b;let ⟨i,z,d,n,o,e,f⟩:=(c.ty _<|jn b).info;let ⟨p,g,q⟩:=AT ⟨i,z,d,e,f⟩ w;grind [Et]
 ·split at h
  ·rename_i i j
   split at h
   ·rename_i z l
    let g:(zeroValue t).run E.P w=.ok z w:=by simp[zeroValue,typeInfo,j,l]
    grind [RepA,gI]
   ·cases h
  ·cases h
def sj (E:Env)(t:TypeId)(s:LSt)(k:E1->Option R):Option R:=
 match NH E t with|some a=>qw s.hp s.nx (k ⟨.op s.nx [] 0,[],[(s.nx,.box a)],s.nx+1⟩)|none=>a6
theorem NJ (c:E.OK){d:Nat}{t}(h:sj E t s k=ar r):gZ E C ⟨ar d,.alloc t,ty,pos,dD,gd⟩ s k r:=by
 unfold sj at h;split at h
 ·rename_i a e;let ⟨f,h⟩:=kQ h;refine .of _ h ?_;intro g p i im μ j w l m;let n  :=(i s.nx<| .inr<|by simp[E1.eff]).trans f;let ⟨z,b,o⟩:=NI c e w im μ g.hp;refine⟨_,_,im,_,.inl ?_,l.newBox (T:=t) (m d rfl) n o⟩;simp only[execOp,Instr.alloc,hF,b,Nt,eE];rfl
 ·cases h
def w6 (E:Env)(t:TypeId)(x:Operand)(s:LSt)(k:E1->Option R):Option R:=
 match s.ev E x with
 | .ip b y=>bif Bb E.P t b.size b.isAgg then k (s.pv (.d b y))else a6
 | .op o p c=>
  (match aD s.hp o with|some (.box v)=>fQ v p (λa u=>bif dK a c&&Bb E.P t u.asize u.isAgg then k (s.pr u [o])else a6)|_=>a6)
 | .oe o m i=>
  (match aD s.hp o with
  |some (.arr _ e f _ g)=>bif dK m f&&Bb E.P t e.size e.isAgg then (g[i]?).bind λz=>k (s.pr (.d e z) [o])else a6
  |_=>a6)
 |_=>a6
theorem Ua (j:C.Γ=E.gam){t x}(h:w6 E t x s k=ar r):gZ E C ⟨dst,.load t x,ty,pos,dD,gd⟩ s k r:=by
 unfold w6 at h;let ex:=cK j s x;split at h
 ·rename_i B y b;rw[b]at ex;cases a:Bb E.P t _ _ with|false=>rw[a]at h;cases h|true=>rw[a]at h;exact .of _ h<|Nu ex<|pj a
 ·rename_i o p f b
  rw[b]at ex;split at h
  ·rename_i v g;let ⟨c,u,l,d⟩:=ph v p _ r h;cases a:dK c f&&Bb E.P t _ _ with|false=>rw[a]at d;cases d|true=>rw[a]at d;simp only[aX]at a;exact .of _ d<|Nv ex g l (cb a.1)<|pj a.2
  ·cases h
 ·rename_i o m i b
  rw[b]at ex;split at h
  ·rename_i T e n z D g;cases a:dK m n&&Bb E.P t _ _ with|false=>rw[a]at h;cases h|true=>rw[a]at h;simp only[aX]at a;have q:=cb a.1;subst q;let ⟨y,A,h⟩:=bC h;exact .of _ h<|NA ex g A<|pj a.2
  ·cases h
 ·cases h
def Qp (hp:LHp)(o:Nat):LHp:=
 match aD hp o with|some (.arr T e m a8 a)=>[(o,.arr T e m bc a)]|_=>[]
def dq (hp:LHp):List Nat->LHp
 |[]=>[]
 |o::l=>let w:=dq hp l;Qp (w++hp) o++w
theorem JA {s:ASt}{hp}(a:s.hp=aD hp):∀l,Le C s ⟨s.fr,aT s.hp<|dq hp l⟩
 |[]=>Le.refl _ _
 |o::l=>by
  refine(JA a l).trans ?_;simp only[dq,Qp];let c:aD _=aT s.hp (dq hp l):=by rw[bV,a]
  split
  ·rename_i T e m b h
   rw[c]at h;let:=Eo (C:=C) (s:=⟨s.fr,aT s.hp _⟩) h;refine this.trans ?_;let d:aT (aT s.hp<|dq hp l) [(o,.arr T e m bc b)]=aT s.hp ([(o,.arr T e m bc b)]++dq hp l):=by rw[a,←bV,←bV,←bV,gl]
   rw[d];exact Le.refl _ _
  grind [Le.refl]
theorem uY hp (a b:LHp):aT hp (a++b)=aT (aT hp b) a:=by grind [aT]
theorem OpW.frozen {P o}{e:E1}{dst}{s:LSt} l (h:OpW P C o (e.eff dst) ⟨s.fr.get,aT (aD s.hp)<|dq s.hp l⟩):
  OpW P C o ((E1.mk e.av e.rd (e.wr++dq s.hp l) e.nx).eff dst) s.toA:=by
 intro d q t a w u v K Q x
 let b:∀k,(k∈e.rd\/k∈(e.wr++dq s.hp l).map _)->d.hp k=aD s.hp k:=t
 let n  :=by
  let key:∀f:List Nat,(∀k,k∈(dq s.hp f).map _->d.hp k=aD s.hp k)->Le C d ⟨_,aT _ _⟩:=by
   intro f;induction f with
   |nil=>
    intro _;let:aT d.hp (dq s.hp [])=d.hp:=by funext o;simp[dq,aT]
    rw[this];exact Le.refl _ _
   |cons o f y=>
    intro c;let i:∀k,k∈(dq s.hp f).map _->k∈(dq s.hp<|o::f).map (·.1):=λk c=>by simp only[dq,Cp,q7];exact .inr c
    refine(y<|λk h=>c k<|i k h).trans ?_;simp only[dq,Qp];split
    ·rename_i T e m p h
     let z:aT d.hp _ o=ar _:=by
      let j:=h;rw[bV]at j;by_cases g:o∈(dq s.hp f).map (·.1)
      ·rw[jN g];exact j
      ·rw[ig g]at j⊢;rw[c o<|by simp only[dq,Qp,h,Cp,q7];exact .inl<|by simp];exact j
     let:=Eo (C:=C) (s:=⟨d.fr,aT _ _⟩) z;refine this.trans ?_;let A:aT _ [(o,.arr T e m bc p)]=aT d.hp ([(o,.arr T e m bc p)]++dq s.hp f):=by rw[uY]
     rw[A];exact Le.refl _ _
    ·exact Le.refl _ _
  exact key l<|λk h=>b k<| .inr<|by simp only[Cp,q7];exact .inr h
 refine h ⟨_,aT _ _⟩ q ?_ a w (n a w u) v K Q ?_
 ·intro k c
  show aT _ _ k=aT _ _ k;by_cases g:k∈(dq s.hp l).map (·.1)
  ·exact jN g
  ·rw[ig g,ig g]
   rcases c with c|c
   ·exact b k<| .inl c
   ·exact b k<| .inr<|by simp only[Cp,q7];exact .inl c
 ·intro B w' D
  refine x B w' ?_;let:(Eff.app (e.eff dst) ⟨_,aT _ _⟩)=Eff.app ((E1.mk e.av e.rd (e.wr++dq s.hp l) e.nx).eff dst) d:=by simp only[Eff.app,E1.eff,uY];cases dst<;>rfl
  rw[←this];exact D
end
end Go.Vm
