import Derived.Test.YtfbghcpdinlmcaaGreatDoorKLy6
set_option maxHeartbeats 0
open List renaming replicate -> Aj1, range -> AjH
open Option renaming some -> AkS
set_option maxRecDepth 100000
open Go.Proofs.Tryz
open Go renaming Value -> v_, Program -> w_, TypeId -> x_, World -> y_, Operand -> z_
open Option renaming some -> zY, none -> zV
open Bool renaming true -> zW, false -> zU
open Decidable renaming decide -> zT
set_option linter.unusedVariables false
set_option linter.unusedSimpArgs false
set_option linter.defProp false
namespace Go.Proofs.YtfbghcpdinlmcaaGreatDoor
variable{v:v_}{H H0:Aa}{us:List RwM}{ns:List o_}{b e:Int}{r:ReM}{q k t s:Nat}{B:Nat->Prop}{K:v_->Aa->Prop}{es:List t_}{cap U:Array v_}{ps:List Pc}{N:Option Addr}{f:FuncId}{a:P_}{D:DM}{o:Option AM}{l:List Nat}{x:Nat×Except Int P_}
open Go.Lib
def lV{op a b m n:v_}{bits:List v_}(h:bits.length=256):Ak (BB op bits a b m n) 259 [v]=BB op bits a b v n:=by unfold Ak BB;have c:([op]++(bits++[a,b,m,n])).take 259=[op]++(bits++[a,b]):=by{rw[show([op]++(bits++[a,b,m,n])).take (258+1)=op::(bits++[a,b,m,n]).take 258 from rfl,show(258:Nat)=bits.length+2 by omega,pZ];rfl};have e2:([op]++(bits++[a,b,m,n])).drop (259+1)=[n]:=by{rw[show([op]++(bits++[a,b,m,n])).drop (259+1)=(bits++[a,b,m,n]).drop 259 from rfl,show(259:Nat)=bits.length+3 by omega,rD];rfl};rw[c,show 259+[v].length=259+1 from rfl,e2];simp
def lW{op a b m n n':v_}{bits:List v_}(h:bits.length=256):Ak (BB op bits a b m n) 260 [n']=BB op bits a b m n':=by unfold Ak BB;have c:([op]++(bits++[a,b,m,n])).take 260=[op]++(bits++[a,b,m]):=by{rw[show([op]++(bits++[a,b,m,n])).take (259+1)=op::(bits++[a,b,m,n]).take 259 from rfl,show(259:Nat)=bits.length+3 by omega,pZ];rfl};have e2:([op]++(bits++[a,b,m,n])).drop (260+1)=[]:=by{rw[show([op]++(bits++[a,b,m,n])).drop (260+1)=(bits++[a,b,m,n]).drop 260 from rfl,show(260:Nat)=bits.length+4 by omega,rD];rfl};rw[c,show 260+[n'].length=260+1 from rfl,e2];simp
def KK(x y m n:Int){S:Nat->Prop}{K:v_->Prop}(k:K (.agg (d_ ⟨x,0#256,y,0,m,n⟩).toArray)):
  AO prog (Instr.build 159 [(0,A_ x),(2,A_ y),(4,A_ m),(5,A_ n)].toArray) S H K:=by refine Az underlying159 rfl (.agg rnZ.toArray) Km (d_ ⟨x,0#256,y,0,m,n⟩) ?_ k;have a:(Aj1 256 (Value.bool zU)).length=256:=List.length_replicate;refine(Cu (i:=0) (off:=0) (size:=1) zX rfl (by show _<=rnZ.toArray.size;rw[uA,BJ];decide)).trans ?_;have b:Ak (Value.agg rnZ.toArray).cells.toList 0 (Value.int .i64 x).cells.toList=BB (.int .i64 x) (Aj1 256 (.bool zU)) (.int .i64 0) (.int .i64 0) (.int .i64 0) (.int .i64 0):=nC;rw[b];refine(Cu (i:=2) (off:=257) (size:=1) zX rfl (by rw[uA,Fo a];decide)).trans ?_;rw[vL,show(Value.int IntKind.i64 y).cells.toList=[Value.int .i64 y]from rfl,qY a];refine(Cu (i:=4) (off:=259) (size:=1) zX rfl (by rw[uA,Fo a];decide)).trans ?_;rw[vL,show(Value.int IntKind.i64 m).cells.toList=[Value.int .i64 m]from rfl,lV a];refine(Cu (i:=5) (off:=260) (size:=1) zX rfl (by rw[uA,Fo a];decide)).trans ?_;rw[vL,show(Value.int IntKind.i64 n).cells.toList=[Value.int .i64 n]from rfl,lW a];unfold d_;rw[show(o_.mk x 0#256 y 0 m n).set=0#256 from rfl,Hw];rfl
def bN:(prog.info? 148).bind (·.zero)=zY (.agg #[.slice zV 0 0,.slice zV 0 0]):=zX
inductive Rf(ws:List RwM):List J'->List AF->Prop
 | nil:Rf ws [] []
 | cons {fr:List J'} {fs:List AF} {g:J'} {a:AF}:Rf ws fr fs->FrR ws g a->Rf ws (fr++[g]) (a::fs)
section
variable{a:List RwM}{fr:List J'}{fs:List AF}
def Rf.more(h:Rf a fr fs):Rf (a++us) fr fs:=by induction h with|nil=>exact .nil|cons _ g b=>exact .cons b g.more
def Rf.len(h:Rf a fr fs):fr.length=fs.length:=by induction h with|nil=>rfl|cons _ g b=>simp[b]
end
def IxR.num{a:List RwM}{x:Int}{o:Option ReM}(h:IxR a x o)(c:a.length<=16777216):AW x:=by cases o with|none=>rw[show x= -1 from h];exact Pl|some r=>obtain⟨j,w,rfl,b,-⟩:=h;have:=(V_.1 b).1;exact Mf zO
def FrR.nums{c:List RwM}{f:J'}{a:AF}(h:FrR c f a)(b:c.length<=16777216):FrN f:=⟨h.alt.num b,h.meet.num b,h.row.num b,h.factor.num b⟩
def Ro{t:ByteArray}{i c p:Nat}(h:C0 t i= .inl (c,p)):c≠0:=by unfold C0 at h;split at h;{split at h;{rename_i e a;cases h;unfold upM at a;split at a;{split at a;{cases a};{split at a;{cases a};{cases a;decide}}};{cases a}};{unfold GK at h;split at h;{split at h;{cases h;decide};{cases h}};{cases h;decide}}};{cases h;decide}
def J8(t:ByteArray)(H:Aa)(v:v_)(H':Aa):Prop:=match EL t with
 | .inl (c,p)=>v= .tuple #[.agg u_.toArray,A_ c,A_ p]
 | .inr r=>∃ns na nc AE,v= .tuple #[.agg (zJ (.slice na ns.length nc) ((AE:Nat):Int)).toArray,A_ 0,A_ 0]/\Bj ns r AE/\ns.length=r.nodes/\U7 r ns/\X_ wE none_ H' H.size 159 (.slice na ns.length nc) ns
structure DocI(H:Aa)(t:ByteArray)(q2 sb i:Nat)(G:Aa):Prop where
 ex:∃(f:AF) (fs:List AF) (ds:List o_) (ws:List RwM) (fr:List J') (fD:J') (na:Option Addr) (nc fb fc n:Nat),Cx t ⟨0,F5 (-1),[]⟩=Cx t ⟨i,f,fs⟩/\i<=t.size/\Raw ds ws/\FrR ws fD f/\Rf ws fr fs/\ds.length<=4*i/\fs.length<=1000/\
  B_ (H_ H) H G (stP sb fb na nc fc n ds (fr++[fD]) [pB tRe q2 u_])
def ZT(a:List RwM)(p:Int):FrR a ⟨p,-1,-1,0,-1,-1⟩ (F5 p):=⟨rfl,rfl,rfl,rfl,rfl,rfl⟩
def Kb{b:Nat}(h:R_ H b tRe u_):Bn H b 0 u_:=h.cells (λj v a=>by rw[K_];exact a)
def TW{c:Nat}(h:GT c=zW):c=42\/c=43\/c=63\/c=123:=by apply Classical.byContradiction;intro a;rw[Mk zO zO zO zO]at h;cases h
def Tl(t:ByteArray)(H:Aa):Aj prog 34 #[.string t] H λv H'=>C_ (H_ H) H H'/\J8 t H v H':=by
 refine Aj.of_vcL func34 rfl (call34 _) (Ag _ u_ L2 rfl ?_);intro q2 H1 ci cj ck cm;have J_:=(St.nil H).box ci cj ck cm;by_cases be:1048576<t.size
 ·have d1:zT (1048576<(t.size:Int))=zW:=l_;have a0:EL t= .inl (1,0):=by unfold EL;rw[I_ be]
  (conv=>whnf);rw[d1];refine Az underlying56 rfl _ L2 u_ rfl (A9 (cs:=u_) J_ 0 rfl rfl (N_ _) rfl λGz N=>?_);have ez:Ak u_ 0 u_=u_:=AT rfl;rw[ez]at N;refine L_ (cs:=u_) Ed (Kb (N.blk 0 rfl)) zA (⟨N.old,?_⟩);unfold J8;rw[a0];rfl
 have d1:zT (1048576<(t.size:Int))=zU:=Z_;have a0:EL t=Cx t ⟨0,F5 (-1),[]⟩:=by unfold EL;rw[G_ be]
 (conv=>whnf);rw[d1];refine Az underlying148 rfl (.agg #[.slice zV 0 0,.slice zV 0 0]) bN [.slice zV 0 0,.slice zV 0 0] rfl (Cd [.slice zV 0 0,.slice zV 0 0] rfl ?_);intro sb H2 co cp cq cr;have ag:B_ (H_ H) H H2 [pB gI sb [.slice zV 0 0,.slice zV 0 0],pS wE 159 zV 0 0 [],pS tFr 150 zV 0 0 [],pB tRe q2 u_]:=(((J_.box co cp cq cr).nils wE 159).nils tFr 150).pick [1,2,3,0] zQ;refine Ap.heldZ (λk=>k=sb) [10] (sq [0,1,2,3,4] (.f 5 (.f 6 (.f 7 (sq [8,9] (.f 10 .e)))))) rfl zX (F_ BI ?_);refine D_ (v:=.slice zV 0 0) CY ((ag.blk 0 rfl).ce rfl) rfl ?_;refine Ae.mk (ZS (-1) H2) ?_;rintro _ H3 ⟨rfl,bh⟩;have bi:=ag.call bh;refine⟨λk l=>by rw[show k=sb from l];exact(bi.blk 0 rfl).trans (ag.blk 0 rfl).symm,?_⟩;refine As GV (uN (-1)) rfl rfl zQ zQ ?_;intro z H4 hz W L J;have bj:=bi.skip hz J;refine⟨λk l=>by rw[show k=sb from l];exact(bj.blk 0 rfl).trans (ag.blk 0 rfl).symm,?_⟩;refine OA (ys:=[(⟨-1,-1,-1,0,-1,-1⟩:J')]) (ds:=uN (-1)) bj 2 GV rfl (L.cells (o:=0) (cs:=uN (-1)) λj v hv=>by rw[K_];exact hv) (Ty.reps_one (T:=tFr) rfl) rfl (λu hu=>zM.1 (W4 ⟨-1,-1,-1,0,-1,-1⟩) u hu) zQ zQ λY bu H5 ar a1=>?_;refine⟨λk l=>by rw[show k=sb from l];exact(ar.blk 0 rfl).trans (ag.blk 0 rfl).symm,?_⟩;obtain⟨au,rfl⟩:=ar.adr 2 rfl zQ;refine F_ BI ?_;refine AZ ar 0 CY rfl (by show _<(2:Nat);decide) rfl λH6 aw=>?_;replace aw:B_ (H_ H) H H6 (stP sb au zV 0 bu 1 [] ([]++[(⟨-1,-1,-1,0,-1,-1⟩:J')]) [pB tRe q2 u_]):=aw;clear J_ ag bi bj ar;(conv=>whnf);refine Ay.mk [6] (λi:Nat=>[A_ i]) (λi G=>DocI H t q2 sb i G) (λi _=>t.size-i) ?_ ?_
 ·(conv=>whnf);exact⟨0,rfl,⟨F5 (-1),[],[],[],[],_,zV,0,au,bu,1,rfl,q_ _,.nil,ZT [] (-1),.nil,q_ _,q_ _,aw⟩⟩
 ·rintro i G de ⟨f,fs,ds,ws,fr,A,na,nc,fb,fc,n,ct,hi,hR,Q,hK,df,a2,E⟩;clear aw d1;have am:Cx t ⟨0,F5 (-1),[]⟩=Cx t ⟨i,f,fs⟩:=ct;have a9:=W3 E;have dg:=hK.len;have dh:=hR.len;have hN:=Q.nums zO;refine AD.m2 (λhz=>?_) (λhz=>?_)
  ·have ao:i<t.size:=zO
   (conv=>whnf);try refine Au.run ?_
   refine uR ao (Ap.lex rfl zX (F_ BI ?_));refine lT (v:=.slice (T_ fb) n fc) CY ((E.blk 0 rfl).ce rfl) ?_;refine F_ BI ?_;refine lT (v:=.slice (T_ fb) n fc) CY ((E.blk 0 rfl).ce rfl) ?_;(conv=>whnf);rw[U_ (x:=(n:Int)-1) zO];refine wA (j:=fr.length) GV E 2 rfl zZ zO ?_;have ER:∀{e:Nat×Nat},CE t ⟨i,f,fs⟩= .inl e->Cx t ⟨0,F5 (-1),[]⟩= .inl (ZH e):=λh=>am.trans (F7 ao h);have GO:∀{s:RdS},CE t ⟨i,f,fs⟩= .inr s->Cx t ⟨0,F5 (-1),[]⟩=Cx t s:=λh=>am.trans (Fl ao h);refine Al (XQ (bt t i) G) λG1 cu=>?_;replace E:=E.call cu;by_cases I:GT (bt t i)=zW
   ·rw[I];refine F_ D4 (D_ (v:=A_ A.factor) E_ (BA E (k:=5) rfl) zA ?_);cases V:f.factor with
    | none=>
      have hx:=Q.factor;rw[V]at hx;have d2:zT (A.factor<0)=zW:=m_ (by rw[show A.factor= -1 from hx];decide);(conv=>whnf);rw[d2];refine Az underlying56 rfl _ L2 u_ rfl (A9 (cs:=u_) E 3 rfl rfl (N_ _) rfl λGz N=>?_);have ez:Ak u_ 0 u_=u_:=AT rfl;rw[ez]at N;refine L_ (cs:=u_) Ed (Kb (N.blk 3 rfl)) zA (⟨N.old,?_⟩);unfold J8;rw[a0,ER (GB I V)];rfl
    | some a=>
      have hx:=Q.factor;rw[V]at hx;have⟨jx,wx,ax,ay,b0⟩:=hx;have d2:zT (A.factor<0)=zU:=Z_;(conv=>whnf);rw[d2];(conv=>whnf);rw[Q_ i zO];rcases TW I with hc | hc | hc | hc
      ·rw[hc];(conv=>whnf);try refine Au.run ?_
       (conv=>whnf);try refine Au.run ?_
       (conv=>whnf);try refine Au.run ?_
       have f1:fb≠sb:=λe=>E.apart2 (i:=0) (j:=2) rfl rfl zQ sb rfl (.inl ⟨0,n,fc,by rw[e]⟩);have U:¬O_ (.slice na ds.length nc) fb:=λe=>E.apart2 (i:=1) (j:=2) rfl rfl zQ fb (.inl e) (.inl ⟨0,n,fc,rfl⟩);have f3:=E.ltE 2 rfl;refine Ap.heldZ (λk=>k=sb\/k=fb) [16] (sq [0,1,2,3,4,5,6,7,8,9,10,11] (.f 12 (.f 13 (sq [14,15] (.f 16 .e))))) rfl zX (F_ CG ?_);refine D_ (v:=.slice na ds.length nc) Ee ((E.blk 0 rfl).ce rfl) (.inl rfl) ?_;refine F_ D4 (D_ (v:=A_ A.factor) E_ (BA E (k:=5) rfl) (.inr rfl) (KK 7 A.factor (0) (-1) (As EO (d_ (Cq A.factor (0) (-1))) rfl (AA _) zQ zQ ?_)));intro zz G4 hz W L J;have C:=E.skip hz J;have az:C_ (λk=>k=fb) _ G4:=λk l=>J k (by have e1:k=fb:=l;have:zz=_:=hz;omega);refine⟨λk l=>by
        rcases l with l | l
        ·rw[show k=sb from l];exact(C.blk 0 rfl).trans (E.blk 0 rfl).symm
        ·exact az k l,?_⟩
       refine I9 (ys:=[Cq A.factor (0) (-1)]) C 1 EO rfl (L.cells (o:=0) (cs:=d_ (Cq A.factor (0) (-1))) λj v hv=>by rw[K_];exact hv) (Ty.reps_one ⟨rfl,Cj (x:=7) (by unfold AW;omega),Cj hN.factor,Cj (x:=0) (by unfold AW;omega),Cj (x:=0) (by unfold AW;omega),Cj (x:= -1) (by unfold AW;omega)⟩) rfl (λu hu=>zM.1 (Cs _) u hu) (by simp[maxLen];omega) (by simp;omega) λY Z G5 B a1=>?_;have el:ds.length+[Cq A.factor (0) (-1)].length=(ds++[Cq A.factor (0) (-1)]).length:=zZ
       rw[el]at B ⊢;refine⟨λk l=>by
        rcases l with l | l
        ·rw[show k=sb from l];exact(B.blk 0 rfl).trans (E.blk 0 rfl).symm
        ·exact(a1 k (by rw[show k=fb from l];exact⟨C.ltE 2 rfl,U⟩)).trans (az k l),?_⟩
       refine F_ CG ?_;refine AZ B 0 Ee rfl (by show _<(2:Nat);decide) rfl λG6 F=>?_;replace F:B_ (H_ H) H G6 (stP sb fb Y Z fc n (ds++[Cq A.factor (0) (-1)]) (fr++[A]) [pB tRe q2 u_]):=F;refine F_ CG ?_;refine lT (v:=.slice Y (ds++[Cq A.factor (0) (-1)]).length Z) Ee ((F.blk 0 rfl).ce rfl) ?_;have w1:IntKind.wrap .i64 (((ds++[Cq A.factor (0) (-1)]).length:Int)-1)=(ds.length:Int):=by
        rw[M_,i_,yE zO zO];omega
       (conv=>whnf);rw[w1];refine F_ D4 (FB (k:=5) (f':={A with factor:=(ds.length:Int)}) F E_ zQ rfl rfl λG7 M ja=>?_);(conv=>whnf);refine⟨rfl,i+1,rfl,⟨_,fs,ds++[Cq A.factor (0) (-1)],ws++[.rep wx (0) (-1)],fr,{A with factor:=(ds.length:Int)},_,_,_,_,n,GO (HJ V I (by unfold FI;rw[I_ hc])),zO,hR.add (w:=.rep wx (0) (-1)) ⟨jx,by rw[ax],ay,.inr zO⟩,⟨Q.place,Q.alt.more,Q.meet.more,Q.sign,Q.row.more,IxR.new hR (by show C3 wx.den (Bc (0)) (-1)=_;rw[b0,show Bc 0=0 from rfl])⟩,hK.more,by simp only[M_,i_];omega,a2,M⟩,zO⟩
      ·rw[hc];(conv=>whnf);try refine Au.run ?_
       (conv=>whnf);try refine Au.run ?_
       (conv=>whnf);try refine Au.run ?_
       have f1:fb≠sb:=λe=>E.apart2 (i:=0) (j:=2) rfl rfl zQ sb rfl (.inl ⟨0,n,fc,by rw[e]⟩);have U:¬O_ (.slice na ds.length nc) fb:=λe=>E.apart2 (i:=1) (j:=2) rfl rfl zQ fb (.inl e) (.inl ⟨0,n,fc,rfl⟩);have f3:=E.ltE 2 rfl;refine Ap.heldZ (λk=>k=sb\/k=fb) [16] (sq [0,1,2,3,4,5,6,7,8,9,10,11] (.f 12 (.f 13 (sq [14,15] (.f 16 .e))))) rfl zX (F_ CG ?_);refine D_ (v:=.slice na ds.length nc) Ee ((E.blk 0 rfl).ce rfl) (.inl rfl) ?_;refine F_ D4 (D_ (v:=A_ A.factor) E_ (BA E (k:=5) rfl) (.inr rfl) (KK 7 A.factor (-2) (-1) (As EO (d_ (Cq A.factor (-2) (-1))) rfl (AA _) zQ zQ ?_)));intro zz G4 hz W L J;have C:=E.skip hz J;have az:C_ (λk=>k=fb) _ G4:=λk l=>J k (by have e1:k=fb:=l;have:zz=_:=hz;omega);refine⟨λk l=>by
        rcases l with l | l
        ·rw[show k=sb from l];exact(C.blk 0 rfl).trans (E.blk 0 rfl).symm
        ·exact az k l,?_⟩
       refine I9 (ys:=[Cq A.factor (-2) (-1)]) C 1 EO rfl (L.cells (o:=0) (cs:=d_ (Cq A.factor (-2) (-1))) λj v hv=>by rw[K_];exact hv) (Ty.reps_one ⟨rfl,Cj (x:=7) (by unfold AW;omega),Cj hN.factor,Cj (x:=0) (by unfold AW;omega),Cj (x:= -2) (by unfold AW;omega),Cj (x:= -1) (by unfold AW;omega)⟩) rfl (λu hu=>zM.1 (Cs _) u hu) (by simp[maxLen];omega) (by simp;omega) λY Z G5 B a1=>?_;have el:ds.length+[Cq A.factor (-2) (-1)].length=(ds++[Cq A.factor (-2) (-1)]).length:=zZ
       rw[el]at B ⊢;refine⟨λk l=>by
        rcases l with l | l
        ·rw[show k=sb from l];exact(B.blk 0 rfl).trans (E.blk 0 rfl).symm
        ·exact(a1 k (by rw[show k=fb from l];exact⟨C.ltE 2 rfl,U⟩)).trans (az k l),?_⟩
       refine F_ CG ?_;refine AZ B 0 Ee rfl (by show _<(2:Nat);decide) rfl λG6 F=>?_;replace F:B_ (H_ H) H G6 (stP sb fb Y Z fc n (ds++[Cq A.factor (-2) (-1)]) (fr++[A]) [pB tRe q2 u_]):=F;refine F_ CG ?_;refine lT (v:=.slice Y (ds++[Cq A.factor (-2) (-1)]).length Z) Ee ((F.blk 0 rfl).ce rfl) ?_;have w1:IntKind.wrap .i64 (((ds++[Cq A.factor (-2) (-1)]).length:Int)-1)=(ds.length:Int):=by
        rw[M_,i_,yE zO zO];omega
       (conv=>whnf);rw[w1];refine F_ D4 (FB (k:=5) (f':={A with factor:=(ds.length:Int)}) F E_ zQ rfl rfl λG7 M ja=>?_);(conv=>whnf);refine⟨rfl,i+1,rfl,⟨_,fs,ds++[Cq A.factor (-2) (-1)],ws++[.rep wx (-2) (-1)],fr,{A with factor:=(ds.length:Int)},_,_,_,_,n,GO (HJ V I (by unfold FI;rw[G_ zO,I_ hc])),zO,hR.add (w:=.rep wx (-2) (-1)) ⟨jx,by rw[ax],ay,.inl ⟨rfl,rfl⟩⟩,⟨Q.place,Q.alt.more,Q.meet.more,Q.sign,Q.row.more,IxR.new hR (by show C3 wx.den (Bc (-2)) (-1)=_;rw[b0,show Bc (-2)=1 from rfl])⟩,hK.more,by simp only[M_,i_];omega,a2,M⟩,zO⟩
      ·rw[hc];(conv=>whnf);try refine Au.run ?_
       (conv=>whnf);try refine Au.run ?_
       (conv=>whnf);try refine Au.run ?_
       have f1:fb≠sb:=λe=>E.apart2 (i:=0) (j:=2) rfl rfl zQ sb rfl (.inl ⟨0,n,fc,by rw[e]⟩);have U:¬O_ (.slice na ds.length nc) fb:=λe=>E.apart2 (i:=1) (j:=2) rfl rfl zQ fb (.inl e) (.inl ⟨0,n,fc,rfl⟩);have f3:=E.ltE 2 rfl;refine Ap.heldZ (λk=>k=sb\/k=fb) [16] (sq [0,1,2,3,4,5,6,7,8,9,10,11] (.f 12 (.f 13 (sq [14,15] (.f 16 .e))))) rfl zX (F_ CG ?_);refine D_ (v:=.slice na ds.length nc) Ee ((E.blk 0 rfl).ce rfl) (.inl rfl) ?_;refine F_ D4 (D_ (v:=A_ A.factor) E_ (BA E (k:=5) rfl) (.inr rfl) (KK 7 A.factor (0) (1) (As EO (d_ (Cq A.factor (0) (1))) rfl (AA _) zQ zQ ?_)));intro zz G4 hz W L J;have C:=E.skip hz J;have az:C_ (λk=>k=fb) _ G4:=λk l=>J k (by have e1:k=fb:=l;have:zz=_:=hz;omega);refine⟨λk l=>by
        rcases l with l | l
        ·rw[show k=sb from l];exact(C.blk 0 rfl).trans (E.blk 0 rfl).symm
        ·exact az k l,?_⟩
       refine I9 (ys:=[Cq A.factor (0) (1)]) C 1 EO rfl (L.cells (o:=0) (cs:=d_ (Cq A.factor (0) (1))) λj v hv=>by rw[K_];exact hv) (Ty.reps_one ⟨rfl,Cj (x:=7) (by unfold AW;omega),Cj hN.factor,Cj (x:=0) (by unfold AW;omega),Cj (x:=0) (by unfold AW;omega),Cj (x:=1) (by unfold AW;omega)⟩) rfl (λu hu=>zM.1 (Cs _) u hu) (by simp[maxLen];omega) (by simp;omega) λY Z G5 B a1=>?_;have el:ds.length+[Cq A.factor (0) (1)].length=(ds++[Cq A.factor (0) (1)]).length:=zZ
       rw[el]at B ⊢;refine⟨λk l=>by
        rcases l with l | l
        ·rw[show k=sb from l];exact(B.blk 0 rfl).trans (E.blk 0 rfl).symm
        ·exact(a1 k (by rw[show k=fb from l];exact⟨C.ltE 2 rfl,U⟩)).trans (az k l),?_⟩
       refine F_ CG ?_;refine AZ B 0 Ee rfl (by show _<(2:Nat);decide) rfl λG6 F=>?_;replace F:B_ (H_ H) H G6 (stP sb fb Y Z fc n (ds++[Cq A.factor (0) (1)]) (fr++[A]) [pB tRe q2 u_]):=F;refine F_ CG ?_;refine lT (v:=.slice Y (ds++[Cq A.factor (0) (1)]).length Z) Ee ((F.blk 0 rfl).ce rfl) ?_;have w1:IntKind.wrap .i64 (((ds++[Cq A.factor (0) (1)]).length:Int)-1)=(ds.length:Int):=by
        rw[M_,i_,yE zO zO];omega
       (conv=>whnf);rw[w1];refine F_ D4 (FB (k:=5) (f':={A with factor:=(ds.length:Int)}) F E_ zQ rfl rfl λG7 M ja=>?_);(conv=>whnf);refine⟨rfl,i+1,rfl,⟨_,fs,ds++[Cq A.factor (0) (1)],ws++[.rep wx (0) (1)],fr,{A with factor:=(ds.length:Int)},_,_,_,_,n,GO (HJ V I (by unfold FI;rw[G_ zO,G_ zO,I_ hc])),zO,hR.add (w:=.rep wx (0) (1)) ⟨jx,by rw[ax],ay,.inr zO⟩,⟨Q.place,Q.alt.more,Q.meet.more,Q.sign,Q.row.more,IxR.new hR (by show C3 wx.den (Bc (0)) (1)=_;rw[b0,show Bc 0=0 from rfl])⟩,hK.more,by simp only[M_,i_];omega,a2,M⟩,zO⟩
      ·rw[hc];(conv=>whnf);try refine Au.run ?_
       (conv=>whnf);try refine Au.run ?_
       (conv=>whnf);try refine Au.run ?_
       refine Ae.mk (Xx (i:=i) zO ao) ?_;rintro v G2 ⟨cw,a3⟩;replace E:=E.call cw;unfold wR at a3;cases ah:C0 t i with
       | inl e=>
         have⟨c,p⟩:=e;rw[ah]at a3;replace a3:v= .tuple #[A_ 0,A_ 0,A_ 0,A_ c,A_ p]:=a3;subst a3;have di:=Ro ah;have d3:((c:Int) != 0)=zW:=bne_iff_ne.2 zO;(conv=>whnf);rw[d3];refine Az underlying56 rfl _ L2 u_ rfl (A9 (cs:=u_) E 3 rfl rfl (N_ _) rfl λGz N=>?_);have ez:Ak u_ 0 u_=u_:=AT rfl;rw[ez]at N;refine L_ (cs:=u_) Ed (Kb (N.blk 3 rfl)) zA (⟨N.old,?_⟩);unfold J8;rw[a0,ER (Nw V I (by unfold FI;rw[G_ zO,G_ zO,G_ zO,ah]))];rfl
       | inr y=>
         have⟨m,nn,kk⟩:=y;rw[ah]at a3;replace a3:v= .tuple #[A_ m,A_ nn,A_ kk,A_ 0,A_ 0]:=a3;subst a3;have bv:=Lh ah;have⟨o1,o2,o3,o4,o5,o6⟩:=bv;have bw:Bc (m:Int)=m:=by unfold Bc;rw[G_ zO,zB]
         (conv=>whnf);have f1:fb≠sb:=λe=>E.apart2 (i:=0) (j:=2) rfl rfl zQ sb rfl (.inl ⟨0,n,fc,by rw[e]⟩);have U:¬O_ (.slice na ds.length nc) fb:=λe=>E.apart2 (i:=1) (j:=2) rfl rfl zQ fb (.inl e) (.inl ⟨0,n,fc,rfl⟩);have f3:=E.ltE 2 rfl;refine Ap.heldZ (λk=>k=sb\/k=fb) [16] (sq [0,1,2,3,4,5,6,7,8,9,10,11] (.f 12 (.f 13 (sq [14,15] (.f 16 .e))))) rfl zX (F_ CG ?_);refine D_ (v:=.slice na ds.length nc) Ee ((E.blk 0 rfl).ce rfl) (.inl rfl) ?_;refine F_ D4 (D_ (v:=A_ A.factor) E_ (BA E (k:=5) rfl) (.inr rfl) (KK 7 A.factor ((m:Int)) (nn) (As EO (d_ (Cq A.factor ((m:Int)) (nn))) rfl (AA _) zQ zQ ?_)));intro zz G4 hz W L J;have C:=E.skip hz J;have az:C_ (λk=>k=fb) _ G4:=λk l=>J k (by have e1:k=fb:=l;have:zz=_:=hz;omega);refine⟨λk l=>by
          rcases l with l | l
          ·rw[show k=sb from l];exact(C.blk 0 rfl).trans (E.blk 0 rfl).symm
          ·exact az k l,?_⟩
         refine I9 (ys:=[Cq A.factor ((m:Int)) (nn)]) C 1 EO rfl (L.cells (o:=0) (cs:=d_ (Cq A.factor ((m:Int)) (nn))) λj v hv=>by rw[K_];exact hv) (Ty.reps_one ⟨rfl,Cj (x:=7) (by unfold AW;omega),Cj hN.factor,Cj (x:=0) (by unfold AW;omega),Cj (x:=(m:Int)) (by unfold AW;omega),Cj (x:=nn) (by unfold AW;omega)⟩) rfl (λu hu=>zM.1 (Cs _) u hu) (by simp[maxLen];omega) (by simp;omega) λY Z G5 B a1=>?_;have el:ds.length+[Cq A.factor ((m:Int)) (nn)].length=(ds++[Cq A.factor ((m:Int)) (nn)]).length:=zZ
         rw[el]at B ⊢;refine⟨λk l=>by
          rcases l with l | l
          ·rw[show k=sb from l];exact(B.blk 0 rfl).trans (E.blk 0 rfl).symm
          ·exact(a1 k (by rw[show k=fb from l];exact⟨C.ltE 2 rfl,U⟩)).trans (az k l),?_⟩
         refine F_ CG ?_;refine AZ B 0 Ee rfl (by show _<(2:Nat);decide) rfl λG6 F=>?_;replace F:B_ (H_ H) H G6 (stP sb fb Y Z fc n (ds++[Cq A.factor ((m:Int)) (nn)]) (fr++[A]) [pB tRe q2 u_]):=F;refine F_ CG ?_;refine lT (v:=.slice Y (ds++[Cq A.factor ((m:Int)) (nn)]).length Z) Ee ((F.blk 0 rfl).ce rfl) ?_;have w1:IntKind.wrap .i64 (((ds++[Cq A.factor ((m:Int)) (nn)]).length:Int)-1)=(ds.length:Int):=by
          rw[M_,i_,yE zO zO];omega
         (conv=>whnf);rw[w1];refine F_ D4 (FB (k:=5) (f':={A with factor:=(ds.length:Int)}) F E_ zQ rfl rfl λG7 M ja=>?_);(conv=>whnf);refine⟨rfl,kk,rfl,⟨_,fs,ds++[Cq A.factor ((m:Int)) (nn)],ws++[.rep wx ((m:Int)) (nn)],fr,{A with factor:=(ds.length:Int)},_,_,_,_,n,GO (HJ V I (by unfold FI;rw[G_ zO,G_ zO,G_ zO];exact ah)),zO,hR.add (w:=.rep wx ((m:Int)) (nn)) ⟨jx,by rw[ax],ay,.inr ⟨zO,zO,zO,zO,o5⟩⟩,⟨Q.place,Q.alt.more,Q.meet.more,Q.sign,Q.row.more,IxR.new hR (by show C3 wx.den (Bc ((m:Int))) (nn)=_;rw[b0,bw])⟩,hK.more,by simp only[M_,i_];omega,a2,M⟩,zO⟩
   ·have I:GT (bt t i)=zU:=by simpa using I
    rw[I];by_cases ab:bt t i=124
    ·have d:(((bt t i:Nat):Int)==124)=zW:=by rw[ab];rfl
     (conv=>whnf);rw[d];clear d;refine Ae.mk (OP E hN zO) ?_;rintro v G2 ⟨O,P,q⟩;(conv=>whnf);rw[Q_ i zO];have X:=Lk ds A;have⟨us,k1,R⟩:=Ll hR Q;exact⟨rfl,i+1,rfl,⟨_,fs,_,_,fr,_,_,_,_,_,n,GO (QC ab),zO,k1,R,hK.more,zO,a2,q⟩,zO⟩
    ·have d:(((bt t i:Nat):Int)==124)=zU:=FV ab;(conv=>whnf);rw[d];clear d;by_cases b4:bt t i=38
     ·have d:(((bt t i:Nat):Int)==38)=zW:=by rw[b4];rfl
      (conv=>whnf);rw[d];clear d;refine Ae.mk (Rz E hN zO) ?_;rintro v G2 ⟨O,P,q⟩;have X:=KA ds A;refine Ap.heldZ (λk=>k=sb) [13] (sq [0,1,2,3,4,5,6,7,8,9,10,11,12] (.f 13 .e)) rfl zX (F_ BI ?_);refine D_ (v:=.slice (T_ fb) n fc) CY ((q.blk 0 rfl).ce rfl) rfl ?_;refine F_ BI ?_;refine D_ (v:=.slice (T_ fb) n fc) CY ((q.blk 0 rfl).ce rfl) rfl ?_;(conv=>whnf);rw[U_ (x:=(n:Int)-1) zO];refine wA (j:=fr.length) GV q 2 rfl zZ zO (F_ NX (FB (k:=3) (f':={(Dy ds A).2 with sign:=bt t i}) q uX zQ rfl rfl λG3 K ja=>?_));(conv=>whnf);rw[Q_ i zO];have⟨us,k1,R⟩:=M8 hR Q;exact⟨rfl,i+1,rfl,⟨_,fs,_,_,fr,{(Dy ds A).2 with sign:=bt t i},_,_,_,_,n,GO (Jo (.inl b4)),zO,k1,⟨R.place,R.alt,R.meet,rfl,R.row,R.factor⟩,hK.more,zO,a2,K⟩,zO⟩
     ·have d:(((bt t i:Nat):Int)==38)=zU:=FV b4;(conv=>whnf);rw[d];clear d;by_cases b5:bt t i=45
      ·have d:(((bt t i:Nat):Int)==45)=zW:=by rw[b5];rfl
       (conv=>whnf);rw[d];clear d;refine Ae.mk (Rz E hN zO) ?_;rintro v G2 ⟨O,P,q⟩;have X:=KA ds A;refine Ap.heldZ (λk=>k=sb) [13] (sq [0,1,2,3,4,5,6,7,8,9,10,11,12] (.f 13 .e)) rfl zX (F_ BI ?_);refine D_ (v:=.slice (T_ fb) n fc) CY ((q.blk 0 rfl).ce rfl) rfl ?_;refine F_ BI ?_;refine D_ (v:=.slice (T_ fb) n fc) CY ((q.blk 0 rfl).ce rfl) rfl ?_;(conv=>whnf);rw[U_ (x:=(n:Int)-1) zO];refine wA (j:=fr.length) GV q 2 rfl zZ zO (F_ NX (FB (k:=3) (f':={(Dy ds A).2 with sign:=bt t i}) q uX zQ rfl rfl λG3 K ja=>?_));(conv=>whnf);rw[Q_ i zO];have⟨us,k1,R⟩:=M8 hR Q;exact⟨rfl,i+1,rfl,⟨_,fs,_,_,fr,{(Dy ds A).2 with sign:=bt t i},_,_,_,_,n,GO (Jo (.inr b5)),zO,k1,⟨R.place,R.alt,R.meet,rfl,R.row,R.factor⟩,hK.more,zO,a2,K⟩,zO⟩
      ·have d:(((bt t i:Nat):Int)==45)=zU:=FV b5;(conv=>whnf);rw[d];clear d;by_cases ap:bt t i=41
       ·have d:(((bt t i:Nat):Int)==41)=zW:=by rw[ap];rfl
        (conv=>whnf);rw[d];clear d;refine F_ BI ?_;refine lT (v:=.slice (T_ fb) n fc) CY ((E.blk 0 rfl).ce rfl) ?_;cases hK with
        | nil=>
          have bx:n=1:=by rw[a9];rfl
          have d3:((n:Int)==1)=zW:=by rw[bx];rfl
          (conv=>whnf);rw[d3];refine Az underlying56 rfl _ L2 u_ rfl (A9 (cs:=u_) E 3 rfl rfl (N_ _) rfl λGz N=>?_);have ez:Ak u_ 0 u_=u_:=AT rfl;rw[ez]at N;refine L_ (cs:=u_) Ed (Kb (N.blk 3 rfl)) zA (⟨N.old,?_⟩);unfold J8;rw[a0,ER (Ml ap)];rfl
        | @cons fr1 fs1 g ga hK1 hG=>
          have cx:n=fr1.length+1+1:=by rw[a9];simp
          have d3:((n:Int)==1)=zU:=beq_eq_false_iff_ne.2 zO;(conv=>whnf);rw[d3];refine Ae.mk (OP E hN zO) ?_;rintro v G2 ⟨O,P,q⟩;have X:=Lk ds A;refine Ap.lex rfl zX (F_ BI ?_);refine lT (v:=.slice (T_ fb) n fc) CY ((q.blk 0 rfl).ce rfl) ?_;refine F_ BI ?_;refine lT (v:=.slice (T_ fb) n fc) CY ((q.blk 0 rfl).ce rfl) ?_;(conv=>whnf);rw[U_ (x:=(n:Int)-1) zO];refine wA (j:=(fr1++[g]).length) GV q 2 rfl zZ (by simp;omega) ?_;refine F_ K7 (D_ (v:=A_ (Fe ds A).2.alt) E_ (BA q (k:=1) rfl) zA (Ap.heldZ (λk=>k=sb) [14] (sq [0,1,2,3,4,5,6,7,8,9,10,11,12,13] (.f 14 .e)) rfl zX (F_ BI ?_)));refine D_ (v:=.slice (T_ fb) n fc) CY ((q.blk 0 rfl).ce rfl) rfl ?_;refine F_ BI ?_;refine D_ (v:=.slice (T_ fb) n fc) CY ((q.blk 0 rfl).ce rfl) rfl ?_;have c1:=q.capT 2 rfl;simp only[M_,i_]at c1;(conv=>whnf);rw[U_ (x:=(n:Int)-1) zO];rw[show(n:Int)-1=((fr1.length+1:Nat):Int) by omega];refine Xf GV zO zO (F_ BI ?_);have K:=q.popT 2 rfl;refine AZ K 0 CY rfl (by show _<(2:Nat);decide) rfl λG4 C=>?_;rw[zB]at C;replace C:B_ (H_ H) H G4 (stP sb fb O P fc (fr1.length+1) (Fe ds A).1 (fr1++[g]) [pB tRe q2 u_]):=by
           have e:(fr1++[g]).length=fr1.length+1:=zZ
           have:=C;simp only[M_,i_]at this;exact this
          refine Ap.heldZ (λk=>k=sb) [13] (sq [0,1,2,3,4,5,6,7,8,9,10,11,12] (.f 13 .e)) rfl zX (F_ BI ?_);refine D_ (v:=.slice (T_ fb) (fr1.length+1) fc) CY ((C.blk 0 rfl).ce rfl) rfl ?_;refine F_ BI ?_;refine D_ (v:=.slice (T_ fb) (fr1.length+1) fc) CY ((C.blk 0 rfl).ce rfl) rfl ?_;(conv=>whnf);rw[U_ (x:=((fr1.length+1:Nat):Int)-1) zO];refine wA (j:=(fr1).length) GV C 2 rfl zZ zO (F_ D4 (FB (k:=5) (f':={g with factor:=(Fe ds A).2.alt}) C E_ zQ rfl rfl λG5 B ja=>?_));(conv=>whnf);rw[Q_ i zO];have⟨us,k1,R⟩:=Ll hR Q;exact⟨rfl,i+1,rfl,⟨_,fs1,_,_,fr1,{g with factor:=(Fe ds A).2.alt},_,_,_,_,_,GO (Nv ap),zO,k1,⟨hG.place,hG.alt.more,hG.meet.more,hG.sign,hG.row.more,R.alt⟩,hK1.more,zO,by simp only[c_]at a2;omega,B⟩,zO⟩
       ·have d:(((bt t i:Nat):Int)==41)=zU:=FV ap;(conv=>whnf);rw[d];clear d;refine Ae.mk (Qp E hN zO) ?_;rintro v G2 ⟨O,P,q⟩;have X:=Il ds A;have⟨us,k1,R⟩:=N1 hR Q;have c2:=hK.more (us:=us);have bm:=Kp (ds:=ds) hN zO;obtain⟨D,U,hq⟩:∃D U,Bz ds A=(D,U):=⟨_,_,rfl⟩;rw[hq]at q k1 R X bm;replace q:B_ (H_ H) H G2 (stP sb fb O P fc n D (fr++[U]) [pB tRe q2 u_]):=q;replace k1:Raw D (ws++us):=k1;replace R:FrR (ws++us) U (AG f):=R;replace X:D.length<=ds.length+1:=X;replace bm:FrN U:=bm;by_cases ai:bt t i=40
        ·have d:(((bt t i:Nat):Int)==40)=zW:=by rw[ai];rfl
         (conv=>whnf);rw[d];clear d;refine F_ BI ?_;refine lT (v:=.slice (T_ fb) n fc) CY ((q.blk 0 rfl).ce rfl) ?_;by_cases bn:1000<=fs.length
         ·have d3:zT (1000<(n:Int))=zW:=l_;(conv=>whnf);rw[d3];refine Az underlying56 rfl _ L2 u_ rfl (A9 (cs:=u_) q 3 rfl rfl (N_ _) rfl λGz N=>?_);have ez:Ak u_ 0 u_=u_:=AT rfl;rw[ez]at N;refine L_ (cs:=u_) Ed (Kb (N.blk 3 rfl)) zA (⟨N.old,?_⟩);unfold J8;rw[a0,ER (Pw ai bn)];rfl
         ·have d3:zT (1000<(n:Int))=zU:=Z_;(conv=>whnf);rw[d3];refine Ap.heldZ (λk=>k=sb) [11] (sq [0,1,2,3,4,5] (.f 6 (.f 7 (.f 8 (sq [9,10] (.f 11 .e)))))) rfl zX (F_ BI ?_);refine D_ (v:=.slice (T_ fb) n fc) CY ((q.blk 0 rfl).ce rfl) rfl ?_;refine Ae.mk (ZS (i:Int) G2) ?_;rintro _ G3 ⟨rfl,bh⟩;have K:=q.call bh;refine⟨λk l=>by rw[show k=sb from l];exact(K.blk 0 rfl).trans (q.blk 0 rfl).symm,?_⟩;refine As GV (uN (i:Int)) rfl rfl zQ zQ ?_;intro zz G4 hz W L J;have C:=K.skip hz J;refine⟨λk l=>by rw[show k=sb from l];exact(C.blk 0 rfl).trans (q.blk 0 rfl).symm,?_⟩;refine OA (ys:=[(⟨i,-1,-1,0,-1,-1⟩:J')]) (ds:=uN (i:Int)) C 2 GV rfl (L.cells (o:=0) (cs:=uN (i:Int)) λj v hv=>by rw[K_];exact hv) (Ty.reps_one (T:=tFr) rfl) rfl (λu hu=>zM.1 (W4 ⟨i,-1,-1,0,-1,-1⟩) u hu) (by simp;omega) zQ λY Z G5 B a1=>?_;refine⟨λk l=>by rw[show k=sb from l];exact(B.blk 0 rfl).trans (q.blk 0 rfl).symm,?_⟩;obtain⟨au,rfl⟩:=B.adr 2 rfl zZ;refine F_ BI ?_;refine AZ B 0 CY rfl (by show _<(2:Nat);decide) rfl λG6 F=>?_;replace F:B_ (H_ H) H G6 (stP sb au O P Z ((fr++[U]).length+1) D ((fr++[U])++[(⟨i,-1,-1,0,-1,-1⟩:J')]) [pB tRe q2 u_]):=F;(conv=>whnf);rw[Q_ i zO];exact⟨rfl,i+1,rfl,⟨_,AG f::fs,D,ws++us,fr++[U],_,_,_,_,_,_,GO (Px ai zO),zO,k1,ZT _ _,c2.cons R,zO,by simp only[c_];omega,F⟩,zO⟩
        ·have d:(((bt t i:Nat):Int)==40)=zU:=FV ai;(conv=>whnf);rw[d];clear d;refine Ae.mk (XR (i:=i) zO ao) ?_;rintro v G3 ⟨c3,a4⟩;have K:=q.call c3;have c4:OY (bt t i):=⟨ab,b4,b5,ap,I⟩;unfold EE at a4;cases aq:Cc t i with
         | inl e=>
           rw[aq]at a4;replace a4:v= .tuple #[HP,A_ 0,A_ 10,A_ e]:=a4;subst a4;refine Ag HP (Av 0#256) Fa rfl ?_;intro a6 G4 aj W L J;have C:=K.skip aj J;have c6:=K.box aj W L J;refine A9 (cs:=Av 0#256) c6 4 (vH 0) rfl (Nat.le_of_eq (K_ _)) (vF 0) λG5 B=>?_;replace B:B_ (H_ H) H G5 (stP sb fb O P fc n D (fr++[U]) [pB tRe q2 u_]):=B.subl (List.Sublist.cons_cons _ (List.Sublist.cons_cons _ (List.Sublist.cons_cons _ (List.Sublist.cons_cons _ (uW _)))));(conv=>whnf);refine Az underlying56 rfl _ L2 u_ rfl (A9 (cs:=u_) B 3 rfl rfl (N_ _) rfl λGz N=>?_);have ez:Ak u_ 0 u_=u_:=AT rfl;rw[ez]at N;refine L_ (cs:=u_) Ed (Kb (N.blk 3 rfl)) zA (⟨N.old,?_⟩);unfold J8;rw[a0,ER (Pv c4 ai aq)];rfl
         | inr y=>
           have⟨x,kk⟩:=y;rw[aq]at a4;replace a4:v= .tuple #[.agg (Av x).toArray,A_ kk,A_ 0,A_ 0]:=a4;subst a4;have bv:=L3 aq;refine Ag HP (Av 0#256) Fa rfl ?_;intro a6 G4 aj W L J;have C:=K.box aj W L J;refine A9 (cs:=Av x) C 4 (vH x) rfl (by rw[Ax,Ax];decide) (vF x) λG5 B=>?_;rw[AT (show(Av x).length=(Av 0#256).length by rw[Ax,Ax])]at B;replace B:B_ (H_ H) H G5 (stP sb fb O P fc n D (fr++[U]) [pB tRe q2 u_,pB 157 a6 (Av x)]):=B;have bo:R_ G5 a6 157 (Av x):=B.blk 4 rfl;refine Ap.heldZ (λk=>k=sb\/k=a6) [11] (sq [0,1,2,3,4,5,6] (.f 7 (.f 8 (sq [9,10] (.f 11 .e))))) rfl zX (F_ CG ?_);refine D_ (v:=.slice O D.length P) Ee ((B.blk 0 rfl).ce rfl) (.inl rfl) ?_;refine L_ (cs:=Av x) (wI x) (CA bo) (.inr rfl) (MO 1 x (As EO (d_ (E3 x)) rfl (AA _) zQ zQ ?_));intro zz G6 hz dj cy cz;have F:=B.skip hz cz;refine⟨λk l=>by
            rcases l with l | l
            ·rw[show k=sb from l];exact(F.blk 0 rfl).trans (B.blk 0 rfl).symm
            ·rw[show k=a6 from l];exact(F.blk 4 rfl).trans bo.symm,?_⟩
           refine I9 (ys:=[E3 x]) F 1 EO rfl (cy.cells (o:=0) (cs:=d_ (E3 x)) λj v hv=>by rw[K_];exact hv) (Ty.reps_one ⟨rfl,Cj (x:=1) (by unfold AW;omega),Cj (x:=0) (by unfold AW;omega),Cj (x:=0) (by unfold AW;omega),Cj (x:=0) (by unfold AW;omega),Cj (x:=0) (by unfold AW;omega)⟩) rfl (λu hu=>zM.1 (Cs _) u hu) (by simp[maxLen];omega) (by simp;omega) λa7 c7 G7 M dk=>?_;have el:D.length+[E3 x].length=(D++[E3 x]).length:=zZ
           rw[el]at M ⊢;refine⟨λk l=>by
            rcases l with l | l
            ·rw[show k=sb from l];exact(M.blk 0 rfl).trans (B.blk 0 rfl).symm
            ·rw[show k=a6 from l];exact(M.blk 4 rfl).trans bo.symm,?_⟩
           refine F_ CG ?_;refine AZ M 0 Ee rfl (by show _<(2:Nat);decide) rfl λG8 a8=>?_;replace a8:B_ (H_ H) H G8 (stP sb fb a7 c7 fc n (D++[E3 x]) (fr++[U]) [pB tRe q2 u_,pB 157 a6 (Av x)]):=a8;have w1:IntKind.wrap .i64 (((D++[E3 x]).length:Int)-1)=(D.length:Int):=by
            rw[M_,i_,yE zO zO];omega
           refine Ap.heldZ (λk=>k=sb) [18] (sq [0,1,2,3,4,5,6,7,8,9,10,11,12,13,14,15,16,17] (.f 18 .e)) rfl zX (F_ BI ?_);refine D_ (v:=.slice (T_ fb) n fc) CY ((a8.blk 0 rfl).ce rfl) rfl ?_;refine F_ BI ?_;refine D_ (v:=.slice (T_ fb) n fc) CY ((a8.blk 0 rfl).ce rfl) rfl ?_;(conv=>whnf);rw[U_ (x:=(n:Int)-1) zO];refine F_ CG ?_;refine D_ (v:=.slice a7 (D++[E3 x]).length c7) Ee ((a8.blk 0 rfl).ce rfl) rfl ?_;(conv=>whnf);rw[w1];refine wA (j:=fr.length) GV a8 2 rfl zZ zO (F_ D4 (FB (k:=5) (f':={U with factor:=(D.length:Int)}) a8 E_ zQ rfl rfl λG9 bp ja=>?_));(conv=>whnf);replace bp:B_ (H_ H) H G9 (stP sb fb a7 c7 fc n (D++[E3 x]) (fr++[{U with factor:=(D.length:Int)}]) [pB tRe q2 u_]):=bp.subl (List.Sublist.cons_cons _ (List.Sublist.cons_cons _ (List.Sublist.cons_cons _ (List.Sublist.cons_cons _ (uW _)))));exact⟨rfl,kk,rfl,⟨_,fs,D++[E3 x],ws++us++[.cls x],fr,{U with factor:=(D.length:Int)},_,_,_,_,n,GO (QD c4 ai aq),zO,k1.add (w:=.cls x) rfl,⟨R.place,R.alt.more,R.meet.more,R.sign,R.row.more,IxR.new k1 rfl⟩,c2.more,by simp only[M_,i_];omega,a2,bp⟩,zO⟩
  ·skip
   obtain rfl:i=t.size:=zO
   have bf:Cx t ⟨0,F5 (-1),[]⟩=XM ⟨t.size,f,fs⟩:=am.trans (Pu (by show¬t.size<t.size;omega));refine F_ BI ?_;refine lT (v:=.slice (T_ fb) n fc) CY ((E.blk 0 rfl).ce rfl) ?_;cases hK with
   | @cons fr1 fs1 g ga hK1 hG=>
     have cx:n=fr1.length+1+1:=by rw[a9];simp
     have d3:zT (1<(n:Int))=zW:=l_;have d0:sb≠q2:=(E.blk 0 rfl).ne (E.blk 3 rfl) zQ;have d5:fb≠q2:=λe=>E.apart2 (i:=2) (j:=3) rfl rfl zQ fb (.inl ⟨0,n,fc,rfl⟩) e;(conv=>whnf);rw[d3];refine Ap.held (λk=>k=sb\/k=fb) 17 (sq [0,1,2,3,4,5,6,7,8,9,10,11,12,13] (.f 14 (sq [15,16] .e))) rfl zX (Az underlying56 rfl _ L2 u_ rfl (F_ BI ?_));refine D_ (v:=.slice (T_ fb) n fc) CY ((E.blk 0 rfl).ce rfl) (.inl rfl) ?_;refine F_ BI ?_;refine D_ (v:=.slice (T_ fb) n fc) CY ((E.blk 0 rfl).ce rfl) (.inl rfl) ?_;(conv=>whnf);rw[U_ (x:=(n:Int)-1) zO];refine wA (j:=(fr1++[g]).length) GV E 2 rfl zZ (by simp;omega) ?_;refine F_ dH (D_ (v:=A_ A.place) E_ (BA E (k:=0) rfl) (.inr rfl) (BC (cs:=u_) E 3 rfl rfl (N_ _) rfl λGz N jz jq=>?_));have ez:Ak u_ 0 u_=u_:=AT rfl;rw[ez]at N;refine⟨jz.mono λk l=>by
      rcases l with l | l
      ·rw[show k=sb from l];exact d0
      ·rw[show k=fb from l];exact d5,?_⟩
     refine L_ (cs:=u_) Ed (Kb (N.blk 3 rfl)) zA (⟨N.old,?_⟩);unfold J8;rw[a0,bf];show _=Value.tuple #[.agg u_.toArray,A_ 21,A_ f.place];rw[<-Q.place];rfl
   | nil=>
     have bx:n=1:=by rw[a9];rfl
     have d3:zT (1<(n:Int))=zU:=Z_;(conv=>whnf);rw[d3];refine Ae.mk (OP E hN zO) ?_;rintro v G2 ⟨O,P,q⟩;have X:=Lk ds A;have⟨us,k1,R⟩:=Ll hR Q;have bg:=R.alt;have d6:(Dj f).alt=zY ((Dj f).alt.getD .eps):=rfl;obtain⟨r,hr⟩:∃r,r=(Dj f).alt.getD .eps:=⟨_,rfl⟩;rw[d6,<-hr]at bg;have⟨jr,wr,b6,bq,br⟩:=bg;have ae:Cx t ⟨0,F5 (-1),[]⟩=(if 2000<r.nodes then .inl (24,0)else .inr r):=by
      rw[bf,hr];rfl
     obtain⟨D,U,hq⟩:∃D U,Fe ds A=(D,U):=⟨_,_,rfl⟩;rw[hq]at q k1 R X b6;replace q:B_ (H_ H) H G2 (stP sb fb O P fc n D ([]++[U]) [pB tRe q2 u_]):=q;replace k1:Raw D (ws++us):=k1;replace X:D.length<=ds.length+4:=X;replace b6:U.alt=(jr:Int):=b6;have dl:=k1.len;have d7:=(V_.1 bq).1;refine F_ BI ?_;refine lT (v:=.slice (T_ fb) n fc) CY ((q.blk 0 rfl).ce rfl) ?_;refine wA (j:=([]:List J').length) GV q 2 rfl zZ rfl (F_ K7 ?_);refine D_ (v:=A_ jr) E_ (by rw[<-b6];exact BA q (k:=1) rfl) zA ?_;refine F_ CG ?_;refine lT (v:=.slice O D.length P) Ee ((q.blk 0 rfl).ce rfl) ?_;refine Ae.mk (bI (S:=H_ G2) (λk l=>l) k1 zO (q.view 1 rfl)) ?_;rintro _ G3 ⟨bz,rfl,c8⟩;have K:=q.call c8.old;have c9:=Su (j:=(ws++us).length) bq d7;refine zK (j:=jr) (x:=r_ wr) AB c8 0 rfl c9 rfl λb9 o9 dm dn d8 d9=>?_;obtain⟨rfl,-⟩:=d9;refine lT (v:=A_ (r_ wr)) E_ d8.one ?_;have cd:r_ wr=((W_ r:Nat):Int):=by unfold r_;rw[br]
     rw[cd];by_cases hn:2000<r.nodes
     ·have d4:zT (2000<((W_ r:Nat):Int))=zW:=m_ (by unfold W_;omega);rw[I_ hn]at ae;(conv=>whnf);rw[d4];refine Az underlying56 rfl _ L2 u_ rfl (A9 (cs:=u_) K 3 rfl rfl (N_ _) rfl λGz N=>?_);have ez:Ak u_ 0 u_=u_:=AT rfl;rw[ez]at N;refine L_ (cs:=u_) Ed (Kb (N.blk 3 rfl)) zA (⟨N.old,?_⟩);unfold J8;rw[a0,ae];rfl
     ·have d4:zT (2000<((W_ r:Nat):Int))=zU:=j_ (by unfold W_;omega);rw[G_ hn]at ae;(conv=>whnf);rw[d4];refine Ag _ u_ L2 rfl ?_;intro b7 G4 aj W L J;have b8:=((St.nil G3).box aj W L J).nils wE 159;replace b8:B_ (H_ G3) G3 G4 (reP b7 zV 0 [] 0 []):=b8;have C:=K.call b8.old;refine F_ CG ?_;refine lT (v:=.slice O D.length P) Ee ((C.blk 0 rfl).ce rfl) ?_;refine Ae.mk (aV wr (H_ G3) G3 G4 b7 0 zV [] 0 [] O P jr D (ws++us) k1 (K.view 1 rfl) (λk l=>l) bq (by rw[br];simp;omega) b8) ?_;rintro _ G5 ⟨ms,Y,Z,ce,cg,rfl,bd,ch⟩;rw[br]at ce bd cg;rw[tL]at bd ch;refine F_ Vb ?_;refine AZ ch 0 E_ rfl (by show _<(2:Nat);decide) rfl λG6 ak=>?_;rw[show([]:List o_).length+ms.length-1=ms.length-1 by simp]at bd ak;replace ak:B_ (H_ G3) G3 G6 (reP b7 Y Z ms ((ms.length-1:Nat):Int) []):=ak;have F:=K.call ak.old;have da:Bn G6 b7 0 (zJ (.slice Y ms.length Z) ((ms.length-1:Nat):Int)):=(ak.blk 0 rfl).cells λj v hv=>by rw[K_];exact hv
      refine L_ (cs:=zJ (.slice Y ms.length Z) ((ms.length-1:Nat):Int)) Ed da zA (BC (cs:=zJ (.slice Y ms.length Z) ((ms.length-1:Nat):Int)) F 3 rfl rfl (N_ _) rfl λG7 M db dp=>?_);rw[AT (show(zJ (.slice Y ms.length Z) ((ms.length-1:Nat):Int)).length=u_.length from rfl)]at M;have dc:Bn G7 q2 0 (zJ (.slice Y ms.length Z) ((ms.length-1:Nat):Int)):=(M.blk 3 rfl).cells λj v hv=>by rw[K_];exact hv
      refine lN (cs:=zJ (.slice Y ms.length Z) ((ms.length-1:Nat):Int)) Ed dc ?_;have ow:=St.own (H0:=G3) ak 1 rfl;have dq:q2<G3.size:=(K.blk 3 rfl).lt;refine⟨M.old,?_⟩;unfold J8;rw[a0,ae];refine⟨ms,Y,Z,ms.length-1,rfl,bd,ce,cg,?_⟩;refine(ow.agr db (λb hb=>by have:=(ow.lt hb).1;omega) (λb hb=>hb.elim)).lower ?_;exact K.size
def memC(m:Nat->Option Nat)(L:Nat):List v_:=(AjH (L+1)).map λi=>match m i with | none=>.slice zV 0 0 | some rb=>.slice (T_ rb) (L+1) (L+1)
structure MemoOk(mb:Nat)(nbs:List Nat)(L:Nat)(m:Nat->Nat->Option Nat)(R:Nat->Nat->List Bool)(H:Aa):Prop where
 top:R_ H mb 267 (nbs.map λnb=>.slice (T_ nb) (L+1) (L+1))
 rows:∀(j nb:Nat),nbs[j]?=zY nb->R_ H nb 36 (memC (m j) L)
 cont:∀(j i rb:Nat),m j i=zY rb->R_ H rb 4 ((R j i).map Value.bool)
 nd:nbs.Nodup
 ntop:mb∉nbs
 nrow:∀(j i rb:Nat),m j i=zY rb->rb≠mb/\rb∉nbs
 dom:∀(j i rb:Nat),m j i=zY rb->j<nbs.length/\i<=L
def Bj.inj:∀{r m:ReM} {i:Nat},Bj ns r i->Bj ns m i->r=m:=by
 have one:∀{i:Nat} {d d':o_},ns[i]?=zY d->ns[i]?=zY d'->d=d':=λh v=>AkS.inj (h.symm.trans v);intro r;induction r with|eps=>{rintro m i ⟨d,l,c⟩ h;cases m with|eps=>rfl|cls s=>obtain⟨d',f,g,-⟩:=h;rw[one l f,g]at c;cases c|star a=>obtain⟨d',j,f,g,-⟩:=h;rw[one l f,g]at c;cases c|_=>obtain⟨d',j,k,f,g,-⟩:=h;rw[one l f,g]at c;cases c}|cls s=>{rintro m i ⟨d,l,c,o⟩ h;cases m with|eps=>have⟨d',f,g⟩:=h;rw[one l f,g]at c;cases c|cls C=>have⟨d',f,g,p⟩:=h;rw[<-o,<-p,one l f]|star a=>obtain⟨d',j,f,g,-⟩:=h;rw[one l f,g]at c;cases c|_=>obtain⟨d',j,k,f,g,-⟩:=h;rw[one l f,g]at c;cases c}|star a w=>{rintro m i ⟨d,j,l,c,o,q⟩ h;cases m with|eps=>have⟨d',f,g⟩:=h;rw[one l f,g]at c;cases c|cls s=>obtain⟨d',f,g,-⟩:=h;rw[one l f,g]at c;cases c|star a'=>have⟨d',n,f,g,p,t⟩:=h;have e:=one l f;subst e;have:j=n:=zO;subst this;rw[w q t]|_=>obtain⟨d',n,u,f,g,-⟩:=h;rw[one l f,g]at c;cases c}|_ a b iha ihb=>{
 rintro m i ⟨d,j,k,l,c,o,q,x,y⟩ h;cases m with|eps=>have⟨d',f,g⟩:=h;rw[one l f,g]at c;cases c|cls s=>obtain⟨d',f,g,-⟩:=h;rw[one l f,g]at c;cases c|star a'=>obtain⟨d',n,f,g,-⟩:=h;rw[one l f,g]at c;cases c|_ a' b'=>{
 have⟨d',n,u,f,g,p,t,z,A⟩:=h;have e:=one l f;subst e
 first
  | (have B:j=n:=zO
     have e2:k=u:=zO
     subst B e2;rw[iha x z,ihb y A]
     done)
  | (rw[g]at c;cases c)}}
section
attribute [local irreducible] Bt AH Am Du
def PH(b:Int):U9 (EP b) 33554432:=by have i:∀{ends:Bool->Bool->Bool} {f g:Nat->Nat×Except Int PA} {s c:Nat} {N:P_},CI b ends f g s=(c,.ok N)->N.edges.length<=33554432:=λh=>by{obtain⟨k,l,m,n,d,u,v,o,rfl,w⟩:=Mq h;exact IK (Ki o).choose_spec.2.2.2.2.2.2.1};have j:∀{ends:Bool->Bool->Bool} {f g:Nat->Nat×Except Int PA} {s c:Nat} {e:Int},(∀s c e,f s=(c,.error e)->e≠0)->(∀s c e,g s=(c,.error e)->e≠0)->CI b ends f g s=(c,.error e)->e≠0:=λp q h=>by{rcases AQ h with h | ⟨k,l,-,h⟩;{exact p _ _ _ h};{rcases AQ h with h | ⟨m,n,-,h⟩;{exact q _ _ _ h};{split at h;{rename_i t;cases h;rcases On t with h | h<;>omega};{cases h}}}};refine⟨λr s c a h=>?_,λr s c e h=>?_⟩;{cases r with|and_ x y=>exact i (show CI b PV (λs=>FG b (Bf b x 0 s)) (λs=>FG b (Bf b y 0 s)) _=_ from h)|minus x y=>exact i (show CI b Qa (λs=>FG b (Bf b x 0 s)) (λs=>FG b (Bf b y 0 s)) _=_ from h)|_=>cases h};{cases r with|and_ x y=>exact j (λs c e h=>Co b x s c e h) (λs c e h=>Co b y s c e h) (show CI b PV (λs=>FG b (Bf b x 0 s)) (λs=>FG b (Bf b y 0 s)) _=_ from h)|minus x y=>exact j (λs c e h=>Co b x s c e h) (λs c e h=>Co b y s c e h) (show CI b Qa (λs=>FG b (Bf b x 0 s)) (λs=>FG b (Bf b y 0 s)) _=_ from h)|_=>cases h;decide}
variable{d i:PA}
def Hp{a:Nat}(h:AS b r s=(a,.ok d)):d.Ok/\(d.n:Int)<=b/\d.n<=4096:=by have⟨i,A,j,k,c,l⟩:=Wr h;obtain⟨F,-,-,-,-,e,f,g⟩:=Ry c;exact⟨e,f,g⟩
end
def vR(er:Int)(n:Nat)(v sub:v_):List v_:=[A_ n,A_ 0,A_ 0,v,sub,A_ er]
def LP{p:Nat}(a:p<=4398046511104)(b:q<=4398046511104)(s:Bool)(t:BitVec 256):(t_.mk p q s t).Ok:=⟨BK zO,BK zO⟩
section
variable{rest:List Pc}{bb n:Nat}{sub:v_}{er:Int}
def D8(a:B_ B H0 H (pB yO bb (vR er n v sub)::rest))(d:n<=4398046511104)(k:∀H',B_ B H0 H' (pB yO bb (vR er (n+1) v sub)::rest)->K (.int .i64 (n:Int)) H'):
  Ae prog 175 #[Y_ bb] H K:=by
 refine Ae.mk (R:=λr H'=>r= .int .i64 (n:Int)/\B_ B H0 H' (pB yO bb (vR er (n+1) v sub)::rest)) ?_ λr H' ⟨b,c⟩=>by rw[b];exact k H' c
 refine Aj.of_vc func175 rfl (call175 _) (fa BO (fa Em ?_));refine lT (v:=A_ n) E_ ((a.blk 0 rfl).ce rfl) ?_;(conv=>whnf);rw[Q_ n zO];refine fa BO (fa Em (AZ a 0 E_ rfl (zQ:0<6) rfl λH1 J_=>(fa BO (fa Em ?_))));refine lT (v:=A_ ((n:Int)+1)) E_ ((J_.blk 0 rfl).ce rfl) ?_;(conv=>whnf);rw[U_ (x:=(n:Int)+1-1) zO,show(n:Int)+1-1=(n:Int) by omega];(conv=>whnf);exact⟨rfl,J_⟩
def Ck{a:Option Addr}{c p:Nat}(h:B_ B H0 H (pB yO bb (vR er n (.slice a es.length c) sub)::pS C' 174 a es.length c es::rest))(i:p<=4398046511104)(l:q<=4398046511104)(E:es.length+1<=1099511627776)
  (k:∀a' d H',B_ B H0 H' (pB yO bb (vR er n (.slice a' (es++[AP p q]).length d) sub)::pS C' 174 a' (es++[AP p q]).length d (es++[AP p q])::rest)->K (.tuple #[]) H'):
  Ae prog 176 #[Y_ bb,A_ p,A_ q] H K:=by
 refine Ae.mk (R:=λr H'=>r= .tuple #[]/\∃a' d,B_ B H0 H' (pB yO bb (vR er n (.slice a' (es++[AP p q]).length d) sub)::pS C' 174 a' (es++[AP p q]).length d (es++[AP p q])::rest)) ?_ λr H' ⟨m,a',d,s⟩=>by rw[m];exact k a' d H' s
 refine Aj.of_vc func176 rfl (call176 _) (fa BO (fa En ?_));refine lT (v:=.slice a es.length c) Iy ((h.blk 0 rfl).ce rfl) ?_;refine MT p q (As I6 (zP (AP p q)) rfl rfl zQ zQ ?_);intro y H1 t w e f;have J_:=h.skip t f;refine I9 (ys:=[AP p q]) J_ 1 I6 rfl (e.cells (o:=0) (cs:=zP (AP p q)) λj v x=>by rw[K_];exact x) (Ty.reps_one ⟨rfl,LP i l _ _⟩) rfl (λu z=>zM.1 (HY _) u z) (by unfold maxLen;simp;omega) (by simp;omega) λA C H9 g _=>?_;refine fa BO (fa En (AZ g 0 Iy rfl (zQ:3<6) rfl λH10 b=>?_));(conv=>whnf);have D:es.length+[AP p q].length=(es++[AP p q]).length:=zZ;rw[D]at b;exact⟨rfl,A,C,b⟩
def YJ{a:Option Addr}{c:Nat}{s:BitVec 256}(M:B_ B H0 H (pB yO bb (vR er n (.slice a es.length c) sub)::pS C' 174 a es.length c es::rest))(X:n<=2199023255552)(Y:es.length+1<=1099511627776)
  (k:∀a' g H',B_ B H0 H' (pB yO bb (vR er (n+2) (.slice a' (es++[Cy n (n+1) s]).length g) sub)::pS C' 174 a' (es++[Cy n (n+1) s]).length g (es++[Cy n (n+1) s])::rest)->K (.tuple #[A_ n,A_ ((n+1:Nat):Int)]) H'):
  Ae prog 177 #[Y_ bb,BL s] H K:=by
 refine Ae.mk (R:=λr H'=>r= .tuple #[A_ n,A_ ((n+1:Nat):Int)]/\∃a' g,B_ B H0 H' (pB yO bb (vR er (n+2) (.slice a' (es++[Cy n (n+1) s]).length g) sub)::pS C' 174 a' (es++[Cy n (n+1) s]).length g (es++[Cy n (n+1) s])::rest)) ?_ λr H' ⟨N,a',g,O⟩=>by rw[N];exact k a' g H' O
 refine Aj.of_vc func177 rfl (call177 _) (Cd (Ah s) rfl ?_);intro x H1 P t w z;have J_:=(M.box P t w z).perm (xA _ _);have A:B_ B H0 H1 (pB yO bb (vR er n (.slice a es.length c) sub)::pB 101 x (Ah s)::pS C' 174 a es.length c es::rest):=J_.perm (List.Perm.swap _ _ _);refine D8 A zO λH3 C=>(D8 C zO λH4 b=>?_);have q:=b.apart2 (i:=0) (j:=2) rfl rfl zQ;have l:=b.apart2 (i:=1) (j:=2) rfl rfl zQ;refine Ap.heldZ (λk=>k<H4.size/\¬O_ (.slice a es.length c) k) [15] (sq [0,1,2,3,4,5,6,7,8,9] (.f 10 (.f 11 (sq [12,13,14] (.f 15 .e))))) rfl zX ?_;have D:bb<H4.size/\¬O_ (.slice a es.length c) bb:=⟨(b.in_ 0 rfl rfl).2,λh=>q bb rfl (.inl h)⟩;have E:x<H4.size/\¬O_ (.slice a es.length c) x:=⟨(b.in_ 1 rfl rfl).2,λh=>l x rfl (.inl h)⟩;refine fa BO (fa En ?_);refine D_ (v:=.slice a es.length c) Iy ((b.blk 0 rfl).ce rfl) D ?_;refine L_ (cs:=Ah s) Bh ((b.blk 1 rfl).cells λj v F=>by rw[K_];exact F) E ?_;refine MR n (n+1) s (As I6 (zP (Cy n (n+1) s)) rfl rfl zQ zQ ?_);intro y H5 Q S G m;have I:=b.skip Q m;refine⟨m.mono λk p=>by have:=p.1;omega,?_⟩;refine I9 (ys:=[Cy n (n+1) s]) I 2 I6 rfl (G.cells (o:=0) (cs:=zP (Cy n (n+1) s)) λj v F=>by rw[K_];exact F) (Ty.reps_one ⟨rfl,LP zO zO _ _⟩) rfl (λu T=>zM.1 (HY _) u T) (by unfold maxLen;simp;omega) (by simp;omega) λU V H9 J L=>?_;refine⟨(m.mono λk p=>by have:=p.1;omega).trans (L.mono λk p=>⟨by have:=p.1;omega,p.2⟩),?_⟩;refine fa BO (fa En (AZ J 0 Iy rfl (zQ:3<6) rfl λH10 d=>?_));(conv=>whnf);have W:es.length+[Cy n (n+1) s].length=(es++[Cy n (n+1) s]).length:=zZ;rw[W]at d;exact⟨rfl,U,V,(d.perm (List.Perm.swap _ _ _)).sub (yR _ _)⟩
end
abbrev zS(bb:Nat)(er:Int)(n:Nat)(sub:v_)(a:Option Addr)(c:Nat)(es:List t_)(rest:List Pc):List Pc:=pB yO bb (vR er n (.slice a es.length c) sub)::pS C' 174 a es.length c es::rest
def RW:(prog.info? 64).bind (·.zero)=zY (.agg #[.nilIface,.nilIface]):=rfl
def WJ:(prog.info? 65).bind (·.zero)=zY (.agg #[.nilIface,.nilIface]):=rfl
def AhB{P:w_}{t:x_}{d:TypeDesc}{f:Fn}{first:Array v_}(h:P.underlying t=zY d)(a:∀w:y_,∀k:Nat,(Op.equalIn (k+1) t (.func f first cap) .nilFunc).run P w= .ok zU w)(w:y_):(Op.equal t (.func f first cap) .nilFunc).run P w= .ok zU w:=a w 9999
def lB{P:w_}{t:x_}{x:z_}{c:v_}{d:TypeDesc}{f:Fn}{first:Array v_}{S:Nat->Prop}{K:v_->Prop}(h:P.underlying t=zY d)(a:∀w:y_,∀k:Nat,(Op.equalIn (k+1) t (.func f first cap) .nilFunc).run P w= .ok zU w)(k:K (.bool zU)):AO P (do eqGuard .eql t x (.const c) (.func f first cap) .nilFunc;binOp .eql t (.func f first cap) .nilFunc) S H K:=by refine AO.mk _ (λw _=>?_) k;simp[eqGuard,binOp,AhB h a]
def UA{σ:Type}(B:Nat->Prop)(H0:Aa)(E:Nat)(ps:List Pc)(P:σ->List Pc)(x:σ×Except Int P_)(v:v_)(H':Aa):Prop:=match x.2 with
 | .ok a=>a.edges.length<=E/\a.Rng/\∃ea ec,v= .tuple #[.agg (n_ a (.slice ea a.edges.length ec)).toArray,A_ 0]/\B_ B H0 H' (ps++P x.1++[pS C' 174 ea a.edges.length ec a.edges])
 | .error e=>∃l:List v_,v= .tuple #[.agg l.toArray,A_ e]/\l.length=4/\l.all (·.oneCell')=zW/\B_ B H0 H' (ps++P x.1)
def Yt{σ:Type}(B:Nat->Prop)(H0:Aa)(E:Nat)(bb n N:Nat)(es:List t_)(sub:v_)(ps:List Pc)(P:σ->List Pc)(x:σ×Except Int BR)(v:v_)(H':Aa):Prop:=match x.2 with
 | .ok A=>∃a' c',v= .tuple #[A_ (A.p:Int),A_ (A.q:Int)]/\B_ B H0 H' (zS bb 0 (n+A.u) sub a' c' (es++A.es) (ps++P x.1))
 | .error e=>e≠0/\∃(p q n':Nat) (a':Option Addr) (c':Nat) (es':List t_),v= .tuple #[A_ p,A_ q]/\p<=n'/\q<=n'/\n<=n'/\n'<=n+65536*N/\es'.length<=es.length+(E+4)*N/\B_ B H0 H' (zS bb e n' sub a' c' es' (ps++P x.1))
def Wn{e:t_}{n:Int}:zP (V' n e)=if e.sil then [A_ (e.fr+n),A_ (e.to+n),.bool zW,.int .u64 0,.int .u64 0,.int .u64 0,.int .u64 0]else [A_ (e.fr+n),A_ (e.to+n),.bool zU]++Ah e.set:=by
 have h:∀i,wd 0#256 i=0:=λi=>by unfold wd;simp
 unfold V' zP;cases e.sil with|true=>simp[h]|false=>simp[Ah]
def jU{σ:Type}{P:σ->List Pc}{s:σ}{sub:ReM->σ->σ×Except Int P_}{E:Nat}(hE:U9 sub E)(bq:E<=33554432){bb n c:Nat}{first:Array v_}
  (st:B_ B H0 H (zS bb 0 n (.func (.func f) first cap) N c es (ps++P s))) (hn:n<=1099511627776) (hl:es.length+E<=1099511627776)
  (aj:∀{ps':List Pc} {H':Aa},B_ B H0 H' (ps'++P s)->Aj prog f (first.toList++[An r]++cap.toList).toArray H' (UA B H0 E ps' P (sub r s))):
  Aj prog 178 #[Y_ bb,An r] H (Yt B H0 E bb n 1 es (.func (.func f) first cap) ps P (DG (sub r s) n)):=by
 refine Aj.of_vc func178 rfl (call178 _) (fa W0 ?_);refine lT (v:=.func (.func f) first cap) qL ((st.blk 0 rfl).ce rfl) ?_;refine lB underlying78 (λw k=>by simp[Op.equalIn,run_underlying underlying78]) (fa W0 ?_);refine lT (v:=.func (.func f) first cap) qL ((st.blk 0 rfl).ce rfl) ?_;have R:=aj (ps':=zS bb 0 n (.func (.func f) first cap) N c es ps) st;obtain⟨t,a2,hx⟩:∃t a2,sub r s=(t,a2):=⟨_,_,rfl⟩;rw[hx]at R ⊢;refine Ae.mk R ?_;rintro v H1 hv;cases a2 with
 | error e=>
   have Q:=hE.err _ _ _ _ hx;obtain⟨l,rfl,ak,aw,J_⟩:=hv;replace J_:B_ B H0 H1 (zS bb 0 n (.func (.func f) first cap) N c es (ps++P t)):=J_;refine Ag _ [A_ 0,A_ 0,A_ 0,.slice zV 0 0] Eu rfl ?_;intro x H2 a3 a4 a5 a6;have U:=(J_.box a3 a4 a5 a6).perm (xA _ _);refine A9 (cs:=l) U 0 (by rw[ak];rfl) rfl (by rw[ak];decide) aw λH3 d=>?_;replace d:=d.sub (yR _ _);have d1:(e != 0)=zW:=bne_iff_ne.2 Q;(conv=>whnf);rw[d1];refine fa C1 (AZ d 0 IZ rfl (zQ:5<6) rfl λH4 C=>?_);(conv=>whnf);exact⟨Q,0,0,n,N,c,es,rfl,zO,zO,zO,zO,zO,C⟩
 | ok a=>
   obtain⟨br,I,g,m,rfl,J_⟩:=hv;have J:a.edges.length<=33554432:=zO
   replace J_:B_ B H0 H1 (pS C' 174 g a.edges.length m a.edges::zS bb 0 n (.func (.func f) first cap) N c es (ps++P t)):=B_.perm J_ (xA _ (zS bb 0 n (.func (.func f) first cap) N c es (ps++P t)));refine Ag _ [A_ 0,A_ 0,A_ 0,.slice zV 0 0] Eu rfl ?_;intro x H2 a3 a4 a5 a6;have U:=(J_.box a3 a4 a5 a6).perm (xA _ _);refine A9 (cs:=n_ a (.slice g a.edges.length m)) U 0 rfl rfl (N_ _) rfl λH3 d=>?_;rw[Ai (show(n_ a (.slice g a.edges.length m)).length=4 from rfl)]at d;replace d:B_ B H0 H3 (pB 76 x (n_ a (.slice g a.edges.length m))::pS C' 174 g a.edges.length m a.edges::zS bb 0 n (.func (.func f) first cap) N c es (ps++P t)):=d;clear J_ U;have L:∀(G:Aa) (K:Aa->Prop),ES a=zU->B_ B H0 G (pB 76 x (n_ a (.slice g a.edges.length m))::pS C' 174 g a.edges.length m a.edges::zS bb 0 n (.func (.func f) first cap) N c es (ps++P t))->
     (∀G',Yt B H0 E bb n 1 es (.func (.func f) first cap) ps P (DG (t,.ok a) n) (.tuple #[A_ 0,A_ 0]) G'->K G')->Dm prog (Instr.storeAt 24 (.pointer (zY ⟨bb,0+5,zV⟩)) (.int .i64 2)) G K:=λG K V D k=>
    AZ D 2 IZ rfl (zQ:5<6) rfl λG' ax=>k G' (by
     have e1:DG (t,(.ok a:Except Int P_)) n=(t,.error 2):=by unfold DG BD;simp[V]
     rw[e1];exact⟨zQ,0,0,n,N,c,es,rfl,zO,zO,zO,zO,zO,ax.sub (List.Sublist.cons _ (yR _ _))⟩)
   refine Jk I J (d.blk 0 rfl) Gl zA (d.view 1 rfl) λv4 ay=>(fa Lv ?_);refine lT (v:=A_ a.start) E_ ((d.blk 0 rfl).ce rfl) ?_;refine Al (W8 ay) λH4 az=>?_;have C:=d.call az;cases hs:a.has a.start with
   | false=>
     have V:ES a=zU:=by unfold ES;simp[hs]
     refine fa C1 (L _ _ V C λG' hG=>?_);(conv=>whnf);exact hG
   | true=>
   refine Jk I J (C.blk 0 rfl) Gl zA (C.view 1 rfl) λv5 b0=>(fa M6 ?_);refine lT (v:=A_ a.fin) E_ ((C.blk 0 rfl).ce rfl) ?_;refine Al (W8 b0) λH5 b4=>?_;have W:=C.call b4;cases hf:a.has a.fin with
   | false=>
     have V:ES a=zU:=by unfold ES;simp[hf]
     refine fa C1 (L _ _ V W λG' hG=>?_);(conv=>whnf);exact hG
   | true=>
   refine fa En ?_;refine lT (v:=.slice g a.edges.length m) Iy ((W.blk 0 rfl).ce rfl) ?_;(conv=>whnf);refine Ay.mk [54] (λk:Nat=>[A_ k]) (λk G=>k<=a.edges.length/\(∀e∈a.edges.take k,a.has e.fr=zW/\a.has e.to=zW)/\B_ B H0 G (pB 76 x (n_ a (.slice g a.edges.length m))::pS C' 174 g a.edges.length m a.edges::zS bb 0 n (.func (.func f) first cap) N c es (ps++P t))) (λk _=>a.edges.length-k) ?_ ?_
   ·(conv=>whnf);exact⟨0,rfl,q_ _,(λe Q=>by simp at Q),W⟩
   ·rintro k G am ⟨Z,F,D⟩;refine AD.m2 (λhz=>?_) (λhz=>?_)
    ·obtain⟨e,Q⟩:∃e,a.edges[k]?=zY e:=⟨_,yI zO⟩;have X:e∈a.edges:=e_ Q;(conv=>whnf);try refine Au.run ?_
     refine zK (j:=k) (x:=e) I6 D 1 rfl Q rfl λb9 o9 b5 b6 a7 a8=>?_;obtain⟨rfl,b7⟩:=a8;refine L_ (cs:=zP e) O6 a7 zA (Ag _ [A_ 0,A_ 0,.bool zU,.int .u64 0,.int .u64 0,.int .u64 0,.int .u64 0] Lq rfl ?_);intro y G1 hy ab ae ag;have Y:=(D.box hy ab ae ag).perm (xA _ _);refine A9 (cs:=zP e) Y 0 rfl rfl (N_ _) rfl λG2 b=>?_;rw[Ai (show(zP e).length=7 from rfl)]at b;replace b:B_ B H0 G2 (pB 174 y (zP e)::pB 76 x (n_ a (.slice g a.edges.length m))::pS C' 174 g a.edges.length m a.edges::zS bb 0 n (.func (.func f) first cap) N c es (ps++P t)):=b;(conv=>whnf);try refine Au.run ?_
     refine Jk I J (b.blk 1 rfl) Gl zA (b.view 2 rfl) λv6 b8=>(fa Ic ?_);refine lT (v:=A_ e.fr) E_ ((b.blk 0 rfl).ce rfl) ?_;refine Al (W8 b8) λG3 bd=>?_;have A:=b.call bd;have nw:a.has e.fr=zU\/a.has e.to=zU->ES a=zU:=λh=>by
      cases V:ES a with
      | false=>rfl
      | true=>
        have:=(E1.1 V).2.2 e X;rw[this.1,this.2]at h;rcases h with h | h<;>cases h
     cases h1:a.has e.fr with
     | false=>
       refine fa C1 (L _ _ (nw (.inl h1)) (A.sub (yR _ _)) λG' hG=>?_);(conv=>whnf);exact hG
     | true=>
     refine Jk I J (A.blk 1 rfl) Gl zA (A.view 2 rfl) λv7 be=>(fa K8 ?_);refine lT (v:=A_ e.to) E_ ((A.blk 0 rfl).ce rfl) ?_;refine Al (W8 be) λG4 bf=>?_;have p:=A.call bf;cases h2:a.has e.to with
     | false=>
       refine fa C1 (L _ _ (nw (.inr h2)) (p.sub (yR _ _)) λG' hG=>?_);(conv=>whnf);exact hG
     | true=>
     (conv=>whnf);rw[Q_ k zO];refine⟨rfl,k+1,rfl,⟨zO,λe' O=>?_,p.sub (yR _ _)⟩,zO⟩;rw[oL,Q]at O;rcases X'.1 O with O | O
     ·exact F e' O
     ·rw[show e'=e by simpa using O];exact⟨h1,h2⟩
    ·obtain rfl:k=a.edges.length:=zO
     rw[uL (N_ _)]at F;have V:ES a=zW:=E1.2 ⟨hs,hf,F⟩;have bu:=P_.has_iff.1 hs;have bv:=P_.has_iff.1 hf;obtain⟨u,hu⟩:∃u:Nat,a.st=(u:Int):=⟨a.st.toNat,zO⟩;obtain⟨s0,ao⟩:∃u:Nat,a.start=(u:Int):=⟨a.start.toNat,zO⟩;obtain⟨f0,ap⟩:∃u:Nat,a.fin=(u:Int):=⟨a.fin.toNat,zO⟩;refine fa BO (fa Em ?_);refine lT (v:=A_ n) E_ ((D.blk 2 rfl).ce rfl) ?_;refine Ap.heldZ (λk=>k=bb\/k=x) [11] (sq [0,1,2,3,4,5,6,7,8,9,10] (.f 11 .e)) rfl zX (fa BO (fa Em ?_));refine D_ (v:=A_ n) E_ ((D.blk 2 rfl).ce rfl) (.inl rfl) ?_;refine fa Em ?_;refine D_ (v:=A_ u) E_ (by rw[(D.blk 0 rfl).cell,<-hu];rfl) (.inr rfl) ?_;(conv=>whnf);rw[U_ (x:=(n:Int)+(u:Int)) zO,show(n:Int)+(u:Int)=((n+u:Nat):Int) by omega];refine fa BO (fa Em (AZ D 2 E_ rfl (zQ:0<6) rfl λH7 S=>?_));replace S:B_ B H0 H7 (pB 76 x (n_ a (.slice g a.edges.length m))::pS C' 174 g a.edges.length m a.edges::zS bb 0 (n+u) (.func (.func f) first cap) N c es (ps++P t)):=S;clear d C W D;refine fa En ?_;refine lT (v:=.slice g a.edges.length m) Iy ((S.blk 0 rfl).ce rfl) ?_;(conv=>whnf);refine Ay.mk [93] (λk:Nat=>[A_ k]) (λk G=>k<=a.edges.length/\∃a' T,B_ B H0 G (pB 76 x (n_ a (.slice g a.edges.length m))::pS C' 174 g a.edges.length m a.edges::zS bb 0 (n+u) (.func (.func f) first cap) a' T (es++(a.edges.take k).map (V' n)) (ps++P t))) (λk _=>a.edges.length-k) ?_ ?_
     ·(conv=>whnf);refine⟨0,rfl,q_ _,N,c,?_⟩;rw[vQ,List.map_nil,yX];exact S
     ·rintro k G am ⟨Z,a',T,D⟩;clear S;refine AD.m2 (λhz=>?_) (λhz=>?_)
      ·obtain⟨e,Q⟩:∃e,a.edges[k]?=zY e:=⟨_,yI zO⟩;have X:e∈a.edges:=e_ Q;have bw:=P_.has_iff.1 (F e X).1;have bx:=P_.has_iff.1 (F e X).2;have aq:(es++(a.edges.take k).map (V' n)).length=es.length+k:=by simp;omega
       refine zK (j:=k) (x:=e) I6 D 1 rfl Q rfl λb9 o9 b5 b6 a7 a8=>?_;obtain⟨rfl,b7⟩:=a8;refine L_ (cs:=zP e) O6 a7 zA (Ag _ [A_ 0,A_ 0,.bool zU,.int .u64 0,.int .u64 0,.int .u64 0,.int .u64 0] Lq rfl ?_);intro y G1 hy ab ae ag;have Y:=(D.box hy ab ae ag).perm (xA _ _);refine A9 (cs:=zP e) Y 0 rfl rfl (N_ _) rfl λG2 b=>?_;rw[Ai (show(zP e).length=7 from rfl)]at b;replace b:B_ B H0 G2 (pB 174 y (zP e)::pB 76 x (n_ a (.slice g a.edges.length m))::pS C' 174 g a.edges.length m a.edges::zS bb 0 (n+u) (.func (.func f) first cap) a' T (es++(a.edges.take k).map (V' n)) (ps++P t)):=b;refine fa Ic ?_;refine lT (v:=A_ e.fr) E_ ((b.blk 0 rfl).ce rfl) ?_;(conv=>whnf);rw[U_ (x:=e.fr+(n:Int)) zO];refine fa Ic (AZ b 0 E_ rfl (zQ:0<7) rfl λG3 A=>(fa K8 ?_));refine lT (v:=A_ e.to) E_ ((A.blk 0 rfl).ce rfl) ?_;(conv=>whnf);rw[U_ (x:=e.to+(n:Int)) zO];refine fa K8 (AZ A 0 E_ rfl (zQ:1<7) rfl λG4 p=>?_);replace p:B_ B H0 G4 (pB 174 y ([A_ (e.fr+n),A_ (e.to+n),.bool e.sil]++Ah e.set)::pB 76 x (n_ a (.slice g a.edges.length m))::pS C' 174 g a.edges.length m a.edges::zS bb 0 (n+u) (.func (.func f) first cap) a' T (es++(a.edges.take k).map (V' n)) (ps++P t)):=p;(conv=>whnf);refine Au.cut (α:=Unit) [] (λ_=>[]) (λ_ G=>B_ B H0 G (pB 174 y (zP (V' n e))::pB 76 x (n_ a (.slice g a.edges.length m))::pS C' 174 g a.edges.length m a.edges::zS bb 0 (n+u) (.func (.func f) first cap) a' T (es++(a.edges.take k).map (V' n)) (ps++P t))) ?_ ?_
       ·refine fa Wv ?_;refine lT (v:=.bool e.sil) M' ((p.blk 0 rfl).ce rfl) ?_;cases M:e.sil with
        | true=>
          refine Ct CB (BL 0) rfl [.int .u64 0,.int .u64 0,.int .u64 0,.int .u64 0] rfl (fa RB ?_);refine A9 (cs:=[.int .u64 0,.int .u64 0,.int .u64 0,.int .u64 0]) p 0 rfl rfl (by show 3+4<=7;decide) rfl λG5 q=>?_;(conv=>whnf);refine⟨rfl,(),rfl,?_⟩;rw[Wn,M,I_ rfl];rw[M]at q;exact q
        | false=>
          (conv=>whnf);refine⟨rfl,(),rfl,?_⟩;rw[Wn,M];rw[M]at p;exact p
       ·rintro⟨⟩ G5 bg q;clear D Y b A p;have ar:=q.apart2 (i:=3) (j:=4) rfl rfl zQ;have ah:=q.apart2 (i:=0) (j:=4) rfl rfl zQ;have bh:bb<G5.size/\¬O_ (.slice a' (es++(a.edges.take k).map (V' n)).length T) bb:=⟨(q.in_ 3 rfl rfl).2,λh=>ar bb rfl (.inl h)⟩;have bi:y<G5.size/\¬O_ (.slice a' (es++(a.edges.take k).map (V' n)).length T) y:=⟨(q.in_ 0 rfl rfl).2,λh=>ah y rfl (.inl h)⟩;refine Ap.heldZ (λk2=>k2<G5.size/\¬O_ (.slice a' (es++(a.edges.take k).map (V' n)).length T) k2) [12] (sq [0,1,2,3,4,5,6] (.f 7 (.f 8 (sq [9,10,11] (.f 12 .e))))) rfl zX (fa BO (fa En ?_));refine D_ (v:=.slice a' (es++(a.edges.take k).map (V' n)).length T) Iy ((q.blk 3 rfl).ce rfl) bh ?_;refine L_ (cs:=zP (V' n e)) O6 ((q.blk 0 rfl).cells λj v hv=>by rw[K_];exact hv) bi ?_;refine As I6 (zP (V' n e)) rfl rfl zQ zQ ?_;intro z G6 bj bz bm ai;have bn:=q.skip bj ai;refine⟨ai.mono λk Z=>by have:=Z.1;omega,?_⟩;refine I9 (ys:=[V' n e]) bn 4 I6 rfl (bm.cells (o:=0) (cs:=zP (V' n e)) λj v hv=>by rw[K_];exact hv) (Ty.reps_one ⟨rfl,show(V' n e).Ok from⟨⟨by show(-9223372036854775808:Int)<=e.fr+(n:Int);omega,by show e.fr+(n:Int)<=(9223372036854775807:Int);omega⟩,⟨by show(-9223372036854775808:Int)<=e.to+(n:Int);omega,by show e.to+(n:Int)<=(9223372036854775807:Int);omega⟩⟩⟩) rfl (λu hu=>zM.1 (HY _) u hu) (by unfold maxLen;simp;omega) (by rw[aq];simp;omega) λa9 c9 G9 bo bp=>?_;refine⟨(ai.mono λk Z=>by have:=Z.1;omega).trans (bp.mono λk Z=>⟨by have:=Z.1;omega,Z.2⟩),?_⟩;refine fa BO (fa En (AZ bo 3 Iy rfl (zQ:3<6) rfl λG10 a1=>?_));have au:(es++(a.edges.take k).map (V' n))++[V' n e]=es++(a.edges.take (k+1)).map (V' n):=by rw[oL,Q];simp
        have el:(es++(a.edges.take k).map (V' n)).length+[V' n e].length=(es++(a.edges.take (k+1)).map (V' n)).length:=by rw[<-au];simp;omega
        rw[el,au]at a1;(conv=>whnf);rw[Q_ k zO];exact⟨rfl,k+1,rfl,⟨zO,a9,c9,a1.sub (yR _ _)⟩,zO⟩
      ·obtain rfl:k=a.edges.length:=zO
       rw[uL (N_ _)]at D;refine Ap.lex rfl zX (fa Lv ?_);refine D_ (v:=A_ s0) E_ (by rw[(D.blk 0 rfl).cell,<-ao];rfl) zA ?_;(conv=>whnf);rw[U_ (x:=(s0:Int)+(n:Int)) zO];refine fa M6 ?_;refine D_ (v:=A_ f0) E_ (by rw[(D.blk 0 rfl).cell,<-ap];rfl) zA ?_;(conv=>whnf);rw[U_ (x:=(f0:Int)+(n:Int)) zO];(conv=>whnf);have e1:DG (t,(.ok a:Except Int P_)) n=(t,.ok ⟨n+s0,n+f0,u,a.edges.map (V' n)⟩):=by unfold DG BD;simp[V,ao,ap,hu]
       rw[e1];exact⟨a',T,by rw[show(s0:Int)+(n:Int)=((n+s0:Nat):Int) by omega,show(f0:Int)+(n:Int)=((n+f0:Nat):Int) by omega],D.sub (List.Sublist.cons _ (yR _ _))⟩
def Pq{rest:List Pc}{bb n c:Nat}{a:Option Addr}{er:Int}{b:v_}(e:er≠0)(d:B_ B H0 H (zS bb er n b a c es rest)):
  Aj prog 138 #[Y_ bb,An r] H λv H'=>v= .tuple #[A_ ((0:Nat):Int),A_ ((0:Nat):Int)]/\B_ B H0 H' (zS bb er n b a c es rest):=by refine Aj.of_vc func138 rfl (call138 _) (fa C1 ?_);refine lT (v:=A_ er) IZ ((d.blk 0 rfl).ce rfl) ?_;have f:(er != 0)=zW:=bne_iff_ne.2 e;(conv=>whnf);rw[f];(conv=>whnf);exact⟨rfl,d⟩
def cP{σ:Type}{P:σ->List Pc}{sub:ReM->σ->σ×Except Int P_}{E N:Nat}(hE:U9 sub E)(am:E<=33554432){bb:Nat}{first:Array v_}
  (aj:∀(r:ReM),ME r=zW->r.nodes<=N->∀(s:σ) {ps':List Pc} {H':Aa},B_ B H0 H' (ps'++P s)->Aj prog f (first.toList++[An r]++cap.toList).toArray H' (UA B H0 E ps' P (sub r s))):
  ∀(r:ReM),r.nodes<=N->∀{H:Aa} {ps:List Pc} {n c:Nat} {a:Option Addr} {es:List t_} {s:σ} (C:B_ B H0 H (zS bb 0 n (.func (.func f) first cap) a c es (ps++P s))),n+65536*r.nodes<=1099511627776->es.length+(E+4)*r.nodes<=1099511627776->
  Aj prog 138 #[Y_ bb,An r] H (Yt B H0 E bb n r.nodes es (.func (.func f) first cap) ps P (BS sub r n s)):=λr=>by
 induction r with
 | eps=>
   intro hN H ps n c a es s C hn hl;generalize e:BS sub .eps n s=W;refine Aj.of_vc func138 rfl (call138 _) (fa C1 ?_);refine lT (v:=A_ 0) IZ ((C.blk 0 rfl).ce rfl) ?_;simp only[ReM.nodes,yT,zG]at hn hl hN;refine Eb underlying98 (by intro w h;cases h) ?_;refine Ag (.agg #[]) [] rfl rfl ?_;intro x H1 hx F G I;have J_:B_ B H0 H1 (pB 98 x []::zS bb 0 n (.func (.func f) first cap) a c es (ps++P s)):=(C.box hx F G I).perm (xA _ _);refine A9 (cs:=[]) J_ 0 rfl rfl (N_ _) rfl λH2 l=>?_;have D:B_ B H0 H2 (zS bb 0 n (.func (.func f) first cap) a c es (ps++P s)):=l.sub (yR _ _);refine D8 D zO λH4 J=>(D8 J zO λH5 az=>(Ck az zO zO zO λa' c' H6 X=>?_));(conv=>whnf);subst e;exact⟨a',c',rfl,X⟩
 | cls t=>
   intro hN H ps n c a es s C hn hl;generalize e:BS sub (.cls t) n s=W;refine Aj.of_vc func138 rfl (call138 _) (fa C1 ?_);refine lT (v:=A_ 0) IZ ((C.blk 0 rfl).ce rfl) ?_;simp only[ReM.nodes,yT,zG]at hn hl hN;refine Cb underlying98 (by intro w h;cases h) F4 zQ ?_;refine Eb underlying104 (by intro w h;cases h) ?_;refine Ag _ [.int .u64 0,.int .u64 0,.int .u64 0,.int .u64 0] EZ rfl ?_;intro x H1 hx F G I;have J_:B_ B H0 H1 (pB 104 x [.int .u64 0,.int .u64 0,.int .u64 0,.int .u64 0]::zS bb 0 n (.func (.func f) first cap) a c es (ps++P s)):=(C.box hx F G I).perm (xA _ _);refine A9 (cs:=Ah t) J_ 0 rfl rfl (N_ _) rfl λH2 l=>?_;rw[Ai (show(Ah t).length=4 from rfl)]at l;refine fa Ws (L_ (cs:=Ah t) Bh ((l.blk 0 rfl).cells λj v hv=>by simpa using hv) zA ?_);have D:B_ B H0 H2 (zS bb 0 n (.func (.func f) first cap) a c es (ps++P s)):=l.sub (yR _ _);refine YJ D zO zO λa' c' H4 J=>?_;(conv=>whnf);subst e;exact⟨a',c',rfl,J⟩
 | cat d g Y a7=>
   intro hN H ps n c a es s C hn hl;generalize e:BS sub (.cat d g) n s=W;refine Aj.of_vc func138 rfl (call138 _) (fa C1 ?_);refine lT (v:=A_ 0) IZ ((C.blk 0 rfl).ce rfl) ?_;simp only[ReM.nodes,yT,zG]at hn hl hN;refine Cb underlying98 (by intro w h;cases h) F4 zQ ?_;refine Cb underlying104 (by intro w h;cases h) EZ zQ ?_;refine Eb underlying105 (by intro w h;cases h) ?_;refine Ag _ [.nilIface,.nilIface] Hf rfl ?_;intro x H1 hx F G I;have J_:B_ B H0 H1 (pB 105 x [.nilIface,.nilIface]::zS bb 0 n (.func (.func f) first cap) a c es (ps++P s)):=(C.box hx F G I).perm (xA _ _);refine A9 (cs:=[An d,An g]) J_ 0 rfl rfl (N_ _) (by simp[E7]) λH2 l=>?_;rw[Ai (show([An d,An g]).length=([.nilIface,.nilIface]:List v_).length from rfl)]at l;have D:B_ B H0 H2 (zS bb 0 n (.func (.func f) first cap) a c es ((pB 105 x [An d,An g]::ps)++P s)):=l.pickN 3 [1,2,0] zQ;refine fa R3 ?_;refine lT (v:=An d) Ej ((D.blk 2 rfl).ce rfl) ?_;obtain⟨s4,x4,A⟩:∃s1 y,BS sub d (n) s=(s1,y):=⟨_,_,rfl⟩;have R:=Y zO (s:=s) D zO (by(try simp only[M_,c_,h_]);omega);rw[A]at R;refine Ae.mk R ?_;rintro v4 G4 S;cases x4 with
   | error e4=>
     obtain⟨a0,p4,q4,n4,a4,c4,a1,rfl,a9,ab,ae,ao,ak,i⟩:=S;replace i:B_ B H0 G4 (zS bb e4 n4 (.func (.func f) first cap) a4 c4 a1 ((pB 105 x [An d,An g]::ps)++P s4)):=i
     try simp only[M_,c_,h_]at ak
     refine fa NQ ?_;refine lT (v:=An g) Ej ((i.blk 2 rfl).ce rfl) ?_;refine Ae.mk (Pq (r:=g) a0 i) ?_;rintro _ G5 ⟨rfl,b⟩;refine Ck b zO zO (by(try simp only[M_,c_,h_]);omega) λb6 d6 H6 X=>?_;(conv=>whnf);obtain rfl:W=(s4,.error e4):=by rw[<-e];simp only[BS];rw[CK A]
     exact⟨a0,p4,0,n4,b6,d6,(a1++[AP q4 0]),rfl,zO,zO,zO,by simp only[ReM.nodes];omega,by simp only[ReM.nodes,yT,zG,M_,c_,h_];omega,X.pickN 3 [0,1] zQ⟩
   | ok A4=>
     obtain⟨a4,c4,rfl,i⟩:=S;have b7:=DA hE _ _ _ _ _ A;replace i:B_ B H0 G4 (zS bb 0 (n+A4.u) (.func (.func f) first cap) a4 c4 (es++A4.es) ((pB 105 x [An d,An g]::ps)++P s4)):=i;refine fa NQ ?_;refine lT (v:=An g) Ej ((i.blk 2 rfl).ce rfl) ?_;obtain⟨Z,x5,k⟩:∃s1 y,BS sub g (n+A4.u) s4=(s1,y):=⟨_,_,rfl⟩;have T:=a7 zO (s:=s4) i zO (by(try simp only[M_,c_,h_]);omega);rw[k]at T;refine Ae.mk T ?_;rintro v5 G5 U;cases x5 with
     | error e5=>
       obtain⟨a2,p5,q5,n5,a5,c5,a3,rfl,ap,aq,ar,au,a8,b⟩:=U;replace b:B_ B H0 G5 (zS bb e5 n5 (.func (.func f) first cap) a5 c5 a3 ((pB 105 x [An d,An g]::ps)++P Z)):=b
       try simp only[M_,c_,h_]at a8
       refine Ck b zO zO (by(try simp only[M_,c_,h_]);omega) λb6 d6 H6 X=>?_;(conv=>whnf);obtain rfl:W=(Z,.error e5):=by rw[<-e];simp only[BS];rw[C5 A,CK k]
       exact⟨a2,A4.p,q5,n5,b6,d6,(a3++[AP A4.q p5]),rfl,zO,zO,zO,by simp only[ReM.nodes];omega,by simp only[ReM.nodes,yT,zG,M_,c_,h_];omega,X.pickN 3 [0,1] zQ⟩
     | ok A5=>
       obtain⟨a5,c5,rfl,b⟩:=U;have aw:=DA hE _ _ _ _ _ k;replace b:B_ B H0 G5 (zS bb 0 (n+A4.u+A5.u) (.func (.func f) first cap) a5 c5 (es++A4.es++A5.es) ((pB 105 x [An d,An g]::ps)++P Z)):=b;refine Ck b zO zO (by(try simp only[M_,c_,h_]);omega) λb6 d6 H6 X=>?_;(conv=>whnf);obtain rfl:W=(Z,.ok ⟨A4.p,A5.q,A4.u+A5.u,A4.es++A5.es++[AP A4.q A5.p]⟩):=by rw[<-e];simp only[BS];rw[C5 A,C5 k]
       have z:=X.pickN 3 [0,1] zQ;rw[Nat.add_assoc n A4.u A5.u]at z;have ee:es++A4.es++A5.es++[AP A4.q A5.p]=es++(A4.es++A5.es++[AP A4.q A5.p]):=zZ
       rw[ee]at z;exact⟨b6,d6,rfl,z⟩
 | alt d g Y a7=>
   intro hN H ps n c a es s C hn hl;generalize e:BS sub (.alt d g) n s=W;refine Aj.of_vc func138 rfl (call138 _) (fa C1 ?_);refine lT (v:=A_ 0) IZ ((C.blk 0 rfl).ce rfl) ?_;simp only[ReM.nodes,yT,zG]at hn hl hN;refine Cb underlying98 (by intro w h;cases h) F4 zQ ?_;refine Cb underlying104 (by intro w h;cases h) EZ zQ ?_;refine Cb underlying105 (by intro w h;cases h) Hf zQ ?_;refine Eb underlying305 (by intro w h;cases h) ?_;refine Ag _ [.nilIface,.nilIface] KF rfl ?_;intro x H1 hx F G I;have J_:B_ B H0 H1 (pB 305 x [.nilIface,.nilIface]::zS bb 0 n (.func (.func f) first cap) a c es (ps++P s)):=(C.box hx F G I).perm (xA _ _);refine A9 (cs:=[An d,An g]) J_ 0 rfl rfl (N_ _) (by simp[E7]) λH2 l=>?_;rw[Ai (show([An d,An g]).length=([.nilIface,.nilIface]:List v_).length from rfl)]at l;have D:B_ B H0 H2 (zS bb 0 n (.func (.func f) first cap) a c es ((pB 305 x [An d,An g]::ps)++P s)):=l.pickN 3 [1,2,0] zQ;refine D8 D zO λH4 J=>(fa RC ?_);refine lT (v:=An d) Ej ((J.blk 2 rfl).ce rfl) ?_;obtain⟨Z,x5,k⟩:∃s1 y,BS sub d (n+1) s=(s1,y):=⟨_,_,rfl⟩;have T:=Y zO (s:=s) J zO (by(try simp only[M_,c_,h_]);omega);rw[k]at T;refine Ae.mk T ?_;rintro v5 G5 U;cases x5 with
   | error e5=>
     obtain⟨a2,p5,q5,n5,a5,c5,a3,rfl,ap,aq,ar,au,a8,b⟩:=U;replace b:B_ B H0 G5 (zS bb e5 n5 (.func (.func f) first cap) a5 c5 a3 ((pB 305 x [An d,An g]::ps)++P Z)):=b
     try simp only[M_,c_,h_]at a8
     refine fa Oc ?_;refine lT (v:=An g) Ej ((b.blk 2 rfl).ce rfl) ?_;refine Ae.mk (Pq (r:=g) a2 b) ?_;rintro _ G6 ⟨rfl,K⟩;refine D8 K zO λH7 z=>?_;refine Ck z zO zO (by(try simp only[M_,c_,h_]);omega) λb8 d8 H8 L=>?_;refine Ck L zO zO (by(try simp only[M_,c_,h_]);omega) λb9 d9 H9 M=>?_;refine Ck M zO zO (by(try simp only[M_,c_,h_]);omega) λag ah H10 m=>?_;refine Ck m zO zO (by(try simp only[M_,c_,h_]);omega) λO Q H11 o=>?_;(conv=>whnf);obtain rfl:W=(Z,.error e5):=by rw[<-e];simp only[BS];rw[CK k]
     exact⟨a2,n,n5,(n5+1),O,Q,_,rfl,zO,zO,zO,by simp only[ReM.nodes];omega,by simp only[ReM.nodes,yT,zG,M_,c_,h_];omega,o.pickN 3 [0,1] zQ⟩
   | ok A5=>
     obtain⟨a5,c5,rfl,b⟩:=U;have aw:=DA hE _ _ _ _ _ k;replace b:B_ B H0 G5 (zS bb 0 (n+1+A5.u) (.func (.func f) first cap) a5 c5 (es++A5.es) ((pB 305 x [An d,An g]::ps)++P Z)):=b;refine fa Oc ?_;refine lT (v:=An g) Ej ((b.blk 2 rfl).ce rfl) ?_;obtain⟨s6,x6,ai⟩:∃s1 y,BS sub g (n+1+A5.u) Z=(s1,y):=⟨_,_,rfl⟩;have ax:=a7 zO (s:=Z) b zO (by(try simp only[M_,c_,h_]);omega);rw[ai]at ax;refine Ae.mk ax ?_;rintro v6 G6 ay;cases x6 with
     | error e6=>
       obtain⟨b0,p6,q6,n6,a6,c6,b4,rfl,bd,be,bf,bg,b5,K⟩:=ay;replace K:B_ B H0 G6 (zS bb e6 n6 (.func (.func f) first cap) a6 c6 b4 ((pB 305 x [An d,An g]::ps)++P s6)):=K
       try simp only[M_,c_,h_]at b5
       refine D8 K zO λH7 z=>?_;refine Ck z zO zO (by(try simp only[M_,c_,h_]);omega) λb8 d8 H8 L=>?_;refine Ck L zO zO (by(try simp only[M_,c_,h_]);omega) λb9 d9 H9 M=>?_;refine Ck M zO zO (by(try simp only[M_,c_,h_]);omega) λag ah H10 m=>?_;refine Ck m zO zO (by(try simp only[M_,c_,h_]);omega) λO Q H11 o=>?_;(conv=>whnf);obtain rfl:W=(s6,.error e6):=by rw[<-e];simp only[BS];rw[C5 k,CK ai]
       exact⟨b0,n,n6,(n6+1),O,Q,_,rfl,zO,zO,zO,by simp only[ReM.nodes];omega,by simp only[ReM.nodes,yT,zG,M_,c_,h_];omega,o.pickN 3 [0,1] zQ⟩
     | ok A6=>
       obtain⟨a6,c6,rfl,K⟩:=ay;have bh:=DA hE _ _ _ _ _ ai;replace K:B_ B H0 G6 (zS bb 0 (n+1+A5.u+A6.u) (.func (.func f) first cap) a6 c6 (es++A5.es++A6.es) ((pB 305 x [An d,An g]::ps)++P s6)):=K;refine D8 K zO λH7 z=>?_;refine Ck z zO zO (by(try simp only[M_,c_,h_]);omega) λb8 d8 H8 L=>?_;refine Ck L zO zO (by(try simp only[M_,c_,h_]);omega) λb9 d9 H9 M=>?_;refine Ck M zO zO (by(try simp only[M_,c_,h_]);omega) λag ah H10 m=>?_;refine Ck m zO zO (by(try simp only[M_,c_,h_]);omega) λO Q H11 o=>?_;(conv=>whnf);obtain rfl:W=(s6,.ok ⟨n,n+1+A5.u+A6.u,A5.u+A6.u+2,A5.es++A6.es++[AP n A5.p,AP n A6.p,AP A5.q (n+1+A5.u+A6.u),AP A6.q (n+1+A5.u+A6.u)]⟩):=by rw[<-e];simp only[BS];rw[C5 k,C5 ai]
       have V:=o.pickN 3 [0,1] zQ;have en:n+1+A5.u+A6.u+1=n+(A5.u+A6.u+2):=zO
       have ee:es++A5.es++A6.es++[AP n A5.p]++[AP n A6.p]++[AP A5.q (n+1+A5.u+A6.u)]++[AP A6.q (n+1+A5.u+A6.u)]=es++(A5.es++A6.es++[AP n A5.p,AP n A6.p,AP A5.q (n+1+A5.u+A6.u),AP A6.q (n+1+A5.u+A6.u)]):=zZ
       rw[en,ee]at V;exact⟨O,Q,rfl,V⟩
 | star d Y=>
   intro hN H ps n c a es s C hn hl;generalize e:BS sub (.star d) n s=W;refine Aj.of_vc func138 rfl (call138 _) (fa C1 ?_);refine lT (v:=A_ 0) IZ ((C.blk 0 rfl).ce rfl) ?_;simp only[ReM.nodes,yT,zG]at hn hl hN;refine Cb underlying98 (by intro w h;cases h) F4 zQ ?_;refine Cb underlying104 (by intro w h;cases h) EZ zQ ?_;refine Cb underlying105 (by intro w h;cases h) Hf zQ ?_;refine Cb underlying305 (by intro w h;cases h) KF zQ ?_;refine Eb underlying310 (by intro w h;cases h) ?_;refine Ag _ [.nilIface] Oj rfl ?_;intro x H1 hx F G I;have J_:B_ B H0 H1 (pB 310 x [.nilIface]::zS bb 0 n (.func (.func f) first cap) a c es (ps++P s)):=(C.box hx F G I).perm (xA _ _);refine A9 (cs:=[An d]) J_ 0 rfl rfl (N_ _) (by simp[E7]) λH2 l=>?_;rw[Ai (show([An d]).length=([.nilIface]:List v_).length from rfl)]at l;have D:B_ B H0 H2 (zS bb 0 n (.func (.func f) first cap) a c es ((pB 310 x [An d]::ps)++P s)):=l.pickN 3 [1,2,0] zQ;refine D8 D zO λH4 J=>(fa RD ?_);refine lT (v:=An d) Ej ((J.blk 2 rfl).ce rfl) ?_;obtain⟨Z,x5,k⟩:∃s1 y,BS sub d (n+1) s=(s1,y):=⟨_,_,rfl⟩;have T:=Y zO (s:=s) J zO (by(try simp only[M_,c_,h_]);omega);rw[k]at T;refine Ae.mk T ?_;rintro v5 G5 U;cases x5 with
   | error e5=>
     obtain⟨a2,p5,q5,n5,a5,c5,a3,rfl,ap,aq,ar,au,a8,b⟩:=U;replace b:B_ B H0 G5 (zS bb e5 n5 (.func (.func f) first cap) a5 c5 a3 ((pB 310 x [An d]::ps)++P Z)):=b
     try simp only[M_,c_,h_]at a8
     refine D8 b zO λH7 z=>?_;refine Ck z zO zO (by(try simp only[M_,c_,h_]);omega) λb8 d8 H8 L=>?_;refine Ck L zO zO (by(try simp only[M_,c_,h_]);omega) λb9 d9 H9 M=>?_;refine Ck M zO zO (by(try simp only[M_,c_,h_]);omega) λag ah H10 m=>?_;refine Ck m zO zO (by(try simp only[M_,c_,h_]);omega) λO Q H11 o=>?_;(conv=>whnf);obtain rfl:W=(Z,.error e5):=by rw[<-e];simp only[BS];rw[CK k]
     exact⟨a2,n,n5,(n5+1),O,Q,_,rfl,zO,zO,zO,by simp only[ReM.nodes];omega,by simp only[ReM.nodes,yT,zG,M_,c_,h_];omega,o.pickN 3 [0,1] zQ⟩
   | ok A5=>
     obtain⟨a5,c5,rfl,b⟩:=U;have aw:=DA hE _ _ _ _ _ k;replace b:B_ B H0 G5 (zS bb 0 (n+1+A5.u) (.func (.func f) first cap) a5 c5 (es++A5.es) ((pB 310 x [An d]::ps)++P Z)):=b;refine D8 b zO λH7 z=>?_;refine Ck z zO zO (by(try simp only[M_,c_,h_]);omega) λb8 d8 H8 L=>?_;refine Ck L zO zO (by(try simp only[M_,c_,h_]);omega) λb9 d9 H9 M=>?_;refine Ck M zO zO (by(try simp only[M_,c_,h_]);omega) λag ah H10 m=>?_;refine Ck m zO zO (by(try simp only[M_,c_,h_]);omega) λO Q H11 o=>?_;(conv=>whnf);obtain rfl:W=(Z,.ok ⟨n,n+1+A5.u,A5.u+2,A5.es++[AP n A5.p,AP n (n+1+A5.u),AP A5.q A5.p,AP A5.q (n+1+A5.u)]⟩):=by rw[<-e];simp only[BS];rw[C5 k]
     have V:=o.pickN 3 [0,1] zQ;have en:n+1+A5.u+1=n+(A5.u+2):=zO
     have ee:es++A5.es++[AP n A5.p]++[AP n (n+1+A5.u)]++[AP A5.q A5.p]++[AP A5.q (n+1+A5.u)]=es++(A5.es++[AP n A5.p,AP n (n+1+A5.u),AP A5.q A5.p,AP A5.q (n+1+A5.u)]):=zZ
     rw[en,ee]at V;exact⟨O,Q,rfl,V⟩
 | and_ d g Y a7=>
   intro hN H ps n c a es s C hn hl;generalize e:BS sub (.and_ d g) n s=W;refine Aj.of_vc func138 rfl (call138 _) (fa C1 ?_);refine lT (v:=A_ 0) IZ ((C.blk 0 rfl).ce rfl) ?_;simp only[ReM.nodes,yT,zG]at hn hl hN;refine Cb underlying98 (by intro w h;cases h) F4 zQ ?_;refine Cb underlying104 (by intro w h;cases h) EZ zQ ?_;refine Cb underlying105 (by intro w h;cases h) Hf zQ ?_;refine Cb underlying305 (by intro w h;cases h) KF zQ ?_;refine Cb underlying310 (by intro w h;cases h) Oj zQ ?_;refine Eb underlying64 (by intro w h;cases h) ?_;refine Cb underlying65 (by intro w h;cases h) WJ zQ ?_;obtain⟨s4,x4,A⟩:∃s1 y,DG (sub (.and_ d g) s) n=(s1,y):=⟨_,_,rfl⟩;have R:=jU (r:=.and_ d g) hE am C zO zO (aj (.and_ d g) rfl (by simp only[ReM.nodes];omega) s);rw[A]at R;refine Ae.mk R ?_;rintro v4 G4 S;obtain rfl:W=(s4,x4):=by rw[<-e,<-A];rfl
   cases x4 with
   | error e4=>
     obtain⟨a0,p4,q4,n4,a4,c4,a1,rfl,a9,ab,ae,ao,ak,i⟩:=S;(conv=>whnf);exact⟨a0,p4,q4,n4,a4,c4,a1,rfl,a9,ab,ae,by simp only[ReM.nodes];omega,by simp only[ReM.nodes,yT,zG];omega,i⟩
   | ok A4=>
     obtain⟨a4,c4,rfl,i⟩:=S;(conv=>whnf);exact⟨a4,c4,rfl,i⟩
 | minus d g Y a7=>
   intro hN H ps n c a es s C hn hl;generalize e:BS sub (.minus d g) n s=W;refine Aj.of_vc func138 rfl (call138 _) (fa C1 ?_);refine lT (v:=A_ 0) IZ ((C.blk 0 rfl).ce rfl) ?_;simp only[ReM.nodes,yT,zG]at hn hl hN;refine Cb underlying98 (by intro w h;cases h) F4 zQ ?_;refine Cb underlying104 (by intro w h;cases h) EZ zQ ?_;refine Cb underlying105 (by intro w h;cases h) Hf zQ ?_;refine Cb underlying305 (by intro w h;cases h) KF zQ ?_;refine Cb underlying310 (by intro w h;cases h) Oj zQ ?_;refine Cb underlying64 (by intro w h;cases h) RW zQ ?_;refine Eb underlying65 (by intro w h;cases h) ?_;obtain⟨s4,x4,A⟩:∃s1 y,DG (sub (.minus d g) s) n=(s1,y):=⟨_,_,rfl⟩;have R:=jU (r:=.minus d g) hE am C zO zO (aj (.minus d g) rfl (by simp only[ReM.nodes];omega) s);rw[A]at R;refine Ae.mk R ?_;rintro v4 G4 S;obtain rfl:W=(s4,x4):=by rw[<-e,<-A];rfl
   cases x4 with
   | error e4=>
     obtain⟨a0,p4,q4,n4,a4,c4,a1,rfl,a9,ab,ae,ao,ak,i⟩:=S;(conv=>whnf);exact⟨a0,p4,q4,n4,a4,c4,a1,rfl,a9,ab,ae,by simp only[ReM.nodes];omega,by simp only[ReM.nodes,yT,zG];omega,i⟩
   | ok A4=>
     obtain⟨a4,c4,rfl,i⟩:=S;(conv=>whnf);exact⟨a4,c4,rfl,i⟩
def erI(bad:Bool):Int:=if bad then 30 else 0
def bdE(er:Bool)(n:Nat)(v sub:v_):List v_:=[A_ n,A_ 0,A_ 0,v,sub,A_ (erI er)]
abbrev bdP(bb:Nat)(er:Bool)(n:Nat)(a:Option Addr)(c:Nat)(es:List t_)(rest:List Pc):List Pc:=pB yO bb (bdE er n (.slice a es.length c) .nilFunc)::pS C' 174 a es.length c es::rest
structure PartW(B:Nat->Prop)(H0:Aa)(bb:Nat)(er:Bool)(n:Nat)(es:List t_)(rest:List Pc)(r:ReM)(v:v_)(H':Aa):Prop where
 ex:∃(p q n':Nat) (es':List t_) (a':Option Addr) (c':Nat),v= .tuple #[A_ p,A_ q]/\p<=1000000/\q<=1000000/\n<=n'/\n'<=n+2*r.nodes/\es'.length<=es.length+4*r.nodes/\B_ B H0 H' (bdP bb (er|| !r.plain) n' a' c' es' rest)
def M4{σ:Type}(sub:ReM->σ->σ×Except Int P_)(r:ReM)(s:σ):σ×Except Int P_:=
 if 2000<r.nodes then(s,.error 24)else BD (BS sub r 0 s) λA s1=>if 65536<A.u then(s1,.error 40)else(s1,.ok ⟨A.u,A.p,A.q,A.es⟩)
def Rq{σ:Type}{P:σ->List Pc}{sub:ReM->σ->σ×Except Int P_}{E:Nat}{first:Array v_}(hE:U9 sub E)(I:E<=33554432)(r:ReM)(S:r.nodes<=1000000000)
  (J:∀(G:ReM),ME G=zW->G.nodes<=r.nodes->∀(s:σ) {ps':List Pc} {H':Aa},B_ B H0 H' (ps'++P s)->Aj prog f (first.toList++[An G]++cap.toList).toArray H' (UA B H0 E ps' P (sub G s)))
    {s:σ} (st:B_ B H0 H (ps++P s)):
  Aj prog 84 #[An r,.func (.func f) first cap] H (UA B H0 ((E+4)*2000) ps P (M4 sub r s)):=by
 have l:=fun(bb:Nat) (H:Aa) (ps:List Pc) (n c:Nat) (a:Option Addr) (es:List t_)=>cP (N:=r.nodes) hE I (f:=f) (first:=first) (cap:=cap) (B:=B) (H0:=H0) (P:=P) (λG h1 h2 s ps' H' T=>J G h1 h2 s T) r (N_ _) (bb:=bb) (H:=H) (ps:=ps) (n:=n) (c:=c) (a:=a) (es:=es) (s:=s);rw[F1]at l ⊢;refine Aj.of_vc func84 rfl (call84 _) (Ag _ [A_ 0,A_ 0,A_ 0,.slice zV 0 0] Eu rfl ?_);intro y H1 hy U V W;have J_:B_ B H0 H1 (pB 76 y [A_ 0,A_ 0,A_ 0,.slice zV 0 0]::(ps++P s)):=(st.box hy U V W).perm (xA _ _);refine Qy underlying28 (JB.mk (HM r) #[EW r] (FZ r) (Sq r S H1) ?_);rintro _ H2 ⟨rfl,X⟩;have K:=J_.call X;by_cases w:2000<r.nodes;{have Y:zT ((2000:Int)<(r.nodes:Int))=zW:=l_;(conv=>whnf);rw[Y];refine Az underlying76 rfl _ Eu [A_ 0,A_ 0,A_ 0,.slice zV 0 0] rfl (A9 (cs:=[A_ 0,A_ 0,A_ 0,.slice zV 0 0]) K 0 rfl rfl (N_ _) rfl λH3 m=>?_);refine L_ (cs:=[A_ 0,A_ 0,A_ 0,.slice zV 0 0]) Gl ((m.blk 0 rfl).cells λj v g=>by rw[K_];exact g) zA ?_;(conv=>whnf);have e1:M4 sub r s=(s,.error 24):=by{unfold M4;rw[I_ w]};rw[e1];exact⟨_,rfl,rfl,rfl,m.sub (yR _ _)⟩};have Y:zT ((2000:Int)<(r.nodes:Int))=zU:=Z_;(conv=>whnf);rw[Y];refine Az underlying246 rfl _ qK (vR 0 0 (.slice zV 0 0) (.func (.func f) first cap)) zX (Cd (vR 0 0 (.slice zV 0 0) (.func (.func f) first cap)) rfl ?_);intro bb H3 Z a0 a1 a2;have z:B_ B H0 H3 (pB yO bb (vR 0 0 (.slice zV 0 0) (.func (.func f) first cap))::(pB 76 y [A_ 0,A_ 0,A_ 0,.slice zV 0 0]::(ps++P s))):=(K.box Z a0 a1 a2).perm (xA _ _);have C:=(z.nils C' 174).perm (xA _ _);have m:B_ B H0 H3 (zS bb 0 0 (.func (.func f) first cap) zV 0 [] ((pB 76 y [A_ 0,A_ 0,A_ 0,.slice zV 0 0]::ps)++P s)):=C.perm (List.Perm.swap _ _ _);clear z C;have hp:=l _ _ _ 0 _ _ _ m zO (by simp only[h_,K_];exact yV (Nat.mul_le_mul (Nat.add_le_add_right I 4) (zO:r.nodes<=2000)) zQ);obtain⟨L,x4,D⟩:∃R a3,BS sub r 0 s=(R,a3):=⟨_,_,rfl⟩;rw[D]at hp;refine Ae.mk hp ?_;rintro v4 H4 M;have a5:M4 sub r s=BD (L,x4) λA R=>if 65536<A.u then(R,.error 40)else(R,.ok ⟨A.u,A.p,A.q,A.es⟩):=by unfold M4;rw[G_ w,D]
 rw[a5];cases x4 with|error O=>{obtain⟨a6,p4,q4,n4,o,t,a7,rfl,ag,ah,ai,aj,ak,i⟩:=M;replace i:B_ B H0 H4 (zS bb O n4 (.func (.func f) first cap) o t a7 ((pB 76 y [A_ 0,A_ 0,A_ 0,.slice zV 0 0]::ps)++P L)):=i;refine fa BO (fa Lv (AZ i 0 E_ rfl (zQ:1<6) rfl λH5 F=>(fa BO (fa M6 (AZ F 0 E_ rfl (zQ:2<6) rfl λH6 b=>(fa C1 ?_))))));refine lT (v:=A_ O) IZ ((b.blk 0 rfl).ce rfl) ?_;have Q:(O != 0)=zW:=bne_iff_ne.2 a6;(conv=>whnf);rw[Q];have a8:bb≠y:=(b.blk 0 rfl).ne (b.blk 2 rfl) zQ;refine Ap.held (λk=>k=bb) 7 (sq [0,1,2,3,4] (.f 5 (sq [6] .e))) rfl zX (Az underlying76 rfl _ Eu [A_ 0,A_ 0,A_ 0,.slice zV 0 0] rfl (fa C1 ?_));refine D_ (v:=A_ O) IZ ((b.blk 0 rfl).ce rfl) rfl ?_;refine BC (cs:=[A_ 0,A_ 0,A_ 0,.slice zV 0 0]) b 2 rfl rfl (N_ _) rfl λH7 d ja js=>?_;refine⟨ja.mono λk hk=>by rw[show k=bb from hk];exact a8,?_⟩;refine L_ (cs:=[A_ 0,A_ 0,A_ 0,.slice zV 0 0]) Gl ((d.blk 2 rfl).cells λj v g=>by rw[K_];exact g) zA ?_;(conv=>whnf);rw[CK (x:=(L,(.error O:Except Int BR))) rfl];exact⟨_,rfl,rfl,rfl,d.sub (.cons _ (.cons _ (yR _ _)))⟩}|ok A=>{obtain⟨o,t,rfl,i⟩:=M;have a9:=DA hE _ _ _ _ _ D;replace i:B_ B H0 H4 (zS bb 0 A.u (.func (.func f) first cap) o t A.es ((pB 76 y [A_ 0,A_ 0,A_ 0,.slice zV 0 0]::ps)++P L)):=by{have h:=i;rwa [tL,K_]at h};refine fa BO (fa Lv (AZ i 0 E_ rfl (zQ:1<6) rfl λH5 F=>(fa BO (fa M6 (AZ F 0 E_ rfl (zQ:2<6) rfl λH6 b=>(fa C1 ?_))))));refine lT (v:=A_ 0) IZ ((b.blk 0 rfl).ce rfl) ?_;refine fa BO (fa Em ?_);refine lT (v:=A_ (A.u:Int)) E_ ((b.blk 0 rfl).ce rfl) ?_;rw[C5 (x:=(L,(.ok A:Except Int BR))) rfl];by_cases hu:65536<A.u;{have Q:zT ((65536:Int)<(A.u:Int))=zW:=l_;(conv=>whnf);rw[Q];refine Az underlying76 rfl _ Eu [A_ 0,A_ 0,A_ 0,.slice zV 0 0] rfl (A9 (cs:=[A_ 0,A_ 0,A_ 0,.slice zV 0 0]) b 2 rfl rfl (N_ _) rfl λH7 d=>?_);refine L_ (cs:=[A_ 0,A_ 0,A_ 0,.slice zV 0 0]) Gl ((d.blk 2 rfl).cells λj v g=>by rw[K_];exact g) zA ?_;(conv=>whnf);rw[I_ hu];exact⟨_,rfl,rfl,rfl,d.sub (.cons _ (.cons _ (yR _ _)))⟩};{have Q:zT ((65536:Int)<(A.u:Int))=zU:=Z_;(conv=>whnf);rw[Q];refine fa BO ?_;have ab:Bn H6 bb 0 (n_ ⟨A.u,A.p,A.q,A.es⟩ (.slice o A.es.length t)):=(b.blk 0 rfl).cells λj v g=>by{rw[K_];match j,g with|0,g=>exact g|1,g=>exact g|2,g=>exact g|3,g=>exact g};refine L_ (cs:=n_ ⟨A.u,A.p,A.q,A.es⟩ (.slice o A.es.length t)) Gl ab zA (A9 (cs:=n_ ⟨A.u,A.p,A.q,A.es⟩ (.slice o A.es.length t)) b 2 rfl rfl (N_ _) rfl λH7 d=>?_);rw[Ai (show(n_ ⟨A.u,A.p,A.q,A.es⟩ (.slice o A.es.length t)).length=4 from rfl)]at d;refine L_ (cs:=n_ ⟨A.u,A.p,A.q,A.es⟩ (.slice o A.es.length t)) Gl ((d.blk 2 rfl).cells λj v g=>by rw[K_];exact g) zA ?_;(conv=>whnf);rw[G_ hu];have ae:A.es.length<=(E+4)*2000:=yV a9.2.2.2.2.2 (tP _ zO);exact⟨ae,⟨BK zO,BK zO,BK zO⟩,o,t,rfl,((d.sub (yR _ _)).perm (List.Perm.swap _ _ _) |>.sub (yR _ _)).perm (xA _ _).symm⟩}}
section
attribute [local irreducible] Bt AH Am Du
def PA.hops_len(d:PA)(q k:Nat):(d.hopsTo q k).length<=256:=by have c:∀l:List Nat,(l.filterMap λt=>if(d.use t&&(d.set q t != 0#256))=zW then zY (Cy (d.place q) (d.place t) (d.set q t))else zV).length=(l.filter λt=>d.use t&&(d.set q t != 0#256)).length:=by{intro l;induction l with|nil=>rfl|cons t l e=>by_cases h:(d.use t&&(d.set q t != 0#256))=zW;{rw[oN,I_ h,sS,I_ h,c_,c_,e]};{rw[oN,G_ h,sS,G_ h,e]}};unfold PA.hopsTo;rw[c];have:=bQ (a:=(AjH k).filter λt=>d.use t&&(d.set q t != 0#256)) (b:=(AjH 256).map (d.st q)) (List.nodup_range.filter _) λt f=>by{have h:=(yH.1 f).2;rw[Bool.and_eq_true,bne_iff_ne]at h;refine Classical.byContradiction λg=>h.2 (tH λi j=>?_);rw[BitVec.getLsbD_zero];cases m:(d.set q t).getLsbD i with|false=>rfl|true=>exact absurd (yQ.2 ⟨i,yG.2 j,(PA.set_bit.1 m).2⟩) g};rwa [k_,rK]at this
def PA.edges_place(d:PA):∀k,(d.edgesTo k).length<=257*d.place k:=λk=>by
 induction k with
 | zero=>simp[PA.edgesTo]
 | succ k a=>
   have e:d.edgesTo (k+1)=d.edgesTo k++(if d.use k=zW then d.hopsTo k d.n++d.endE k else []):=by
    unfold PA.edgesTo;rw[wG,sB];simp
   rw[e,M_,PA.place_succ];have b:=PA.hops_len d k d.n;have c:(d.endE k).length<=1:=by unfold PA.endE;split<;>simp
   split
   ·rw[M_];omega
   ·simp;omega
def Vk(d:PA):(AN d).edges.length+1<=258*(AN d).st.toNat:=by unfold AN;split;{have:=PA.edges_place d d.n;show(d.edgesTo d.n).length+1<=258*((d.count:Int)+1).toNat;have:((d.count:Int)+1).toNat=d.count+1:=zO;rw[this];have:d.place d.n=d.count:=rfl;omega};{decide}
def Fk{σ:Type}{sub:ReM->σ->σ×Except Int P_}{E:Nat}(g:U9 sub E)(f:∀r s d a,sub r s=(d,.ok a)->a.edges.length+1<=258*a.st.toNat):∀(r:ReM) (n:Nat) (s d:σ) (A:BR),BS sub r n s=(d,.ok A)->A.es.length+1<=258*A.u
 | .eps,n,s,d,A,h=>by cases h;simp
 | .cls t,n,s,d,A,h=>by cases h;simp
 | .cat a b,n,s,d,A,h=>by
   have⟨i,A1,e,c⟩:=Bv h;have⟨o,A2,j,k⟩:=Bv c;cases k;have m:=Fk g f a _ _ _ _ e;have p:=Fk g f b _ _ _ _ j;simp only[M_,i_,yT];omega
 | .alt a b,n,s,d,A,h=>by
   have⟨i,A1,e,c⟩:=Bv h;have⟨o,A2,j,k⟩:=Bv c;cases k;have m:=Fk g f a _ _ _ _ e;have p:=Fk g f b _ _ _ _ j;simp only[M_,c_,h_,yT];omega
 | .star a,n,s,d,A,h=>by
   have⟨i,A1,e,c⟩:=Bv h;cases c;have m:=Fk g f a _ _ _ _ e;simp only[M_,c_,h_,yT];omega
 | .and_ a b,n,s,d,A,h=>by
   have⟨i,N,e,c⟩:=Bv (show DG _ n=_ from h);have l:=f _ _ _ _ e;split at c
   ·cases c;simp only[k_];exact l
   ·cases c
 | .minus a b,n,s,d,A,h=>by
   have⟨i,N,e,c⟩:=Bv (show DG _ n=_ from h);have l:=f _ _ _ _ e;split at c
   ·cases c;simp only[k_];exact l
   ·cases c
def Yd(b:Int):∀r s c a,EP b r s=(c,.ok a)->a.edges.length+1<=258*a.st.toNat:=λr s c a h=>by
 have e:∀{ends:Bool->Bool->Bool} {f g:Nat->Nat×Except Int PA} {s c:Nat} {N:P_},CI b ends f g s=(c,.ok N)->N.edges.length+1<=258*N.st.toNat:=λh=>by
  obtain⟨i,j,k,l,d,m,n,o,rfl,p⟩:=Mq h;exact Vk d
 cases r with
 | and_ x y=>exact e (show CI b PV (λs=>FG b (Bf b x 0 s)) (λs=>FG b (Bf b y 0 s)) _=_ from h)
 | minus x y=>exact e (show CI b Qa (λs=>FG b (Bf b x 0 s)) (λs=>FG b (Bf b y 0 s)) _=_ from h)
 | _=>cases h
def Pp{n a:Nat}{A:BR}(h:Bf b r n s=(a,.ok A)):A.es.length+1<=258*A.u:=by rw[Ev]at h;exact Fk (PH b) (Yd b) r n s a A h
def eW{S:Nat->Prop}(w:∀k,S k->k<H.size)(h:tT S H v a)(g:GH prog H):
  Aj prog 38 #[v,A_ b] H λr H'=>C_ (H_ H) H H'/\match FF b a with
   | .error e=>r= .tuple #[.pointer zV,A_ e]
   | .ok d=>∃v A,r= .tuple #[v,A_ 0]/\Bi (λk=>H.size<=k/\k<H'.size) H' v (zY A)/\Cw (zY A)/\JH (zY A) d:=by
 have x:FF b a=match FQ a b with
   | .error e=>.error e
   | .ok F=>.ok (uF (Be a) (λX=>zT (a.fin∈X)) F):=rfl
 rw[x];by_cases o:b<1\/4096<b;{rw[Ti o];exact(ID h o).mono λr H' ⟨j,c⟩=>⟨c,j⟩};{obtain⟨m,rfl⟩:=xK (zO:0<=b);rw[NM zO zO];refine(KZ w h g (budget:=m) zO zO).mono λr H' ⟨j,c⟩=>⟨j,?_⟩;have i:=detA a (most:=m) zO;cases n:CS m (Be a) (F8 (DF a)) (HQ a)with|none=>rw[n]at c i;rw[<-i];exact c|some q=>have⟨F,rows⟩:=q;rw[n]at c i;rw[<-i];obtain⟨y,rfl,p⟩:=c;have⟨s,t,z⟩:=jB zO zO n;rw[s,I_ rfl]at p;have⟨g1,g2,B⟩:=KM (step:=Be a) (start:=HQ a) (most:=m) (F:=F) zO (by{have:JN a m=zY F:=i.symm;exact this});have u:=Mb (K':=List Int) (f:=id) (step':=Be a) (fin':=λX=>zT (a.fin∈X)) (fin:=λX=>zT (a.fin∈X)) g1 (λ_ _ _ _ e=>e) (λ_ _ _ _=>rfl) (λ_ _=>rfl) (s1:=AR (zY _)) (f1:=Bk (zY _)) (by rw[oO];exact t.st) (by rw[oO];exact t.fi);exact⟨y,_,rfl,p,⟨BX (DF a),rows.map AK,F.map λl=>zT (a.fin∈l),by unfold Fc;rw[k_,s];rfl⟩,⟨z,u.1,u.2⟩⟩}
def Wg{K:Type} [DecidableEq K]{most:Nat}{step:K->Nat->K}{start:K}{P:K->Prop}(c:1<=most)(h0:P start)(hs:∀x b,P x->P (step x b)){F:List K}(h:Du most step start=zY F):∀x∈F,P x:=by unfold Du at h;cases a:CS most step (AjH 256) start with|none=>rw[a]at h;cases h|some z=>have⟨G,rows⟩:=z;rw[a]at h;simp only[wB,AkS.injEq]at h;subst h;exact(Ey (P:=P) c h0 hs _ most G rows a).2.2.2
def X7(x:Nat×Nat):Int×Int:=((x.1:Int),(x.2:Int))
def WQ{a b:Option AM}{g h:PA}(l:JH a g)(o:JH b h)(j:g.Ok)(k:h.Ok)(m:Nat):(tA g h m).map (List.map X7)=oV a b m:=by refine YX (most:=m) (step:=Io g h) (step':=Bm a b) (start:=(0,0)) (f:=X7) (I:=λx=>x.1<g.n/\x.2<h.n) (λy z _ _ e=>?_) ⟨j.pos,k.pos⟩ λx c i d=>?_;{have p:(y.1:Int)=(z.1:Int):=congrArg Prod.fst e;have e2:(y.2:Int)=(z.2:Int):=congrArg Prod.snd e;exact Prod.ext zO zO};{unfold Io Bm;rw[I_ d,I_ d];exact⟨⟨j.cl _ _ i.1 d,k.cl _ _ i.2 d⟩,Prod.ext (l.st _ _ i.1 d).symm (o.st _ _ i.2 d).symm⟩}
variable{d i:PA}
def jS{a b:Option AM}{g:PA}{ends:Bool->Bool->Bool}{m:Int}{H':Aa}{r:v_}(q:JH a g)(s:JH b i)(t:g.Ok)(u:i.Ok)(h:Nc a b ends m H H' r):
  match xL m ends g i with
   | .error e=>r= .tuple #[.pointer zV,A_ e]
   | .ok d=>∃v A,r= .tuple #[v,A_ 0]/\Bi (λk=>H.size<=k/\k<H'.size) H' v (zY A)/\Cw (zY A)/\JH (zY A) d:=by
 unfold Nc at h;unfold xL;by_cases B:m<1\/4096<m
 ·rw[I_ B]at h ⊢;exact h
 ·rw[G_ B]at h ⊢;rw[<-WQ q s t u]at h;cases o:tA g i m.toNat with
  | none=>
    rw[o]at h;exact h
  | some F=>
    rw[o]at h;obtain⟨v,A,rfl,E,w,C,G⟩:=h;have⟨g1,g2,I⟩:=KM (step:=Io g i) (start:=(0,0)) (most:=m.toNat) (F:=F) zO o;have p:∀x∈F,x.1<g.n/\x.2<i.n:=by
     have:=Wg (step:=Io g i) (start:=(0,0)) (most:=m.toNat) (P:=λx=>x.1<g.n/\x.2<i.n) zO ⟨t.pos,u.pos⟩ (λx c j=>by
      unfold Io;split
      ·rename_i l;exact⟨t.cl _ _ j.1 l,u.cl _ _ j.2 l⟩
      ·exact j) o
     exact this
    have D:=Mb (K':=Int×Int) (f:=X7) (step':=Bm a b) (fin':=λx:Int×Int=>ends (Bk a x.1) (Bk b x.2)) (fin:=pO ends g i) g1 (λy _ z _ e=>by
      have J:(y.1:Int)=(z.1:Int):=congrArg Prod.fst e;have e2:(y.2:Int)=(z.2:Int):=congrArg Prod.snd e;exact Prod.ext zO zO) (λx j c l=>by
      unfold Io Bm;rw[I_ l,I_ l];exact Prod.ext (q.st _ _ (p x j).1 l) (s.st _ _ (p x j).2 l)) (λx j=>by
      show ends (Bk a (x.1:Int)) (Bk b (x.2:Int))=ends (g.fi x.1) (i.fi x.2);rw[q.fi _ (p x j).1,s.fi _ (p x j).2]) C.st C.fi
    exact⟨v,A,rfl,E,w,by rw[G,k_];rfl,D.1,D.2⟩
end
variable{d i:PA}
section
attribute [local irreducible] Bt AH Am Du CS
def oD(D:DM):Option AM:=zY ⟨[],D.cell.map Int.toNat,D.next,D.final⟩
def HV(h:D.Ok):U2 (oD D) D:=by refine⟨h,rfl,λq b a=>?_,λq=>rfl,λq=>rfl⟩;have e:(D.cell.map Int.toNat).getD b 0=(D.cell.getD b 0).toNat:=by{rw[xE,xE,I'];cases D.cell[b]? <;>rfl};unfold AR D0 oD;simp only[stN,e]
def HU(h:U2 o D):Iw o:=
 ⟨by rw[h.n];exact h.ok.n1,by rw[h.n];exact h.ok.n2,λq b a c=>by
  have:=N3 h.ok a.1 (by have:=a.2;rw[h.n]at this;exact this) c;unfold inA;rw[h.step q b c,h.n];exact this⟩
def Af0(D:DM):Prop:=∀row∈D.next,∀k,k<row.length->∃g,g<256/\D.cell[g]?=zY (k:Int)
structure Oy(D:DM)(d:PA):Prop where
 ok:D.Ok
 cols:Af0 D
 n:D.next.length=d.n
 st:∀q b:Nat,q<d.n->b<256->D0 D (q:Int) b=(d.st q b:Int)
 fi:∀q:Nat,q<d.n->KT D (q:Int)=d.fi q
def Oy.pa(h:Oy D d):JH (oD D) d:=
 ⟨h.n,λq b a c=>by rw[(HV h.ok).step _ _ c];exact h.st q b a c,λq a=>by rw[(HV h.ok).fin];exact h.fi q a⟩
def Wb{sets:List (BitVec 256)}{rows:List (List Nat)}{reps:List Int}{fl:List Bool}(b:∀row∈rows,row.length=(Am sets 256).1.length):Af0 ⟨U' (Am sets 256).2,reps,rows.map AK,fl⟩:=λr c k i=>by
 obtain⟨row,a,rfl⟩:=yQ.1 c;have e:(AK row).length=row.length:=by unfold AK;rw[k_]
 have⟨g,d⟩:=Ab (l:=(Am sets 256).1) (k:=k) (by rw[<-b row a];omega);have⟨f,h⟩:=(CP sets 256).first k g d
 exact⟨g,f,GX h⟩
def Oy.use(h:Oy D d)(z:d.Ok)(i:q<d.n):EC D.next D.final q↔d.Live q:=by constructor;{intro j;induction j with|@fin q hf=>refine .fin i ?_;rw[<-h.fi q i];simp[KT,hf]|@step q t row a m j ih=>have⟨k,y⟩:=xI m;have v:=(V_.1 y).1;have⟨g,w,r⟩:=h.cols row (e_ a) k v;have e:D0 D (q:Int) g=(t:Int):=EY a r y;rw[h.st q g i w]at e;have s:d.st q g=t:=zO;have o:=z.cl q g i w;rw[s]at o;exact .step (b:=g) i w (by rw[s];exact ih o)};{intro j;induction j with|@fin q hq' hf=>rw[<-h.fi q hq']at hf;have x:=h.ok.fl;have⟨f,p⟩:=Ab (l:=D.final) (k:=q) (by rw[x,h.n];exact hq');refine .fin ?_;rw[p];have:KT D (q:Int)=f:=by{simp[KT,p]};rw[<-this,hf]|@step q b hq' hb j ih=>have⟨row,a⟩:=Ab (l:=D.next) (k:=q) (by rw[h.n];exact hq');have⟨c,r⟩:=Ab (l:=D.cell) (k:=b) (by rw[h.ok.cell];exact hb);have⟨G,A,B⟩:=h.ok.rows row (e_ a);have⟨C,H⟩:=A c (e_ r);obtain⟨k,rfl⟩:=xK C;have⟨t,m⟩:=Ab (l:=row) (k:=k) zO;have⟨E,F⟩:=B t (e_ m);obtain⟨u,rfl⟩:=xK E;have e:D0 D (q:Int) b=(u:Int):=EY a r m;rw[h.st q b hq' hb]at e;have s:d.st q b=u:=zO;rw[s]at ih;exact .step a (e_ m) (ih (by rw[h.n]at F;omega))}
def AiZ{A B:DM}(l:A.Ok)(m:B.Ok):JG (Bm (oD A) (oD B)) ((0,0):Int×Int) (Lx (oD A) (oD B)) (C6 A++C6 B):=by have bA:=HV l;have f:=HV m;have sa:Iw (oD A):=HU bA;have sb:Iw (oD B):=HU f;have n:=sa.n1;have o:=sb.n1;refine⟨⟨⟨Int.le_refl _,zO⟩,Int.le_refl _,zO⟩,λx c e=>?_,λg c a b hs x e=>?_⟩;{unfold Bm;split;{rename_i h;have i:=sa.step x.1 c e.1 h;have j:=sb.step x.2 c e.2 h;exact⟨i,j⟩};{exact e}};{unfold Bm;rw[I_ a,I_ b,bA.step _ _ a,bA.step _ _ b,f.step _ _ a,f.step _ _ b];have i:=Nh (D:=A) a b (λd k=>(BG.1 hs d (yS _ k))) x.1;have j:=Nh (D:=B) a b (λd k=>(BG.1 hs d (wL _ k))) x.2;rw[i,j]}
def AjM{A B:DM}{j:PA}{a:Nat}{m:Int}{ends:Bool->Bool->Bool}(J:∀x y,HB a x y=ends x y)(p:Oy A i)(q:Oy B j)(t:i.Ok)(u:j.Ok)(h:O2 A B (oD A) (oD B) a m H v e):
  match xL m ends i j with
   | .error K=>e=K
   | .ok d=>e=0/\∃D,Fb (H_ H) H v D/\Oy D d:=by
 unfold O2 at h;unfold xL;by_cases C:m<1\/4096<m
 ·rw[I_ C]at h ⊢;exact h
 ·rw[G_ C]at h ⊢;have w:=AiZ p.ok q.ok;have g:1<=m.toNat:=zO
  have b:oV (oD A) (oD B) m.toNat=(CS m.toNat (Bm (oD A) (oD B)) (Kl A B) ((0,0):Int×Int)).map Prod.fst:=by
   rw[show Kl A B=(Am (C6 A++C6 B) 256).1 from rfl,w.detD g];rfl
  rw[<-WQ p.pa q.pa t u]at b;cases r:tA i j m.toNat with
  | none=>
    rw[r]at b;cases o:CS m.toNat (Bm (oD A) (oD B)) (Kl A B) ((0,0):Int×Int)with
    | none=>rw[o]at h;exact h
    | some z=>rw[o]at b;cases b
  | some F=>
    rw[r]at b;cases o:CS m.toNat (Bm (oD A) (oD B)) (Kl A B) ((0,0):Int×Int)with
    | none=>rw[o]at b;cases b
    | some z=>
      have⟨F',rows⟩:=z;rw[o]at b h;have E:F.map X7=F':=AkS.inj b;subst E;have⟨L,M⟩:=h;have⟨N,G,O⟩:=lA (fin:=λx:Int×Int=>HB a (Bk (oD A) x.1) (Bk (oD B) x.2)) w g zO o rfl;have⟨g1,g2,Q⟩:=KM (step:=Io i j) (start:=(0,0)) (most:=m.toNat) (F:=F) g r
      have s:∀x∈F,x.1<i.n/\x.2<j.n:=Wg (step:=Io i j) (start:=(0,0)) (most:=m.toNat) (P:=λx=>x.1<i.n/\x.2<j.n) g ⟨t.pos,u.pos⟩ (λx c k=>by
        unfold Io;split
        ·rename_i l;exact⟨t.cl _ _ k.1 l,u.cl _ _ k.2 l⟩
        ·exact k) r
      have I:=Mb (K':=Int×Int) (f:=X7) (step':=Bm (oD A) (oD B)) (fin':=λx:Int×Int=>HB a (Bk (oD A) x.1) (Bk (oD B) x.2)) (fin:=pO ends i j) g1 (λy _ z _ e=>by
        have E:(y.1:Int)=(z.1:Int):=congrArg Prod.fst e;have e2:(y.2:Int)=(z.2:Int):=congrArg Prod.snd e;exact Prod.ext zO zO) (λx k c l=>by
        unfold Io Bm;rw[I_ l,I_ l];exact Prod.ext (p.pa.st _ _ (s x k).1 l) (q.pa.st _ _ (s x k).2 l)) (λx k=>by
        show HB a (Bk (oD A) (x.1:Int)) (Bk (oD B) (x.2:Int))=ends (i.fi x.1) (j.fi x.2);rw[p.pa.fi _ (s x k).1,q.pa.fi _ (s x k).2,J]) G.st G.fi
      have l:=Wb (sets:=C6 A++C6 B) (rows:=rows) (reps:=U' (Kl A B)) (fl:=(F.map X7).map λx:Int×Int=>HB a (Bk (oD A) x.1) (Bk (oD B) x.2)) (RG w g o).1.cols;exact⟨L,_,M,N,l,by rw[O,k_];rfl,I.1,I.2⟩
def eX{S:Nat->Prop}(y:1<=b)(z:b<=4096)(A:∀k,S k->k<H.size)(h:rZ S H v a):
  Aj prog 39 #[v,A_ b] H λr H'=>C_ (H_ H) H H'/\∃l:List v_,l.length=259/\l.all (·.oneCell')=zW/\(∃x n c,l[257]?=zY (.slice x n c))/\match FF b a with
   | .error e=>r= .tuple #[.agg l.toArray,A_ e]
   | .ok d=>r= .tuple #[.agg l.toArray,A_ 0]/\∃D,Fb (C8 H H') H' (.agg l.toArray) D/\Oy D d:=by
 have B:FF b a=match FQ a b with
   | .error e=>.error e
   | .ok F=>.ok (uF (Be a) (λX=>zT (a.fin∈X)) F):=rfl
 rw[B];{obtain⟨m,rfl⟩:=xK (zO:0<=b);rw[NM zO zO];refine(aO A h (budget:=m) zO zO).mono λr H' ⟨C,i⟩=>⟨C,?_⟩;have g:=AiO a (most:=m) zO;cases j:CS m (Be a) (Pz a) (HQ a)with|none=>rw[j]at i g;rw[<-g];have⟨l,E,G,I,J⟩:=i;exact⟨l,G,I,J,E⟩|some q=>have⟨F,rows⟩:=q;rw[j]at i g;rw[<-g];obtain⟨w,rfl,p⟩:=i;have⟨K,s,L⟩:=AiG zO zO j rfl;have⟨M,O⟩:=Lp zO j;have N:=Wb (sets:=EX a) (rows:=rows) (reps:=U' (Pz a)) (fl:=F.map λl=>zT (a.fin∈l)) M.cols;have⟨g1,g2,P⟩:=KM (step:=Be a) (start:=HQ a) (most:=m) (F:=F) zO (by{have:JN a m=zY F:=g.symm;exact this});have t:=Mb (K':=List Int) (f:=id) (step':=Be a) (fin':=λX=>zT (a.fin∈X)) (fin:=λX=>zT (a.fin∈X)) g1 (λ_ _ _ _ e=>e) (λ_ _ _ _=>rfl) (λ_ _=>rfl) (s1:=D0 _) (f1:=KT _) (by rw[oO];exact s.st) (by rw[oO];exact s.fi);have o:=p;obtain⟨u,ra,rc,na,nc,fa,fc,rfl,-,-,-⟩:=o;exact⟨_,Aq u,Bb rfl rfl rfl,⟨_,_,_,Do u⟩,rfl,_,p,K,N,L,t.1,t.2⟩}
end
section
attribute [local irreducible] Bt AH Am
end
section
attribute [local irreducible] Bt AH Am Du
def GS(d:PA)(reps:List Nat)(q j t:Nat):List Nat:=((AjH q).flatMap λp=>(reps.filter λr=>d.st p r==t).map λ_=>p)++((reps.take j).filter λr=>d.st q r==t).map λ_=>q
def yM(l:List Nat):List Int:=l.map fun(p:Nat)=>(p:Int)
def KV(d:PA)(reps:List Nat)(q j:Nat):List (List Int):=(AjH d.n).map λt=>yM (GS d reps q j t)
section
variable{d:PA}{reps:List Nat}{q j t:Nat}
def UF{r:Nat}(h:reps[j]?=zY r):GS d reps q (j+1) t=GS d reps q j t++if d.st q r=t then [q]else []:=by unfold GS;rw[Ac h,vM,xF,zN];congr 2;by_cases e:d.st q r=t<;>simp[e]
def UG(h:reps.length<=j):GS d reps q j t=GS d reps (q+1) 0 t:=by unfold GS;rw[uL h,wG,sB];simp
def Qi(a:reps.length<=256):(GS d reps q j t).length<=q*256+256:=by have b:∀p,((reps.filter λr=>d.st p r==t).map λ_=>p).length<=256:=λp=>by{rw[k_];exact yV (uG _ _) a};have c:∀q,((AjH q).flatMap λp=>(reps.filter λr=>d.st p r==t).map λ_=>p).length<=q*256:=λq=>by{induction q with|zero=>simp|succ q e=>rw[wG,sB,M_];have:=b q;simp only[List.flatMap_cons,List.flatMap_nil,yX];omega};unfold GS;rw[M_,k_];have f:=c q;have g:=uG (λr=>d.st q r==t) (reps.take j);have h:=List.length_take_le' j reps;omega
def TK{p:Nat}:p∈GS d reps q 0 t↔p<q/\∃r∈reps,d.st p r=t:=by unfold GS;simp only[vQ,List.filter_nil,List.map_nil,yX,List.mem_flatMap,yG,yQ,yH,beq_iff_eq];constructor;{rintro⟨c,a,r,⟨b,h⟩,rfl⟩;exact⟨a,r,b,h⟩};{rintro⟨a,r,b,h⟩;exact⟨p,a,r,⟨b,h⟩,rfl⟩}
def Kt:(KV d reps q j).length=d.n:=by simp[KV]
def Mt(h:t<d.n):(KV d reps q j)[t]?=zY (yM (GS d reps q j t)):=by unfold KV;rw[I',wS h];rfl
def fJ{r:Nat}(h:reps[j]?=zY r)(b:d.st q r<d.n):(KV d reps q j).set (d.st q r) (yM (GS d reps q j (d.st q r))++[(q:Int)])=KV d reps q (j+1):=by apply yW;intro i;by_cases a:i<d.n;{rw[xV,Mt a,Mt a,Kt,UF h];by_cases e:d.st q r=i;{subst e;rw[I_ rfl,I_ a,I_ rfl];unfold yM;rw[xF];rfl};{rw[G_ e,G_ e,yX]}};{rw[zE (by rw[yF,Kt];omega),zE (by rw[Kt];omega)]}
def Yh(h:reps.length<=j):KV d reps q j=KV d reps (q+1) 0:=by unfold KV;refine uU λt _=>?_;rw[UG h]
def Yi:KV d reps 0 0=Aj1 d.n []:=by unfold KV;rw[oM];refine⟨zZ,λb a=>?_⟩;obtain⟨i,-,rfl⟩:=yQ.1 a;rfl
def KU(d:PA)(k:Nat):List Bool:=(AjH d.n).map λi=>zT (i<k)&&d.fi i
def JF(d:PA)(k:Nat):List Int:=yM ((AjH k).filter d.fi)
def HC{k:Nat}:(KU d k).length=d.n:=by simp[KU]
def X4:KU d 0=Aj1 d.n zU:=by unfold KU;rw[oM];refine⟨zZ,λb a=>?_⟩;obtain⟨i,-,rfl⟩:=yQ.1 a;simp
def IF{k i:Nat}(h:i<d.n):(KU d k)[i]?=zY (zT (i<k)&&d.fi i):=by unfold KU;rw[I',wS h];rfl
def Zr{k:Nat}(h:k<d.n)(c:d.fi k=zW):(KU d k).set k zW=KU d (k+1):=by apply yW;intro i;by_cases a:i<d.n;{rw[xV,IF a,IF a,HC];by_cases e:k=i;{subst e;rw[I_ rfl,I_ a,c];simp};{rw[G_ e];by_cases b:i<k;{simp[b,(zO:i<k+1)]};{simp[b,show¬i<k+1 by omega]}}};{rw[zE (by rw[yF,HC];omega),zE (by rw[HC];omega)]}
def X3{k:Nat}(b:d.fi k=zU):KU d k=KU d (k+1):=by unfold KU;refine uU λi _=>?_;by_cases e:i=k;{subst e;simp[b]};{by_cases a:i<k;{simp[a,(zO:i<k+1)]};{simp[a,show¬i<k+1 by omega]}}
def QW{k:Nat}(a:d.fi k=zW):JF d (k+1)=JF d k++[(k:Int)]:=by unfold JF yM;rw[wG,vM,xF];simp[a]
def QX{k:Nat}(a:d.fi k=zU):JF d (k+1)=JF d k:=by unfold JF yM;rw[wG,vM,xF];simp[a]
def fP(k:Nat):(JF d k).length<=k:=by unfold JF yM;rw[k_];have:=uG d.fi (AjH k);rwa [rK]at this
def Ag2(d:PA)(p t:Nat):Prop:=∃b,b<256/\d.st p b=t
structure UsI(d:PA)(Ex:Nat->Prop)(outs:List Bool)(todo:List Int):Prop where
 len:outs.length=d.n
 td:∀x∈todo,∃q:Nat,x=(q:Int)/\outs[q]?=zY zW
 live:∀q:Nat,outs[q]?=zY zW->d.Live q
 fin:∀q:Nat,q<d.n->d.fi q=zW->outs[q]?=zY zW
 cl:∀q:Nat,outs[q]?=zY zW->(q:Int)∈todo\/Ex q\/∀p:Nat,p<d.n->Ag2 d p q->outs[p]?=zY zW
 room:todo.length+outs.count zU<=d.n
def UsI.start(d:PA):UsI d (λ_=>False) (KU d d.n) (JF d d.n):=by refine⟨HC,λx g=>?_,λq a=>?_,λq a j=>?_,λq a=>?_,?_⟩;{unfold JF yM at g;obtain⟨p,k,rfl⟩:=yQ.1 g;have⟨c,m⟩:=yH.1 k;have c:=yG.1 c;exact⟨p,rfl,by rw[IF c];simp[c,m]⟩};{have b:=(V_.1 a).1;rw[HC]at b;rw[IF b]at a;simp[b]at a;exact .fin b a};{rw[IF a];simp[a,j]};{have b:=(V_.1 a).1;rw[HC]at b;rw[IF b]at a;simp[b]at a;refine .inl ?_;unfold JF yM;exact yQ.2 ⟨q,yH.2 ⟨yG.2 b,a⟩,rfl⟩};{have f:∀l:List Nat,(l.filter d.fi).length+(l.map λi=>d.fi i).count zU=l.length:=by{intro l;induction l with|nil=>rfl|cons i l r=>cases h:d.fi i<;>simp[h]<;>omega};have e:KU d d.n=(AjH d.n).map λi=>d.fi i:=by{unfold KU;refine uU λi o=>?_;simp[yG.1 o]};have:=f (AjH d.n);rw[rK]at this;rw[e];unfold JF yM;rw[k_];omega}
section
variable{a:List Bool}
def UsI.pop{q:Nat}{todo:List Int}(h:UsI d (λ_=>False) a ((q:Int)::todo)):UsI d (·=q) a todo:=by refine⟨h.len,λx c=>h.td x (List.mem_cons_of_mem _ c),h.live,h.fin,λp e=>?_,by have:=h.room;simp only[c_]at this;omega⟩;rcases h.cl p e with b | b | b;{rcases xU.1 b with b | b;{exact .inr (.inl zO)};{exact .inl b}};{exact b.elim};{exact .inr (.inr b)}
def Qn{p:Nat}(c:a[p]?=zY zU):(a.set p zW).count zU+1=a.count zU:=by induction a generalizing p with|nil=>cases c|cons b l d=>{cases p with|zero=>cases c;simp|succ p=>have:=d (p:=p) c;cases b<;>simp<;>omega}
def Ko{p q:Nat}(h:a[q]?=zY zW):(a.set p zW)[q]?=zY zW:=by rw[xV];split;{rename_i e;subst e;rw[I_ (V_.1 h).1]};{exact h}
end
def UsI.push{Ex:Nat->Prop}{a:List Bool}{p q:Nat}{todo:List Int}(h:UsI d Ex a todo)(o:a[p]?=zY zU)(r:a[q]?=zY zW)(j:Ag2 d p q):UsI d Ex (a.set p zW) (todo++[(p:Int)]):=by
 have g:=(V_.1 o).1;have k:p<d.n:=by rw[<-h.len];exact g
 have f:(a.set p zW)[p]?=zY zW:=by rw[xV,I_ rfl,I_ g]
 refine⟨by rw[yF];exact h.len,λx c=>?_,λx c=>?_,λx c s=>Ko (h.fin x c s),λx c=>?_,?_⟩;{rcases X'.1 c with c | c;{have⟨y,e,l⟩:=h.td x c;exact⟨y,e,Ko l⟩};{exact⟨p,g_.1 c,f⟩}};{rw[xV]at c;split at c;{rename_i e;subst e;have⟨b,t,e⟩:=j;exact .step k t (by rw[e];exact h.live q r)};{exact h.live x c}};{by_cases e:p=x;{subst e;exact .inl (wL _ (g_.2 rfl))};{rw[xV,G_ e]at c;rcases h.cl x c with i | i | i;{exact .inl (yS _ i)};{exact .inr (.inl i)};{exact .inr (.inr λy l m=>Ko (i y l m))}}};{have:=h.room;have:=Qn o;rw[M_,i_];omega}
def UsI.shut{a:List Bool}{q:Nat}{todo:List Int}(h:UsI d (·=q) a todo)(hs:∀p:Nat,p<d.n->Ag2 d p q->a[p]?=zY zW):UsI d (λ_=>False) a todo:=by refine⟨h.len,h.td,h.live,h.fin,λx c=>?_,h.room⟩;rcases h.cl x c with b | b | b;{exact .inl b};{subst b;exact .inr (.inr hs)};{exact .inr (.inr b)}
noncomputable def Kx(d:PA):List Bool:=(AjH d.n).map d.use
def Ky:(Kx d).length=d.n:=by simp[Kx]
def FD{q:Nat}(h:q<d.n):(Kx d)[q]?=zY (d.use q):=by unfold Kx;rw[I',wS h];rfl
def UsI.done{a:List Bool}(h:UsI d (λ_=>False) a []):a=Kx d:=by have f:∀q:Nat,d.Live q->a[q]?=zY zW:=by{intro q e;induction e with|fin g i=>exact h.fin _ g i|@step q b g i h3 ih=>{rcases h.cl _ ih with c | c | c;{cases c};{exact c.elim};{exact c _ g ⟨b,i,rfl⟩}}};apply yW;intro q;by_cases e:q<d.n;{rw[FD e];have⟨b,j⟩:=Ab (l:=a) (k:=q) (by rw[h.len];exact e);rw[j];congr 1;cases b with|true=>exact(PA.use_iff.2 (h.live q j)).symm|false=>{cases m:d.use q with|false=>rfl|true=>have:=f q (PA.use_iff.1 m);rw[j]at this;cases this}};{rw[zE (by rw[h.len];omega),zE (by rw[Ky];omega)]}
end
def gQ(r:Cw o)(f:JH o d){b:Nat}(m:q<d.n)(g:b<256):∃(k c:Nat) (s:BitVec 256),(A8 o)[k]?=zY s/\(Ca (A8 o))[k]?=zY c/\s.getLsbD b=zW/\d.st q c=d.st q b:=by have⟨v,h⟩:=r.ok;obtain⟨k,s,e,a,-⟩:=h.part b g;obtain⟨l,t,-,i,-⟩:=h.least _ s e;have j:=(h.keeps _ s l b e t g a).2 (q:Int) zO (by rw[f.n];omega);refine⟨k,(Bu s 0).1,s,e,by unfold Ca;rw[I',e];rfl,a,?_⟩;have p:=f.st q (Bu s 0).1 m (Et s 0);have u:=f.st q b m g;rw[i]at p ⊢;rw[p,u]at j;omega
def VW{cells:List (BitVec 256)}:∀b∈Ca cells,b<256:=λb a=>by
 unfold Ca at a;obtain⟨c,-,rfl⟩:=yQ.1 a;exact Et c 0
def SW(cells:List (BitVec 256)):(Ca cells).length=cells.length:=by unfold Ca;rw[k_]
def cC{S:Nat->Prop}{va:v_}{ra:Option Addr}{rc:Nat}(hS:∀k,S k->k<H.size)(Y:Bi S H va o)(hm:Cw o)(hd:JH o d)(bg:d.Ok)(hr:b_ (HT .u8) S H ra rc (yM (Ca (A8 o)))):
  Aj prog 213 #[va,.slice ra (Ca (A8 o)).length rc] H λr H'=>C_ (H_ H) H H'/\X_ AI none_ H' H.size 4 r (Kx d):=by
 have hs:=hm.steps;have h1:=hs.n1;have h2:=hs.n2;have Z:(Ca (A8 o)).length<=256:=by rw[SW];exact LK Y
 have K:=VW (cells:=A8 o);have V:=fun{q b:Nat} (hq:q<d.n) (hb:b<256)=>gQ hm hd hq hb;generalize Ca (A8 o)=reps at hr Z K V ⊢;have a6:=hd.n;rw[a6]at h1 h2;have a7:∀{G:Aa} {ps:List Pc},St H G ps->Bi S G va o:=λst=>Y.frame (st.old.mono hS);refine Aj.of_vc func213 rfl (call213 _) (Al (DB Y) λH2 bh=>?_);have ab:=(St.nil H).call bh;rw[a6];refine EQ Dt rfl zO zO zO zO ?_;intro nb H3 bi bj ae bm;rw[zB]at ae ⊢;have a0:=ab.tabNew tI 3 bi bj ae bm;rw[<-Yi (reps:=reps)]at a0;(conv=>whnf);refine Ay.mk [22] (λq:Nat=>[A_ q]) (λq G=>q<=d.n/\∃vs,St H G [pT tI 3 41 nb vs (KV d reps q 0)]) (λq _=>d.n-q) ?_ ?_
 ·(conv=>whnf);exact⟨0,rfl,q_ _,_,a0⟩
 ·clear a0 ab;rintro q H6 bn ⟨hq,vs,U⟩;refine AD.m2 (λhz=>?_) (λhz=>?_)
  ·have ag:q<d.n:=zO
   (conv=>whnf);refine Ay.mk [27] (λj:Nat=>[A_ j]) (λj G=>j<=reps.length/\∃vs,St H G [pT tI 3 41 nb vs (KV d reps q j)]) (λj _=>reps.length-j) ?_ ?_
   ·(conv=>whnf);exact⟨0,rfl,q_ _,_,U⟩
   ·clear U;rintro j H7 bo ⟨hj,ah,z⟩;refine AD.m2 (λa1=>?_) (λa1=>?_)
    ·have⟨c,hc⟩:=Ab (l:=reps) (k:=j) zO;have a2:=K c (e_ hc);have ai:=bg.cl q c ag a2;refine EK (i:=j) (x:=(c:Int)) QL (hr.frame (z.old.mono hS)) (by unfold yM;rw[k_]) (by unfold yM;rw[I',hc];rfl) rfl ?_;rintro b8 o8 c8 cx bp ⟨rfl,cy⟩;refine D_ uX bp.one zA (Al (LC (λk hk=>z.up (hS k hk)) (a7 z) a2) λH8 bq=>?_);have A:=z.call bq;rw[hd.st q c ag a2];have B:=Mt (reps:=reps) (q:=q) (j:=j) ai;have aj:=Qi (d:=d) (q:=q) (j:=j) (t:=d.st q c) Z;obtain⟨wa,wc,L,-⟩:=A.row 0 rfl B;have ak:ah.length=d.n:=by rw[(A.tab 0 rfl).len,Kt]
     refine ix Dt zO zO (D_ C9 (A.tcell 0 rfl L (by rw[K_,zG,zB])) zA (As AB [A_ q] rfl rfl zQ zQ ?_));intro br H12 M am N O;have P:=A.skip M O;refine mW P 0 AB rfl L B N ⟨rfl,HF ⟨zO,zO⟩⟩ rfl (by unfold yM;rw[k_];omega) zQ λcz d0 H13 mid=>?_;refine ix Dt zO zO (oW mid C9 (by rw[K_,zG,zB]) λH14 F=>?_);(conv=>whnf);rw[Q_ j zO];rw[fJ hc ai]at F;exact⟨rfl,j+1,rfl,⟨zO,_,F⟩,zO⟩
    ·obtain rfl:j=reps.length:=zO
     rw[Yh (N_ _)]at z;(conv=>whnf);rw[Q_ q zO];exact⟨rfl,q+1,rfl,⟨zO,ah,z⟩,zO⟩
  ·obtain rfl:q=d.n:=zO
   refine EQ C7 rfl zO zO zO zO ?_;intro fb H7 bu bv ao bw;rw[zB]at ao ⊢;have bx:AI.reps none_ H7 (Aj1 d.n (Value.bool zU)) (Aj1 d.n zU):=by
    have:=M3 (S:=none_) (H:=H7) (Aj1 d.n zU);rwa [List.map_replicate]at this
   have z:=((U.new (T:=AI) (n:=d.n) (xs:=Aj1 d.n zU) bu bv (by simpa using ao) bw bx zZ (by unfold maxLen;omega)).nils a_ 3);rw[<-X4]at z;clear U;(conv=>whnf);refine Ay.mk [12,50] (λx:Nat×Option Addr×Nat=>match x with | (k,a,c)=>[.slice a (JF d k).length c,A_ k]) (λx G=>match x with | (k,a,c)=>k<=d.n/\St H G [pT tI 3 41 nb vs (KV d reps d.n 0),pS AI 4 (T_ fb) d.n d.n (KU d k),pS a_ 3 a (JF d k).length c (JF d k)]) (λx _=>d.n-x.1) ?_ ?_
   ·(conv=>whnf);exact⟨(0,zV,0),rfl,q_ _,z⟩
   ·clear z;rintro⟨k,a8,c8⟩ H8 bz ⟨hk,A⟩;refine AD.m2 (λhz=>?_) (λhz=>?_)
    ·have ap:k<d.n:=zO
     refine Au.run (Al (Jd (a7 A)) λH9 c1=>?_);have w:=A.call c1;rw[hd.fi k ap];cases hf:d.fi k with
     | true=>
       refine ix C7 zO zO ?_;refine IS (j:=k) (x:=zW) w 1 M' rfl rfl zO (by rw[HC];omega) rfl (λH' _=>rfl) λH10 g=>?_;rw[Zr ap hf]at g;refine As AB [A_ k] rfl rfl zQ zQ ?_;intro br H12 M am N O;have P:=g.skip M O;have ak:=fP (d:=d) k;refine GI (x:=(k:Int)) P 2 AB rfl N ⟨rfl,HF ⟨zO,zO⟩⟩ rfl zO zQ λc2 aq H13 W _=>?_;(conv=>whnf);rw[Q_ k zO];have el:(JF d k).length+1=(JF d (k+1)).length:=by rw[QW hf];simp
       rw[el,<-QW hf]at W;exact⟨rfl,(k+1,c2,aq),by rw[el];rfl,⟨zO,W⟩,by simp only;omega⟩
     | false=>
       (conv=>whnf);rw[Q_ k zO];rw[X3 hf,<-QX hf]at w;exact⟨rfl,(k+1,a8,c8),by rw[<-QX hf];rfl,⟨zO,w⟩,by simp only;omega⟩
    ·obtain rfl:k=d.n:=zO
     have w:=A.toQ 2 rfl;clear A;(conv=>whnf);refine Ay.mk [12] (λx:List Bool×List Int×Option Addr×Nat=>match x with | (_,todo,a,c)=>[.slice a todo.length c]) (λx G=>match x with | (m,todo,a,c)=>UsI d (λ_=>False) m todo/\St H G [pT tI 3 41 nb vs (KV d reps d.n 0),pS AI 4 (T_ fb) d.n d.n m,pQ a_ 3 a todo.length c todo]) (λx _=>x.2.1.length+2*x.1.count zU) ?_ ?_
     ·(conv=>whnf);exact⟨(KU d d.n,JF d d.n,a8,c8),rfl,UsI.start d,w⟩
     ·clear w;rintro⟨m,todo,a9,c9⟩ H9 c3 ⟨hI,w⟩;refine AD.m2 (λhz=>?_) (λhz=>?_)
      ·cases todo with
       | nil=>simp at hz
       | cons x todo=>
       obtain⟨q,rfl,ar⟩:=hI.td x zZ;have c4:q<d.n:=by have:=(V_.1 ar).1;rwa [hI.len]at this
       obtain⟨-,c5⟩:=w.qview 2 rfl;refine Y' (i:=0) (x:=(q:Int)) AB c5 rfl rfl ?_;rintro d1 d2 au cr aw ⟨rfl,-⟩;refine D_ E_ aw.one zA (mY w 2 AB rfl λc6 au g=>?_);have B:=Mt (reps:=reps) (q:=d.n) (j:=0) c4;have aj:=Qi (d:=d) (q:=d.n) (j:=0) (t:=q) Z;have⟨wa,wc,L,d3⟩:=g.row 0 rfl B;have ak:vs.length=d.n:=by rw[(g.tab 0 rfl).len,Kt]
       refine ix Dt zO zO (D_ C9 (g.tcell 0 rfl L (by rw[K_,zG,zB])) zA ?_);obtain⟨row,Q⟩:∃row,row=GS d reps d.n 0 q:=⟨_,rfl⟩;have ax:(yM (GS d reps d.n 0 q)).length=row.length:=by unfold yM;rw[k_,Q]
       rw[ax];have d4:row.length<=d.n*256+256:=by rw[Q];exact aj
       have hM:todo.length+2*m.count zU<((q:Int)::todo).length+2*m.count zU:=by simp only[c_];omega
       (conv=>whnf);refine Ay.mk [12,77] (λx:Nat×List Bool×List Int×Option Addr×Nat=>match x with | (k,_,todo,a,c)=>[.slice a todo.length c,A_ k]) (λx G=>match x with | (k,outs',todo',a,c)=>k<=row.length/\UsI d (·=q) outs' todo'/\outs'[q]?=zY zW/\(∀R p:Nat,R<k->row[R]?=zY p->outs'[p]?=zY zW)/\todo'.length+2*outs'.count zU<=todo.length+2*m.count zU/\St H G [pT tI 3 41 nb vs (KV d reps d.n 0),pS AI 4 (T_ fb) d.n d.n outs',pQ a_ 3 a todo'.length c todo']) (λx _=>row.length-x.1) ?_ ?_
       ·(conv=>whnf);exact⟨(0,m,todo,c6,au),rfl,q_ _,hI.pop,ar,λR p h=>absurd h zO,N_ _,g⟩
       ·clear w g;rintro⟨k,y,f,ay,az⟩ H11 bf ⟨hk,J,a3,D,b0,C⟩;have c7:f.length+2*y.count zU<((q:Int)::todo).length+2*m.count zU:=Nat.lt_of_le_of_lt b0 hM;refine AD.m2 (λa1=>?_) (λa1=>?_)
        ·have⟨p,hp⟩:=Ab (l:=row) (k:=k) zO;have a4:p∈GS d reps d.n 0 q:=by rw[<-Q];exact e_ hp
         have⟨cd,r,ce,cg⟩:=TK.1 a4;have⟨d5,d6,I,b4⟩:=C.row 0 rfl B;rw[L]at I;injection I with I
         injection I with e1 _ e2
         subst e1;subst e2;refine Au.run ?_;refine EK (i:=k) (x:=(p:Int)) AB b4 ax.symm (by rw[<-Q];unfold yM;rw[I',hp];rfl) rfl ?_;rintro d7 d8 d9 ct b5 ⟨rfl,-⟩;refine lT E_ b5.one ?_;have⟨u,hu⟩:=Ab (l:=y) (k:=p) (by rw[J.len];exact cd);refine zK (j:=p) C7 C 1 rfl hu rfl ?_;rintro da db aq cu b6 rfl;refine lT M' b6.one ?_;cases u with
         | false=>
           refine ix C7 zO zO ?_;refine IS (j:=p) (x:=zW) C 1 M' rfl rfl zO (by rw[J.len];omega) rfl (λH' _=>rfl) λH14 F=>?_;refine As AB [A_ p] rfl rfl zQ zQ ?_;intro dc H15 b7 cw b9 bd;have be:=F.skip b7 bd;have ch:=J.room;refine mV (ys:=[(p:Int)]) (ds:=[A_ p]) be 2 AB rfl (b9.cells λj v hv=>by rw[K_];exact hv) (Ty.reps_one ⟨rfl,HF ⟨zO,zO⟩⟩) rfl (by simp[Value.oneCell']) (by simp only[i_,maxLen];omega) (by simp only[i_];omega) λci cj H16 X _=>?_;(conv=>whnf);rw[Q_ k zO];have de:=Qn hu;have ck:=J.push hu a3 ⟨r,K r ce,cg⟩;have el:f.length+[(p:Int)].length=(f++[(p:Int)]).length:=zZ
           rw[el]at X;refine⟨rfl,(k+1,y.set p zW,f++[(p:Int)],ci,cj),by rw[el];rfl,⟨zO,ck,Ko a3,λR p' cm E=>?_,by rw[<-el];simp only[i_];omega,X⟩,by simp only;omega⟩;by_cases e:R=k
           ·subst e;rw[hp]at E;cases E;rw[xV,I_ rfl,I_ (V_.1 hu).1]
           ·exact Ko (D R p' zO E)
         | true=>
           (conv=>whnf);rw[Q_ k zO];refine⟨rfl,(k+1,y,f,ay,az),rfl,⟨zO,J,a3,λR p' cm E=>?_,b0,C⟩,by simp only;omega⟩;by_cases e:R=k
           ·subst e;rw[hp]at E;cases E;exact hu
           ·exact D R p' zO E
        ·obtain rfl:k=row.length:=zO
         (conv=>whnf);refine⟨rfl,(y,f,ay,az),rfl,⟨J.shut λp hp co=>?_,C⟩,c7⟩;have⟨b,hb,e⟩:=co;obtain⟨R,c,s,-,cp,-,cq⟩:=V hp hb;have a4:p∈row:=by rw[Q];exact TK.2 ⟨hp,c,e_ cp,cq.trans e⟩
         have⟨i,hi⟩:=xI a4;exact D i p (V_.1 hi).1 hi
      ·have:todo=[]:=by
        cases todo with
        | nil=>rfl
        | cons x t=>simp only[c_]at hz;omega
       subst this;have a5:=hI.done;subst a5;(conv=>whnf);have:=St.own w 1 rfl;rw[<-Ky (d:=d)]at this;exact⟨w.old,by rw[<-Ky (d:=d)];exact this⟩
noncomputable def Mi(d:PA)(k:Nat):List Int:=(AjH d.n).map λi=>if i<k/\d.use i=zW then(d.place i:Int)else 0
def Kw(d:PA)(cells:List (BitVec 256))(reps:List Nat)(q k t:Nat):BitVec 256:=(AjH k).foldl (λacc i=>if d.st q (reps.getD i 0)=t then acc ||| cells.getD i 0#256 else acc) 0#256
def PO(d:PA)(cells:List (BitVec 256))(reps:List Nat)(q k:Nat):List (BitVec 256):=(AjH d.n).map λt=>Kw d cells reps q k t
def Mj:(Mi d k).length=d.n:=by simp[Mi]
def XO:Mi d 0=Aj1 d.n 0:=by unfold Mi;rw[oM];refine⟨zZ,λb a=>?_⟩;obtain⟨i,-,rfl⟩:=yQ.1 a;simp
def Pt{i:Nat}(h:i<d.n):(Mi d k)[i]?=zY (if i<k/\d.use i=zW then(d.place i:Int)else 0):=by unfold Mi;rw[I',wS h];rfl
def gK(h:k<d.n)(c:d.use k=zW):(Mi d k).set k (d.place k:Int)=Mi d (k+1):=by apply yW;intro i;by_cases b:i<d.n;{rw[xV,Pt b,Pt b,Mj];by_cases e:k=i;{subst e;rw[I_ rfl,I_ b,I_ ⟨zO,c⟩]};{rw[G_ e];congr 1;by_cases a:i<k/\d.use i=zW;{rw[I_ a,I_ ⟨zO,a.2⟩]};{rw[G_ a,G_ (λf=>a ⟨zO,f.2⟩)]}}};{rw[zE (by rw[yF,Mj];omega),zE (by rw[Mj];omega)]}
def XN(b:d.use k=zU):Mi d k=Mi d (k+1):=by unfold Mi;refine uU λi _=>?_;by_cases e:i=k;{subst e;rw[G_ (by simp[b]),G_ (by simp[b])]};{by_cases a:i<k/\d.use i=zW;{rw[I_ a,I_ ⟨zO,a.2⟩]};{rw[G_ a,G_ (λc=>a ⟨zO,c.2⟩)]}}
def Ps{i:Nat}(h:i<d.n)(a:d.use i=zW):(Mi d d.n)[i]?=zY (d.place i:Int):=by rw[Pt h,I_ ⟨h,a⟩]
section
variable{cells:List (BitVec 256)}{reps:List Nat}
def Kv:(PO d cells reps q k).length=d.n:=by simp[PO]
def Yk:PO d cells reps q 0=Aj1 d.n 0#256:=by unfold PO;rw[oM];refine⟨zZ,λb a=>?_⟩;obtain⟨i,-,rfl⟩:=yQ.1 a;rfl
def Mv{i:Nat}(h:i<d.n):(PO d cells reps q k)[i]?=zY (Kw d cells reps q k i):=by unfold PO;rw[I',wS h];rfl
def Yl{c:Nat}{s:BitVec 256}(a:reps[k]?=zY c)(hs:cells[k]?=zY s):Kw d cells reps q (k+1) t=if d.st q c=t then Kw d cells reps q k t ||| s else Kw d cells reps q k t:=by unfold Kw;rw[wG,xP];simp only[wU,List.foldl_nil,xE,a,hs,Option.getD_some]
def fR{c:Nat}{s:BitVec 256}(b:reps[k]?=zY c)(hs:cells[k]?=zY s)(f:d.st q c<d.n):(PO d cells reps q k).set (d.st q c) (Kw d cells reps q k (d.st q c) ||| s)=PO d cells reps q (k+1):=by apply yW;intro i;by_cases a:i<d.n;{rw[xV,Mv a,Mv a,Kv,Yl b hs];by_cases e:d.st q c=i;{subst e;rw[I_ rfl,I_ a,I_ rfl]};{rw[G_ e,G_ e]}};{rw[zE (by rw[yF,Kv];omega),zE (by rw[Kv];omega)]}
def fS{b:Nat}:(Kw d cells reps q k t).getLsbD b=zW↔∃i,i<k/\d.st q (reps.getD i 0)=t/\(cells.getD i 0#256).getLsbD b=zW:=by induction k with|zero=>simp[Kw]|succ k g=>have e:Kw d cells reps q (k+1) t=if d.st q (reps.getD k 0)=t then Kw d cells reps q k t ||| cells.getD k 0#256 else Kw d cells reps q k t:=by{unfold Kw;rw[wG,xP];rfl};rw[e];by_cases h:d.st q (reps.getD k 0)=t;{rw[I_ h,BitVec.getLsbD_or,Bool.or_eq_true,g];constructor;{rintro(⟨i,c,a⟩ | c);{exact⟨i,zO,a⟩};{exact⟨k,zO,h,c⟩}};{rintro⟨i,c,a,f⟩;by_cases e:i=k;{subst e;exact .inr f};{exact .inl ⟨i,zO,a,f⟩}}};{rw[G_ h,g];constructor;{rintro⟨i,c,a⟩;exact⟨i,zO,a⟩};{rintro⟨i,c,a,f⟩;by_cases e:i=k;{subst e;exact absurd a h};{exact⟨i,zO,a,f⟩}}}
end
def fT(v:Cw o)(j:JH o d)(r:q<d.n):Kw d (A8 o) (Ca (A8 o)) q (A8 o).length t=d.set q t:=by have⟨x,k⟩:=v.ok;have c:∀(i:Nat) (s:BitVec 256) (b:Nat),(A8 o)[i]?=zY s->b<256->s.getLsbD b=zW->d.st q ((Ca (A8 o)).getD i 0)=d.st q b:=by{intro i s b hs f a;obtain⟨l,w,-,m,-⟩:=k.least _ s hs;have p:=(k.keeps _ s l b hs w f a).2 (q:Int) zO (by rw[j.n];omega);have e:(Ca (A8 o)).getD i 0=(Bu s 0).1:=by{unfold Ca;rw[xE,I',hs];rfl};have h:=j.st q (Bu s 0).1 r (Et s 0);have g:=j.st q b r f;rw[e];rw[m]at h ⊢;rw[h,g]at p;omega};refine tH λb f=>?_;rw[qH,fS,PA.set_bit];constructor;{rintro⟨i,h,g,u⟩;have⟨s,hs⟩:=Ab h;rw[xE,hs]at u;exact⟨f,by rw[<-c i s b hs f u];exact g⟩};{rintro⟨-,g⟩;obtain⟨i,s,hs,a,-⟩:=k.part b f;exact⟨i,(V_.1 hs).1,by rw[c i s b hs f a];exact g,by rw[xE,hs];exact a⟩}
def Fi:d.hopsTo q (t+1)=d.hopsTo q t++if(d.use t&&(d.set q t != 0#256))=zW then [Cy (d.place q) (d.place t) (d.set q t)]else []:=by unfold PA.hopsTo;rw[wG,List.filterMap_append];congr 1;by_cases h:(d.use t&&(d.set q t != 0#256))=zW;{simp only[oN,iY,I_ h]};{simp only[oN,iY,G_ h]}
def E4:d.edgesTo (q+1)=d.edgesTo q++if d.use q=zW then d.hopsTo q d.n++d.endE q else []:=by unfold PA.edgesTo;rw[wG,sB];simp
def Q4{n:Nat}{i:Nat}(h:(Aj1 n (Value.int .i64 0))[i]?=zY v):v= .int .i64 0:=by rw[vK]at h;split at h;{exact(AkS.inj h).symm};{cases h}
noncomputable abbrev rR(y x pb:Nat)(ca:Option Addr)(cc:Nat)(a4:Option Addr)(c4:Nat)(ua:Option Addr)(uc:Nat)(o:Option AM)(d:PA)(ea:Option Addr)(ec:Nat)(es:List t_)(rest:List Pc):List Pc:=pB 76 y [A_ 0,A_ 0,A_ 0,.slice zV 0 0]::pS CU 101 ca (A8 o).length cc (A8 o)::pS (HT .u8) 5 a4 (yM (Ca (A8 o))).length c4 (yM (Ca (A8 o)))::pS AI 4 ua d.n uc (Kx d)::pS tI 3 (T_ pb) d.n d.n (Mi d d.n)::pB 76 x [A_ ((d.count:Int)+1),A_ 0,A_ (d.count:Int),.slice ea es.length ec]::pS C' 174 ea es.length ec es::rest
def OG{e:x_}{b n cap j:Nat}{xs:List Int}{x:Int}(a:B_ B H0 H ps)(i:Nat)(c:ps[i]?=zY (pS tI e (T_ b) n cap xs))(d:xs[j]?=zY x):YtfbghcpdinlmcaaGreatDoor.cell H b (0+((j:Nat):Int).toNat*1)=zY (.int .i64 x):=by obtain⟨g,f,rfl,-⟩:=a.cellsE i c d;rw[K_,zB];exact f.one
def TD{S:Nat->Prop}{va:v_}(hS:∀k,S k->k<H.size)(bh:Bi S H va o)(hm:Cw o)(hd:JH o d)(aw:d.Ok)(du:d.n<=4096):
  Aj prog 190 #[va] H λr H'=>C_ (H_ H) H H'/\∃Q R,r= .agg (n_ (AN d) (.slice Q (AN d).edges.length R)).toArray/\X_ C' none_ H' H.size 174 (.slice Q (AN d).edges.length R) (AN d).edges:=by
 have hs:=hm.steps;have dv:=hd.n;have bi:=aw.pos;have dw:(A8 o).length<=256:=LK bh;have aj:=SW (A8 o);have bj:=VW (cells:=A8 o);have ak:∀{G:Aa} {ps:List Pc},St H G ps->Bi S G va o:=λst=>bh.frame (st.old.mono hS);refine Aj.of_vc func190 rfl (call190 _) (Ag _ [A_ 0,A_ 0,A_ 0,.slice zV 0 0] Eu rfl ?_);intro y H1 hy cy cz d0;have J_:=(St.nil H).box hy cy cz d0;refine Ae.mk (Ru (λk A=>J_.up (hS k A)) (ak J_)) ?_;rintro _ H2 ⟨d1,-,d2⟩;obtain⟨ca,cc,rfl,bm⟩:=J_.got d1 d2;have bn:=bm.nils (HT .u8) 5;clear bm J_;(conv=>whnf);refine Ay.mk [4,27] (λx:Nat×Option Addr×Nat=>match x with | (k,a,c)=>[.slice a (yM ((Ca (A8 o)).take k)).length c,A_ k]) (λx G=>match x with | (k,a,c)=>k<=(A8 o).length/\St H G [pB 76 y [A_ 0,A_ 0,A_ 0,.slice zV 0 0],pS CU 101 ca (A8 o).length cc (A8 o),pS (HT .u8) 5 a (yM ((Ca (A8 o)).take k)).length c (yM ((Ca (A8 o)).take k))]) (λx _=>(A8 o).length-x.1) ?_ ?_
 ·(conv=>whnf);exact⟨(0,zV,0),rfl,q_ _,bn⟩
 ·clear bn;rintro⟨k,a4,c4⟩ H4 d3 ⟨A,N⟩;refine AD.m2 (λhz=>?_) (λhz=>?_)
  ·have⟨c,hc⟩:=Ab (l:=A8 o) (k:=k) zO;have a2:(Ca (A8 o))[k]?=zY (Bu c 0).1:=by unfold Ca;rw[I',hc];rfl
   have dx:=Et c 0;have dy:(yM ((Ca (A8 o)).take k)).length=k:=by unfold yM;rw[k_,List.length_take,aj];omega
   refine zK (j:=k) Dz N 1 rfl hc rfl ?_;rintro b8 o8 c8 d4 ax rfl;refine L_ (cs:=Ah c) Bh ax zA (Ag (BL 0) (Ah 0) rfl rfl ?_);intro sx H5 ay d5 d6 az;have U:=N.box ay d5 d6 az;refine A9 (cs:=Ah c) U 3 rfl rfl (N_ _) rfl λH6 J=>?_;rw[Ai (show(Ah c).length=(Ah 0).length from rfl)]at J;refine L_ (cs:=Ah c) Bh ((J.blk 3 rfl).cells λj v V=>by rw[K_];exact V) zA ?_;refine Al (RU c 0 zQ H6) λH7 d7=>?_;have O:=J.call d7;refine As QL [.int .u8 ((Bu c 0).1:Int)] rfl rfl zQ zQ ?_;intro q8 H8 d8 bo b0 b4;have W:=O.skip d8 b4;refine GI (x:=((Bu c 0).1:Int)) W 2 QL rfl b0 ⟨rfl,⟨by show(0:Int)<=((Bu c 0).1:Int);omega,by show((Bu c 0).1:Int)<=(255:Int);omega⟩⟩ rfl zO zQ λa9 c9 H9 a3 _=>?_;(conv=>whnf);rw[Q_ k zO];have a5:yM ((Ca (A8 o)).take k)++[((Bu c 0).1:Int)]=yM ((Ca (A8 o)).take (k+1)):=by
    rw[Ac a2];unfold yM;rw[xF];rfl
   have el:(yM ((Ca (A8 o)).take k)).length+1=(yM ((Ca (A8 o)).take (k+1))).length:=by rw[<-a5];simp
   rw[el,a5]at a3;have Y:=a3.pick [0,1,2] zQ;exact⟨rfl,(k+1,a9,c9),by rw[el];rfl,⟨zO,Y⟩,by simp only;omega⟩
  ·obtain rfl:k=(A8 o).length:=zO
   rw[uL (by rw[aj];exact N_ _)]at N ⊢;have bp:(yM (Ca (A8 o))).length=(Ca (A8 o)).length:=by unfold yM;rw[k_]
   have bq:=cC (ra:=a4) (rc:=c4) (λk A=>A) ((ak N).mono λk A=>N.up (hS k A)) hm hd aw (N.view 2 rfl);rw[<-bp]at bq;refine Ae.mk bq ?_;rintro _ H5 ⟨az,d9⟩;obtain⟨ua,uc,rfl,U⟩:=N.got az d9;clear N;have da:=FD (d:=d) (q:=0) bi;refine zK (j:=0) C7 U 3 rfl da rfl ?_;rintro b6 o6 c6 dz db rfl;refine lT M' db.one ?_;cases ap:d.use 0 with
   | false=>
     refine Az underlying76 rfl _ Eu [A_ 2,A_ 0,A_ 1,.slice zV 0 0] zX (A9 (cs:=[A_ 2,A_ 0,A_ 1,.slice zV 0 0]) U 0 rfl rfl (N_ _) rfl λH6 J=>?_);refine L_ (cs:=[A_ 2,A_ 0,A_ 1,.slice zV 0 0]) Gl ((J.blk 0 rfl).cells λj v V=>by rw[K_];exact V) zA ?_;(conv=>whnf);have e:AN d=⟨2,0,1,[]⟩:=by unfold AN;rw[G_ (by rw[ap];decide)]
     rw[e];exact⟨J.old,zV,0,rfl,X_.nil⟩
   | true=>
   have eL:AN d=⟨d.count+1,0,d.count,d.edgesTo d.n⟩:=by unfold AN;rw[I_ ap]
   have e3:=PA.count_le (d:=d);rw[eL];have br:=Ky (d:=d);rw[br];rw[br]at U;refine EQ AB rfl zO zO zO zO ?_;intro pb H6 dc de bu df;rw[zB]at bu ⊢;have dg:tI.reps none_ H6 (Aj1 d.n (Value.int .i64 0)) (Aj1 d.n 0):=by
    refine E9 zZ λi v x h1 h2=>?_;rw[Q4 h1];rw[vK]at h2;split at h2
    ·cases h2;exact⟨rfl,HF ⟨zO,zO⟩⟩
    ·cases h2
   have J:=U.new (T:=tI) (n:=d.n) (xs:=Aj1 d.n 0) dc de (by simpa using bu) df dg zZ (by unfold maxLen;omega);rw[<-XO]at J;clear U;(conv=>whnf);refine Ay.mk [11,54] (λk:Nat=>[A_ (d.place k:Int),A_ k]) (λk G=>k<=d.n/\St H G [pB 76 y [A_ 0,A_ 0,A_ 0,.slice zV 0 0],pS CU 101 ca (A8 o).length cc (A8 o),pS (HT .u8) 5 a4 (yM (Ca (A8 o))).length c4 (yM (Ca (A8 o))),pS AI 4 ua d.n uc (Kx d),pS tI 3 (T_ pb) d.n d.n (Mi d k)]) (λk _=>d.n-k) ?_ ?_
   ·(conv=>whnf);exact⟨0,rfl,q_ _,J⟩
   ·clear J;rintro k H7 dh ⟨A,O⟩;refine AD.m2 (λhz=>?_) (λhz=>?_)
    ·have bv:k<d.n:=zO
     have e4:=PA.place_le (d:=d) k;refine Au.run (zK (j:=k) C7 O 3 rfl (FD bv) rfl ?_);rintro b8 o8 c8 d4 ax rfl;refine lT M' ax.one ?_;have am:=PA.place_succ (d:=d) k;cases Z:d.use k with
     | true=>
       rw[Z,I_ rfl]at am;refine ix AB zO zO ?_;refine IS (j:=k) (x:=(d.place k:Int)) O 4 E_ rfl rfl zO (by rw[Mj];omega) rfl (λH' _=>⟨rfl,HF ⟨zO,zO⟩⟩) λH8 W=>?_;rw[gK bv Z]at W;(conv=>whnf);rw[U_ (x:=(d.place k:Int)+1) zO];(conv=>whnf);rw[Q_ k zO];exact⟨rfl,k+1,by rw[am];rfl,⟨zO,W⟩,zO⟩
     | false=>
       rw[Z,G_ zQ]at am;(conv=>whnf);rw[Q_ k zO];rw[XN Z]at O;exact⟨rfl,k+1,by rw[am];rfl,⟨zO,O⟩,zO⟩
    ·obtain rfl:k=d.n:=zO
     have di:d.place d.n=d.count:=rfl;rw[di];(conv=>whnf);rw[U_ (x:=(d.count:Int)+1) zO];refine Az underlying76 rfl _ Eu [A_ ((d.count:Int)+1),A_ 0,A_ (d.count:Int),.slice zV 0 0] zX (Ag _ [A_ 0,A_ 0,A_ 0,.slice zV 0 0] Eu rfl ?_);intro x H8 hx bo b0 b4;have W:=O.box hx bo b0 b4;clear O;refine A9 (cs:=[A_ ((d.count:Int)+1),A_ 0,A_ (d.count:Int),.slice zV 0 0]) W 5 rfl rfl (N_ _) rfl λH9 a3=>?_;have Y:=a3.nils C' 174;clear W a3;(conv=>whnf);refine Ay.mk [73] (λq:Nat=>[A_ q]) (λq G=>q<=d.n/\∃Q R,St H G (rR y x pb ca cc a4 c4 ua uc o d Q R (d.edgesTo q) [])) (λq _=>d.n-q) ?_ ?_
     ·(conv=>whnf);exact⟨0,rfl,q_ _,zV,0,Y⟩
     ·clear Y;rintro q H11 cu ⟨hq,Q,R,B⟩;refine AD.m2 (λdj=>?_) (λdj=>?_)
      ·have X:q<d.n:=zO
       have bw:=PA.place_le (d:=d) q;have e5:=PA.edges_place d q;refine Au.run (zK (j:=q) C7 B 3 rfl (FD X) rfl ?_);rintro e6 e7 e8 dp bx rfl;refine lT M' bx.one ?_;cases Z:d.use q with
       | false=>
         (conv=>whnf);rw[Q_ q zO];have e1:d.edgesTo (q+1)=d.edgesTo q:=by rw[E4,G_ (by rw[Z];decide),yX]
         rw[<-e1]at B;exact⟨rfl,q+1,rfl,⟨zO,Q,R,B⟩,zO⟩
       | true=>
       refine VL (T:=CU) (S:=none_) (H:=H11) (v:=0#256) Dz rfl zO rfl zO zO ?_;intro tb H12 dk bz aq c1;rw[zB]at aq ⊢;have w:=B.new (T:=CU) (n:=d.n) (xs:=Aj1 d.n 0#256) dk bz aq c1 (Ew rfl d.n) zZ (by unfold maxLen;omega);rw[<-Yk (cells:=A8 o) (reps:=Ca (A8 o)) (q:=q)]at w;clear B;have e9:(yM (Ca (A8 o))).length=(A8 o).length:=by rw[bp,aj]
       (conv=>whnf);refine Ay.mk [85] (λk:Nat=>[A_ k]) (λk G=>k<=(A8 o).length/\St H G (rR y x pb ca cc a4 c4 ua uc o d Q R (d.edgesTo q) [pS CU 101 (T_ tb) d.n d.n (PO d (A8 o) (Ca (A8 o)) q k)])) (λk _=>(A8 o).length-k) ?_ ?_
       ·(conv=>whnf);exact⟨0,rfl,q_ _,w⟩
       ·clear w;rintro k H13 cw ⟨A,C⟩;refine AD.m2 (λdl=>?_) (λdl=>?_)
        ·have c2:k<(A8 o).length:=zO
         have⟨s,c3⟩:=Ab c2;have⟨c,b5⟩:=Ab (l:=Ca (A8 o)) (k:=k) (by rw[aj];exact c2);have a2:=bj c (e_ b5);have b7:=aw.cl q c X a2;refine zK (j:=k) (x:=(c:Int)) QL C 2 rfl (by unfold yM;rw[I',b5];rfl) rfl ?_;rintro eb ed ee dq c5 ⟨rfl,-⟩;refine D_ uX c5.one zA (Al (LC (λk A=>C.up (hS k A)) (ak C) a2) λH14 c7=>?_);have K:=C.call c7;rw[hd.st q c X a2];refine Ap.heldZ (H_ H14) [12] (sq [0,1,2,3,4,5,6,7,8,9] (.f 10 (sq [11] (.f 12 .e)))) rfl zX (zK (j:=d.st q c) Dz K 7 rfl (Mv b7) rfl ?_);rintro ef eg eh cd ce rfl;refine L_ (cs:=Ah (Kw d (A8 o) (Ca (A8 o)) q k (d.st q c))) Bh ce cd (zK (j:=k) Dz K 1 rfl c3 rfl ?_);rintro ei ej ek cg ch rfl;refine L_ (cs:=Ah s) Bh ch cg (Al (Hj _ _ H14) λH15 ar=>?_);have ci:=K.call ar;refine⟨ar,?_⟩;refine ix Dz zO zO ?_;refine kD (j:=d.st q c) (x:=Kw d (A8 o) (Ca (A8 o)) q k (d.st q c) ||| s) (cs:=Ah (Kw d (A8 o) (Ca (A8 o)) q k (d.st q c) ||| s)) ci 7 rfl rfl (by rw[K_,zB];rfl) (by rw[Kv];exact b7) rfl (λH' _=>rfl) λH16 au=>?_;rw[fR b5 c3 b7]at au;(conv=>whnf);rw[Q_ k zO];exact⟨rfl,k+1,rfl,⟨zO,au⟩,zO⟩
        ·obtain rfl:k=(A8 o).length:=zO
         have cj:∀t,t<d.n->(PO d (A8 o) (Ca (A8 o)) q (A8 o).length)[t]?=zY (d.set q t):=λt ht=>by
          rw[Mv ht,fT hm hd X]
         have hull:=Kv (d:=d) (cells:=A8 o) (reps:=Ca (A8 o)) (q:=q) (k:=(A8 o).length);obtain⟨us,ck⟩:∃us,us=PO d (A8 o) (Ca (A8 o)) q (A8 o).length:=⟨_,rfl⟩;rw[<-ck]at cj hull C;have K:St H H13 (rR y x pb ca cc a4 c4 ua uc o d Q R (d.edgesTo q++d.hopsTo q 0) [pS CU 101 (T_ tb) d.n d.n us]):=by
          have e0:d.edgesTo q++d.hopsTo q 0=d.edgesTo q:=yX _;rw[e0];exact C
         clear C;(conv=>whnf);refine Ay.mk [109] (λt:Nat=>[A_ t]) (λt G=>t<=d.n/\∃Q R,St H G (rR y x pb ca cc a4 c4 ua uc o d Q R (d.edgesTo q++d.hopsTo q t) [pS CU 101 (T_ tb) d.n d.n us])) (λt _=>d.n-t) ?_ ?_
         ·(conv=>whnf);exact⟨0,rfl,q_ _,Q,R,K⟩
         ·clear K;rintro t H17 cx ⟨ht,D,E,F⟩;refine AD.m2 (λdm=>?_) (λdm=>?_)
          ·have b9:t<d.n:=zO
           have dn:=PA.hops_len d q t;have en:=PA.place_le (d:=d) t;refine Au.run (zK (j:=t) Dz F 7 rfl (cj t b9) rfl ?_);rintro eo ep eu dr cm rfl;refine L_ (cs:=Ah (d.set q t)) Bh cm zA (Ag (BL 0) (Ah 0) rfl rfl ?_);intro sx H18 ay co cp a6;have m:=F.box ay co cp a6;refine A9 (cs:=Ah (d.set q t)) m 8 rfl rfl (N_ _) rfl λH19 g=>?_;rw[Ai (show(Ah (d.set q t)).length=(Ah 0).length from rfl)]at g;clear F m;refine zK (j:=t) C7 g 3 rfl (FD b9) rfl ?_;rintro ev ew ey dt cq rfl;refine lT M' cq.one ?_;cases bd:d.use t with
           | false=>
             have e1:d.hopsTo q (t+1)=d.hopsTo q t:=by rw[Fi,bd];simp
             (conv=>whnf);rw[Q_ t zO];rw[<-e1]at g;exact⟨rfl,t+1,rfl,⟨zO,D,E,g.pick [0,1,2,3,4,5,6,7] zQ⟩,zO⟩
           | true=>
           refine L_ (cs:=Ah (d.set q t)) Bh ((g.blk 8 rfl).cells λj v V=>by rw[K_];exact V) zA ?_;refine Ct CB (BL 0) rfl (Ah 0) rfl (Oq (d.set q t) 0#256 ?_);by_cases ao:d.set q t=0#256
           ·have dd:zT (d.set q t=0#256)=zW:=m_ ao;rw[dd];have e1:d.hopsTo q (t+1)=d.hopsTo q t:=by rw[Fi,ao];simp
            (conv=>whnf);rw[Q_ t zO];rw[<-e1]at g;exact⟨rfl,t+1,rfl,⟨zO,D,E,g.pick [0,1,2,3,4,5,6,7] zQ⟩,zO⟩
           ·have dd:zT (d.set q t=0#256)=zU:=j_ ao;rw[dd];have e1:d.hopsTo q (t+1)=d.hopsTo q t++[Cy (d.place q) (d.place t) (d.set q t)]:=by
             rw[Fi,I_];rw[bd,Bool.true_and,bne_iff_ne];exact ao
            obtain⟨L,M⟩:∃L,L=d.edgesTo q++d.hopsTo q t:=⟨_,rfl⟩;have cr:L.length<=1056768:=by rw[M,M_];have:=tP 257 (yV bw (zO:q<=4096));omega
            have a1:∀i,i<9->i≠6->∀b p,(rR y x pb ca cc a4 c4 ua uc o d D E (L) [pS CU 101 (T_ tb) d.n d.n us,pB 101 sx (Ah (d.set q t))]:List Pc)[i]?=zY p->p.foot b->b<H19.size/\¬O_ (.slice D L.length E) b:=λi _ h6 b p hp hb=>by
             rw[M]at hp ⊢;exact⟨(g.in_ i hp hb).2,λh=>g.apart2 (i:=i) (j:=6) hp rfl h6 b hb (.inl h)⟩
            rw[<-M]at g;have a7:=a1 5 zQ zQ x _ rfl rfl;have a0:=a1 4 zQ zQ pb _ rfl (.inl ⟨0,_,_,rfl⟩);have be:=a1 8 zQ zQ sx _ rfl rfl;refine Ap.heldZ (λk2=>k2<H19.size/\¬O_ (.slice D L.length E) k2) [15] (sq [0,1,2,3,4,5,6,7,8,9,10,11] (.f 12 (.f 13 (sq [14] (.f 15 .e))))) rfl zX (fa En ?_);refine D_ (v:=.slice D L.length E) Iy ((g.blk 5 rfl).ce rfl) a7 ?_;refine ix AB zO zO (D_ (v:=A_ (d.place q:Int)) E_ (OG g 4 rfl (Ps X Z)) a0 (ix AB zO zO (D_ (v:=A_ (d.place t:Int)) E_ (OG g 4 rfl (Ps b9 bd)) a0 ?_)));refine L_ (cs:=Ah (d.set q t)) Bh ((g.blk 8 rfl).cells λj v V=>by rw[K_];exact V) be ?_;refine MR (d.place q) (d.place t) (d.set q t) (As I6 (zP (Cy (d.place q) (d.place t) (d.set q t))) rfl rfl zQ zQ ?_);intro z H20 a8 ct ab I;have ae:=g.skip a8 I;refine⟨I.mono λk A=>by have:=A.1;omega,?_⟩;refine I9 (ys:=[Cy (d.place q) (d.place t) (d.set q t)]) ae 6 I6 rfl (ab.cells (o:=0) (cs:=zP (Cy (d.place q) (d.place t) (d.set q t))) λj v V=>by rw[K_];exact V) (Ty.reps_one ⟨rfl,LP zO zO _ _⟩) rfl (λu Z=>zM.1 (HY _) u Z) (by unfold maxLen;simp;omega) (by simp;omega) λbf bg H21 ag ah=>?_;refine⟨(I.mono λk A=>by have:=A.1;omega).trans (ah.mono λk A=>⟨by have:=A.1;omega,A.2⟩),?_⟩;refine fa En (AZ ag 5 Iy rfl (zQ:3<4) rfl λH22 P=>?_);(conv=>whnf);rw[Q_ t zO];have a5:L++[Cy (d.place q) (d.place t) (d.set q t)]=d.edgesTo q++d.hopsTo q (t+1):=by rw[e1,M,zN]
            have el:L.length+[Cy (d.place q) (d.place t) (d.set q t)].length=(d.edgesTo q++d.hopsTo q (t+1)).length:=by rw[<-a5];simp
            rw[el,a5]at P;have ai:=P.pick [0,1,2,3,4,5,6,7] zQ;exact⟨rfl,t+1,rfl,⟨zO,bf,bg,ai⟩,zO⟩
          ·obtain rfl:t=d.n:=zO
           have dn:=PA.hops_len d q d.n;obtain⟨L,M⟩:∃L,L=d.edgesTo q++d.hopsTo q d.n:=⟨_,rfl⟩;have cr:L.length<=1056768:=by rw[M,M_];have:=tP 257 (yV bw (zO:q<=4096));omega
           rw[<-M]at F;refine Al (Jd (ak F)) λH18 a6=>?_;have m:=F.call a6;clear F;rw[hd.fi q X];cases hf:d.fi q with
           | false=>
             have e1:d.edgesTo (q+1)=L:=by rw[E4,I_ Z,M];unfold PA.endE;rw[G_ (by rw[hf];decide),yX]
             (conv=>whnf);rw[Q_ q zO];rw[<-e1]at m;exact⟨rfl,q+1,rfl,⟨zO,D,E,m.pick [0,1,2,3,4,5,6] zQ⟩,zO⟩
           | true=>
             have e1:d.edgesTo (q+1)=L++[AP (d.place q) d.count]:=by rw[E4,I_ Z,M];unfold PA.endE;rw[I_ hf,zN]
             have a1:∀i,i<9->i≠6->∀b p,(rR y x pb ca cc a4 c4 ua uc o d D E L [pS CU 101 (T_ tb) d.n d.n us]:List Pc)[i]?=zY p->p.foot b->b<H18.size/\¬O_ (.slice D L.length E) b:=λi _ h6 b p hp hb=>by
              exact⟨(m.in_ i hp hb).2,λh=>m.apart2 (i:=i) (j:=6) hp rfl h6 b hb (.inl h)⟩
             have a7:=a1 5 zQ zQ x _ rfl rfl;have a0:=a1 4 zQ zQ pb _ rfl (.inl ⟨0,_,_,rfl⟩);refine Ap.heldZ (λk2=>k2<H18.size/\¬O_ (.slice D L.length E) k2) [11] (sq [0,1,2,3,4,5,6,7] (.f 8 (.f 9 (sq [10] (.f 11 .e))))) rfl zX (fa En ?_);refine D_ (v:=.slice D L.length E) Iy ((m.blk 5 rfl).ce rfl) a7 ?_;refine ix AB zO zO (D_ (v:=A_ (d.place q:Int)) E_ (OG m 4 rfl (Ps X Z)) a0 (MT (d.place q) d.count (As I6 (zP (AP (d.place q) d.count)) rfl rfl zQ zQ ?_)));intro z H20 a8 ct ab I;have ae:=m.skip a8 I;refine⟨I.mono λk A=>by have:=A.1;omega,?_⟩;refine I9 (ys:=[AP (d.place q) d.count]) ae 6 I6 rfl (ab.cells (o:=0) (cs:=zP (AP (d.place q) d.count)) λj v V=>by rw[K_];exact V) (Ty.reps_one ⟨rfl,LP zO zO _ _⟩) rfl (λu Z=>zM.1 (HY _) u Z) (by unfold maxLen;simp;omega) (by simp;omega) λbf bg H21 ag ah=>?_;refine⟨(I.mono λk A=>by have:=A.1;omega).trans (ah.mono λk A=>⟨by have:=A.1;omega,A.2⟩),?_⟩;refine fa En (AZ ag 5 Iy rfl (zQ:3<4) rfl λH22 P=>?_);(conv=>whnf);rw[Q_ q zO];have el:L.length+[AP (d.place q) d.count].length=(d.edgesTo (q+1)).length:=by rw[e1];simp
             rw[el,<-e1]at P;have ai:=P.pick [0,1,2,3,4,5,6] zQ;exact⟨rfl,q+1,rfl,⟨zO,bf,bg,ai⟩,zO⟩
      ·obtain rfl:q=d.n:=zO
       have hb:=B.blk 5 rfl;refine L_ (cs:=n_ ⟨d.count+1,0,d.count,d.edgesTo d.n⟩ (.slice Q (d.edgesTo d.n).length R)) Gl (hb.cells λj v V=>by rw[K_];exact V) zA ?_;refine A9 (cs:=n_ ⟨d.count+1,0,d.count,d.edgesTo d.n⟩ (.slice Q (d.edgesTo d.n).length R)) B 0 rfl rfl (N_ _) rfl λH12 w=>?_;rw[Ai (show(n_ ⟨d.count+1,0,d.count,d.edgesTo d.n⟩ (.slice Q (d.edgesTo d.n).length R)).length=4 from rfl)]at w;refine L_ (cs:=n_ ⟨d.count+1,0,d.count,d.edgesTo d.n⟩ (.slice Q (d.edgesTo d.n).length R)) Gl ((w.blk 0 rfl).cells λj v V=>by rw[K_];exact V) zA ?_;(conv=>whnf);exact⟨w.old,Q,R,rfl,St.own w 6 rfl⟩
end
section
attribute [local irreducible] Bt AH Am Du CS
def lS(S:Nat->Prop)(a:Option Addr)(c:Nat)(xs:List Bool):Pc:=⟨S,λH=>b_ AI S H a c xs,λh hp=>hp.frame h⟩
noncomputable def uQ(d:PA)(k:Nat):List Int:=(AjH d.n).map λi=>if i<k then(d.place i:Int)else 0
def Om:(uQ d k).length=d.n:=by simp[uQ]
def ZY:uQ d 0=Aj1 d.n 0:=by refine yW λi=>?_;unfold uQ;rw[I',vK];by_cases h:i<d.n;{rw[wS h];simp[h]};{rw[zE (by simpa using h)];simp[h]}
def Sb{i:Nat}(h:i<d.n):(uQ d k)[i]?=zY (if i<k then(d.place i:Int)else 0):=by unfold uQ;rw[I',wS h];rfl
def Sa{i:Nat}(h:i<d.n):(uQ d d.n)[i]?=zY (d.place i:Int):=by rw[Sb h,I_ h]
def cR(h:k<d.n):(uQ d k).set k (d.place k:Int)=uQ d (k+1):=by refine yW λi=>?_;by_cases a:i<d.n;{rw[Sb a,xV,Om];by_cases e:k=i;{subst e;rw[I_ rfl,I_ h,I_ (Nat.lt_succ_self _)]};{rw[G_ e,Sb a];by_cases b:i<k;{rw[I_ b,I_ zO]};{rw[G_ b,G_ zO]}}};{rw[zE (by rw[yF,Om];omega),zE (by rw[Om];omega)]}
def RJ(d:PA)(q t k:Nat):Bool:=(AjH k).any λi=>d.st q i==t
def Z7(h:d.st q k=t):RJ d q t (k+1)=zW:=by unfold RJ;rw[oF];exact⟨k,zZ,by simpa using h⟩
def dP(h:d.st q k≠t):RJ d q t (k+1)=RJ d q t k:=by unfold RJ;rw[wG,List.any_append];simp[h]
def OE(d:PA)(q t k:Nat):Nat->Bool:=λi=>zT (i<k)&&zT (d.st q i=t)
def Xl:Df (OE d q t 0)=Aj1 256 (.bool zU):=by rw[<-MA];exact Dq λb _=>by simp[OE]
def YE(a:k<256)(h:d.st q k=t):(Df (OE d q t k)).set k (.bool zW)=Df (OE d q t (k+1)):=by rw[Tw _ a];refine Dq λb _=>?_;unfold OE;by_cases e:b=k;{subst e;simp[h]};{have c:zT (b<k+1)=zT (b<k):=by{rw[decide_eq_decide];omega};rw[c,j_ e,Bool.false_or]}
def eN(h:d.st q k≠t):Df (OE d q t k)=Df (OE d q t (k+1)):=by refine Dq λb _=>?_;unfold OE;by_cases e:b=k;{subst e;simp[h]};{have a:zT (b<k+1)=zT (b<k):=by{rw[decide_eq_decide];omega};rw[a]}
def YD:Df (OE d q t 256)=Av (d.set q t):=by unfold PA.set;rw[<-Qu];exact Dq λb a=>by simp[OE,a]
def Tz:RJ d q t 256=(d.set q t != 0#256):=by rw[qH,bne_iff_ne];unfold RJ PA.set;constructor;{intro h e;have⟨i,a,b⟩:=oF.1 h;have a:=yG.1 a;have:=congrArg (λx:BitVec 256=>x.getLsbD i) e;simp only[IX _ a]at this;simp only[beq_iff_eq]at b;simp[b]at this};{intro h;cases c:(AjH 256).any λi=>d.st q i==t with|true=>rfl|false=>exfalso;apply h;refine tH λi a=>?_;rw[IX _ a];have:=List.any_eq_false.1 c i (yG.2 a);simpa using this}
def aA(h:Oy D d)(a:d.Ok):Jx D=Kx d:=by unfold Jx Kx;rw[h.n];refine uU λq b=>?_;unfold PA.use;rw[decide_eq_decide];exact h.use a (yG.1 b)
noncomputable abbrev qS(D:DM)(ra na fa:Option Addr)(rc nc fc:Nat)(SU:Nat->Prop)(p y x pb:Nat)(ua:Option Addr)(uc:Nat)(d:PA)(ea:Option Addr)(ec:Nat)(es:List t_)(rest:List Pc):List Pc:=
 pB 43 p (AX D.cell (.slice ra D.reps.length rc) (.slice na D.next.length nc) (.slice fa D.final.length fc))::pB 81 y JC::lS SU ua uc (Kx d)::pS tI 3 (T_ pb) d.n d.n (uQ d d.n)::pB 81 x (n_ ⟨d.count+1,0,d.count,es⟩ (.slice ea es.length ec))::pS Eg 185 ea es.length ec es::rest
def YW{S:Nat->Prop}(hS:∀k,S k->k<H.size)(M:Fb S H v D)(hd:Oy D d)(au:d.Ok)(d2:d.n<=4096):
  Aj prog 127 #[v] H λr H'=>C_ (H_ H) H H'/\∃N O,r= .agg (n_ (AN d) (.slice N (AN d).edges.length O)).toArray/\X_ Eg none_ H' H.size 185 (.slice N (AN d).edges.length O) (AN d).edges:=by
 have X:=M.len;have d3:=hd.n;have aw:=au.pos;have ah:=Ky (d:=d);refine Aj.of_vc func127 rfl (call127 _) (K5 M λra rc na nc J fc he h1 h2 h3=>?_);subst he;intro p H1 hp br bu bv;have J_:=(St.nil H).box hp br bu bv;refine Ag _ JC Kd rfl ?_;intro y H2 hy bw bx bz;have K:=J_.box hy bw bx bz;clear J_;refine OS (K.blk 0 rfl) X zA (h1.frame (K.old.mono hS)) (h2.frame (K.old.mono hS)) (h3.frame (K.old.mono hS)) λv1 c1=>(Ae.mk (fV (λk F=>K.up (hS k F)) c1 hd.ok) ?_);rintro _ H3 ⟨c2,d4,Y,Z,rfl,P⟩;rw[aA hd au]at P ⊢;have a0:=K.add c2 (lS (C8 H2 H3) Y Z (Kx d)) P λk F=>F;generalize C8 H2 H3=SU at a0;clear K P;have c3:=FD (d:=d) (q:=0) aw;refine Y' (i:=0) C7 (a0.at_ 2 rfl:b_ AI SU H3 Y Z (Kx d)) c3 rfl ?_;rintro b6 o6 c6 d5 c4 rfl;refine lT M' c4.one ?_;cases am:d.use 0 with
 | false=>
   refine Az underlying81 rfl _ Kd [A_ 2,A_ 0,A_ 1,.slice zV 0 0] zX (A9 (cs:=[A_ 2,A_ 0,A_ 1,.slice zV 0 0]) a0 1 rfl rfl (N_ _) rfl λH6 U=>?_);refine L_ (cs:=[A_ 2,A_ 0,A_ 1,.slice zV 0 0]) PU ((U.blk 1 rfl).cells λj v M=>by rw[K_];exact M) zA ?_;(conv=>whnf);have e:AN d=⟨2,0,1,[]⟩:=by unfold AN;rw[G_ (by rw[am];decide)]
   rw[e];exact⟨U.old,zV,0,rfl,X_.nil⟩
 | true=>
 have eL:AN d=⟨d.count+1,0,d.count,d.edgesTo d.n⟩:=by unfold AN;rw[I_ am]
 have d6:=PA.count_le (d:=d);rw[eL,ah];refine EQ AB rfl zO zO zO zO ?_;intro pb H6 c5 c7 ax c9;rw[zB]at ax ⊢;have cd:tI.reps none_ H6 (Aj1 d.n (Value.int .i64 0)) (Aj1 d.n 0):=by
  refine E9 zZ λi v x h1 h2=>?_;rw[Q4 h1];rw[vK]at h2;split at h2
  ·cases h2;exact⟨rfl,HF ⟨zO,zO⟩⟩
  ·cases h2
 have U:=a0.new (T:=tI) (n:=d.n) (xs:=Aj1 d.n 0) c5 c7 (by simpa using ax) c9 cd zZ (by unfold maxLen;omega);rw[<-ZY]at U;clear a0;(conv=>whnf);refine Ay.mk [5,6] (λk:Nat=>[A_ (d.place k:Int),A_ k]) (λk G=>k<=d.n/\St H G [pB 43 p (AX D.cell (.slice ra D.reps.length rc) (.slice na D.next.length nc) (.slice J D.final.length fc)),pB 81 y JC,lS SU Y Z (Kx d),pS tI 3 (T_ pb) d.n d.n (uQ d k)]) (λk _=>d.n-k) ?_ ?_
 ·(conv=>whnf);exact⟨0,rfl,q_ _,U⟩
 ·clear U;rintro k H7 ce ⟨F,ai⟩;refine AD.m2 (λhz=>?_) (λhz=>?_)
  ·have ay:k<d.n:=zO
   have d7:=PA.place_le (d:=d) k;have aj:=PA.place_succ (d:=d) k;refine Au.run (ix AB zO zO ?_);refine IS (j:=k) (x:=(d.place k:Int)) ai 3 E_ rfl rfl zO (by rw[Om];omega) rfl (λH' _=>⟨rfl,HF ⟨zO,zO⟩⟩) λH8 L=>?_;rw[cR ay]at L;clear ai;refine EK (i:=k) C7 (L.at_ 2 rfl:b_ AI SU H8 Y Z (Kx d)) ah.symm (FD ay) rfl ?_;rintro b8 o8 c8 d8 cg rfl;refine lT M' cg.one ?_;cases P:d.use k with
   | true=>
     rw[P,I_ rfl]at aj;(conv=>whnf);rw[U_ (x:=(d.place k:Int)+1) zO];(conv=>whnf);rw[Q_ k zO];exact⟨rfl,k+1,by rw[aj];rfl,⟨zO,L⟩,zO⟩
   | false=>
     rw[P,G_ zQ]at aj;(conv=>whnf);rw[Q_ k zO];exact⟨rfl,k+1,by rw[aj];rfl,⟨zO,L⟩,zO⟩
  ·obtain rfl:k=d.n:=zO
   have ch:d.place d.n=d.count:=rfl;rw[ch];(conv=>whnf);rw[U_ (x:=(d.count:Int)+1) zO];refine Az underlying81 rfl _ Kd [A_ ((d.count:Int)+1),A_ 0,A_ (d.count:Int),.slice zV 0 0] zX (Ag _ JC Kd rfl ?_);intro x H8 hx ci cj ck;have L:=ai.box hx ci cj ck;clear ai;refine A9 (cs:=[A_ ((d.count:Int)+1),A_ 0,A_ (d.count:Int),.slice zV 0 0]) L 4 rfl rfl (N_ _) rfl λH9 az=>?_;have ao:=az.nils Eg 185;clear L az;(conv=>whnf);refine Ay.mk [8] (λq:Nat=>[A_ q]) (λq G=>q<=d.n/\∃N O,St H G (qS D ra na J rc nc fc SU p y x pb Y Z d N O (d.edgesTo q) [])) (λq _=>d.n-q) ?_ ?_
   ·(conv=>whnf);exact⟨0,rfl,q_ _,zV,0,ao⟩
   ·clear ao;rintro q H11 bo ⟨hq,N,O,m⟩;refine AD.m2 (λcm=>?_) (λcm=>?_)
    ·have a1:q<d.n:=zO
     have b0:=PA.place_le (d:=d) q;have d9:=PA.edges_place d q;refine Au.run (EK (i:=q) C7 (m.at_ 2 rfl:b_ AI SU H11 Y Z (Kx d)) ah.symm (FD a1) rfl ?_);rintro da db dc cw b4 rfl;refine lT M' b4.one ?_;cases P:d.use q with
     | false=>
       (conv=>whnf);rw[Q_ q zO];have W:d.edgesTo (q+1)=d.edgesTo q:=by rw[E4,G_ (by rw[P];decide),yX]
       rw[<-W]at m;exact⟨rfl,q+1,rfl,⟨zO,N,O,m⟩,zO⟩
     | true=>
     have e0:d.edgesTo q++d.hopsTo q 0=d.edgesTo q:=yX _;rw[<-e0]at m;(conv=>whnf);refine Ay.mk [9] (λt:Nat=>[A_ t]) (λt G=>t<=d.n/\∃N O,St H G (qS D ra na J rc nc fc SU p y x pb Y Z d N O (d.edgesTo q++d.hopsTo q t) [])) (λt _=>d.n-t) ?_ ?_
     ·(conv=>whnf);exact⟨0,rfl,q_ _,N,O,m⟩
     ·clear m;rintro t H17 bp ⟨ht,s,w,g⟩;refine AD.m2 (λco=>?_) (λco=>?_)
      ·have b5:t<d.n:=zO
       have cp:=PA.hops_len d q t;have de:=PA.place_le (d:=d) t;obtain⟨B,C⟩:∃B,B=d.edgesTo q++d.hopsTo q t:=⟨_,rfl⟩;have b7:B.length<=1056768:=by rw[C,M_];have:=tP 257 (yV b0 (zO:q<=4096));omega
       rw[<-C]at g;refine Au.run (Ag _ (Aj1 256 (.bool zU)) rfl rfl ?_);intro sx H18 cq b9 bd be;have a2:=g.box cq b9 bd be;clear g;rw[<-Xl (d:=d) (q:=q) (t:=t)]at a2;(conv=>whnf);refine Ay.mk [11,12] (λk:Nat=>[.bool (RJ d q t k),A_ k]) (λk G=>k<=256/\(d.use t=zU->k=0)/\St H G (qS D ra na J rc nc fc SU p y x pb Y Z d s w B [pB 157 sx (Df (OE d q t k))])) (λk _=>256-k) ?_ ?_
       ·(conv=>whnf);exact⟨0,rfl,zO,λ_=>rfl,a2⟩
       ·clear a2;rintro k H19 bq ⟨F,bf,a⟩;by_cases a3:k<256
        ·have d1:zT ((k:Int)<256)=zW:=l_;(conv=>whnf);rw[d1];refine EK (i:=t) C7 (a.at_ 2 rfl:b_ AI SU H19 Y Z (Kx d)) ah.symm (FD b5) rfl ?_;rintro df dg dh cx bg rfl;refine lT M' bg.one ?_;cases ak:d.use t with
         | false=>
           obtain rfl:=bf ak;have W:d.hopsTo q (t+1)=d.hopsTo q t:=by rw[Fi,ak];simp
           (conv=>whnf);rw[Q_ t zO];rw[C,<-W]at a;exact⟨rfl,t+1,rfl,⟨zO,s,w,a.pick [0,1,2,3,4,5] zQ⟩,zO⟩
         | true=>
         obtain⟨row,c,u,hr,hc,bh,cr,-⟩:=hd.ok.at (q:=q) (b:=k) zO a3;have ct:(u:Int)=(d.st q k:Int):=by rw[<-hd.st q k a1 a3];exact(EY hr hc bh).symm
         refine Au.run (Ap.lex rfl zX (fa El ?_));refine D_ (v:=.slice na D.next.length nc) DC (by rw[(a.blk 0 rfl).cell,K_];exact Do X) zA ?_;refine Y' (i:=q) Dt (h2.frame (a.old.mono hS)) hr rfl ?_;rintro b2 o2 di cy a4 ⟨xa,xc,rfl,cu⟩;refine D_ C9 a4.one zA (fa Va (s_ nH zO zO ?_));refine D_ (v:=A_ c) E_ (by rw[(a.blk 0 rfl).cell,(zO:0+0+(k:Int).toNat*1=k)];exact Wi hc) zA ?_;refine Y' AB cu bh rfl ?_;rintro b3 o3 dj cz a5 ⟨rfl,-⟩;refine lT E_ a5.one ?_;rw[ct];by_cases a6:d.st q k=t
         ·have dq:(((d.st q k:Nat):Int)==(t:Int))=zW:=by rw[a6];exact beq_self_eq_true _
          (conv=>whnf);rw[dq];refine s_ CC zO zO ?_;refine AZ a 6 M' rfl (by rw[C2];omega) rfl λH20 E=>?_;rw[(zO:0+(k:Int).toNat*1=k),YE a3 a6]at E;(conv=>whnf);rw[Q_ k zO];exact⟨rfl,k+1,by rw[Z7 a6];rfl,⟨zO,(λh=>by cases h),E⟩,zO⟩
         ·have dq:(((d.st q k:Nat):Int)==(t:Int))=zU:=beq_eq_false_iff_ne.2 zO;(conv=>whnf);rw[dq];(conv=>whnf);rw[Q_ k zO];rw[eN a6]at a;exact⟨rfl,k+1,by rw[dP a6];rfl,⟨zO,(λh=>by cases h),a⟩,zO⟩
        ·have d1:zT ((k:Int)<256)=zU:=Z_;obtain rfl:k=256:=zO
         have ak:d.use t=zW:=by
          cases h:d.use t with
          | false=>exact absurd (bf h) zQ
          | true=>rfl
         rw[YD]at a;(conv=>whnf);rw[d1];cases hx:RJ d q t 256 with
         | false=>
           rw[Tz]at hx;have W:d.hopsTo q (t+1)=d.hopsTo q t:=by rw[Fi,hx];simp
           (conv=>whnf);rw[Q_ t zO];rw[C,<-W]at a;exact⟨rfl,t+1,rfl,⟨zO,s,w,a.pick [0,1,2,3,4,5] zQ⟩,zO⟩
         | true=>
           rw[Tz]at hx;have W:d.hopsTo q (t+1)=d.hopsTo q t++[Cy (d.place q) (d.place t) (d.set q t)]:=by
            rw[Fi,I_];rw[ak,hx];rfl
           have V:∀i,i<7->i≠5->∀b p',(qS D ra na J rc nc fc SU p y x pb Y Z d s w B [pB 157 sx (Av (d.set q t))]:List Pc)[i]?=zY p'->p'.foot b->b<H19.size/\¬O_ (.slice s B.length w) b:=λi _ h6 b p' hp hb=>
            ⟨(a.in_ i hp hb).2,λh=>a.apart2 (i:=i) (j:=5) hp rfl h6 b hb (.inl h)⟩
           have a7:=V 4 zQ zQ x _ rfl rfl;have Q:=V 3 zQ zQ pb _ rfl (.inl ⟨0,_,_,rfl⟩);have ap:=V 6 zQ zQ sx _ rfl rfl;refine Ap.heldZ (λk2=>k2<H19.size/\¬O_ (.slice s B.length w) k2) [15] (sq [0,1,2,3,4,5,6,7,8,9,10,11] (.f 12 (.f 13 (sq [14] (.f 15 .e))))) rfl zX (fa Dw ?_);refine D_ (v:=.slice s B.length w) GJ ((a.blk 4 rfl).ce rfl) a7 ?_;refine ix AB zO zO (D_ (v:=A_ (d.place q:Int)) E_ (OG a 3 rfl (Sa a1)) Q (ix AB zO zO (D_ (v:=A_ (d.place t:Int)) E_ (OG a 3 rfl (Sa b5)) Q ?_)));refine L_ (cs:=Av (d.set q t)) (by rw[Ax];exact Nf) ((a.blk 6 rfl).cells λj v M=>by rw[K_];exact M) ap ?_;refine P7 (d.place q) (d.place t) (d.set q t) (As GD (Dp (Cy (d.place q) (d.place t) (d.set q t))) rfl (B0 _) zQ zQ ?_);intro z H20 a8 bi a9 A;have E:=a.skip a8 A;refine⟨A.mono λk F=>by have:=F.1;omega,?_⟩;refine I9 (ys:=[Cy (d.place q) (d.place t) (d.set q t)]) E 5 GD rfl (a9.cells (o:=0) (cs:=Dp (Cy (d.place q) (d.place t) (d.set q t))) λj v M=>by rw[K_];exact M) (Ty.reps_one ⟨rfl,LQ zO zO _ _⟩) rfl (λu P=>zM.1 (EU _) u P) (by unfold maxLen;simp;omega) (by simp;omega) λaq ar H21 ab ae=>?_;refine⟨(A.mono λk F=>by have:=F.1;omega).trans (ae.mono λk F=>⟨by have:=F.1;omega,F.2⟩),?_⟩;refine fa Dw (AZ ab 4 GJ rfl (zQ:3<4) rfl λH22 I=>?_);(conv=>whnf);rw[Q_ t zO];have bj:B++[Cy (d.place q) (d.place t) (d.set q t)]=d.edgesTo q++d.hopsTo q (t+1):=by rw[W,C,zN]
           have el:B.length+[Cy (d.place q) (d.place t) (d.set q t)].length=(d.edgesTo q++d.hopsTo q (t+1)).length:=by rw[<-bj];simp
           rw[el,bj]at I;have ag:=I.pick [0,1,2,3,4,5] zQ;exact⟨rfl,t+1,rfl,⟨zO,aq,ar,ag⟩,zO⟩
      ·obtain rfl:t=d.n:=zO
       have cp:=PA.hops_len d q d.n;obtain⟨B,C⟩:∃B,B=d.edgesTo q++d.hopsTo q d.n:=⟨_,rfl⟩;have b7:B.length<=1056768:=by rw[C,M_];have:=tP 257 (yV b0 (zO:q<=4096));omega
       rw[<-C]at g;have dk:=hd.ok.fl;have bm:D.final[q]?=zY (d.fi q):=by
        have⟨f,hf⟩:=Ab (l:=D.final) (k:=q) zO;rw[hf,<-hd.fi q a1];simp[KT,hf]
       refine fa Cl ?_;refine D_ (v:=.slice J D.final.length fc) Dn (by rw[(g.blk 0 rfl).cell,K_];exact Ek X) zA ?_;refine Y' (i:=q) C7 (h3.frame (g.old.mono hS)) bm rfl ?_;rintro dl dm dn d0 bn rfl;refine lT M' bn.one ?_;cases hf:d.fi q with
       | false=>
         have W:d.edgesTo (q+1)=B:=by rw[E4,I_ P,C];unfold PA.endE;rw[G_ (by rw[hf];decide),yX]
         (conv=>whnf);rw[Q_ q zO];rw[<-W]at g;exact⟨rfl,q+1,rfl,⟨zO,s,w,g⟩,zO⟩
       | true=>
         have W:d.edgesTo (q+1)=B++[AP (d.place q) d.count]:=by rw[E4,I_ P,C];unfold PA.endE;rw[I_ hf,zN]
         have V:∀i,i<6->i≠5->∀b p',(qS D ra na J rc nc fc SU p y x pb Y Z d s w B []:List Pc)[i]?=zY p'->p'.foot b->b<H17.size/\¬O_ (.slice s B.length w) b:=λi _ h6 b p' hp hb=>
          ⟨(g.in_ i hp hb).2,λh=>g.apart2 (i:=i) (j:=5) hp rfl h6 b hb (.inl h)⟩
         have a7:=V 4 zQ zQ x _ rfl rfl;have Q:=V 3 zQ zQ pb _ rfl (.inl ⟨0,_,_,rfl⟩);refine Ap.heldZ (λk2=>k2<H17.size/\¬O_ (.slice s B.length w) k2) [11] (sq [0,1,2,3,4,5,6,7] (.f 8 (.f 9 (sq [10] (.f 11 .e))))) rfl zX (fa Dw ?_);refine D_ (v:=.slice s B.length w) GJ ((g.blk 4 rfl).ce rfl) a7 ?_;refine ix AB zO zO (D_ (v:=A_ (d.place q:Int)) E_ (OG g 3 rfl (Sa a1)) Q (P9 (d.place q) d.count (As GD (Dp (AP (d.place q) d.count)) rfl (B0 _) zQ zQ ?_)));intro z H20 a8 bi a9 A;have E:=g.skip a8 A;refine⟨A.mono λk F=>by have:=F.1;omega,?_⟩;refine I9 (ys:=[AP (d.place q) d.count]) E 5 GD rfl (a9.cells (o:=0) (cs:=Dp (AP (d.place q) d.count)) λj v M=>by rw[K_];exact M) (Ty.reps_one ⟨rfl,LQ zO zO _ _⟩) rfl (λu P=>zM.1 (EU _) u P) (by unfold maxLen;simp;omega) (by simp;omega) λaq ar H21 ab ae=>?_;refine⟨(A.mono λk F=>by have:=F.1;omega).trans (ae.mono λk F=>⟨by have:=F.1;omega,F.2⟩),?_⟩;refine fa Dw (AZ ab 4 GJ rfl (zQ:3<4) rfl λH22 I=>?_);(conv=>whnf);rw[Q_ q zO];have el:B.length+[AP (d.place q) d.count].length=(d.edgesTo (q+1)).length:=by rw[W];simp
         rw[el,<-W]at I;have ag:=I.pick [0,1,2,3,4,5] zQ;exact⟨rfl,q+1,rfl,⟨zO,aq,ar,ag⟩,zO⟩
    ·obtain rfl:q=d.n:=zO
     have hb:=m.blk 4 rfl;refine L_ (cs:=n_ ⟨d.count+1,0,d.count,d.edgesTo d.n⟩ (.slice N (d.edgesTo d.n).length O)) PU (hb.cells λj v M=>by rw[K_];exact M) zA ?_;refine A9 (cs:=n_ ⟨d.count+1,0,d.count,d.edgesTo d.n⟩ (.slice N (d.edgesTo d.n).length O)) m 1 rfl rfl (N_ _) rfl λH12 R=>?_;rw[Ai (show(n_ ⟨d.count+1,0,d.count,d.edgesTo d.n⟩ (.slice N (d.edgesTo d.n).length O)).length=4 from rfl)]at R;refine L_ (cs:=n_ ⟨d.count+1,0,d.count,d.edgesTo d.n⟩ (.slice N (d.edgesTo d.n).length O)) PU ((R.blk 1 rfl).cells λj v M=>by rw[K_];exact M) zA ?_;(conv=>whnf);exact⟨R.old,N,O,rfl,St.own R 5 rfl⟩
end
section
attribute [local irreducible] Bt AH Am Du
def pA(lo hi:Nat)(v:v_)(o:Option AM):Pc:=⟨λk=>lo<=k/\k<hi,λH=>Bi (λk=>lo<=k/\k<hi) H v o,λh hp=>hp.frame h⟩
def B_.auto{H':Aa}(a:B_ B H0 H ps)(b:C_ (H_ H) H H')(c:Bi (λk=>H.size<=k/\k<H'.size) H' v o):B_ B H0 H' (ps++[pA H.size H'.size v o]):=
 a.add b _ c λk d=>d
def B_.aView{lo c:Nat}(a:B_ B H0 H ps)(i:Nat)(b:ps[i]?=zY (pA lo c v o)):Bi (H_ H) H v o:=
 Bi.mono (a.at_ i b) λk d=>(a.in_ i b d).2
abbrev oX:x_:=216
def JD(mb:Nat)(b:Int)(m:Nat):Pc:=pB oX mb [A_ b,A_ m]
def yY(mb:Nat)(b:Int)(m:Nat):List Pc:=[JD mb b m]
def BP{α:Type}(ps:List α)(a:α):(ps++[a]).Perm (a::ps):=xA a ps
def F6{α:Type}(ps:List α)(a b:α):(ps++[a]++[b]).Perm (a::b::ps):=((xA b (ps++[a])).trans ((xA a ps).cons b)).trans (List.Perm.swap a b ps)
def Sm{mb:Nat}{va:v_}{lo g m:Nat}(j:JH o d)(l:St H0 H (ps++yY mb b m++[pA lo g va o])):
  Aj prog 161 #[Y_ mb,va,A_ 0] H λr H'=>r= .tuple #[va,A_ 0]/\C_ (λk=>k<H.size/\k≠mb) H H'/\St H0 H' (ps++yY mb b (max m d.n)++[pA lo g va o]):=by have a:St H0 H (pB oX mb [A_ b,A_ m]::pA lo g va o::ps):=l.perm (F6 _ _ _);refine Aj.of_vc func161 rfl (call161 _) (Au.run (Ap.heldZ (H_ H) [10] (sq [0,1,2,3,4,5] (.f 6 (sq [7,8,9] (.f 10 .e)))) rfl zX (fa K9 ?_)));refine D_ (v:=A_ m) E_ ((a.blk 0 rfl).ce rfl) (a.in_ 0 rfl rfl).2 ?_;refine Al (DB (B_.aView a 1 rfl)) λH1 c=>?_;have J_:=a.call c;refine⟨c,?_⟩;rw[j.n];refine QZ ?_;rw[show(if(m:Int)<(d.n:Int)then(d.n:Int)else(m:Int))=((max m d.n:Nat):Int) by split<;>omega];refine fa K9 (WW J_ 0 E_ rfl (zQ:1<2) rfl λH2 h p q=>?_);(conv=>whnf);exact⟨rfl,(c.mono λk i=>i.1).trans (p.mono λk i=>i.2),h.perm (F6 _ _ _).symm⟩
def P5{mb:Nat}(a:e≠0):
  BZ prog 161 #[Y_ mb,.pointer zV,A_ e] H (.tuple #[.pointer zV,A_ e]):=by refine Aj.of_vc func161 rfl (call161 _) ?_;have b:(e==0)=zU:=beq_eq_false_iff_ne.2 a;refine Au.run ?_;(conv=>whnf);rw[b];(conv=>whnf);exact⟨rfl,C_.refl _ _⟩
def Rb(H0:Aa)(ps:List Pc)(mb:Nat)(b:Int)(x:Nat×Except Int PA)(v:v_)(H':Aa):Prop:=match x.2 with
 | .ok d=>∃va A lo hi,v= .tuple #[va,A_ 0]/\Cw (zY A)/\JH (zY A) d/\St H0 H' (ps++yY mb b x.1++[pA lo hi va (zY A)])
 | .error e=>v= .tuple #[.pointer zV,A_ e]/\St H0 H' (ps++yY mb b x.1)
def Xo(h:r.nodes<=2000)(s:Nat):AS b r s=BD (M4 (EP b) r s) λN a=>match FF b N with
  | .error e=>(a,.error e)
  | .ok d=>(max a d.n,.ok d):=by unfold AS FG M4;rw[G_ zO,Ev];cases BS (EP b) r 0 s with|mk a c=>{cases c with|error e=>rfl|ok A=>show(if 65536<A.u then _ else _)=BD (if 65536<A.u then _ else _) _;split;{rfl};{rfl}}
def eQ{d:Nat}{N:P_}(h:M4 (EP b) r s=(d,.ok N)):N.edges.length<=33554432:=by unfold M4 at h;split at h;{cases h};{have⟨e,A,c,a⟩:=Bv h;split at a;{cases a};{rename_i f;cases a;rw[<-Ev]at c;have:=Pp c;show A.es.length<=_;omega}}
def YN{a:Nat}(h:M4 (EP b) r s=(a,.error e)):e≠0:=by unfold M4 at h;split at h;{cases h;decide};{rcases AQ h with h | ⟨c,A,-,h⟩;{exact Vx (PH b) _ _ _ _ _ h};{split at h;{cases h;decide};{cases h}}}
def YM{mb:Nat}(t:GH prog H0){nv:v_}(W:r.nodes<=2000)
  (u:Aj prog 84 #[nv,.func (.func 160) #[Y_ mb] #[]] H (UA (H_ H0) H0 ((33554432+4)*2000) ps (yY mb b) (M4 (EP b) r s))):
  Aj prog 114 #[Y_ mb,nv] H (Rb H0 ps mb b (AS b r s)):=by refine Aj.of_vc func114 rfl (call114 _) ?_;rw[Xo W];obtain⟨g,X,j⟩:∃g G,M4 (EP b) r s=(g,G):=⟨_,_,rfl⟩;rw[j]at u ⊢;refine Ae.mk u ?_;rintro v1 H1 w;cases X with|error e=>obtain⟨l,rfl,y,I,J_⟩:=w;replace J_:St H0 H1 (ps++yY mb b g):=J_;have J:=YN j;refine Ag _ [A_ 0,A_ 0,A_ 0,.slice zV 0 0] Eu rfl ?_;intro x H2 K m n o;have p:St H0 H2 (pB 76 x [A_ 0,A_ 0,A_ 0,.slice zV 0 0]::(ps++yY mb b g)):=(J_.box K m n o).perm (BP _ _);refine A9 (cs:=l) p 0 (by rw[y];rfl) rfl (by rw[y];exact N_ _) I λH3 a=>?_;have Y:(e != 0)=zW:=bne_iff_ne.2 J;(conv=>whnf);rw[Y];(conv=>whnf);rw[CK (x:=(g,(.error e:Except Int P_))) rfl];exact⟨rfl,a.sub (yR _ _)⟩|ok N=>{obtain⟨-,z,B,C,rfl,J_⟩:=w;have L:=eQ j;replace J_:St H0 H1 (ps++yY mb b g++[pS C' 174 B N.edges.length C N.edges]):=J_;have D:St H0 H1 (JD mb b g::pS C' 174 B N.edges.length C N.edges::ps):=J_.perm (F6 _ _ _);refine Ag _ [A_ 0,A_ 0,A_ 0,.slice zV 0 0] Eu rfl ?_;intro x H2 K m n o;have p:St H0 H2 (pB 76 x [A_ 0,A_ 0,A_ 0,.slice zV 0 0]::pB oX mb [A_ b,A_ g]::pS C' 174 B N.edges.length C N.edges::ps):=(D.box K m n o).perm (BP _ _);refine A9 (cs:=n_ N (.slice B N.edges.length C)) p 0 rfl rfl (N_ _) rfl λH3 a=>?_;rw[Ai (show(n_ N (.slice B N.edges.length C)).length=4 from rfl)]at a;have M:=(a.in_ 0 rfl rfl).2;have O:x≠mb:=(a.blk 0 rfl).ne (a.blk 1 rfl) zQ;refine Ap.heldZ (λk=>k<H3.size/\k≠mb) [] (sq [0,1,2,3,4] (.f 5 (.f 6 (sq [7,8] (.f 9 (sq [10,11,12,13] .e)))))) rfl zX (Jk z L (a.blk 0 rfl) Gl ⟨M,O⟩ (a.view 2 rfl) λv4 P=>(fa Ob ?_));refine lT (v:=A_ b) E_ ((a.blk 1 rfl).ce rfl) ?_;refine⟨C_.refl _ _,?_⟩;refine Ae.mk (eW (S:=H_ H3) (λk h=>h) P (t.agr a.old)) ?_;rintro r5 H5 ⟨c,i⟩;refine⟨c.mono λk h=>h.1,?_⟩;have Q:St H0 H5 (ps++yY mb b g):=((a.call c).sub (yR _ _) |>.perm (List.Perm.swap _ _ _) |>.sub (yR _ _)).perm (BP _ _).symm;rw[C5 (x:=(g,(.ok N:Except Int P_))) rfl];cases q:FF b N with|error e=>rw[q]at i;subst i;have J:=(OR q).2;refine Al (P5 J) λH6 E=>(⟨(c.mono λk h=>h.1).trans (E.mono λk h=>Af c h.1),?_⟩);(conv=>whnf);exact⟨rfl,Q.call E⟩|ok d=>rw[q]at i;obtain⟨va,A,rfl,R,Z,F⟩:=i;have T:St H0 H5 (ps++yY mb b g++[pA H3.size H5.size va (zY A)]):=by{have h1:St H0 H3 (ps++yY mb b g):=(a.sub (yR _ _) |>.perm (List.Perm.swap _ _ _) |>.sub (yR _ _)).perm (BP _ _).symm;exact B_.auto h1 c R};refine Ae.mk (Sm F T) ?_;rintro r7 H7 ⟨rfl,U,V⟩;refine⟨(c.mono λk h=>h.1).trans (U.mono λk h=>⟨Af c h.1,h.2⟩),?_⟩;(conv=>whnf);exact⟨va,A,_,_,rfl,Z,F,V⟩}
def YK{mb:Nat}(c:GH prog H0)(g:r.nodes<=2000)
  (d:∀(a:ReM),ME a=zW->a.nodes<=r.nodes->∀(s:Nat) {ps':List Pc} {H':Aa},St H0 H' (ps'++yY mb b s)->Aj prog 160 #[Y_ mb,An a] H' (UA (H_ H0) H0 33554432 ps' (yY mb b) (EP b a s)))
  (h:St H0 H (ps++yY mb b s)):
  Aj prog 114 #[Y_ mb,An r] H (Rb H0 ps mb b (AS b r s)):=
 YM c g (Rq (B:=H_ H0) (H0:=H0) (P:=yY mb b) (f:=160) (first:= #[Y_ mb]) (cap:= #[]) (PH b) (N_ _) r zO (λa i j s ps' H' e=>d a i j s e) h)
def Q1(a:d.n<=4096):(AN d).Rng:=by have:=PA.count_le (d:=d);unfold AN;split;{exact⟨⟨by show(-9223372036854775808:Int)<=(d.count:Int)+1;omega,by show(d.count:Int)+1<=(9223372036854775807:Int);omega⟩,⟨by show(-9223372036854775808:Int)<=0;decide,by show 0<=(9223372036854775807:Int);decide⟩,⟨by show(-9223372036854775808:Int)<=(d.count:Int);omega,by show(d.count:Int)<=(9223372036854775807:Int);omega⟩⟩};{exact⟨⟨zQ,zQ⟩,⟨zQ,zQ⟩,⟨zQ,zQ⟩⟩}
def cO{mb:Nat}{N:Nat}(a6:∀(r:ReM),r.nodes<=N->∀(s:Nat) {ps:List Pc} {H:Aa},St H0 H (ps++yY mb b s)->Aj prog 114 #[Y_ mb,An r] H (Rb H0 ps mb b (AS b r s)))
   (hp:ME r=zW) (hn:r.nodes<=N+1)  (st:St H0 H (ps++yY mb b s)):
  Aj prog 160 #[Y_ mb,An r] H (UA (H_ H0) H0 33554432 ps (yY mb b) (EP b r s)):=by revert hn st;cases r with|and_ t u=>{intro a7 st;refine Aj.of_vc func160 rfl (call160 _) ?_;simp only[ReM.nodes]at a7;have hX:EP b (.and_ t u) s=CI b PV (λs=>AS b t s) (λs=>AS b u s) s:=rfl;rw[hX];unfold CI;refine Ag _ [A_ 0,A_ 0,A_ 0,.slice zV 0 0] Eu rfl ?_;intro y H1 hy a8 a9 ab;have J_:St H0 H1 ((pB 76 y [A_ 0,A_ 0,A_ 0,.slice zV 0 0]::ps)++yY mb b s):=(st.box hy a8 a9 ab).perm (BP _ _);refine Au.run ?_;refine Eb underlying64 (by intro ms h;cases h) ?_;refine Ag _ [.nilIface,.nilIface] RW rfl ?_;intro x H2 hx ae ag ah;have ai:St H0 H2 (pB 64 x [.nilIface,.nilIface]::((pB 76 y [A_ 0,A_ 0,A_ 0,.slice zV 0 0]::ps)++yY mb b s)):=(J_.box hx ae ag ah).perm (BP _ _);refine A9 (cs:=[An t,An u]) ai 0 rfl rfl (N_ _) (by simp[E7]) λH3 w=>?_;rw[Ai (show([An t,An u]).length=([.nilIface,.nilIface]:List v_).length from rfl)]at w;refine Ap.lex rfl zX (fa Zw ?_);refine lT (v:=An t) Ej ((w.blk 0 rfl).ce rfl) ?_;refine fa Zx ?_;refine lT (v:=An u) Ej ((w.blk 0 rfl).ce rfl) ?_;have Q:St H0 H3 ((pB 76 y [A_ 0,A_ 0,A_ 0,.slice zV 0 0]::ps)++yY mb b s):=w.sub (yR _ _);have R:=a6 t zO s Q;obtain⟨D,x4,e⟩:∃s1 E,AS b t s=(s1,E):=⟨_,_,rfl⟩;rw[e]at R;refine Ae.mk R ?_;rintro v4 H4 T;cases x4 with|error e4=>obtain⟨rfl,F⟩:=T;have aj:=Co b t _ _ _ e;have f:St H0 H4 (JD mb b D::pB 76 y [A_ 0,A_ 0,A_ 0,.slice zV 0 0]::ps):=F.perm (BP _ _);have ak:St H0 H4 (pB 76 y [A_ 0,A_ 0,A_ 0,.slice zV 0 0]::JD mb b D::ps):=f.pickN 2 [1,0] zQ;have d4:(e4 != 0)=zW:=bne_iff_ne.2 aj;(conv=>whnf);rw[d4];refine Az underlying76 rfl _ Eu [A_ 0,A_ 0,A_ 0,.slice zV 0 0] rfl (A9 (cs:=[A_ 0,A_ 0,A_ 0,.slice zV 0 0]) ak 0 rfl rfl (N_ _) rfl λG4 U=>?_);refine L_ (cs:=[A_ 0,A_ 0,A_ 0,.slice zV 0 0]) Gl ((U.blk 0 rfl).cells λj v G=>by rw[K_];exact G) zA ?_;(conv=>whnf);rw[CK (x:=AS b t s) e];exact⟨_,rfl,rfl,rfl,(U.sub (yR _ _)).perm (BP _ _).symm⟩|ok d1=>{obtain⟨g,A1,i,o,rfl,am,ao,F⟩:=T;have ap:=(Hp e).1;have f:St H0 H4 ((pA i o g (zY A1)::pB 76 y [A_ 0,A_ 0,A_ 0,.slice zV 0 0]::ps)++yY mb b D):=F.perm (BP _ _);have V:=a6 u zO D f;obtain⟨C,x5,p⟩:∃s1 E,AS b u D=(s1,E):=⟨_,_,rfl⟩;rw[p]at V;rw[C5 (x:=AS b t s) e];refine Ae.mk V ?_;rintro v5 H5 W;cases x5 with|error e5=>obtain⟨rfl,I⟩:=W;have aq:=Co b u _ _ _ p;have a:St H0 H5 (JD mb b C::pA i o g (zY A1)::pB 76 y [A_ 0,A_ 0,A_ 0,.slice zV 0 0]::ps):=I.perm (BP _ _);have ar:St H0 H5 (pB 76 y [A_ 0,A_ 0,A_ 0,.slice zV 0 0]::JD mb b C::ps):=a.pickN 3 [2,0] zQ;have d5:(e5 != 0)=zW:=bne_iff_ne.2 aq;(conv=>whnf);rw[d5];refine Az underlying76 rfl _ Eu [A_ 0,A_ 0,A_ 0,.slice zV 0 0] rfl (A9 (cs:=[A_ 0,A_ 0,A_ 0,.slice zV 0 0]) ar 0 rfl rfl (N_ _) rfl λG5 X=>?_);refine L_ (cs:=[A_ 0,A_ 0,A_ 0,.slice zV 0 0]) Gl ((X.blk 0 rfl).cells λj v G=>by rw[K_];exact G) zA ?_;(conv=>whnf);rw[CK (x:=AS b u D) p];exact⟨_,rfl,rfl,rfl,(X.sub (yR _ _)).perm (BP _ _).symm⟩|ok d2=>{obtain⟨J,A2,K,L,rfl,au,aw,I⟩:=W;have ax:=(Hp p).1;rw[C5 (x:=AS b u D) p];have a:St H0 H5 (JD mb b C::pA K L J (zY A2)::pA i o g (zY A1)::pB 76 y [A_ 0,A_ 0,A_ 0,.slice zV 0 0]::ps):=I.perm (F6 _ _ _);refine fa Ob ?_;refine D_ (v:=A_ b) E_ (by rw[(B_.blk (l:=[A_ b,A_ C]) a 0 rfl).cell];rfl) zA ?_;refine Ae.mk (cE (S:=H_ H5) (m:=b) (λk hk=>hk) (B_.aView a 2 rfl) (B_.aView a 1 rfl) am au) ?_;rintro r6 H6 ⟨Y,ay⟩;have z:=jS ao aw ap ax ay;cases B:xL b PV d1 d2 with|error e7=>{rw[B]at z;obtain rfl:r6= .tuple #[.pointer zV,A_ e7]:=z;have Z:e7≠0:=by{rcases On B with h | h<;>omega};refine Al (P5 Z) λH7 az=>?_;have c:=(a.call Y).call az;have b0:St H0 H7 (pB 76 y [A_ 0,A_ 0,A_ 0,.slice zV 0 0]::JD mb b C::ps):=c.pickN 4 [3,0] zQ;have d7:(e7 != 0)=zW:=bne_iff_ne.2 Z;(conv=>whnf);rw[d7];refine Az underlying76 rfl _ Eu [A_ 0,A_ 0,A_ 0,.slice zV 0 0] rfl (A9 (cs:=[A_ 0,A_ 0,A_ 0,.slice zV 0 0]) b0 0 rfl rfl (N_ _) rfl λG7 a0=>?_);refine L_ (cs:=[A_ 0,A_ 0,A_ 0,.slice zV 0 0]) Gl ((a0.blk 0 rfl).cells λj v G=>by rw[K_];exact G) zA ?_;(conv=>whnf);exact⟨_,rfl,rfl,rfl,(a0.sub (yR _ _)).perm (BP _ _).symm⟩}|ok d=>{rw[B]at z;obtain⟨a1,A3,rfl,a2,b4,a3⟩:∃v A,r6= .tuple #[v,A_ 0]/\Bi (λk=>H5.size<=k/\k<H6.size) H6 v (zY A)/\Cw (zY A)/\JH (zY A) d:=z;obtain⟨-,-,-,-,-,b5,-,M,-,-⟩:=Ki B;have b6:St H0 H6 ((pA K L J (zY A2)::pA i o g (zY A1)::pB 76 y [A_ 0,A_ 0,A_ 0,.slice zV 0 0]::ps)++yY mb b C++[pA H5.size H6.size a1 (zY A3)]):=B_.auto (a.perm (BP _ _).symm) Y a2;refine Ae.mk (Sm a3 b6) ?_;rintro r7 H7 ⟨rfl,-,b7⟩;have c:=b7.perm (F6 _ _ _);refine Ae.mk (TD (S:=H_ H7) (λk hk=>hk) (B_.aView c 1 rfl) b4 a3 b5 M) ?_;rintro r8 H8 ⟨b8,O,P,rfl,a4⟩;have⟨be,bf,e8,b9⟩:=c.got b8 a4;injection e8 with e81 _ e83;subst e81;subst e83;have bd:St H0 H8 (pS C' 174 O (AN d).edges.length P (AN d).edges::JD mb b (max C d.n)::pA H5.size H6.size a1 (zY A3)::pA K L J (zY A2)::pA i o g (zY A1)::pB 76 y [A_ 0,A_ 0,A_ 0,.slice zV 0 0]::ps):=b9.perm (BP _ _);have a5:St H0 H8 (pB 76 y [A_ 0,A_ 0,A_ 0,.slice zV 0 0]::JD mb b (max C d.n)::pS C' 174 O (AN d).edges.length P (AN d).edges::ps):=bd.pickN 6 [5,1,0] zQ;refine A9 (cs:=n_ (AN d) (.slice O (AN d).edges.length P)) a5 0 rfl rfl (N_ _) rfl λH11 q=>?_;rw[Ai (show(n_ (AN d) (.slice O (AN d).edges.length P)).length=4 from rfl)]at q;refine L_ (cs:=n_ (AN d) (.slice O (AN d).edges.length P)) Gl ((q.blk 0 rfl).cells λj v G=>by rw[K_];exact G) zA ?_;(conv=>whnf);exact⟨IK M,Q1 M,O,P,rfl,(q.sub (yR _ _)).perm (F6 _ _ _).symm⟩}}}}|minus t u=>{intro a7 st;refine Aj.of_vc func160 rfl (call160 _) ?_;simp only[ReM.nodes]at a7;have hX:EP b (.minus t u) s=CI b Qa (λs=>AS b t s) (λs=>AS b u s) s:=rfl;rw[hX];unfold CI;refine Ag _ [A_ 0,A_ 0,A_ 0,.slice zV 0 0] Eu rfl ?_;intro y H1 hy a8 a9 ab;have J_:St H0 H1 ((pB 76 y [A_ 0,A_ 0,A_ 0,.slice zV 0 0]::ps)++yY mb b s):=(st.box hy a8 a9 ab).perm (BP _ _);refine Au.run ?_;refine Cb underlying64 (by intro ms h;cases h) RW zQ ?_;refine Eb underlying65 (by intro ms h;cases h) ?_;refine Ag _ [.nilIface,.nilIface] WJ rfl ?_;intro x H2 hx ae ag ah;have ai:St H0 H2 (pB 65 x [.nilIface,.nilIface]::((pB 76 y [A_ 0,A_ 0,A_ 0,.slice zV 0 0]::ps)++yY mb b s)):=(J_.box hx ae ag ah).perm (BP _ _);refine A9 (cs:=[An t,An u]) ai 0 rfl rfl (N_ _) (by simp[E7]) λH3 w=>?_;rw[Ai (show([An t,An u]).length=([.nilIface,.nilIface]:List v_).length from rfl)]at w;refine Ap.lex rfl zX (fa Zy ?_);refine lT (v:=An t) Ej ((w.blk 0 rfl).ce rfl) ?_;refine fa Zz ?_;refine lT (v:=An u) Ej ((w.blk 0 rfl).ce rfl) ?_;have Q:St H0 H3 ((pB 76 y [A_ 0,A_ 0,A_ 0,.slice zV 0 0]::ps)++yY mb b s):=w.sub (yR _ _);have R:=a6 t zO s Q;obtain⟨D,x4,e⟩:∃s1 E,AS b t s=(s1,E):=⟨_,_,rfl⟩;rw[e]at R;refine Ae.mk R ?_;rintro v4 H4 T;cases x4 with|error e4=>obtain⟨rfl,F⟩:=T;have aj:=Co b t _ _ _ e;have f:St H0 H4 (JD mb b D::pB 76 y [A_ 0,A_ 0,A_ 0,.slice zV 0 0]::ps):=F.perm (BP _ _);have ak:St H0 H4 (pB 76 y [A_ 0,A_ 0,A_ 0,.slice zV 0 0]::JD mb b D::ps):=f.pickN 2 [1,0] zQ;have d4:(e4 != 0)=zW:=bne_iff_ne.2 aj;(conv=>whnf);rw[d4];refine Az underlying76 rfl _ Eu [A_ 0,A_ 0,A_ 0,.slice zV 0 0] rfl (A9 (cs:=[A_ 0,A_ 0,A_ 0,.slice zV 0 0]) ak 0 rfl rfl (N_ _) rfl λG4 U=>?_);refine L_ (cs:=[A_ 0,A_ 0,A_ 0,.slice zV 0 0]) Gl ((U.blk 0 rfl).cells λj v G=>by rw[K_];exact G) zA ?_;(conv=>whnf);rw[CK (x:=AS b t s) e];exact⟨_,rfl,rfl,rfl,(U.sub (yR _ _)).perm (BP _ _).symm⟩|ok d1=>{obtain⟨g,A1,i,o,rfl,am,ao,F⟩:=T;have ap:=(Hp e).1;have f:St H0 H4 ((pA i o g (zY A1)::pB 76 y [A_ 0,A_ 0,A_ 0,.slice zV 0 0]::ps)++yY mb b D):=F.perm (BP _ _);have V:=a6 u zO D f;obtain⟨C,x5,p⟩:∃s1 E,AS b u D=(s1,E):=⟨_,_,rfl⟩;rw[p]at V;rw[C5 (x:=AS b t s) e];refine Ae.mk V ?_;rintro v5 H5 W;cases x5 with|error e5=>obtain⟨rfl,I⟩:=W;have aq:=Co b u _ _ _ p;have a:St H0 H5 (JD mb b C::pA i o g (zY A1)::pB 76 y [A_ 0,A_ 0,A_ 0,.slice zV 0 0]::ps):=I.perm (BP _ _);have ar:St H0 H5 (pB 76 y [A_ 0,A_ 0,A_ 0,.slice zV 0 0]::JD mb b C::ps):=a.pickN 3 [2,0] zQ;have d5:(e5 != 0)=zW:=bne_iff_ne.2 aq;(conv=>whnf);rw[d5];refine Az underlying76 rfl _ Eu [A_ 0,A_ 0,A_ 0,.slice zV 0 0] rfl (A9 (cs:=[A_ 0,A_ 0,A_ 0,.slice zV 0 0]) ar 0 rfl rfl (N_ _) rfl λG5 X=>?_);refine L_ (cs:=[A_ 0,A_ 0,A_ 0,.slice zV 0 0]) Gl ((X.blk 0 rfl).cells λj v G=>by rw[K_];exact G) zA ?_;(conv=>whnf);rw[CK (x:=AS b u D) p];exact⟨_,rfl,rfl,rfl,(X.sub (yR _ _)).perm (BP _ _).symm⟩|ok d2=>{obtain⟨J,A2,K,L,rfl,au,aw,I⟩:=W;have ax:=(Hp p).1;rw[C5 (x:=AS b u D) p];have a:St H0 H5 (JD mb b C::pA K L J (zY A2)::pA i o g (zY A1)::pB 76 y [A_ 0,A_ 0,A_ 0,.slice zV 0 0]::ps):=I.perm (F6 _ _ _);refine fa Ob ?_;refine D_ (v:=A_ b) E_ (by rw[(B_.blk (l:=[A_ b,A_ C]) a 0 rfl).cell];rfl) zA ?_;refine Ae.mk (dY (S:=H_ H5) (m:=b) (λk hk=>hk) (B_.aView a 2 rfl) (B_.aView a 1 rfl) am au) ?_;rintro r6 H6 ⟨Y,ay⟩;have z:=jS ao aw ap ax ay;cases B:xL b Qa d1 d2 with|error e7=>{rw[B]at z;obtain rfl:r6= .tuple #[.pointer zV,A_ e7]:=z;have Z:e7≠0:=by{rcases On B with h | h<;>omega};refine Al (P5 Z) λH7 az=>?_;have c:=(a.call Y).call az;have b0:St H0 H7 (pB 76 y [A_ 0,A_ 0,A_ 0,.slice zV 0 0]::JD mb b C::ps):=c.pickN 4 [3,0] zQ;have d7:(e7 != 0)=zW:=bne_iff_ne.2 Z;(conv=>whnf);rw[d7];refine Az underlying76 rfl _ Eu [A_ 0,A_ 0,A_ 0,.slice zV 0 0] rfl (A9 (cs:=[A_ 0,A_ 0,A_ 0,.slice zV 0 0]) b0 0 rfl rfl (N_ _) rfl λG7 a0=>?_);refine L_ (cs:=[A_ 0,A_ 0,A_ 0,.slice zV 0 0]) Gl ((a0.blk 0 rfl).cells λj v G=>by rw[K_];exact G) zA ?_;(conv=>whnf);exact⟨_,rfl,rfl,rfl,(a0.sub (yR _ _)).perm (BP _ _).symm⟩}|ok d=>{rw[B]at z;obtain⟨a1,A3,rfl,a2,b4,a3⟩:∃v A,r6= .tuple #[v,A_ 0]/\Bi (λk=>H5.size<=k/\k<H6.size) H6 v (zY A)/\Cw (zY A)/\JH (zY A) d:=z;obtain⟨-,-,-,-,-,b5,-,M,-,-⟩:=Ki B;have b6:St H0 H6 ((pA K L J (zY A2)::pA i o g (zY A1)::pB 76 y [A_ 0,A_ 0,A_ 0,.slice zV 0 0]::ps)++yY mb b C++[pA H5.size H6.size a1 (zY A3)]):=B_.auto (a.perm (BP _ _).symm) Y a2;refine Ae.mk (Sm a3 b6) ?_;rintro r7 H7 ⟨rfl,-,b7⟩;have c:=b7.perm (F6 _ _ _);refine Ae.mk (TD (S:=H_ H7) (λk hk=>hk) (B_.aView c 1 rfl) b4 a3 b5 M) ?_;rintro r8 H8 ⟨b8,O,P,rfl,a4⟩;have⟨be,bf,e8,b9⟩:=c.got b8 a4;injection e8 with e81 _ e83;subst e81;subst e83;have bd:St H0 H8 (pS C' 174 O (AN d).edges.length P (AN d).edges::JD mb b (max C d.n)::pA H5.size H6.size a1 (zY A3)::pA K L J (zY A2)::pA i o g (zY A1)::pB 76 y [A_ 0,A_ 0,A_ 0,.slice zV 0 0]::ps):=b9.perm (BP _ _);have a5:St H0 H8 (pB 76 y [A_ 0,A_ 0,A_ 0,.slice zV 0 0]::JD mb b (max C d.n)::pS C' 174 O (AN d).edges.length P (AN d).edges::ps):=bd.pickN 6 [5,1,0] zQ;refine A9 (cs:=n_ (AN d) (.slice O (AN d).edges.length P)) a5 0 rfl rfl (N_ _) rfl λH11 q=>?_;rw[Ai (show(n_ (AN d) (.slice O (AN d).edges.length P)).length=4 from rfl)]at q;refine L_ (cs:=n_ (AN d) (.slice O (AN d).edges.length P)) Gl ((q.blk 0 rfl).cells λj v G=>by rw[K_];exact G) zA ?_;(conv=>whnf);exact⟨IK M,Q1 M,O,P,rfl,(q.sub (yR _ _)).perm (F6 _ _ _).symm⟩}}}}|_=>cases hp
end
section
attribute [local irreducible] Bt AH Am
def Rp{first:Array v_}(r:ReM)(i:r.plain=zW)(C:r.nodes<=1000000000)(H:Aa):Aj prog 84 #[An r,.func (.func f) first cap] H λv H'=>nR H H' r v:=by rw[F1];refine Aj.of_vc func84 rfl (call84 _) (Ag _ [A_ 0,A_ 0,A_ 0,.slice zV 0 0] Eu rfl ?_);intro y H1 D m o p;have J_:=(St.nil H).box D m o p;refine Qy underlying28 (JB.mk (HM r) #[EW r] (FZ r) (Sq r C H1) ?_);rintro _ H2 ⟨rfl,q⟩;have k:=J_.call q;by_cases e:2000<r.nodes;{have s:zT ((2000:Int)<(r.nodes:Int))=zW:=l_;(conv=>whnf);rw[s];refine Az underlying76 rfl _ Eu [A_ 0,A_ 0,A_ 0,.slice zV 0 0] rfl (A9 (cs:=[A_ 0,A_ 0,A_ 0,.slice zV 0 0]) k 0 rfl rfl (N_ _) rfl λH3 b=>?_);refine L_ (cs:=[A_ 0,A_ 0,A_ 0,.slice zV 0 0]) Gl ((b.blk 0 rfl).cells λj v a=>by rw[K_];exact a) zA ?_;(conv=>whnf);exact⟨b.old,by rw[I_ e]<;>rfl⟩};{have s:zT ((2000:Int)<(r.nodes:Int))=zU:=Z_;have E:=Gc r;have F:=GY r i 0;(conv=>whnf);rw[s];refine Az underlying246 rfl _ qK (xR 0 (.slice zV 0 0) (.func (.func f) first cap)) zX (Cd (xR 0 (.slice zV 0 0) (.func (.func f) first cap)) rfl ?_);intro bb H3 t u w x;have b:St H H3 (pB yO bb (xR 0 (.slice zV 0 0) (.func (.func f) first cap))::pS C' 174 zV 0 0 []::[pB 76 y [A_ 0,A_ 0,A_ 0,.slice zV 0 0]]):=((k.box t u w x).nils C' 174).pick [1,2,0] zQ;have B:=Ah6 (sub:=(.func (.func f) first cap)) (n:=0) (es:=[]) r i b zO (by simp only[h_];omega);rw[F1]at B;refine Ae.mk B ?_;rintro _ H4 ⟨rfl,g,h,l⟩;rw[tL,K_]at l;refine fa BO (fa Lv (AZ l 0 E_ rfl (zQ:1<6) rfl λH5 z=>(fa BO (fa M6 (AZ z 0 E_ rfl (zQ:2<6) rfl λH6 c=>(fa C1 ?_))))));refine lT (v:=A_ 0) IZ ((c.blk 0 rfl).ce rfl) ?_;refine fa BO (fa Em ?_);refine lT (v:=A_ (Z' r:Int)) E_ ((c.blk 0 rfl).ce rfl) ?_;have G:zT ((65536:Int)<(Z' r:Int))=zU:=Z_;(conv=>whnf);rw[G];refine fa BO ?_;have A:Bn H6 bb 0 (n_ (Bx r) (.slice g (Bx r).edges.length h)):=(c.blk 0 rfl).cells λj v a=>by{rw[K_];match j,a with|0,a=>exact a|1,a=>exact a|2,a=>exact a|3,a=>exact a};refine L_ (cs:=n_ (Bx r) (.slice g (Bx r).edges.length h)) Gl A zA (A9 (cs:=n_ (Bx r) (.slice g (Bx r).edges.length h)) c 2 rfl rfl (N_ _) rfl λH7 d=>?_);rw[Ai (show(n_ (Bx r) (.slice g (Bx r).edges.length h)).length=4 from rfl)]at d;refine L_ (cs:=n_ (Bx r) (.slice g (Bx r).edges.length h)) Gl ((d.blk 2 rfl).cells λj v a=>by rw[K_];exact a) zA ?_;(conv=>whnf);exact⟨d.old,by rw[G_ e];exact⟨g,h,rfl,St.own d 1 rfl⟩⟩}
def cK(a:r.plain=zW)(e:r.nodes<=2000):(Bx r).Rng/\(Bx r).edges.length<=33554432:=by have c:=Gc r;have d:=GY r a 0;have b:=Eh r a 0;refine⟨⟨BK zO,BK zO,BK zO⟩,?_⟩;show(BY r 0).2.2.length<=_;omega
def eV{S:Nat->Prop}(p:∀k,S k->k<H.size)(h:tT S H v a)(d:GH prog H):
  Aj prog 38 #[v,A_ b] H λr H'=>C_ (H_ H) H H'/\match FQ a b with
   | .error e=>r= .tuple #[.pointer zV,A_ e]
   | .ok F=>∃v,r= .tuple #[v,A_ 0]/\∃(o:AM),Bi (λk=>H.size<=k/\k<H'.size) H' v (zY o)/\Ld a F (AR (zY o)) (Bk (zY o))/\stN (zY o)=F.length/\Cw (zY o):=by by_cases j:b<1\/4096<b;{rw[Ti j];exact(ID h j).mono λr H' ⟨g,c⟩=>⟨c,g⟩};{obtain⟨m,rfl⟩:=xK (zO:0<=b);rw[NM zO zO];refine(KZ p h d (budget:=m) zO zO).mono λr H' ⟨g,c⟩=>⟨g,?_⟩;have f:=detA a (most:=m) zO;cases i:CS m (Be a) (F8 (DF a)) (HQ a)with|none=>rw[i]at c f;rw[<-f];exact c|some q=>have⟨F,rows⟩:=q;rw[i]at c f;rw[<-f];obtain⟨s,rfl,l⟩:=c;have⟨n,t,u⟩:=jB zO zO i;rw[n,I_ rfl]at l;exact⟨s,rfl,_,l,t,u,⟨_,_,_,by{unfold Fc;rw[k_,I_ n]}⟩⟩}
def AhH{P:w_}{e mb o:Nat}{l:List v_}{K:Aa->Prop}(d:R_ H mb e l)(f:Cf P t)(g:o<l.length)(h:v.oneCell'=zW)
  (k:∀H',R_ H' mb e (l.set o v)->C_ (λk=>k<H.size/\k≠mb) H H'->H'.size=H.size->K H'):Dm P (Instr.storeAt t (.pointer (zY ⟨mb,o,zV⟩)) v) H K:=by refine tQ f d g h ?_;intro H' a b c;exact k H' a (b.mono λk i=>i.2) c
def sI(b m:Int):List v_:=[A_ b,A_ m]
def qT:(prog.info? 216).bind (·.zero)=zY (.agg (sI 0 0).toArray):=zX
def JJ(r:ReM)(b:Int)(H':Aa)(R:v_):Prop:=
 if b<1\/4096<b then R= .tuple #[.pointer zV,A_ 0,A_ 2]else
 if 2000<r.nodes then R= .tuple #[.pointer zV,A_ 0,A_ 24]else
 match FQ (Bx r) b with
 | .error e=>R= .tuple #[.pointer zV,A_ 0,A_ e]
 | .ok F=>∃v o,R= .tuple #[v,A_ (F.length:Int),A_ 0]/\Bi (H_ H') H' v (zY o)/\Ld (Bx r) F (AR (zY o)) (Bk (zY o))/\stN (zY o)=F.length/\Cw (zY o)
def ZJ(r:ReM)(t:r.plain=zW)(hn:r.nodes<=2000){mb:Nat}(st:St H H [])(u:R_ H mb 216 (sI b 0))(w:GH prog H):
  Aj prog 114 #[Y_ mb,An r] H λR H'=>C_ (λk=>k<H.size/\k≠mb) H H'/\H.size<=H'.size/\match FQ (Bx r) b with
   | .error e=>R= .tuple #[.pointer zV,A_ e]
   | .ok F=>R_ H' mb 216 (sI b (F.length:Int))/\∃v o,R= .tuple #[v,A_ 0]/\Bi (λk=>H.size<=k/\k<H'.size) H' v (zY o)/\Ld (Bx r) F (AR (zY o)) (Bk (zY o))/\stN (zY o)=F.length/\Cw (zY o):=by have A:=u.lt;have a2:∀{H':Aa},C_ (H_ H) H H'->C_ (λk=>k<H.size/\k≠mb) H H':=λh=>h.mono λk a=>a.1;refine Aj.of_vc func114 rfl (call114 _) (Ae.mk (Rp r t zO H) ?_);rintro _ H2 ⟨B,U⟩;rw[G_ zO]at U;obtain⟨V,W,rfl,x⟩:=U;have⟨a3,a4,e2,C⟩:=st.got B x;injection e2 with e21 e22 e23;subst e21;subst e23;refine Ag _ [A_ 0,A_ 0,A_ 0,.slice zV 0 0] Eu rfl ?_;intro p H3 hp D E I;have J:=C.box hp D E I;refine A9 (cs:=n_ (Bx r) (.slice V (Bx r).edges.length W)) J 1 rfl rfl (N_ _) rfl λH4 c=>?_;rw[Ai (show(n_ (Bx r) (.slice V (Bx r).edges.length W)).length=4 from rfl)]at c;have X:=c.blk 1 rfl;have⟨hr,hl⟩:=cK t hn;have l:=u.agr c.old A;have g:∀{G:Aa},C_ (H_ H4) H4 G->C_ (λk=>k<H4.size/\k≠mb) H4 G:=λh=>h.mono λk a=>a.1;have y:∀{G:Aa},C_ (λk=>k<H4.size/\k≠mb) H4 G->C_ (λk=>k<H.size/\k≠mb) H G:=λh=>(c.old.mono λk a=>a.1).trans (h.mono λk a=>⟨Af c.old a.1,a.2⟩);have Y:H.size<=H4.size:=Bl c.old;refine Ap.heldZ (λk=>k<H4.size/\k≠mb) [] (sq [0,1,2,3,4] (.f 5 (.f 6 (sq [7,8] (.f 9 (sq [10,11,12] (.f 13 .e))))))) rfl zX ?_;have K:p≠mb:=by{have:=St.ge c 1 rfl (show(pB 76 p _).foot p from rfl);omega};refine Jk hr hl X Gl ⟨X.lt,K⟩ (c.view 0 rfl) λv5 L=>(F_ Ob ?_);refine D_ (v:=A_ b) E_ (by rw[l.cell];rfl) zA ?_;refine⟨C_.refl _ _,?_⟩;refine Ae.mk (eV (b:=b) (S:=H_ H4) (λk a=>a) L (w.agr c.old)) ?_;rintro r5 H5 ⟨d,i⟩;have m:=l.agr d l.lt;refine⟨g d,?_⟩;cases M:FQ (Bx r) b with|error e=>rw[M]at i;simp only at i;subst i;have he:=(OQ M).1;have Z:(e==0)=zU:=beq_eq_false_iff_ne.2 he;refine Ae.mk (R:=λR G=>R= .tuple #[.pointer zV,A_ e]/\G=H5) (Aj.of_vc func161 rfl (call161 _) (by{refine Au.run ?_;(conv=>whnf);rw[Z];(conv=>whnf);exact⟨rfl,rfl⟩})) ?_;rintro _ _ ⟨rfl,rfl⟩;refine⟨g d,?_⟩;(conv=>whnf);refine⟨g d,?_⟩;(conv=>whnf);exact⟨y (g d),by have:=Bl d;omega,rfl⟩|ok F=>rw[M]at i;obtain⟨N,rfl,o,q,hL,hN,O⟩:=i;have hF:=q.steps;have a5:=hF.n2;have Z:((0:Int)==0)=zW:=rfl;have z:Bi (λk=>H4.size<=k/\k<H5.size) H5 N (zY o):=q;have a0:mb<H4.size:=l.lt;refine Ae.mk (R:=λR G=>R= .tuple #[N,A_ 0]/\C_ (λk=>k<H5.size/\k≠mb) H5 G/\H5.size<=G.size/\R_ G mb 216 (sI b (F.length:Int))) (Aj.of_vc func161 rfl (call161 _) (by{refine Au.run (Ap.heldZ (λk=>k=mb) [10] (sq [0,1,2,3,4,5] (.f 6 (sq [7,8,9] (.f 10 .e)))) rfl zX (F_ K9 ?_));refine D_ (v:=A_ 0) E_ (by rw[m.cell];rfl) rfl ?_;refine Al (DB z) λH6 j=>?_;have P:=m.agr j m.lt;refine⟨j.mono λk a=>by rw[a];exact m.lt,?_⟩;rw[hN];refine QZ ?_;have e1:(if(0:Int)<(F.length:Int)then(F.length:Int)else 0)=(F.length:Int):=by{split<;>omega};rw[e1];refine F_ K9 (AhH P E_ (zQ:1<2) rfl λH7 s n Q=>?_);(conv=>whnf);refine⟨rfl,(j.mono λk a=>a.1).trans (n.mono λk a=>⟨Af j a.1,a.2⟩),?_,s⟩;have:=Bl j;omega})) ?_;rintro _ H7 ⟨rfl,n,Q,s⟩;have a1:=Bl d;have T:C_ (λk=>k<H4.size/\k≠mb) H4 H7:=(g d).trans (n.mono λk a=>⟨zO,a.2⟩);refine⟨T,?_⟩;(conv=>whnf);refine⟨T,?_⟩;(conv=>whnf);refine⟨y T,zO,s,N,o,rfl,(q.frame (n.mono λk a=>⟨a.2,zO⟩)).mono λk a=>⟨zO,zO⟩,hL,hN,O⟩
def WX(r:ReM)(m:r.plain=zW)(n:r.nodes<=1000000000)(g:GH prog H):
  Aj prog 47 #[An r,A_ b] H λR H'=>C_ (H_ H) H H'/\JJ r b H' R:=by rw[F1];refine Aj.of_vc func47 rfl (call47 _) ?_;unfold JJ;by_cases d:b<1;{have j:zT (b<1)=zW:=m_ d;(conv=>whnf);rw[j];(conv=>whnf);exact⟨C_.refl _ _,by rw[I_ (.inl d)]⟩};have j:zT (b<1)=zU:=j_ d;by_cases a:4096<b;{have p:zT (b>4096)=zW:=m_ a;(conv=>whnf);rw[j];(conv=>whnf);rw[p];(conv=>whnf);exact⟨C_.refl _ _,by rw[I_ (.inr a)]⟩};have p:zT (b>4096)=zU:=j_ a;(conv=>whnf);rw[j];(conv=>whnf);rw[p];refine Qy underlying28 (JB.mk (HM r) #[EW r] (FZ r) (Sq r n H) ?_);rintro _ H1 ⟨rfl,q⟩;have J_:=(St.nil H).call q;by_cases c:2000<r.nodes;{have s:zT ((r.nodes:Int)>2000)=zW:=l_;(conv=>whnf);rw[s];(conv=>whnf);exact⟨J_.old,by rw[G_ zO,I_ c]⟩};have s:zT ((r.nodes:Int)>2000)=zU:=Z_;(conv=>whnf);rw[s];refine Az underlying216 rfl _ qT (sI b 0) rfl (Cd (sI b 0) rfl ?_);intro mb H2 t A a u;have f:=J_.skip t u;have h:=ZJ r m zO (b:=b) (St.nil H2) a (g.agr f.old);rw[F1]at h;refine Ae.mk h ?_;rintro R H3 ⟨w,B,i⟩;have x:C_ (H_ H) H H3:=f.old.trans (w.mono λk l=>by{have C:=Af f.old l;have K:=Bl J_.old;have x:k<H.size:=l;exact⟨C,zO⟩});cases y:FQ (Bx r) b with|error e=>rw[y]at i;simp only at i;subst i;have D:=(OQ y).1;have E:(e != 0)=zW:=by{simpa using D};(conv=>whnf);rw[E];(conv=>whnf);exact⟨x,by rw[G_ zO,G_ c]⟩|ok F=>rw[y]at i;obtain⟨z,v,o,rfl,G,I,J⟩:=i;refine Ap.lex rfl zX (F_ K9 ?_);refine D_ (v:=A_ (F.length:Int)) E_ (by rw[z.cell];rfl) zA ?_;(conv=>whnf);refine⟨x,?_⟩;rw[G_ zO,G_ c];exact⟨v,o,rfl,G.mono λk l=>l.2,I,J⟩
def T8(r:ReM)(d:r.plain=zW)(e:r.nodes<=1000000000)(c:GH prog H):
  Aj prog 14 #[An r,A_ b] H λR H'=>C_ (H_ H) H H'/\∃x y z,JJ r b H' (.tuple #[x,y,z])/\R= .tuple #[x,z]:=by refine Aj.of_vc func14 rfl (call14 _) (Ae.mk (WX r d e c) ?_);rintro R H1 ⟨f,a⟩;obtain⟨x,y,z,rfl⟩:∃x y z,R= .tuple #[x,y,z]:=by{unfold JJ at a;split at a;{exact⟨_,_,_,a⟩};{split at a;{exact⟨_,_,_,a⟩};{split at a;{exact⟨_,_,_,a⟩};{obtain⟨v,o,h,-⟩:=a;exact⟨_,_,_,h⟩}}}};(conv=>whnf);exact⟨f,x,y,z,a,rfl⟩
def Vi(r:ReM)(d:r.plain=zW)(e:r.nodes<=1000000000)(c:GH prog H):
  Aj prog 30 #[An r,A_ b] H λR H'=>C_ (H_ H) H H'/\∃x y z,JJ r b H' (.tuple #[x,y,z])/\R= .tuple #[y,z]:=by refine Aj.of_vc func30 rfl (call30 _) (Ae.mk (WX r d e c) ?_);rintro R H1 ⟨f,a⟩;obtain⟨x,y,z,rfl⟩:∃x y z,R= .tuple #[x,y,z]:=by{unfold JJ at a;split at a;{exact⟨_,_,_,a⟩};{split at a;{exact⟨_,_,_,a⟩};{split at a;{exact⟨_,_,_,a⟩};{obtain⟨v,o,h,-⟩:=a;exact⟨_,_,_,h⟩}}}};(conv=>whnf);exact⟨f,x,y,z,a,rfl⟩
def YB(a:P_)(x:List Int){b:Nat}(d:256<=b):Be a x b=[]:=by have h:∀q,sH a (λq=>q∈x) b q->False:=E2 (Y:=λ_=>False) (λq ⟨e,_,_,c,_⟩=>by{rw[BitVec.getLsbD_of_ge _ _ d]at c;cases c}) λe _ _ _ h=>h;rw[List.eq_nil_iff_forall_not_mem];intro q f;exact h q ((F0 (DZ (Oe a _ b)) q).1 f)
def eS{K:Type} [DecidableEq K]{most:Nat}{step:K->Nat->K}{start:K}{F:List K}(f:1<=most)(h:Du most step start=zY F):∀x∈F,∀b,b<256->step x b∈F:=by unfold Du at h;cases c:CS most step (AjH 256) start with|none=>rw[c]at h;cases h|some z=>have⟨G,rows⟩:=z;rw[c]at h;simp only[wB,AkS.injEq]at h;subst h;have d:=Kn f G.length G rows (LM f c) λj m=>m;intro x n b g;have⟨q,i⟩:=xI n;have⟨row,a⟩:=Ab (l:=rows) (k:=q) (by rw[d.rl];exact(V_.1 i).1);have e:=d.cols row (e_ a);have⟨t,o⟩:=Ab (l:=row) (k:=b) (by rw[e];simpa using g);exact e_ (d.ok q b row b t x a (wS g) o i)
def QV{l:List Nat}(b:l.length<=30000)(a:∀c∈l,c<256):∀i,i<=l.length->(l.take i).foldl (Be (Bx (Bp l))) (HQ (Bx (Bp l)))=vI l.length i
 | 0,_=>by rw[vQ];exact MZ b
 | i+1,hi=>by
   have⟨c,d⟩:=Ab (l:=l) (k:=i) zO;rw[Ac d,xP,QV b a i zO];show Be _ _ c=_;rw[KP b a zO (a c (e_ d)),I_ d]
def fO(d:l.length<=30000){i:Nat}(b:i<=l.length):(Bx (Bp l)).fin∈vI l.length i↔i=l.length:=by rw[Jw d b];by_cases a:l=[];{subst a;unfold xH;rw[I_ (show([]:List Nat).length=0 from rfl)];have:i=0:=by{simpa using b};subst this;exact⟨λ_=>rfl,λ_=>.inr rfl⟩};{have c:0<l.length:=List.length_pos_iff.2 a;have e:(Bx (Bp l)).fin=((2*l.length-1:Nat):Int):=by{show(((BY (Bp l) 0).2.1:Nat):Int)=_;rw[(Jv l a).2.2.1]};unfold xH;rw[G_ zO,e];omega}
def fN(j:l.length<=30000)(f:∀c∈l,c<256){most:Nat}(r:1<=most):(l.length+2<=most->∃F,JN (Bx (Bp l)) most=zY F/\F.length=l.length+2)/\(most<l.length+2->JN (Bx (Bp l)) most=zV):=by
 have t:∀x b,x∈Ip l.length->Be (Bx (Bp l)) x b∈Ip l.length:=λx b g=>by{by_cases A:b<256;{exact VH j f g A};{rw[YB _ _ zO];exact List.mem_cons_self}};have u:HQ (Bx (Bp l))∈Ip l.length:=by rw[MZ j];exact Uv (q_ _)
 have m:∀F,JN (Bx (Bp l)) most=zY F->F.length=l.length+2/\F.length<=most:=λF s=>by{have d:=JO r s;have n:=eS r s;have o:∀x∈Ip l.length,x∈F:=by{have v:∀i,i<=l.length->vI l.length i∈F:=λi=>by{induction i with|zero=>intro _;rw[<-MZ j];exact e_ d.2.2.2|succ i B=>intro w;have⟨c,y⟩:=Ab (l:=l) (k:=i) zO;have p:=f c (e_ y);have:=n _ (B zO) c p;rwa [KP j f zO p,I_ y]at this};intro x g;rcases xU.1 g with rfl | g;{have:=n _ (v l.length (N_ _)) 0 zQ;rwa [KP j f (N_ _) zQ,G_ (by rw[zE (N_ _)];simp)]at this};{obtain⟨i,w,rfl⟩:=yQ.1 g;exact v i (by have:=yG.1 w;omega)}};have q:∀x∈F,x∈Ip l.length:=by{have a:=s;unfold JN Du at a;cases e:CS most (Be (Bx (Bp l))) (AjH 256) (HQ (Bx (Bp l)))with|none=>rw[e]at a;cases a|some z=>have⟨G,rows⟩:=z;rw[e]at a;simp only[wB,AkS.injEq]at a;subst a;exact(Ey (P:=λx=>x∈Ip l.length) r u (λx b g=>t x b g) _ most G rows e).2.2.2};have C:=KG (fQ j) o;have D:=KG d.2.2.1 q;rw[QY]at C D;exact⟨zO,d.2.1⟩};constructor;{intro h;cases e:JN (Bx (Bp l)) most with|some F=>exact⟨F,rfl,(m F e).1⟩|none=>exfalso;unfold JN Du at e;rw[Option.map_eq_none_iff]at e;have⟨L,E,I,H⟩:=JA (P:=λx=>x∈Ip l.length) r u t _ _ e;have:=KG E H;rw[QY]at this;omega};{intro h;cases e:JN (Bx (Bp l)) most with|none=>rfl|some F=>have:=m F e;omega}
def Pd{a:P_}{F:List (List Int)}{d:Int->Nat->Int}{f:Int->Bool}(h:Ld a F d f):∀(w:List Nat) (q:Nat) (x:List Int),Lj w->F[q]?=zY x->∃t:Nat,w.foldl d (q:Int)=(t:Int)/\F[t]?=zY (w.foldl (Be a) x)
 | [],q,x,_,hx=>⟨q,rfl,hx⟩
 | b::w,q,x,hw,hx=>by
   have⟨t,e,g⟩:=h.st q b x hx (hw b zZ);have⟨u,e2,i⟩:=Pd h w t (Be a x b) (λc j=>hw c (by simp[j])) g;exact⟨u,by rw[wU,e];exact e2,i⟩
def Vj{F:List (List Int)}(h:Ld a F (AR o) (Bk o))(h0:F[0]?=zY (HQ a)){w:List Nat}(b:Lj w):pL o w=zT (a.fin∈w.foldl (Be a) (HQ a)):=by have⟨t,e,c⟩:=Pd h w 0 _ b h0;show Bk o (w.foldl (AR o) 0)=_;rw[show w.foldl (AR o) (0:Int)=(t:Int)from e,h.fi t _ c]
def QT(e:l.length<=30000)(a:∀c∈l,c<256)(i:1<=b)(j:b<=4096):if(l.length:Int)+2<=b then∃F,FQ (Bx (Bp l)) b= .ok F/\F.length=l.length+2/\F[0]?=zY (HQ (Bx (Bp l)))else FQ (Bx (Bp l)) b= .error 40:=by obtain⟨m,rfl⟩:=xK (zO:0<=b);have⟨f,g⟩:=fN e a (most:=m) zO;rw[NM zO zO];split;{have⟨F,d,h⟩:=f zO;rw[d];exact⟨F,rfl,h,(JO zO d).2.2.2⟩};{rw[g zO]}
def PC(m:GH prog H):BZ prog 13 #[] H (.bool zW):=by
 have n:Lj [97,98]:=λb n=>by simp at n;omega
 have t:yU ⟨#[97,98]⟩=[97,98]:=rfl;have c:(Bp [97,98]).nodes=3:=rfl;refine Aj.of_vc func13 rfl (call13 _) (Al (kO ⟨#[97,98]⟩ zQ H) λH1 p=>?_);rw[t];refine Ae.mk (T8 (Bp [97,98]) (N5 _) (by rw[c];decide) (m.agr p)) ?_;rintro _ H2 ⟨G,x,y,z,D,rfl⟩;have d:=p.trans (G.mono λk a=>Af p a);unfold JJ at D;rw[G_ zQ,G_ (by rw[c];decide)]at D;have T:=QT (l:=[97,98]) zQ n (b:=4) zQ zQ;rw[I_ zQ]at T;have⟨F,V,W,I⟩:=T;rw[V]at D;have⟨v,o,e,J,X,hN⟩:=D;have e:=iX.2 (Value.tuple.inj e);simp only[List.cons.injEq,and_true]at e;obtain⟨rfl,rfl,rfl⟩:=e;refine Al (kO ⟨#[97,98]⟩ zQ H2) λH3 q=>?_;have r:=d.trans (q.mono λk a=>Af d a);rw[t];refine Ae.mk (Vi (Bp [97,98]) (N5 _) (by rw[c];decide) (m.agr r)) ?_;rintro _ H4 ⟨u,x',y',z',f,rfl⟩;have Y:=r.trans (u.mono λk a=>Af r a);unfold JJ at f;rw[G_ zQ,G_ (by rw[c];decide)]at f;have w:=QT (l:=[97,98]) zQ n (b:=4096) zQ zQ;rw[I_ zQ]at w;obtain⟨F',K,A,-⟩:=w;rw[K]at f;obtain⟨v',o',E,-,-,-⟩:=f;have E:=iX.2 (Value.tuple.inj E);simp only[List.cons.injEq,and_true]at E;obtain⟨rfl,rfl,rfl⟩:=E;have g:C_ (H_ H2) H2 H4:=q.trans (u.mono λk a=>Af q a);have L:=J.frame g;obtain⟨M,N⟩:∃M,x= .pointer (zY M):=by{obtain⟨M,e,-⟩:=J;exact⟨_,e⟩};subst N;have B:∀i,i<=2->pL (zY o) ([97,98].take i)=zT (i=2):=λi U=>by{rw[Vj X I (λb h=>n b (List.mem_of_mem_take h)),QV (l:=[97,98]) zQ n i U,decide_eq_decide];exact fO (l:=[97,98]) zQ U};have Z:JL (zY o) ⟨#[97,98]⟩=zW:=by{rw[show(⟨#[97,98]⟩:ByteArray)=bA [97,98]from rfl,Y0 n];exact B 2 (N_ _)};have a1:JL (zY o) ⟨#[97]⟩=zU:=by{rw[show(⟨#[97]⟩:ByteArray)=bA [97]from rfl,Y0 (λb h=>n b (by simp at h;simp[h]))];exact B 1 zQ};have C:F'.length=4:=A;rw[C];refine oZ underlying23 ?_;have O:=Qf (s:=⟨#[97,98]⟩) (λk a=>Af g a) L zQ;refine Al O λH5 P=>?_;rw[Z];have j:=g.trans (P.mono λk a=>Af g a);have Q:=Qf (s:=⟨#[97]⟩) (λk a=>Af j a) (J.frame j) zQ;refine Al Q λH6 R=>?_;rw[a1];have S:=j.trans (R.mono λk a=>Af j a);(conv=>whnf);exact⟨rfl,d.trans (S.mono λk a=>Af d a)⟩
end
variable{g J:Nat->Nat×Except Int PA}
section
attribute [local irreducible] Bt AH Am Du
def YL{mb:Nat}(a:GH prog H0):∀(N:Nat) (r:ReM),r.nodes<=N->r.nodes<=2000->∀(s:Nat) {ps:List Pc} {H:Aa},St H0 H (ps++yY mb b s)->
  Aj prog 114 #[Y_ mb,An r] H (Rb H0 ps mb b (AS b r s)):=by intro N;induction N with|zero=>intro r h;cases r<;>simp[ReM.nodes]at h|succ N e=>intro r o f s ps H g;refine YK a f (λi hs j p k H' c=>?_) g;exact cO (N:=i.nodes-1) (λl q m n H2 d=>e l zO zO m d) hs zO c
noncomputable def Dk(b:Int)(r:ReM):Except Int (PA×Nat):=if b<1\/4096<b then .error 2 else if 2000<r.nodes then .error 24 else match AS b r 0 with
 | (_,.error e)=>.error e
 | (m,.ok d)=>.ok (d,m)
def O5(x:Except Int (PA×Nat))(H H':Aa)(R:v_):Prop:=match x with
 | .error e=>R= .tuple #[.pointer zV,A_ 0,A_ e]
 | .ok (d,m)=>∃v A,R= .tuple #[v,A_ m,A_ 0]/\Bi (λk=>H.size<=k/\k<H'.size) H' v (zY A)/\Cw (zY A)/\JH (zY A) d
def VF(h:Dk b r= .error e):e≠0:=by unfold Dk at h;split at h;{cases h;decide};{split at h;{cases h;decide};{cases c:AS b r 0 with|mk s a=>{rw[c]at h;cases a with|error f=>simp only at h;cases h;exact Co b r _ _ _ c|ok d=>simp only at h;cases h}}}
def MW{m:Nat}(h:Dk b r= .ok (d,m)):1<=b/\b<=4096/\r.nodes<=2000/\AS b r 0=(m,.ok d):=by unfold Dk at h;split at h;{cases h};{rename_i e;split at h;{cases h};{cases c:AS b r 0 with|mk s a=>{rw[c]at h;cases a with|error f=>simp only at h;cases h|ok d=>simp only at h;cases h;exact⟨zO,zO,zO,rfl⟩}}}
def Q0(r:ReM)(o:r.nodes<=1000000000)(i:GH prog H):
  Aj prog 47 #[An r,A_ b] H λR H'=>C_ (H_ H) H H'/\O5 (Dk b r) H H' R:=by have c:=fun(mb:Nat) (H2:Aa) (st:St H H2 ([]++yY mb b 0)) (hn:r.nodes<=2000)=>YL (mb:=mb) (b:=b) i r.nodes r (N_ _) hn 0 st;rw[F1]at c ⊢;refine Aj.of_vc func47 rfl (call47 _) ?_;unfold Dk;by_cases h:b<1;{have m:zT (b<1)=zW:=m_ h;(conv=>whnf);rw[m];(conv=>whnf);exact⟨C_.refl _ _,by rw[I_ (.inl h)]<;>rfl⟩};have m:zT (b<1)=zU:=j_ h;by_cases f:4096<b;{have q:zT (b>4096)=zW:=m_ f;(conv=>whnf);rw[m];(conv=>whnf);rw[q];(conv=>whnf);exact⟨C_.refl _ _,by rw[I_ (.inr f)]<;>rfl⟩};have q:zT (b>4096)=zU:=j_ f;(conv=>whnf);rw[m];(conv=>whnf);rw[q];refine Qy underlying28 (JB.mk (HM r) #[EW r] (FZ r) (Sq r o H) ?_);rintro _ H1 ⟨rfl,s⟩;have J_:=(St.nil H).call s;by_cases g:2000<r.nodes;{have t:zT ((r.nodes:Int)>2000)=zW:=l_;(conv=>whnf);rw[t];(conv=>whnf);exact⟨J_.old,by rw[G_ zO,I_ g]<;>rfl⟩};have t:zT ((r.nodes:Int)>2000)=zU:=Z_;rw[G_ zO,G_ g];(conv=>whnf);rw[t];refine Az underlying216 rfl _ qT (sI b 0) rfl (Cd (sI b 0) rfl ?_);intro mb H2 u w f x;have y:St H H2 ([]++yY mb b 0):=J_.box u w f x;have j:=c mb H2 y zO;obtain⟨z,F,l⟩:∃G B,AS b r 0=(G,B):=⟨_,_,rfl⟩;rw[l]at j ⊢;refine Ae.mk j ?_;rintro R H3 D;cases F with|error e=>obtain⟨rfl,a⟩:=D;have I:=Co b r _ _ _ l;have J:(e != 0)=zW:=bne_iff_ne.2 I;(conv=>whnf);rw[J];(conv=>whnf);exact⟨a.old,rfl⟩|ok d=>obtain⟨va,A,lo,n,rfl,K,L,a⟩:=D;have C:R_ H3 mb 216 [A_ b,A_ z]:=a.at_ (p:=pB oX mb [A_ b,A_ z]) 0 rfl;refine Ap.lex rfl zX (F_ K9 ?_);refine D_ (v:=A_ z) E_ (by rw[C.cell];rfl) zA ?_;(conv=>whnf);refine⟨a.old,va,A,rfl,?_,K,L⟩;have M:Bi (λk=>lo<=k/\k<n) H3 va (zY A):=a.at_ (p:=pA lo n va (zY A)) 1 rfl;exact M.mono λk E=>⟨a.ge (p:=pA lo n va (zY A)) 1 rfl E,(a.in_ (p:=pA lo n va (zY A)) 1 rfl E).2⟩
def Ms{x:Except Int (PA×Nat)}{H':Aa}{R:v_}(h:O5 x H H' R):∃x y z,R= .tuple #[x,y,z]:=by unfold O5 at h;split at h;{exact⟨_,_,_,h⟩};{obtain⟨v,A,h,-⟩:=h;exact⟨_,_,_,h⟩}
def Fj(r:ReM)(f:r.nodes<=1000000000)(c:GH prog H):
  Aj prog 14 #[An r,A_ b] H λR H'=>C_ (H_ H) H H'/\match Dk b r with
   | .error e=>R= .tuple #[.pointer zV,A_ e]
   | .ok (d,m)=>∃v A,R= .tuple #[v,A_ 0]/\Bi (λk=>H.size<=k/\k<H'.size) H' v (zY A)/\Cw (zY A)/\JH (zY A) d:=by refine Aj.of_vc func14 rfl (call14 _) (Ae.mk (Q0 r f c) ?_);rintro R H1 ⟨g,a⟩;obtain⟨x,y,z,rfl⟩:=Ms a;(conv=>whnf);refine⟨g,?_⟩;unfold O5 at a;cases i:Dk b r with|error e=>rw[i]at a;cases a;rfl|ok q=>have⟨d,m⟩:=q;rw[i]at a;have⟨v,A,h,j⟩:=a;cases h;exact⟨_,A,rfl,j⟩
def ZG(r:ReM)(f:r.nodes<=1000000000)(c:GH prog H):
  Aj prog 30 #[An r,A_ b] H λR H'=>C_ (H_ H) H H'/\match Dk b r with
   | .error e=>R= .tuple #[A_ 0,A_ e]
   | .ok (d,m)=>R= .tuple #[A_ m,A_ 0]:=by refine Aj.of_vc func30 rfl (call30 _) (Ae.mk (Q0 r f c) ?_);rintro R H1 ⟨g,a⟩;obtain⟨x,y,z,rfl⟩:=Ms a;(conv=>whnf);refine⟨g,?_⟩;unfold O5 at a;cases i:Dk b r with|error e=>rw[i]at a;cases a;rfl|ok q=>have⟨d,m⟩:=q;rw[i]at a;have⟨v,A,h,j⟩:=a;cases h;rfl
def DJ{σ α β:Type}{x x':σ×Except Int α}{f:α->σ->σ×Except Int β}(h:x.2=x'.2)(c:∀a s b,(f a s).2=(f a b).2):(BD x f).2=(BD x' f).2:=by have⟨s,r⟩:=x;have⟨b,d⟩:=x';have h:r=d:=h;subst h;cases r with|error e=>rfl|ok a=>exact c a s b
def JV{x x':Nat×Except Int BR}(h:x.2=x'.2):(FG b x).2=(FG b x').2:=
 DJ h λA s a=>by
  split
  ·rfl
  ·cases FF b ⟨A.u,A.p,A.q,A.es⟩<;>rfl
def KN{ends:Bool->Bool->Bool}{f:Nat->Nat×Except Int PA}(c:∀s a,(f s).2=(f a).2)(d:∀s a,(g s).2=(g a).2)(s a:Nat):(CI b ends f g s).2=(CI b ends f g a).2:=
 DJ (c s a) λe s a=>DJ (d s a) λh s a=>by cases xL b ends e h<;>rfl
def QN{x':Nat×Except Int P_}{n:Nat}(h:x.2=x'.2):(DG x n).2=(DG x' n).2:=
 DJ h λa s b=>by split<;>rfl
def DU(b:Int):∀(r:ReM) (n s a:Nat),(Bf b r n s).2=(Bf b r n a).2
 | .eps,n,s,a=>rfl
 | .cls t,n,s,a=>rfl
 | .cat x y,n,s,a=>by
   simp only[Bf];exact DJ (DU b x n s a) λA s a=>DJ (DU b y _ s a) λC s a=>rfl
 | .alt x y,n,s,a=>by
   simp only[Bf];exact DJ (DU b x _ s a) λA s a=>DJ (DU b y _ s a) λC s a=>rfl
 | .star x,n,s,a=>by
   simp only[Bf];exact DJ (DU b x _ s a) λA s a=>rfl
 | .and_ x y,n,s,a=>by
   simp only[Bf];exact QN (KN (λs a=>JV (DU b x 0 s a)) (λs a=>JV (DU b y 0 s a)) s a)
 | .minus x y,n,s,a=>by
   simp only[Bf];exact QN (KN (λs a=>JV (DU b x 0 s a)) (λs a=>JV (DU b y 0 s a)) s a)
def FN(b:Int)(r:ReM)(s a:Nat):(AS b r s).2=(AS b r a).2:=JV (DU b r 0 s a)
end
section
attribute [local irreducible] Bt AH Am Du CS
noncomputable def Fu(b:Int)(r:ReM):P_:=match(EP b r 0).2 with
 | .ok N=>N
 | .error _=>⟨2,0,1,[]⟩
def PI(b:Int)(r:ReM)(s a:Nat):(EP b r s).2=(EP b r a).2:=by cases r with|and_ x y=>exact KN (λs a=>FN b x s a) (λs a=>FN b y s a) s a|minus x y=>exact KN (λs a=>FN b x s a) (λs a=>FN b y s a) s a|_=>rfl
section
variable{σ α β:Type}{x:σ×Except Int α}{f:α->σ->σ×Except Int β}
def GP{a:α}(h:x.2= .ok a):BD x f=f a x.1:=by have⟨s,r⟩:=x;have h:r= .ok a:=h;subst h;rfl
def F9(h:x.2= .error e):(BD x f).2= .error e:=by have⟨s,r⟩:=x;have h:r= .error e:=h;subst h;rfl
end
def VG{N:P_}(h:(EP b r s).2= .ok N):∃d:PA,N=AN d/\d.Ok/\d.n<=4096:=by have a:∀{ends:Bool->Bool->Bool} {f g:Nat->Nat×Except Int PA},(CI b ends f g s).2= .ok N->∃d:PA,N=AN d/\d.Ok/\d.n<=4096:=fun{ends f g} h=>by{obtain⟨j,k,l,m,d,-,-,c,rfl,-⟩:=Mq (show CI b ends f g s=((CI b ends f g s).1,.ok N)from Prod.ext rfl h);obtain⟨F,-,-,-,-,e,-,i,-,-⟩:=Ki c;exact⟨d,rfl,e,i⟩};cases r with|and_ x y=>exact a h|minus x y=>exact a h|_=>cases h
def Jt{N:P_}(h:(EP b r s).2= .ok N):ES N=zW/\N.edges.length<=33554432:=by obtain⟨d,rfl,c,a⟩:=VG h;exact⟨Np zO,IK a⟩
def PD{n:Nat}{N:P_}(h:x.2= .ok N)(a:ES N=zW):(DG x n).2= .ok ⟨n+N.start.toNat,n+N.fin.toNat,N.st.toNat,N.edges.map (V' n)⟩:=by unfold DG;rw[GP h];simp only[a,if_true]
section
variable{i:Nat}{l:List (ReM×Nat)}
def TU(h:D7 ns r i l)(hs:∀x∈l,∃N,(EP b x.1 0).2= .ok N):∀n s,(Bf b r n s).2= .ok (Bo (Fu b) r n):=by induction h with|eps=>intro n s;rfl|cls=>intro n s;rfl|@cat x y i j k d l m _ _ _ _ _ ih1 ih2=>intro n s;simp only[Bf,Bo];rw[GP (ih1 (λz a=>hs z (yS _ a)) n s),GP (ih2 (λz a=>hs z (wL _ a)) _ _)]|@alt x y i j k d l m _ _ _ _ _ ih1 ih2=>intro n s;simp only[Bf,Bo];rw[GP (ih1 (λz a=>hs z (yS _ a)) _ s),GP (ih2 (λz a=>hs z (wL _ a)) _ _)]|@star x i j d l _ _ _ ih=>intro n s;simp only[Bf,Bo];rw[GP (ih hs _ s)]|@and_ x y i _=>intro n s;have⟨N,c⟩:=hs _ (g_.2 rfl);have e:Fu b (.and_ x y)=N:=by{unfold Fu;rw[c]};rw[Ev];show(DG (EP b (.and_ x y) s) n).2=_;rw[PD (by rw[PI b _ s 0];exact c) (Jt c).1];simp only[Bo,e]|@minus x y i _=>intro n s;have⟨N,c⟩:=hs _ (g_.2 rfl);have e:Fu b (.minus x y)=N:=by{unfold Fu;rw[c]};rw[Ev];show(DG (EP b (.minus x y) s) n).2=_;rw[PD (by rw[PI b _ s 0];exact c) (Jt c).1];simp only[Bo,e]
def XL(h:D7 ns r i l):∀x∈l,∀e,(EP b x.1 0).2= .error e->∀n s,∃a,(Bf b r n s).2= .error a:=by induction h with|eps=>intro x p;cases p|cls=>intro x p;cases p|@cat x y i j k d l m _ _ _ _ _ ih1 ih2=>{intro z c e f n s;simp only[Bf];rcases X'.1 c with c | c;{have⟨a,g⟩:=ih1 z c e f n s;exact⟨a,F9 g⟩};{cases o:(Bf b x n s).2 with|error a=>exact⟨a,F9 o⟩|ok A=>rw[GP o];have⟨a,g⟩:=ih2 z c e f (n+A.u) (Bf b x n s).1;exact⟨a,F9 g⟩}}|@alt x y i j k d l m _ _ _ _ _ ih1 ih2=>{intro z c e f n s;simp only[Bf];rcases X'.1 c with c | c;{have⟨a,g⟩:=ih1 z c e f (n+1) s;exact⟨a,F9 g⟩};{cases o:(Bf b x (n+1) s).2 with|error a=>exact⟨a,F9 o⟩|ok A=>rw[GP o];have⟨a,g⟩:=ih2 z c e f (n+1+A.u) (Bf b x (n+1) s).1;exact⟨a,F9 g⟩}}|@star x i j d l _ _ _ ih=>intro z c e f n s;simp only[Bf];have⟨a,g⟩:=ih z c e f (n+1) s;exact⟨a,F9 g⟩|@and_ x y i _ | @minus x y i _=>intro z c e f n s;rw[g_.1 c]at f;rw[Ev];exact⟨e,F9 (by rw[PI b _ s 0];exact f)⟩
end
def Wh(d:1<=b)(f:b<=4096)(h:FF b a= .error e):e=40:=by have h:=(OR h).1;unfold FQ at h;rw[G_ zO]at h;cases c:JN a b.toNat with|none=>{rw[c]at h;injection h with h;exact h.symm}|some F=>rw[c]at h;cases h
def kJ{ends:Bool->Bool->Bool}{a c:PA}(f:1<=b)(g:b<=4096)(h:xL b ends a c= .error e):e=40:=by unfold xL at h;rw[G_ zO]at h;cases d:tA a c b.toNat with|none=>{rw[d]at h;injection h with h;exact h.symm}|some F=>rw[d]at h;cases h
def gZ(c:1<=b)(d:b<=4096){ends:Bool->Bool->Bool}{f:Nat->Nat×Except Int PA}{a:Nat}(i:∀s a e,f s=(a,.error e)->e=40)(j:∀s a e,g s=(a,.error e)->e=40)(h:CI b ends f g s=(a,.error e)):e=40:=by rcases AQ (show BD _ _=_ from h)with h | ⟨l,m,-,h⟩;{exact i _ _ _ h};{rcases AQ h with h | ⟨n,o,-,h⟩;{exact j _ _ _ h};{split at h;{rename_i k;cases h;exact kJ c d k};{cases h}}}
def WV(c:1<=b)(i:b<=4096){ends:Bool->Bool->Bool}{f:Nat->Nat×Except Int PA}{n a:Nat}(j:∀s a e,f s=(a,.error e)->e=40)(k:∀s a e,g s=(a,.error e)->e=40)(h:DG (CI b ends f g s) n=(a,.error e)):e=40:=by rcases AQ (show BD _ _=_ from h)with h | ⟨l,N,m,h⟩;{exact gZ c i j k h};{obtain⟨l,p,q,r,d,-,-,o,rfl,-⟩:=Mq m;obtain⟨F,-,-,-,-,t,-,u,-,-⟩:=Ki o;rw[I_ (Np zO)]at h;cases h}
mutual
def IM{b:Int}(c:1<=b)(d:b<=4096):∀(r:ReM) (n s a:Nat) (e:Int),Bf b r n s=(a,.error e)->e=40
 | .eps,n,s,a,e,h=>by cases h
 | .cls t,n,s,a,e,h=>by cases h
 | .cat x y,n,s,a,e,h=>by
   simp only[Bf]at h;rcases AQ h with h | ⟨f,A,-,h⟩
   ·exact IM c d x _ _ _ _ h
   ·rcases AQ h with h | ⟨g,C,-,h⟩
    ·exact IM c d y _ _ _ _ h
    ·cases h
 | .alt x y,n,s,a,e,h=>by
   simp only[Bf]at h;rcases AQ h with h | ⟨f,A,-,h⟩
   ·exact IM c d x _ _ _ _ h
   ·rcases AQ h with h | ⟨g,C,-,h⟩
    ·exact IM c d y _ _ _ _ h
    ·cases h
 | .star x,n,s,a,e,h=>by
   simp only[Bf]at h;rcases AQ h with h | ⟨f,A,-,h⟩
   ·exact IM c d x _ _ _ _ h
   ·cases h
 | .and_ x y,n,s,a,e,h=>by
   simp only[Bf]at h;exact WV c d (λs a e=>Ho c d x s a e) (λs a e=>Ho c d y s a e) h
 | .minus x y,n,s,a,e,h=>by
   simp only[Bf]at h;exact WV c d (λs a e=>Ho c d x s a e) (λs a e=>Ho c d y s a e) h
def Ho{b:Int}(c:1<=b)(f:b<=4096):∀(r:ReM) (s g:Nat) (e:Int),AS b r s=(g,.error e)->e=40:=λr s g e h=>by
 rcases AQ (show BD _ _=_ from h)with h | ⟨i,A,-,h⟩
 ·exact IM c f r _ _ _ _ h
 ·split at h
  ·cases h;rfl
  ·cases a:FF b ⟨A.u,A.p,A.q,A.es⟩with
   | error e=>simp only[a]at h;cases h;exact Wh c f a
   | ok d=>simp only[a]at h;cases h
end
end
end Go.Proofs.YtfbghcpdinlmcaaGreatDoor
