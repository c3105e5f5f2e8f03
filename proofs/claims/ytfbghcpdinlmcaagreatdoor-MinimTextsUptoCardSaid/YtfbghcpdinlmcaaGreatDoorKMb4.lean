import Derived.Test.YtfbghcpdinlmcaaGreatDoorKMb3
import Derived.Shelf.Strconv.AppendIntPublic10
set_option maxHeartbeats 0
open BitVec renaming allOnes → Al7
open Bool renaming noConfusion → AkG
open List renaming replicate → AiJ, range → Al1
open Option renaming some → AjR
set_option maxRecDepth 100000
open Go.Proofs.Tryz
open Go renaming Value → v_, Program → w_, TypeId → x_, Operand → z_, World → y_
namespace Go.Proofs.YtfbghcpdinlmcaaGreatDoor
open Go.VC Go.Lib
section
variable{op a b m n m' n':v_}{bits:List v_}
theorem rs_m(h:bits.length=256):Ai (Bp op bits a b m n) 259 [m']=Bp op bits a b m' n:=by
 unfold Ai Bp;have c:([op]++(bits++[a,b,m,n])).take 259=[op]++(bits++[a,b]):=by
  rw[show([op]++(bits++[a,b,m,n])).take (258+1)=op::(bits++[a,b,m,n]).take 258 from rfl,show(258:Nat)=bits.length+2 by omega,YaZ];rfl
 have e2:([op]++(bits++[a,b,m,n])).drop (259+1)=[n]:=by
  rw[show([op]++(bits++[a,b,m,n])).drop (259+1)=(bits++[a,b,m,n]).drop 259 from rfl,show(259:Nat)=bits.length+3 by omega,Ycc];rfl
 rw[c,show 259+[m'].length=259+1 from rfl,e2];simp
theorem rs_n(h:bits.length=256):Ai (Bp op bits a b m n) 260 [n']=Bp op bits a b m n':=by
 unfold Ai Bp;have c:([op]++(bits++[a,b,m,n])).take 260=[op]++(bits++[a,b,m]):=by
  rw[show([op]++(bits++[a,b,m,n])).take (259+1)=op::(bits++[a,b,m,n]).take 259 from rfl,show(259:Nat)=bits.length+3 by omega,YaZ];rfl
 have e2:([op]++(bits++[a,b,m,n])).drop (260+1)=[]:=by
  rw[show([op]++(bits++[a,b,m,n])).drop (260+1)=(bits++[a,b,m,n]).drop 260 from rfl,show(260:Nat)=bits.length+4 by omega,Ycc];rfl
 rw[c,show 260+[n'].length=260+1 from rfl,e2];simp
end
theorem JU(x y m n:Int){S:Nat→Prop}{H:Aa}{K:v_→Prop}(k:K (.agg (X_ ⟨x,0#256,y,0,m,n⟩).toArray)):
  AJ prog (Instr.build 159 [(0,A_ x),(2,A_ y),(4,A_ m),(5,A_ n)].toArray) S H K:=by
 refine Ax underlying159 rfl (.agg rnZ.toArray) OF (X_ ⟨x,0#256,y,0,m,n⟩) ?_ k;have a:(AiJ 256 (Value.bool false)).length=256:=List.length_replicate;refine(CK (i:=0) (off:=0) (size:=1) (by kernel_rfl) rfl (by show _≤rnZ.toArray.size;rw[YbW,Cy];decide)).trans ?_;have b:Ai (Value.agg rnZ.toArray).cells.toList 0 (Value.int .i64 x).cells.toList=Bp (.int .i64 x) (AiJ 256 (.bool false)) (.int .i64 0) (.int .i64 0) (.int .i64 0) (.int .i64 0):=AaK;rw[b];refine(CK (i:=2) (off:=257) (size:=1) (by kernel_rfl) rfl (by rw[YbW,E0 a];decide)).trans ?_;rw[YbZ,show(Value.int IntKind.i64 y).cells.toList=[Value.int .i64 y]from rfl,rs_l a];refine(CK (i:=4) (off:=259) (size:=1) (by kernel_rfl) rfl (by rw[YbW,E0 a];decide)).trans ?_;rw[YbZ,show(Value.int IntKind.i64 m).cells.toList=[Value.int .i64 m]from rfl,rs_m a];refine(CK (i:=5) (off:=260) (size:=1) (by kernel_rfl) rfl (by rw[YbW,E0 a];decide)).trans ?_;rw[YbZ,show(Value.int IntKind.i64 n).cells.toList=[Value.int .i64 n]from rfl,rs_n a];unfold X_;rw[show(p_.mk x 0#256 y 0 m n).set=0#256 from rfl,NG];rfl
theorem AeH:(prog.info? 148).bind (·.zero)=some (.agg #[.slice none 0 0,.slice none 0 0]):=by kernel_rfl
inductive QA(ws:List RwM):List C'→List AF→Prop
 | nil:QA ws [] []
 | cons {fr:List C'} {fs:List AF} {g:C'} {a:AF}:QA ws fr fs→FrR ws g a→QA ws (fr++[g]) (a::fs)
theorem QA.more{a us:List RwM}{fr:List C'}{fs:List AF}(h:QA a fr fs):QA (a++us) fr fs:=by
 induction h with
 | nil=>exact .nil
 | cons _ g b=>exact .cons b g.more
theorem QA.len{a:List RwM}{fr:List C'}{fs:List AF}(h:QA a fr fs):fr.length=fs.length:=by
 induction h with
 | nil=>rfl
 | cons _ g b=>simp[b]
theorem IxR.num{a:List RwM}{x:Int}{o:Option ReM}(h:IxR a x o)(c:a.length≤16777216):AO x:=by
 cases o with
 | none=>rw[show x= -1 from h];exact Ov
 | some r=>
   obtain⟨j,w,rfl,b,-⟩:=h;have:=(O_.1 b).1;exact Lg (by omega)
theorem FrR.nums{c:List RwM}{f:C'}{a:AF}(h:FrR c f a)(b:c.length≤16777216):FrN f:=⟨h.alt.num b,h.meet.num b,h.row.num b,h.factor.num b⟩
theorem QL{t:ByteArray}{i c p:Nat}(h:Cc t i= .inl (c,p)):c≠0:=by
 unfold Cc at h;split at h
 ·split at h
  ·rename_i e a;cases h;unfold upM at a;split at a
   ·split at a
    ·cases a
    ·split at a
     ·cases a
     ·cases a;decide
   ·cases a
  ·unfold F0 at h;split at h
   ·split at h
    ·cases h;decide
    ·cases h
   ·cases h;decide
 ·cases h;decide
def Hm(t:ByteArray)(H:Aa)(v:v_)(H':Aa):Prop:=match CY t with
 | .inl (c,p)=>v= .tuple #[.agg s_.toArray,A_ c,A_ p]
 | .inr r=>∃ns na nc Az,v= .tuple #[.agg (reL (.slice na ns.length nc) ((Az:Nat):Int)).toArray,A_ 0,A_ 0]∧BA ns r Az∧ns.length=r.nodes∧WS r ns∧l_ tRn none_ H' H.size 159 (.slice na ns.length nc) ns
structure DocI(H:Aa)(t:ByteArray)(q2 sb i:Nat)(G:Aa):Prop where
 ex:∃(f:AF) (fs:List AF) (ds:List p_) (ws:List RwM) (fr:List C') (fD:C') (na:Option Addr) (nc fb fc n:Nat),Cb t ⟨0,EB (-1),[]⟩=Cb t ⟨i,f,fs⟩∧i≤t.size∧Raw ds ws∧FrR ws fD f∧QA ws fr fs∧ds.length≤4*i∧fs.length≤1000∧
  B_ (H_ H) H G (stP sb fb na nc fc n ds (fr++[fD]) [pB tRe q2 s_])
theorem ZX(a:List RwM)(p:Int):FrR a ⟨p,-1,-1,0,-1,-1⟩ (EB p):=⟨rfl,rfl,rfl,rfl,rfl,rfl⟩
theorem Jf{H:Aa}{b:Nat}(h:Q_ H b tRe s_):Be H b 0 s_:=h.cells (fun j v a=>by rw[K_];exact a)
theorem Tp{c:Nat}(h:FF c=true):c=42∨c=43∨c=63∨c=123:=by
 apply Classical.byContradiction;intro a;rw[Lk (by omega) (by omega) (by omega) (by omega)]at h;cases h
theorem SG(t:ByteArray)(H:Aa):Ak prog 34 #[.string t] H fun v H'=>C_ (H_ H) H H'∧Hm t H v H':=by
 refine Ak.of_vcL func34 rfl (call34 _) (Am _ s_ MD rfl ?_);intro q2 H1 cj ck cm co;have st1:=(St.nil H).box cj ck cm co;by_cases be:1048576<t.size
 ·have d1:decide (1048576<(t.size:Int))=true:=e_;have a0:CY t= .inl (1,0):=by unfold CY;rw[F_ be]
  (conv=>whnf);rw[d1];refine Ax underlying56 rfl _ MD s_ rfl (AN (cs:=s_) st1 0 rfl rfl (I_ _) rfl fun Gz N=>?_);have ez:Ai s_ 0 s_=s_:=AH rfl;rw[ez]at N;refine L_ (cs:=s_) JZ (Jf (N.blk 0 rfl)) trivial (⟨N.old,?_⟩);unfold Hm;rw[a0];rfl
 have d1:decide (1048576<(t.size:Int))=false:=V_;have a0:CY t=Cb t ⟨0,EB (-1),[]⟩:=by unfold CY;rw[D_ be]
 (conv=>whnf);rw[d1];refine Ax underlying148 rfl (.agg #[.slice none 0 0,.slice none 0 0]) AeH [.slice none 0 0,.slice none 0 0] rfl (Ct [.slice none 0 0,.slice none 0 0] rfl ?_);intro sb H2 cp cq cr ct;have ag:B_ (H_ H) H H2 [pB tSt sb [.slice none 0 0,.slice none 0 0],pS tRn 159 none 0 0 [],pS tFr 150 none 0 0 [],pB tRe q2 s_]:=(((st1.box cp cq cr ct).nils tRn 159).nils tFr 150).pick [1,2,3,0] (by decide);refine Aq.heldZ (fun k=>k=sb) [10] (sq [0,1,2,3,4] (.f 5 (.f 6 (.f 7 (sq [8,9] (.f 10 .e)))))) rfl (by kernel_rfl) (f_ Bs ?_);refine G_ (v:=.slice none 0 0) C7 ((ag.blk 0 rfl).ce rfl) rfl ?_;refine Ae.mk (ZW (-1) H2) ?_;rintro _ H3 ⟨rfl,bh⟩;have bi:=ag.call bh;refine⟨fun k l=>by rw[show k=sb from l];exact(bi.blk 0 rfl).trans (ag.blk 0 rfl).symm,?_⟩;refine Ay FG (frO (-1)) rfl rfl (by decide) (by decide) ?_;intro z H4 hz W L J;have bj:=bi.skip hz J;refine⟨fun k l=>by rw[show k=sb from l];exact(bj.blk 0 rfl).trans (ag.blk 0 rfl).symm,?_⟩;refine QF (ys:=[(⟨-1,-1,-1,0,-1,-1⟩:C')]) (ds:=frO (-1)) bj 2 FG rfl (L.cells (o:=0) (cs:=frO (-1)) fun j v hv=>by rw[K_];exact hv) (Ty.reps_one (T:=tFr) rfl) rfl (fun u hu=>Ybl.1 (Wh ⟨-1,-1,-1,0,-1,-1⟩) u hu) (by decide) (by decide) fun Y bu H5 ar a1=>?_;refine⟨fun k l=>by rw[show k=sb from l];exact(ar.blk 0 rfl).trans (ag.blk 0 rfl).symm,?_⟩;obtain⟨au,rfl⟩:=ar.adr 2 rfl (by decide);refine f_ Bs ?_;refine Bh ar 0 C7 rfl (by show _<(2:Nat);decide) rfl fun H6 aw=>?_;replace aw:B_ (H_ H) H H6 (stP sb au none 0 bu 1 [] ([]++[(⟨-1,-1,-1,0,-1,-1⟩:C')]) [pB tRe q2 s_]):=aw;clear st1 ag bi bj ar;(conv=>whnf);refine A0.mk [6] (fun i:Nat=>[A_ i]) (fun i G=>DocI H t q2 sb i G) (fun i _=>t.size-i) ?_ ?_
 ·(conv=>whnf);exact⟨0,rfl,⟨EB (-1),[],[],[],[],_,none,0,au,bu,1,rfl,t_ _,.nil,ZX [] (-1),.nil,t_ _,t_ _,aw⟩⟩
 ·rintro i G df ⟨f,fs,ds,ws,fr,A,na,nc,fb,fc,n,cu,hi,hR,Q,hK,dg,a2,E⟩;clear aw d1;have am:Cb t ⟨0,EB (-1),[]⟩=Cb t ⟨i,f,fs⟩:=cu;have a9:=Wg E;have dh:=hK.len;have di:=hR.len;have hN:=Q.nums (by omega);refine AG.m2 (fun hz=>?_) (fun hz=>?_)
  ·have ao:i<t.size:=by omega
   (conv=>whnf);try (refine An.run ?_)
   refine vbt ao (Aq.lex rfl (by kernel_rfl) (f_ Bs ?_));refine lT (v:=.slice (T_ fb) n fc) C7 ((E.blk 0 rfl).ce rfl) ?_;refine f_ Bs ?_;refine lT (v:=.slice (T_ fb) n fc) C7 ((E.blk 0 rfl).ce rfl) ?_;(conv=>whnf);rw[W_ (x:=(n:Int)-1) (by omega)];refine ixE (j:=fr.length) FG E 2 rfl (by simp) (by omega) ?_;have ER:∀{e:Nat×Nat},Cm t ⟨i,f,fs⟩= .inl e→Cb t ⟨0,EB (-1),[]⟩= .inl (ZI e):=fun h=>am.trans (EE ao h);have GO:∀{s:RdS},Cm t ⟨i,f,fs⟩= .inr s→Cb t ⟨0,EB (-1),[]⟩=Cb t s:=fun h=>am.trans (Ey ao h);refine Ah (XI (bt t i) G) fun G1 cw=>?_;replace E:=E.call cw;by_cases I:FF (bt t i)=true
   ·rw[I];refine f_ De (G_ (v:=A_ A.factor) E_ (Bo E (k:=5) rfl) trivial ?_);cases V:f.factor with
    | none=>
      have hx:=Q.factor;rw[V]at hx;have d2:decide (A.factor<0)=true:=n_ (by rw[show A.factor= -1 from hx];decide);(conv=>whnf);rw[d2];refine Ax underlying56 rfl _ MD s_ rfl (AN (cs:=s_) E 3 rfl rfl (I_ _) rfl fun Gz N=>?_);have ez:Ai s_ 0 s_=s_:=AH rfl;rw[ez]at N;refine L_ (cs:=s_) JZ (Jf (N.blk 3 rfl)) trivial (⟨N.old,?_⟩);unfold Hm;rw[a0,ER (Ft I V)];rfl
    | some a=>
      have hx:=Q.factor;rw[V]at hx;have⟨jx,wx,ax,ay,b0⟩:=hx;have d2:decide (A.factor<0)=false:=V_;(conv=>whnf);rw[d2];(conv=>whnf);rw[P_ i (by omega)];rcases Tp I with hc | hc | hc | hc
      ·rw[hc];(conv=>whnf);try (refine An.run ?_)
       (conv=>whnf);try (refine An.run ?_)
       (conv=>whnf);try (refine An.run ?_)
       have f1:fb≠sb:=fun e=>E.apart2 (i:=0) (j:=2) rfl rfl (by decide) sb rfl (.inl ⟨0,n,fc,by rw[e]⟩);have U:¬a_ (.slice na ds.length nc) fb:=fun e=>E.apart2 (i:=1) (j:=2) rfl rfl (by decide) fb (.inl e) (.inl ⟨0,n,fc,rfl⟩);have f3:=E.ltE 2 rfl;refine Aq.heldZ (fun k=>k=sb∨k=fb) [16] (sq [0,1,2,3,4,5,6,7,8,9,10,11] (.f 12 (.f 13 (sq [14,15] (.f 16 .e))))) rfl (by kernel_rfl) (f_ Cq ?_);refine G_ (v:=.slice na ds.length nc) DZ ((E.blk 0 rfl).ce rfl) (.inl rfl) ?_;refine f_ De (G_ (v:=A_ A.factor) E_ (Bo E (k:=5) rfl) (.inr rfl) (JU 7 A.factor (0) (-1) (Ay EZ (X_ (BY A.factor (0) (-1))) rfl (AV _) (by decide) (by decide) ?_)));intro zz G4 hz W L J;have C:=E.skip hz J;have az:C_ (fun k=>k=fb) _ G4:=fun k l=>J k (by have e1:k=fb:=l;have:zz=_:=hz;omega);refine⟨fun k l=>by
        rcases l with l | l
        ·rw[show k=sb from l];exact(C.blk 0 rfl).trans (E.blk 0 rfl).symm
        ·exact az k l,?_⟩
       refine Kj (ys:=[BY A.factor (0) (-1)]) C 1 EZ rfl (L.cells (o:=0) (cs:=X_ (BY A.factor (0) (-1))) fun j v hv=>by rw[K_];exact hv) (Ty.reps_one ⟨rfl,BP (x:=7) (by unfold AO;omega),BP hN.factor,BP (x:=0) (by unfold AO;omega),BP (x:=0) (by unfold AO;omega),BP (x:= -1) (by unfold AO;omega)⟩) rfl (fun u hu=>Ybl.1 (CP _) u hu) (by simp[maxLen];omega) (by simp;omega) fun Y Z G5 B a1=>?_;have el:ds.length+[BY A.factor (0) (-1)].length=(ds++[BY A.factor (0) (-1)]).length:=by simp
       rw[el]at B ⊢;refine⟨fun k l=>by
        rcases l with l | l
        ·rw[show k=sb from l];exact(B.blk 0 rfl).trans (E.blk 0 rfl).symm
        ·exact(a1 k (by rw[show k=fb from l];exact⟨C.ltE 2 rfl,U⟩)).trans (az k l),?_⟩
       refine f_ Cq ?_;refine Bh B 0 DZ rfl (by show _<(2:Nat);decide) rfl fun G6 F=>?_;replace F:B_ (H_ H) H G6 (stP sb fb Y Z fc n (ds++[BY A.factor (0) (-1)]) (fr++[A]) [pB tRe q2 s_]):=F;refine f_ Cq ?_;refine lT (v:=.slice Y (ds++[BY A.factor (0) (-1)]).length Z) DZ ((F.blk 0 rfl).ce rfl) ?_;have w1:IntKind.wrap .i64 (((ds++[BY A.factor (0) (-1)]).length:Int)-1)=(ds.length:Int):=by
        rw[J_,h_,w64 (by omega) (by omega)];omega
       (conv=>whnf);rw[w1];refine f_ De (EG (k:=5) (f':={A with factor:=(ds.length:Int)}) F E_ (by decide) rfl rfl fun G7 M ja=>?_);(conv=>whnf);refine⟨rfl,i+1,rfl,⟨_,fs,ds++[BY A.factor (0) (-1)],ws++[.rep wx (0) (-1)],fr,{A with factor:=(ds.length:Int)},_,_,_,_,n,GO (Gq V I (by unfold EL;rw[F_ hc])),by omega,hR.add (w:=.rep wx (0) (-1)) ⟨jx,by rw[ax],ay,.inr (by omega)⟩,⟨Q.place,Q.alt.more,Q.meet.more,Q.sign,Q.row.more,IxR.new hR (by show Cf wx.den (AS (0)) (-1)=_;rw[b0,show AS 0=0 from rfl])⟩,hK.more,by simp only[J_,h_];omega,a2,M⟩,by omega⟩
      ·rw[hc];(conv=>whnf);try (refine An.run ?_)
       (conv=>whnf);try (refine An.run ?_)
       (conv=>whnf);try (refine An.run ?_)
       have f1:fb≠sb:=fun e=>E.apart2 (i:=0) (j:=2) rfl rfl (by decide) sb rfl (.inl ⟨0,n,fc,by rw[e]⟩);have U:¬a_ (.slice na ds.length nc) fb:=fun e=>E.apart2 (i:=1) (j:=2) rfl rfl (by decide) fb (.inl e) (.inl ⟨0,n,fc,rfl⟩);have f3:=E.ltE 2 rfl;refine Aq.heldZ (fun k=>k=sb∨k=fb) [16] (sq [0,1,2,3,4,5,6,7,8,9,10,11] (.f 12 (.f 13 (sq [14,15] (.f 16 .e))))) rfl (by kernel_rfl) (f_ Cq ?_);refine G_ (v:=.slice na ds.length nc) DZ ((E.blk 0 rfl).ce rfl) (.inl rfl) ?_;refine f_ De (G_ (v:=A_ A.factor) E_ (Bo E (k:=5) rfl) (.inr rfl) (JU 7 A.factor (-2) (-1) (Ay EZ (X_ (BY A.factor (-2) (-1))) rfl (AV _) (by decide) (by decide) ?_)));intro zz G4 hz W L J;have C:=E.skip hz J;have az:C_ (fun k=>k=fb) _ G4:=fun k l=>J k (by have e1:k=fb:=l;have:zz=_:=hz;omega);refine⟨fun k l=>by
        rcases l with l | l
        ·rw[show k=sb from l];exact(C.blk 0 rfl).trans (E.blk 0 rfl).symm
        ·exact az k l,?_⟩
       refine Kj (ys:=[BY A.factor (-2) (-1)]) C 1 EZ rfl (L.cells (o:=0) (cs:=X_ (BY A.factor (-2) (-1))) fun j v hv=>by rw[K_];exact hv) (Ty.reps_one ⟨rfl,BP (x:=7) (by unfold AO;omega),BP hN.factor,BP (x:=0) (by unfold AO;omega),BP (x:= -2) (by unfold AO;omega),BP (x:= -1) (by unfold AO;omega)⟩) rfl (fun u hu=>Ybl.1 (CP _) u hu) (by simp[maxLen];omega) (by simp;omega) fun Y Z G5 B a1=>?_;have el:ds.length+[BY A.factor (-2) (-1)].length=(ds++[BY A.factor (-2) (-1)]).length:=by simp
       rw[el]at B ⊢;refine⟨fun k l=>by
        rcases l with l | l
        ·rw[show k=sb from l];exact(B.blk 0 rfl).trans (E.blk 0 rfl).symm
        ·exact(a1 k (by rw[show k=fb from l];exact⟨C.ltE 2 rfl,U⟩)).trans (az k l),?_⟩
       refine f_ Cq ?_;refine Bh B 0 DZ rfl (by show _<(2:Nat);decide) rfl fun G6 F=>?_;replace F:B_ (H_ H) H G6 (stP sb fb Y Z fc n (ds++[BY A.factor (-2) (-1)]) (fr++[A]) [pB tRe q2 s_]):=F;refine f_ Cq ?_;refine lT (v:=.slice Y (ds++[BY A.factor (-2) (-1)]).length Z) DZ ((F.blk 0 rfl).ce rfl) ?_;have w1:IntKind.wrap .i64 (((ds++[BY A.factor (-2) (-1)]).length:Int)-1)=(ds.length:Int):=by
        rw[J_,h_,w64 (by omega) (by omega)];omega
       (conv=>whnf);rw[w1];refine f_ De (EG (k:=5) (f':={A with factor:=(ds.length:Int)}) F E_ (by decide) rfl rfl fun G7 M ja=>?_);(conv=>whnf);refine⟨rfl,i+1,rfl,⟨_,fs,ds++[BY A.factor (-2) (-1)],ws++[.rep wx (-2) (-1)],fr,{A with factor:=(ds.length:Int)},_,_,_,_,n,GO (Gq V I (by unfold EL;rw[D_ (by omega),F_ hc])),by omega,hR.add (w:=.rep wx (-2) (-1)) ⟨jx,by rw[ax],ay,.inl ⟨rfl,rfl⟩⟩,⟨Q.place,Q.alt.more,Q.meet.more,Q.sign,Q.row.more,IxR.new hR (by show Cf wx.den (AS (-2)) (-1)=_;rw[b0,show AS (-2)=1 from rfl])⟩,hK.more,by simp only[J_,h_];omega,a2,M⟩,by omega⟩
      ·rw[hc];(conv=>whnf);try (refine An.run ?_)
       (conv=>whnf);try (refine An.run ?_)
       (conv=>whnf);try (refine An.run ?_)
       have f1:fb≠sb:=fun e=>E.apart2 (i:=0) (j:=2) rfl rfl (by decide) sb rfl (.inl ⟨0,n,fc,by rw[e]⟩);have U:¬a_ (.slice na ds.length nc) fb:=fun e=>E.apart2 (i:=1) (j:=2) rfl rfl (by decide) fb (.inl e) (.inl ⟨0,n,fc,rfl⟩);have f3:=E.ltE 2 rfl;refine Aq.heldZ (fun k=>k=sb∨k=fb) [16] (sq [0,1,2,3,4,5,6,7,8,9,10,11] (.f 12 (.f 13 (sq [14,15] (.f 16 .e))))) rfl (by kernel_rfl) (f_ Cq ?_);refine G_ (v:=.slice na ds.length nc) DZ ((E.blk 0 rfl).ce rfl) (.inl rfl) ?_;refine f_ De (G_ (v:=A_ A.factor) E_ (Bo E (k:=5) rfl) (.inr rfl) (JU 7 A.factor (0) (1) (Ay EZ (X_ (BY A.factor (0) (1))) rfl (AV _) (by decide) (by decide) ?_)));intro zz G4 hz W L J;have C:=E.skip hz J;have az:C_ (fun k=>k=fb) _ G4:=fun k l=>J k (by have e1:k=fb:=l;have:zz=_:=hz;omega);refine⟨fun k l=>by
        rcases l with l | l
        ·rw[show k=sb from l];exact(C.blk 0 rfl).trans (E.blk 0 rfl).symm
        ·exact az k l,?_⟩
       refine Kj (ys:=[BY A.factor (0) (1)]) C 1 EZ rfl (L.cells (o:=0) (cs:=X_ (BY A.factor (0) (1))) fun j v hv=>by rw[K_];exact hv) (Ty.reps_one ⟨rfl,BP (x:=7) (by unfold AO;omega),BP hN.factor,BP (x:=0) (by unfold AO;omega),BP (x:=0) (by unfold AO;omega),BP (x:=1) (by unfold AO;omega)⟩) rfl (fun u hu=>Ybl.1 (CP _) u hu) (by simp[maxLen];omega) (by simp;omega) fun Y Z G5 B a1=>?_;have el:ds.length+[BY A.factor (0) (1)].length=(ds++[BY A.factor (0) (1)]).length:=by simp
       rw[el]at B ⊢;refine⟨fun k l=>by
        rcases l with l | l
        ·rw[show k=sb from l];exact(B.blk 0 rfl).trans (E.blk 0 rfl).symm
        ·exact(a1 k (by rw[show k=fb from l];exact⟨C.ltE 2 rfl,U⟩)).trans (az k l),?_⟩
       refine f_ Cq ?_;refine Bh B 0 DZ rfl (by show _<(2:Nat);decide) rfl fun G6 F=>?_;replace F:B_ (H_ H) H G6 (stP sb fb Y Z fc n (ds++[BY A.factor (0) (1)]) (fr++[A]) [pB tRe q2 s_]):=F;refine f_ Cq ?_;refine lT (v:=.slice Y (ds++[BY A.factor (0) (1)]).length Z) DZ ((F.blk 0 rfl).ce rfl) ?_;have w1:IntKind.wrap .i64 (((ds++[BY A.factor (0) (1)]).length:Int)-1)=(ds.length:Int):=by
        rw[J_,h_,w64 (by omega) (by omega)];omega
       (conv=>whnf);rw[w1];refine f_ De (EG (k:=5) (f':={A with factor:=(ds.length:Int)}) F E_ (by decide) rfl rfl fun G7 M ja=>?_);(conv=>whnf);refine⟨rfl,i+1,rfl,⟨_,fs,ds++[BY A.factor (0) (1)],ws++[.rep wx (0) (1)],fr,{A with factor:=(ds.length:Int)},_,_,_,_,n,GO (Gq V I (by unfold EL;rw[D_ (by omega),D_ (by omega),F_ hc])),by omega,hR.add (w:=.rep wx (0) (1)) ⟨jx,by rw[ax],ay,.inr (by omega)⟩,⟨Q.place,Q.alt.more,Q.meet.more,Q.sign,Q.row.more,IxR.new hR (by show Cf wx.den (AS (0)) (1)=_;rw[b0,show AS 0=0 from rfl])⟩,hK.more,by simp only[J_,h_];omega,a2,M⟩,by omega⟩
      ·rw[hc];(conv=>whnf);try (refine An.run ?_)
       (conv=>whnf);try (refine An.run ?_)
       (conv=>whnf);try (refine An.run ?_)
       refine Ae.mk (Xi (i:=i) (by omega) ao) ?_;rintro v G2 ⟨cx,a3⟩;replace E:=E.call cx;unfold BrD at a3;cases ah:Cc t i with
       | inl e=>
         have⟨c,p⟩:=e;rw[ah]at a3;replace a3:v= .tuple #[A_ 0,A_ 0,A_ 0,A_ c,A_ p]:=a3;subst a3;have dj:=QL ah;have d3:((c:Int) != 0)=true:=bne_iff_ne.2 (by omega);(conv=>whnf);rw[d3];refine Ax underlying56 rfl _ MD s_ rfl (AN (cs:=s_) E 3 rfl rfl (I_ _) rfl fun Gz N=>?_);have ez:Ai s_ 0 s_=s_:=AH rfl;rw[ez]at N;refine L_ (cs:=s_) JZ (Jf (N.blk 3 rfl)) trivial (⟨N.old,?_⟩);unfold Hm;rw[a0,ER (Mx V I (by unfold EL;rw[D_ (by omega),D_ (by omega),D_ (by omega),ah]))];rfl
       | inr y=>
         have⟨m,nn,kk⟩:=y;rw[ah]at a3;replace a3:v= .tuple #[A_ m,A_ nn,A_ kk,A_ 0,A_ 0]:=a3;subst a3;have bv:=Km ah;have⟨o1,o2,o3,o4,o5,o6⟩:=bv;have bw:AS (m:Int)=m:=by unfold AS;rw[D_ (by omega),U']
         (conv=>whnf);have f1:fb≠sb:=fun e=>E.apart2 (i:=0) (j:=2) rfl rfl (by decide) sb rfl (.inl ⟨0,n,fc,by rw[e]⟩);have U:¬a_ (.slice na ds.length nc) fb:=fun e=>E.apart2 (i:=1) (j:=2) rfl rfl (by decide) fb (.inl e) (.inl ⟨0,n,fc,rfl⟩);have f3:=E.ltE 2 rfl;refine Aq.heldZ (fun k=>k=sb∨k=fb) [16] (sq [0,1,2,3,4,5,6,7,8,9,10,11] (.f 12 (.f 13 (sq [14,15] (.f 16 .e))))) rfl (by kernel_rfl) (f_ Cq ?_);refine G_ (v:=.slice na ds.length nc) DZ ((E.blk 0 rfl).ce rfl) (.inl rfl) ?_;refine f_ De (G_ (v:=A_ A.factor) E_ (Bo E (k:=5) rfl) (.inr rfl) (JU 7 A.factor ((m:Int)) (nn) (Ay EZ (X_ (BY A.factor ((m:Int)) (nn))) rfl (AV _) (by decide) (by decide) ?_)));intro zz G4 hz W L J;have C:=E.skip hz J;have az:C_ (fun k=>k=fb) _ G4:=fun k l=>J k (by have e1:k=fb:=l;have:zz=_:=hz;omega);refine⟨fun k l=>by
          rcases l with l | l
          ·rw[show k=sb from l];exact(C.blk 0 rfl).trans (E.blk 0 rfl).symm
          ·exact az k l,?_⟩
         refine Kj (ys:=[BY A.factor ((m:Int)) (nn)]) C 1 EZ rfl (L.cells (o:=0) (cs:=X_ (BY A.factor ((m:Int)) (nn))) fun j v hv=>by rw[K_];exact hv) (Ty.reps_one ⟨rfl,BP (x:=7) (by unfold AO;omega),BP hN.factor,BP (x:=0) (by unfold AO;omega),BP (x:=(m:Int)) (by unfold AO;omega),BP (x:=nn) (by unfold AO;omega)⟩) rfl (fun u hu=>Ybl.1 (CP _) u hu) (by simp[maxLen];omega) (by simp;omega) fun Y Z G5 B a1=>?_;have el:ds.length+[BY A.factor ((m:Int)) (nn)].length=(ds++[BY A.factor ((m:Int)) (nn)]).length:=by simp
         rw[el]at B ⊢;refine⟨fun k l=>by
          rcases l with l | l
          ·rw[show k=sb from l];exact(B.blk 0 rfl).trans (E.blk 0 rfl).symm
          ·exact(a1 k (by rw[show k=fb from l];exact⟨C.ltE 2 rfl,U⟩)).trans (az k l),?_⟩
         refine f_ Cq ?_;refine Bh B 0 DZ rfl (by show _<(2:Nat);decide) rfl fun G6 F=>?_;replace F:B_ (H_ H) H G6 (stP sb fb Y Z fc n (ds++[BY A.factor ((m:Int)) (nn)]) (fr++[A]) [pB tRe q2 s_]):=F;refine f_ Cq ?_;refine lT (v:=.slice Y (ds++[BY A.factor ((m:Int)) (nn)]).length Z) DZ ((F.blk 0 rfl).ce rfl) ?_;have w1:IntKind.wrap .i64 (((ds++[BY A.factor ((m:Int)) (nn)]).length:Int)-1)=(ds.length:Int):=by
          rw[J_,h_,w64 (by omega) (by omega)];omega
         (conv=>whnf);rw[w1];refine f_ De (EG (k:=5) (f':={A with factor:=(ds.length:Int)}) F E_ (by decide) rfl rfl fun G7 M ja=>?_);(conv=>whnf);refine⟨rfl,kk,rfl,⟨_,fs,ds++[BY A.factor ((m:Int)) (nn)],ws++[.rep wx ((m:Int)) (nn)],fr,{A with factor:=(ds.length:Int)},_,_,_,_,n,GO (Gq V I (by unfold EL;rw[D_ (by omega),D_ (by omega),D_ (by omega)];exact ah)),by omega,hR.add (w:=.rep wx ((m:Int)) (nn)) ⟨jx,by rw[ax],ay,.inr ⟨by omega,by omega,by omega,by omega,o5⟩⟩,⟨Q.place,Q.alt.more,Q.meet.more,Q.sign,Q.row.more,IxR.new hR (by show Cf wx.den (AS ((m:Int))) (nn)=_;rw[b0,bw])⟩,hK.more,by simp only[J_,h_];omega,a2,M⟩,by omega⟩
   ·have I:FF (bt t i)=false:=by simpa using I
    rw[I];by_cases ab:bt t i=124
    ·have d:(((bt t i:Nat):Int)==124)=true:=by rw[ab];rfl
     (conv=>whnf);rw[d];clear d;refine Ae.mk (NO E hN (by omega)) ?_;rintro v G2 ⟨O,P,q⟩;(conv=>whnf);rw[P_ i (by omega)];have X:=Ko ds A;have⟨us,k1,R⟩:=Kp hR Q;exact⟨rfl,i+1,rfl,⟨_,fs,_,_,fr,_,_,_,_,_,n,GO (Qe ab),by omega,k1,R,hK.more,by omega,a2,q⟩,by omega⟩
    ·have d:(((bt t i:Nat):Int)==124)=false:=EV ab;(conv=>whnf);rw[d];clear d;by_cases b4:bt t i=38
     ·have d:(((bt t i:Nat):Int)==38)=true:=by rw[b4];rfl
      (conv=>whnf);rw[d];clear d;refine Ae.mk (QV E hN (by omega)) ?_;rintro v G2 ⟨O,P,q⟩;have X:=JP ds A;refine Aq.heldZ (fun k=>k=sb) [13] (sq [0,1,2,3,4,5,6,7,8,9,10,11,12] (.f 13 .e)) rfl (by kernel_rfl) (f_ Bs ?_);refine G_ (v:=.slice (T_ fb) n fc) C7 ((q.blk 0 rfl).ce rfl) rfl ?_;refine f_ Bs ?_;refine G_ (v:=.slice (T_ fb) n fc) C7 ((q.blk 0 rfl).ce rfl) rfl ?_;(conv=>whnf);rw[W_ (x:=(n:Int)-1) (by omega)];refine ixE (j:=fr.length) FG q 2 rfl (by simp) (by omega) (f_ MZ (EG (k:=3) (f':={(CZ ds A).2 with sign:=bt t i}) q ct5 (by decide) rfl rfl fun G3 K ja=>?_));(conv=>whnf);rw[P_ i (by omega)];have⟨us,k1,R⟩:=LB hR Q;exact⟨rfl,i+1,rfl,⟨_,fs,_,_,fr,{(CZ ds A).2 with sign:=bt t i},_,_,_,_,n,GO (Ij (.inl b4)),by omega,k1,⟨R.place,R.alt,R.meet,rfl,R.row,R.factor⟩,hK.more,by omega,a2,K⟩,by omega⟩
     ·have d:(((bt t i:Nat):Int)==38)=false:=EV b4;(conv=>whnf);rw[d];clear d;by_cases b5:bt t i=45
      ·have d:(((bt t i:Nat):Int)==45)=true:=by rw[b5];rfl
       (conv=>whnf);rw[d];clear d;refine Ae.mk (QV E hN (by omega)) ?_;rintro v G2 ⟨O,P,q⟩;have X:=JP ds A;refine Aq.heldZ (fun k=>k=sb) [13] (sq [0,1,2,3,4,5,6,7,8,9,10,11,12] (.f 13 .e)) rfl (by kernel_rfl) (f_ Bs ?_);refine G_ (v:=.slice (T_ fb) n fc) C7 ((q.blk 0 rfl).ce rfl) rfl ?_;refine f_ Bs ?_;refine G_ (v:=.slice (T_ fb) n fc) C7 ((q.blk 0 rfl).ce rfl) rfl ?_;(conv=>whnf);rw[W_ (x:=(n:Int)-1) (by omega)];refine ixE (j:=fr.length) FG q 2 rfl (by simp) (by omega) (f_ MZ (EG (k:=3) (f':={(CZ ds A).2 with sign:=bt t i}) q ct5 (by decide) rfl rfl fun G3 K ja=>?_));(conv=>whnf);rw[P_ i (by omega)];have⟨us,k1,R⟩:=LB hR Q;exact⟨rfl,i+1,rfl,⟨_,fs,_,_,fr,{(CZ ds A).2 with sign:=bt t i},_,_,_,_,n,GO (Ij (.inr b5)),by omega,k1,⟨R.place,R.alt,R.meet,rfl,R.row,R.factor⟩,hK.more,by omega,a2,K⟩,by omega⟩
      ·have d:(((bt t i:Nat):Int)==45)=false:=EV b5;(conv=>whnf);rw[d];clear d;by_cases ap:bt t i=41
       ·have d:(((bt t i:Nat):Int)==41)=true:=by rw[ap];rfl
        (conv=>whnf);rw[d];clear d;refine f_ Bs ?_;refine lT (v:=.slice (T_ fb) n fc) C7 ((E.blk 0 rfl).ce rfl) ?_;cases hK with
        | nil=>
          have bx:n=1:=by rw[a9];rfl
          have d3:((n:Int)==1)=true:=by rw[bx];rfl
          (conv=>whnf);rw[d3];refine Ax underlying56 rfl _ MD s_ rfl (AN (cs:=s_) E 3 rfl rfl (I_ _) rfl fun Gz N=>?_);have ez:Ai s_ 0 s_=s_:=AH rfl;rw[ez]at N;refine L_ (cs:=s_) JZ (Jf (N.blk 3 rfl)) trivial (⟨N.old,?_⟩);unfold Hm;rw[a0,ER (Ll ap)];rfl
        | @cons fr1 fs1 g ga hK1 hG=>
          have cy:n=fr1.length+1+1:=by rw[a9];simp
          have d3:((n:Int)==1)=false:=beq_eq_false_iff_ne.2 (by omega);(conv=>whnf);rw[d3];refine Ae.mk (NO E hN (by omega)) ?_;rintro v G2 ⟨O,P,q⟩;have X:=Ko ds A;refine Aq.lex rfl (by kernel_rfl) (f_ Bs ?_);refine lT (v:=.slice (T_ fb) n fc) C7 ((q.blk 0 rfl).ce rfl) ?_;refine f_ Bs ?_;refine lT (v:=.slice (T_ fb) n fc) C7 ((q.blk 0 rfl).ce rfl) ?_;(conv=>whnf);rw[W_ (x:=(n:Int)-1) (by omega)];refine ixE (j:=(fr1++[g]).length) FG q 2 rfl (by simp) (by simp;omega) ?_;refine f_ JN (G_ (v:=A_ (El ds A).2.alt) E_ (Bo q (k:=1) rfl) trivial (Aq.heldZ (fun k=>k=sb) [14] (sq [0,1,2,3,4,5,6,7,8,9,10,11,12,13] (.f 14 .e)) rfl (by kernel_rfl) (f_ Bs ?_)));refine G_ (v:=.slice (T_ fb) n fc) C7 ((q.blk 0 rfl).ce rfl) rfl ?_;refine f_ Bs ?_;refine G_ (v:=.slice (T_ fb) n fc) C7 ((q.blk 0 rfl).ce rfl) rfl ?_;have c1:=q.capT 2 rfl;simp only[J_,h_]at c1;(conv=>whnf);rw[W_ (x:=(n:Int)-1) (by omega)];rw[show(n:Int)-1=((fr1.length+1:Nat):Int) by omega];refine WO FG (by omega) (by omega) (f_ Bs ?_);have K:=q.popT 2 rfl;refine Bh K 0 C7 rfl (by show _<(2:Nat);decide) rfl fun G4 C=>?_;rw[U']at C;replace C:B_ (H_ H) H G4 (stP sb fb O P fc (fr1.length+1) (El ds A).1 (fr1++[g]) [pB tRe q2 s_]):=by
           have e:(fr1++[g]).length=fr1.length+1:=by simp
           have:=C;simp only[J_,h_]at this;exact this
          refine Aq.heldZ (fun k=>k=sb) [13] (sq [0,1,2,3,4,5,6,7,8,9,10,11,12] (.f 13 .e)) rfl (by kernel_rfl) (f_ Bs ?_);refine G_ (v:=.slice (T_ fb) (fr1.length+1) fc) C7 ((C.blk 0 rfl).ce rfl) rfl ?_;refine f_ Bs ?_;refine G_ (v:=.slice (T_ fb) (fr1.length+1) fc) C7 ((C.blk 0 rfl).ce rfl) rfl ?_;(conv=>whnf);rw[W_ (x:=((fr1.length+1:Nat):Int)-1) (by omega)];refine ixE (j:=(fr1).length) FG C 2 rfl (by simp) (by omega) (f_ De (EG (k:=5) (f':={g with factor:=(El ds A).2.alt}) C E_ (by decide) rfl rfl fun G5 B ja=>?_));(conv=>whnf);rw[P_ i (by omega)];have⟨us,k1,R⟩:=Kp hR Q;exact⟨rfl,i+1,rfl,⟨_,fs1,_,_,fr1,{g with factor:=(El ds A).2.alt},_,_,_,_,_,GO (Mw ap),by omega,k1,⟨hG.place,hG.alt.more,hG.meet.more,hG.sign,hG.row.more,R.alt⟩,hK1.more,by omega,by simp only[b_]at a2;omega,B⟩,by omega⟩
       ·have d:(((bt t i:Nat):Int)==41)=false:=EV ap;(conv=>whnf);rw[d];clear d;refine Ae.mk (PC E hN (by omega)) ?_;rintro v G2 ⟨O,P,q⟩;have X:=GY ds A;have⟨us,k1,R⟩:=M0 hR Q;have c2:=hK.more (us:=us);have bm:=Jw (ds:=ds) hN (by omega);obtain⟨D,U,hq⟩:∃D U,Bl ds A=(D,U):=⟨_,_,rfl⟩;rw[hq]at q k1 R X bm;replace q:B_ (H_ H) H G2 (stP sb fb O P fc n D (fr++[U]) [pB tRe q2 s_]):=q;replace k1:Raw D (ws++us):=k1;replace R:FrR (ws++us) U (A7 f):=R;replace X:D.length≤ds.length+1:=X;replace bm:FrN U:=bm;by_cases ai:bt t i=40
        ·have d:(((bt t i:Nat):Int)==40)=true:=by rw[ai];rfl
         (conv=>whnf);rw[d];clear d;refine f_ Bs ?_;refine lT (v:=.slice (T_ fb) n fc) C7 ((q.blk 0 rfl).ce rfl) ?_;by_cases bn:1000≤fs.length
         ·have d3:decide (1000<(n:Int))=true:=e_;(conv=>whnf);rw[d3];refine Ax underlying56 rfl _ MD s_ rfl (AN (cs:=s_) q 3 rfl rfl (I_ _) rfl fun Gz N=>?_);have ez:Ai s_ 0 s_=s_:=AH rfl;rw[ez]at N;refine L_ (cs:=s_) JZ (Jf (N.blk 3 rfl)) trivial (⟨N.old,?_⟩);unfold Hm;rw[a0,ER (OA ai bn)];rfl
         ·have d3:decide (1000<(n:Int))=false:=V_;(conv=>whnf);rw[d3];refine Aq.heldZ (fun k=>k=sb) [11] (sq [0,1,2,3,4,5] (.f 6 (.f 7 (.f 8 (sq [9,10] (.f 11 .e)))))) rfl (by kernel_rfl) (f_ Bs ?_);refine G_ (v:=.slice (T_ fb) n fc) C7 ((q.blk 0 rfl).ce rfl) rfl ?_;refine Ae.mk (ZW (i:Int) G2) ?_;rintro _ G3 ⟨rfl,bh⟩;have K:=q.call bh;refine⟨fun k l=>by rw[show k=sb from l];exact(K.blk 0 rfl).trans (q.blk 0 rfl).symm,?_⟩;refine Ay FG (frO (i:Int)) rfl rfl (by decide) (by decide) ?_;intro zz G4 hz W L J;have C:=K.skip hz J;refine⟨fun k l=>by rw[show k=sb from l];exact(C.blk 0 rfl).trans (q.blk 0 rfl).symm,?_⟩;refine QF (ys:=[(⟨i,-1,-1,0,-1,-1⟩:C')]) (ds:=frO (i:Int)) C 2 FG rfl (L.cells (o:=0) (cs:=frO (i:Int)) fun j v hv=>by rw[K_];exact hv) (Ty.reps_one (T:=tFr) rfl) rfl (fun u hu=>Ybl.1 (Wh ⟨i,-1,-1,0,-1,-1⟩) u hu) (by simp;omega) (by decide) fun Y Z G5 B a1=>?_;refine⟨fun k l=>by rw[show k=sb from l];exact(B.blk 0 rfl).trans (q.blk 0 rfl).symm,?_⟩;obtain⟨au,rfl⟩:=B.adr 2 rfl (by simp);refine f_ Bs ?_;refine Bh B 0 C7 rfl (by show _<(2:Nat);decide) rfl fun G6 F=>?_;replace F:B_ (H_ H) H G6 (stP sb au O P Z ((fr++[U]).length+1) D ((fr++[U])++[(⟨i,-1,-1,0,-1,-1⟩:C')]) [pB tRe q2 s_]):=F;(conv=>whnf);rw[P_ i (by omega)];exact⟨rfl,i+1,rfl,⟨_,A7 f::fs,D,ws++us,fr++[U],_,_,_,_,_,_,GO (OB ai (by omega)),by omega,k1,ZX _ _,c2.cons R,by omega,by simp only[b_];omega,F⟩,by omega⟩
        ·have d:(((bt t i:Nat):Int)==40)=false:=EV ai;(conv=>whnf);rw[d];clear d;refine Ae.mk (XL (i:=i) (by omega) ao) ?_;rintro v G3 ⟨c3,a4⟩;have K:=q.call c3;have c4:NV (bt t i):=⟨ab,b4,b5,ap,I⟩;unfold DR at a4;cases aq:BE t i with
         | inl e=>
           rw[aq]at a4;replace a4:v= .tuple #[GG,A_ 0,A_ 10,A_ e]:=a4;subst a4;refine Am GG (A9 0#256) Ek rfl ?_;intro a6 G4 aj W L J;have C:=K.skip aj J;have c6:=K.box aj W L J;refine AN (cs:=A9 0#256) c6 4 (szD 0) rfl (Nat.le_of_eq (K_ _)) (onD 0) fun G5 B=>?_;replace B:B_ (H_ H) H G5 (stP sb fb O P fc n D (fr++[U]) [pB tRe q2 s_]):=B.subl (List.Sublist.cons_cons _ (List.Sublist.cons_cons _ (List.Sublist.cons_cons _ (List.Sublist.cons_cons _ (Ycw _)))));(conv=>whnf);refine Ax underlying56 rfl _ MD s_ rfl (AN (cs:=s_) B 3 rfl rfl (I_ _) rfl fun Gz N=>?_);have ez:Ai s_ 0 s_=s_:=AH rfl;rw[ez]at N;refine L_ (cs:=s_) JZ (Jf (N.blk 3 rfl)) trivial (⟨N.old,?_⟩);unfold Hm;rw[a0,ER (O9 c4 ai aq)];rfl
         | inr y=>
           have⟨x,kk⟩:=y;rw[aq]at a4;replace a4:v= .tuple #[.agg (A9 x).toArray,A_ kk,A_ 0,A_ 0]:=a4;subst a4;have bv:=KE aq;refine Am GG (A9 0#256) Ek rfl ?_;intro a6 G4 aj W L J;have C:=K.box aj W L J;refine AN (cs:=A9 x) C 4 (szD x) rfl (by rw[Au,Au];decide) (onD x) fun G5 B=>?_;rw[AH (show(A9 x).length=(A9 0#256).length by rw[Au,Au])]at B;replace B:B_ (H_ H) H G5 (stP sb fb O P fc n D (fr++[U]) [pB tRe q2 s_,pB 157 a6 (A9 x)]):=B;have bo:Q_ G5 a6 157 (A9 x):=B.blk 4 rfl;refine Aq.heldZ (fun k=>k=sb∨k=a6) [11] (sq [0,1,2,3,4,5,6] (.f 7 (.f 8 (sq [9,10] (.f 11 .e))))) rfl (by kernel_rfl) (f_ Cq ?_);refine G_ (v:=.slice O D.length P) DZ ((B.blk 0 rfl).ce rfl) (.inl rfl) ?_;refine L_ (cs:=A9 x) (agD x) (Cj bo) (.inr rfl) (LV 1 x (Ay EZ (X_ (DG x)) rfl (AV _) (by decide) (by decide) ?_));intro zz G6 hz dk cz d0;have F:=B.skip hz d0;refine⟨fun k l=>by
            rcases l with l | l
            ·rw[show k=sb from l];exact(F.blk 0 rfl).trans (B.blk 0 rfl).symm
            ·rw[show k=a6 from l];exact(F.blk 4 rfl).trans bo.symm,?_⟩
           refine Kj (ys:=[DG x]) F 1 EZ rfl (cz.cells (o:=0) (cs:=X_ (DG x)) fun j v hv=>by rw[K_];exact hv) (Ty.reps_one ⟨rfl,BP (x:=1) (by unfold AO;omega),BP (x:=0) (by unfold AO;omega),BP (x:=0) (by unfold AO;omega),BP (x:=0) (by unfold AO;omega),BP (x:=0) (by unfold AO;omega)⟩) rfl (fun u hu=>Ybl.1 (CP _) u hu) (by simp[maxLen];omega) (by simp;omega) fun a7 c7 G7 M dl=>?_;have el:D.length+[DG x].length=(D++[DG x]).length:=by simp
           rw[el]at M ⊢;refine⟨fun k l=>by
            rcases l with l | l
            ·rw[show k=sb from l];exact(M.blk 0 rfl).trans (B.blk 0 rfl).symm
            ·rw[show k=a6 from l];exact(M.blk 4 rfl).trans bo.symm,?_⟩
           refine f_ Cq ?_;refine Bh M 0 DZ rfl (by show _<(2:Nat);decide) rfl fun G8 a8=>?_;replace a8:B_ (H_ H) H G8 (stP sb fb a7 c7 fc n (D++[DG x]) (fr++[U]) [pB tRe q2 s_,pB 157 a6 (A9 x)]):=a8;have w1:IntKind.wrap .i64 (((D++[DG x]).length:Int)-1)=(D.length:Int):=by
            rw[J_,h_,w64 (by omega) (by omega)];omega
           refine Aq.heldZ (fun k=>k=sb) [18] (sq [0,1,2,3,4,5,6,7,8,9,10,11,12,13,14,15,16,17] (.f 18 .e)) rfl (by kernel_rfl) (f_ Bs ?_);refine G_ (v:=.slice (T_ fb) n fc) C7 ((a8.blk 0 rfl).ce rfl) rfl ?_;refine f_ Bs ?_;refine G_ (v:=.slice (T_ fb) n fc) C7 ((a8.blk 0 rfl).ce rfl) rfl ?_;(conv=>whnf);rw[W_ (x:=(n:Int)-1) (by omega)];refine f_ Cq ?_;refine G_ (v:=.slice a7 (D++[DG x]).length c7) DZ ((a8.blk 0 rfl).ce rfl) rfl ?_;(conv=>whnf);rw[w1];refine ixE (j:=fr.length) FG a8 2 rfl (by simp) (by omega) (f_ De (EG (k:=5) (f':={U with factor:=(D.length:Int)}) a8 E_ (by decide) rfl rfl fun G9 bp ja=>?_));(conv=>whnf);replace bp:B_ (H_ H) H G9 (stP sb fb a7 c7 fc n (D++[DG x]) (fr++[{U with factor:=(D.length:Int)}]) [pB tRe q2 s_]):=bp.subl (List.Sublist.cons_cons _ (List.Sublist.cons_cons _ (List.Sublist.cons_cons _ (List.Sublist.cons_cons _ (Ycw _)))));exact⟨rfl,kk,rfl,⟨_,fs,D++[DG x],ws++us++[.cls x],fr,{U with factor:=(D.length:Int)},_,_,_,_,n,GO (Qf c4 ai aq),by omega,k1.add (w:=.cls x) rfl,⟨R.place,R.alt.more,R.meet.more,R.sign,R.row.more,IxR.new k1 rfl⟩,c2.more,by simp only[J_,h_];omega,a2,bp⟩,by omega⟩
  ·skip
   obtain rfl:i=t.size:=by omega
   have bf:Cb t ⟨0,EB (-1),[]⟩=XE ⟨t.size,f,fs⟩:=am.trans (O8 (by show¬t.size<t.size;omega));refine f_ Bs ?_;refine lT (v:=.slice (T_ fb) n fc) C7 ((E.blk 0 rfl).ce rfl) ?_;cases hK with
   | @cons fr1 fs1 g ga hK1 hG=>
     have cy:n=fr1.length+1+1:=by rw[a9];simp
     have d3:decide (1<(n:Int))=true:=e_;have d5:sb≠q2:=(E.blk 0 rfl).ne (E.blk 3 rfl) (by decide);have d6:fb≠q2:=fun e=>E.apart2 (i:=2) (j:=3) rfl rfl (by decide) fb (.inl ⟨0,n,fc,rfl⟩) e;(conv=>whnf);rw[d3];refine Aq.held (fun k=>k=sb∨k=fb) 17 (sq [0,1,2,3,4,5,6,7,8,9,10,11,12,13] (.f 14 (sq [15,16] .e))) rfl (by kernel_rfl) (Ax underlying56 rfl _ MD s_ rfl (f_ Bs ?_));refine G_ (v:=.slice (T_ fb) n fc) C7 ((E.blk 0 rfl).ce rfl) (.inl rfl) ?_;refine f_ Bs ?_;refine G_ (v:=.slice (T_ fb) n fc) C7 ((E.blk 0 rfl).ce rfl) (.inl rfl) ?_;(conv=>whnf);rw[W_ (x:=(n:Int)-1) (by omega)];refine ixE (j:=(fr1++[g]).length) FG E 2 rfl (by simp) (by simp;omega) ?_;refine f_ AcQ (G_ (v:=A_ A.place) E_ (Bo E (k:=0) rfl) (.inr rfl) (Bw (cs:=s_) E 3 rfl rfl (I_ _) rfl fun Gz N jz jq=>?_));have ez:Ai s_ 0 s_=s_:=AH rfl;rw[ez]at N;refine⟨jz.mono fun k l=>by
      rcases l with l | l
      ·rw[show k=sb from l];exact d5
      ·rw[show k=fb from l];exact d6,?_⟩
     refine L_ (cs:=s_) JZ (Jf (N.blk 3 rfl)) trivial (⟨N.old,?_⟩);unfold Hm;rw[a0,bf];show _=Value.tuple #[.agg s_.toArray,A_ 21,A_ f.place];rw[←Q.place];rfl
   | nil=>
     have bx:n=1:=by rw[a9];rfl
     have d3:decide (1<(n:Int))=false:=V_;(conv=>whnf);rw[d3];refine Ae.mk (NO E hN (by omega)) ?_;rintro v G2 ⟨O,P,q⟩;have X:=Ko ds A;have⟨us,k1,R⟩:=Kp hR Q;have bg:=R.alt;have d7:(CH f).alt=some ((CH f).alt.getD .eps):=rfl;obtain⟨r,hr⟩:∃r,r=(CH f).alt.getD .eps:=⟨_,rfl⟩;rw[d7,←hr]at bg;have⟨jr,wr,b6,bq,br⟩:=bg;have ae:Cb t ⟨0,EB (-1),[]⟩=(if 2000<r.nodes then .inl (24,0)else .inr r):=by
      rw[bf,hr];rfl
     obtain⟨D,U,hq⟩:∃D U,El ds A=(D,U):=⟨_,_,rfl⟩;rw[hq]at q k1 R X b6;replace q:B_ (H_ H) H G2 (stP sb fb O P fc n D ([]++[U]) [pB tRe q2 s_]):=q;replace k1:Raw D (ws++us):=k1;replace X:D.length≤ds.length+4:=X;replace b6:U.alt=(jr:Int):=b6;have dm:=k1.len;have d8:=(O_.1 bq).1;refine f_ Bs ?_;refine lT (v:=.slice (T_ fb) n fc) C7 ((q.blk 0 rfl).ce rfl) ?_;refine ixE (j:=([]:List C').length) FG q 2 rfl (by simp) rfl (f_ JN ?_);refine G_ (v:=A_ jr) E_ (by rw[←b6];exact Bo q (k:=1) rfl) trivial ?_;refine f_ Cq ?_;refine lT (v:=.slice O D.length P) DZ ((q.blk 0 rfl).ce rfl) ?_;refine Ae.mk (AeB (S:=H_ G2) (fun k l=>l) k1 (by omega) (q.view 1 rfl)) ?_;rintro _ G3 ⟨bz,rfl,c8⟩;have K:=q.call c8.old;have c9:=RO (j:=(ws++us).length) bq d8;refine ixO (j:=jr) (x:=k_ wr) AU c8 0 rfl c9 rfl fun b9 o9 dn dp d9 da=>?_;obtain⟨rfl,-⟩:=da;refine lT (v:=A_ (k_ wr)) E_ d9.one ?_;have cd:k_ wr=((S_ r:Nat):Int):=by unfold k_;rw[br]
     rw[cd];by_cases hn:2000<r.nodes
     ·have d4:decide (2000<((S_ r:Nat):Int))=true:=n_ (by unfold S_;omega);rw[F_ hn]at ae;(conv=>whnf);rw[d4];refine Ax underlying56 rfl _ MD s_ rfl (AN (cs:=s_) K 3 rfl rfl (I_ _) rfl fun Gz N=>?_);have ez:Ai s_ 0 s_=s_:=AH rfl;rw[ez]at N;refine L_ (cs:=s_) JZ (Jf (N.blk 3 rfl)) trivial (⟨N.old,?_⟩);unfold Hm;rw[a0,ae];rfl
     ·have d4:decide (2000<((S_ r:Nat):Int))=false:=j_ (by unfold S_;omega);rw[D_ hn]at ae;(conv=>whnf);rw[d4];refine Am _ s_ MD rfl ?_;intro b7 G4 aj W L J;have b8:=((St.nil G3).box aj W L J).nils tRn 159;replace b8:B_ (H_ G3) G3 G4 (reP b7 none 0 [] 0 []):=b8;have C:=K.call b8.old;refine f_ Cq ?_;refine lT (v:=.slice O D.length P) DZ ((C.blk 0 rfl).ce rfl) ?_;refine Ae.mk (AgG wr (H_ G3) G3 G4 b7 0 none [] 0 [] O P jr D (ws++us) k1 (K.view 1 rfl) (fun k l=>l) bq (by rw[br];simp;omega) b8) ?_;rintro _ G5 ⟨ms,Y,Z,ce,cg,rfl,bd,ch⟩;rw[br]at ce bd cg;rw[List.nil_append]at bd ch;refine f_ Zv ?_;refine Bh ch 0 E_ rfl (by show _<(2:Nat);decide) rfl fun G6 ak=>?_;rw[show([]:List p_).length+ms.length-1=ms.length-1 by simp]at bd ak;replace ak:B_ (H_ G3) G3 G6 (reP b7 Y Z ms ((ms.length-1:Nat):Int) []):=ak;have F:=K.call ak.old;have db:Be G6 b7 0 (reL (.slice Y ms.length Z) ((ms.length-1:Nat):Int)):=(ak.blk 0 rfl).cells fun j v hv=>by rw[K_];exact hv
      refine L_ (cs:=reL (.slice Y ms.length Z) ((ms.length-1:Nat):Int)) JZ db trivial (Bw (cs:=reL (.slice Y ms.length Z) ((ms.length-1:Nat):Int)) F 3 rfl rfl (I_ _) rfl fun G7 M dc dq=>?_);rw[AH (show(reL (.slice Y ms.length Z) ((ms.length-1:Nat):Int)).length=s_.length from rfl)]at M;have de:Be G7 q2 0 (reL (.slice Y ms.length Z) ((ms.length-1:Nat):Int)):=(M.blk 3 rfl).cells fun j v hv=>by rw[K_];exact hv
      refine lN (cs:=reL (.slice Y ms.length Z) ((ms.length-1:Nat):Int)) JZ de ?_;have ow:=St.own (H0:=G3) ak 1 rfl;have dr:q2<G3.size:=(K.blk 3 rfl).lt;refine⟨M.old,?_⟩;unfold Hm;rw[a0,ae];refine⟨ms,Y,Z,ms.length-1,rfl,bd,ce,cg,?_⟩;refine(ow.agr dc (fun b hb=>by have:=(ow.lt hb).1;omega) (fun b hb=>hb.elim)).lower ?_;exact K.size
inductive DY(R:Nat→Nat→Prop)(i:Nat):Nat→Prop
 | refl:DY R i i
 | step {k j:Nat}:DY R i k→R k j→DY R i j
def Mt(l:List Nat):ReM→Nat→Nat→Prop
 | .eps,i,j=>i=j
 | .cls s,i,j=>∃c,l[i]?=some c∧s.getLsbD c=true∧j=i+1
 | .cat a b,i,j=>∃k,Mt l a i k∧Mt l b k j
 | .alt a b,i,j=>Mt l a i j∨Mt l b i j
 | .star a,i,j=>DY (Mt l a) i j
 | .and_ a b,i,j=>Mt l a i j∧Mt l b i j
 | .minus a b,i,j=>Mt l a i j∧¬Mt l b i j
inductive Pth(es:List Y')(l:List Nat)(p:Int)(i:Nat):Int→Nat→Prop
 | refl:Pth es l p i p i
 | sil {q:Int} {j:Nat} {e:Y'}:Pth es l p i q j→e∈es→e.sil=true→e.fr=q→Pth es l p i e.to j
 | eat {q:Int} {j c:Nat} {e:Y'}:Pth es l p i q j→e∈es→e.sil=false→e.fr=q→l[j]?=some c→e.set.getLsbD c=true→Pth es l p i e.to (j+1)
theorem Pth.mono{es es':List Y'}{l:List Nat}{p q:Int}{i j:Nat}(h:Pth es l p i q j)(k:∀e∈es,e∈es'):Pth es' l p i q j:=by
 induction h with
 | refl=>exact .refl
 | sil _ a b c d=>exact .sil d (k _ a) b c
 | eat _ a b c f g d=>exact .eat d (k _ a) b c f g
section
variable{es:List Y'}{l:List Nat}
theorem Pth.trans{p q r:Int}{i j k:Nat}(h:Pth es l p i q j)(g:Pth es l q j r k):Pth es l p i r k:=by
 induction g with
 | refl=>exact h
 | sil _ a b c d=>exact .sil d a b c
 | eat _ a b c e f d=>exact .eat d a b c e f
theorem Pth.one{p q:Nat}{i:Nat}(h:AW p q∈es):Pth es l (p:Int) i (q:Int) i:=.sil .refl h rfl rfl
end
theorem CV:∀(r:ReM),r.plain=true→∀n,∀e∈(Bc r n).2.2,(n:Int)≤e.fr∧e.fr<((n+i_ r:Nat):Int)∧(n:Int)≤e.to∧e.to<((n+i_ r:Nat):Int)
 | .eps,_,n,e,c=>by
   rcases Y_.1 c with rfl;simp only[AW,i_];omega
 | .cls s,_,n,e,c=>by
   rcases Y_.1 c with rfl;simp only[D2,i_];omega
 | .cat a b,h,n,e,c=>by
   simp only[ReM.plain,r_]at h;have d:=Ei a h.1 n;have g:=Ei b h.2 (n+i_ a);simp only[Bc,q_,Y_]at c;simp only[i_];rcases c with(c | c) | rfl
   ·have:=CV a h.1 n e c;omega
   ·have:=CV b h.2 (n+i_ a) e c;omega
   ·simp only[AW];omega
 | .alt a b,h,n,e,c=>by
   simp only[ReM.plain,r_]at h;have d:=Ei a h.1 (n+1);have g:=Ei b h.2 (n+1+i_ a);simp only[Bc,q_,YaP,Yc4,or_false]at c;simp only[i_];rcases c with(c | c) | rfl | rfl | rfl | rfl
   ·have:=CV a h.1 (n+1) e c;omega
   ·have:=CV b h.2 (n+1+i_ a) e c;omega
   all_goals simp only[AW];omega
 | .star a,h,n,e,c=>by
   have f:a.plain=true:=h;have d:=Ei a f (n+1);simp only[Bc,q_,YaP,Yc4,or_false]at c;simp only[i_];rcases c with c | rfl | rfl | rfl | rfl
   ·have:=CV a f (n+1) e c;omega
   all_goals simp only[AW];omega
 | .and_ _ _,h,_,_,_=>by cases h
 | .minus _ _,h,_,_,_=>by cases h
def V'(n m:Nat)(q:Int):Prop:=(n:Int)≤q∧q<((n+m:Nat):Int)
theorem GC(l:List Nat):∀(r:ReM),r.plain=true→∀(n i j:Nat),Pth (Bc r n).2.2 l ((Bc r n).1:Int) i ((Bc r n).2.1:Int) j↔Mt l r i j
 | .eps,_,n,i,j=>by
   constructor
   ·intro h;have t:∀q j,Pth (Bc .eps n).2.2 l (n:Int) i q j→i=j:=by
     intro q j h
     induction h with
     | refl=>rfl
     | sil _ _ _ _ g=>exact g
     | eat _ m p=>rcases Y_.1 m with rfl;cases p
    exact t _ _ h
   ·intro h;have h:i=j:=h;subst h;exact Pth.one (Y_.2 rfl)
 | .cls s,_,n,i,j=>by
   constructor
   ·intro h;have t:∀q j,Pth (Bc (.cls s) n).2.2 l (n:Int) i q j→(q=(n:Int)∧j=i)∨(q=((n+1:Nat):Int)∧Mt l (.cls s) i j):=by
     intro q j h
     induction h with
     | refl=>exact .inl ⟨rfl,rfl⟩
     | sil _ m p=>rcases Y_.1 m with rfl;cases p
     | eat _ m p o x y g=>
       rcases Y_.1 m with rfl;rcases g with⟨v,rfl⟩ | ⟨v,-⟩
       ·exact .inr ⟨rfl,_,x,y,rfl⟩
       ·rw[v]at o;have o:(n:Int)=((n+1:Nat):Int):=o;omega
    rcases t _ _ h with⟨v,-⟩ | ⟨-,e2⟩
    ·have v:((n+1:Nat):Int)=(n:Int):=v;omega
    ·exact e2
   ·rintro⟨c,m,p,rfl⟩;exact .eat (e:=D2 n (n+1) s) .refl (Y_.2 rfl) rfl rfl m p
 | .cat a b,h,n,i,j=>by
   simp only[ReM.plain,r_]at h;have G:=Ei a h.1 n;have H:=Ei b h.2 (n+i_ a);have z:=GC l a h.1 n;have tb:=GC l b h.2 (n+i_ a);have B:=CV a h.1 n;have C:=CV b h.2 (n+i_ a);have f:∀e,e∈(Bc (.cat a b) n).2.2↔(e∈(Bc a n).2.2∨e∈(Bc b (n+i_ a)).2.2∨e=AW (Bc a n).2.1 (Bc b (n+i_ a)).1):=fun e=>by
    simp only[Bc,q_,Y_,or_assoc]
   constructor
   ·intro w;have t:∀q j,Pth (Bc (.cat a b) n).2.2 l ((Bc a n).1:Int) i q j→
      (V' n (i_ a) q∧Pth (Bc a n).2.2 l ((Bc a n).1:Int) i q j)∨(V' (n+i_ a) (i_ b) q∧∃k,Mt l a i k∧Pth (Bc b (n+i_ a)).2.2 l ((Bc b (n+i_ a)).1:Int) k q j):=by
     intro q j w
     induction w with
     | refl=>exact .inl ⟨by unfold V';omega,.refl⟩
     | @sil q j e _ m p o g=>
       rcases(f e).1 m with m | m | rfl
       ·have v:=B e m;rcases g with⟨d,g⟩ | ⟨d,-⟩
        ·exact .inl ⟨⟨by omega,by omega⟩,.sil g m p o⟩
        ·unfold V' at d;omega
       ·have v:=C e m;rcases g with⟨d,-⟩ | ⟨d,k,u,g⟩
        ·unfold V' at d;omega
        ·exact .inr ⟨⟨by omega,by omega⟩,k,u,.sil g m p o⟩
       ·have o:((Bc a n).2.1:Int)=q:=o;rcases g with⟨d,g⟩ | ⟨d,-⟩
        ·rw[←o]at g;exact .inr ⟨⟨by show _≤(((Bc b (n+i_ a)).1:Nat):Int);omega,by show(((Bc b (n+i_ a)).1:Nat):Int)<_;omega⟩,j,(z i j).1 g,.refl⟩
        ·unfold V' at d;omega
     | @eat q j c e _ m p o x y g=>
       rcases(f e).1 m with m | m | rfl
       ·have v:=B e m;rcases g with⟨d,g⟩ | ⟨d,-⟩
        ·exact .inl ⟨⟨by omega,by omega⟩,.eat g m p o x y⟩
        ·unfold V' at d;omega
       ·have v:=C e m;rcases g with⟨d,-⟩ | ⟨d,k,u,g⟩
        ·unfold V' at d;omega
        ·exact .inr ⟨⟨by omega,by omega⟩,k,u,.eat g m p o x y⟩
       ·cases p
    rcases t _ _ w with⟨d,-⟩ | ⟨-,k,u,D⟩
    ·have d:V' n (i_ a) ((Bc b (n+i_ a)).2.1:Int):=d;unfold V' at d;omega
    ·exact⟨k,u,(tb k j).1 D⟩
   ·rintro⟨k,F,D⟩;have pa:=((z i k).2 F).mono (es':=(Bc (.cat a b) n).2.2) fun e A=>(f e).2 (.inl A);have pb:=((tb k j).2 D).mono (es':=(Bc (.cat a b) n).2.2) fun e A=>(f e).2 (.inr (.inl A));exact(pa.trans (Pth.one ((f _).2 (.inr (.inr rfl))))).trans pb
 | .alt a b,h,n,i,j=>by
   simp only[ReM.plain,r_]at h;have G:=Ei a h.1 (n+1);have H:=Ei b h.2 (n+1+i_ a);have z:=GC l a h.1 (n+1);have tb:=GC l b h.2 (n+1+i_ a);have B:=CV a h.1 (n+1);have C:=CV b h.2 (n+1+i_ a);have f:∀e,e∈(Bc (.alt a b) n).2.2↔(e∈(Bc a (n+1)).2.2∨e∈(Bc b (n+1+i_ a)).2.2∨e=AW n (Bc a (n+1)).1∨e=AW n (Bc b (n+1+i_ a)).1∨e=AW (Bc a (n+1)).2.1 (n+1+i_ a+i_ b)∨e=AW (Bc b (n+1+i_ a)).2.1 (n+1+i_ a+i_ b)):=fun e=>by
    simp only[Bc,q_,YaP,Yc4,or_false,or_assoc]
   constructor
   ·intro w;have t:∀q j,Pth (Bc (.alt a b) n).2.2 l (n:Int) i q j→
      (q=(n:Int)∧i=j)∨(V' (n+1) (i_ a) q∧Pth (Bc a (n+1)).2.2 l ((Bc a (n+1)).1:Int) i q j)∨(V' (n+1+i_ a) (i_ b) q∧Pth (Bc b (n+1+i_ a)).2.2 l ((Bc b (n+1+i_ a)).1:Int) i q j)∨(q=((n+1+i_ a+i_ b:Nat):Int)∧Mt l (.alt a b) i j):=by
     intro q j w
     induction w with
     | refl=>exact .inl ⟨rfl,rfl⟩
     | @sil q j e _ m p o g=>
       rcases(f e).1 m with m | m | rfl | rfl | rfl | rfl
       ·have v:=B e m;rcases g with⟨d,-⟩ | ⟨d,g⟩ | ⟨d,-⟩ | ⟨d,-⟩
        ·omega
        ·exact .inr (.inl ⟨⟨by omega,by omega⟩,.sil g m p o⟩)
        ·unfold V' at d;omega
        ·omega
       ·have v:=C e m;rcases g with⟨d,-⟩ | ⟨d,-⟩ | ⟨d,g⟩ | ⟨d,-⟩
        ·omega
        ·unfold V' at d;omega
        ·exact .inr (.inr (.inl ⟨⟨by omega,by omega⟩,.sil g m p o⟩))
        ·omega
       ·have o:(n:Int)=q:=o;rcases g with⟨d,rfl⟩ | ⟨d,-⟩ | ⟨d,-⟩ | ⟨d,-⟩
        ·exact .inr (.inl ⟨⟨by show _≤(((Bc a (n+1)).1:Nat):Int);omega,by show(((Bc a (n+1)).1:Nat):Int)<_;omega⟩,.refl⟩)
        ·unfold V' at d;omega
        ·unfold V' at d;omega
        ·omega
       ·have o:(n:Int)=q:=o;rcases g with⟨d,rfl⟩ | ⟨d,-⟩ | ⟨d,-⟩ | ⟨d,-⟩
        ·exact .inr (.inr (.inl ⟨⟨by show _≤(((Bc b (n+1+i_ a)).1:Nat):Int);omega,by show(((Bc b (n+1+i_ a)).1:Nat):Int)<_;omega⟩,.refl⟩))
        ·unfold V' at d;omega
        ·unfold V' at d;omega
        ·omega
       ·have o:((Bc a (n+1)).2.1:Int)=q:=o;rcases g with⟨d,-⟩ | ⟨d,g⟩ | ⟨d,-⟩ | ⟨d,-⟩
        ·omega
        ·rw[←o]at g;exact .inr (.inr (.inr ⟨rfl,.inl ((z i j).1 g)⟩))
        ·unfold V' at d;omega
        ·omega
       ·have o:((Bc b (n+1+i_ a)).2.1:Int)=q:=o;rcases g with⟨d,-⟩ | ⟨d,-⟩ | ⟨d,g⟩ | ⟨d,-⟩
        ·omega
        ·unfold V' at d;omega
        ·rw[←o]at g;exact .inr (.inr (.inr ⟨rfl,.inr ((tb i j).1 g)⟩))
        ·omega
     | @eat q j c e _ m p o x y g=>
       rcases(f e).1 m with m | m | rfl | rfl | rfl | rfl
       ·have v:=B e m;rcases g with⟨d,-⟩ | ⟨d,g⟩ | ⟨d,-⟩ | ⟨d,-⟩
        ·omega
        ·exact .inr (.inl ⟨⟨by omega,by omega⟩,.eat g m p o x y⟩)
        ·unfold V' at d;omega
        ·omega
       ·have v:=C e m;rcases g with⟨d,-⟩ | ⟨d,-⟩ | ⟨d,g⟩ | ⟨d,-⟩
        ·omega
        ·unfold V' at d;omega
        ·exact .inr (.inr (.inl ⟨⟨by omega,by omega⟩,.eat g m p o x y⟩))
        ·omega
       all_goals cases p
    rcases t _ _ w with⟨d,-⟩ | ⟨d,-⟩ | ⟨d,-⟩ | ⟨-,E⟩
    ·have d:((n+1+i_ a+i_ b:Nat):Int)=(n:Int):=d;omega
    ·have d:V' (n+1) (i_ a) ((n+1+i_ a+i_ b:Nat):Int):=d;unfold V' at d;omega
    ·have d:V' (n+1+i_ a) (i_ b) ((n+1+i_ a+i_ b:Nat):Int):=d;unfold V' at d;omega
    ·exact E
   ·rintro(F | D)
    ·have pa:=((z i j).2 F).mono (es':=(Bc (.alt a b) n).2.2) fun e A=>(f e).2 (.inl A);exact((Pth.one (l:=l) (i:=i) ((f _).2 (.inr (.inr (.inl rfl))))).trans pa).trans (Pth.one ((f _).2 (.inr (.inr (.inr (.inr (.inl rfl)))))))
    ·have pb:=((tb i j).2 D).mono (es':=(Bc (.alt a b) n).2.2) fun e A=>(f e).2 (.inr (.inl A));exact((Pth.one (l:=l) (i:=i) ((f _).2 (.inr (.inr (.inr (.inl rfl)))))).trans pb).trans (Pth.one ((f _).2 (.inr (.inr (.inr (.inr (.inr rfl)))))))
 | .star a,h,n,i,j=>by
   have m:a.plain=true:=h;have G:=Ei a m (n+1);have z:=GC l a m (n+1);have B:=CV a m (n+1);have f:∀e,e∈(Bc (.star a) n).2.2↔(e∈(Bc a (n+1)).2.2∨e=AW n (Bc a (n+1)).1∨e=AW n (n+1+i_ a)∨e=AW (Bc a (n+1)).2.1 (Bc a (n+1)).1∨e=AW (Bc a (n+1)).2.1 (n+1+i_ a)):=fun e=>by
    simp only[Bc,q_,YaP,Yc4,or_false,or_assoc]
   constructor
   ·intro w;have t:∀q j,Pth (Bc (.star a) n).2.2 l (n:Int) i q j→
      (q=(n:Int)∧i=j)∨(V' (n+1) (i_ a) q∧∃k,DY (Mt l a) i k∧Pth (Bc a (n+1)).2.2 l ((Bc a (n+1)).1:Int) k q j)∨(q=((n+1+i_ a:Nat):Int)∧DY (Mt l a) i j):=by
     intro q j w;have hs:V' (n+1) (i_ a) ((Bc a (n+1)).1:Int):=by unfold V';omega
     induction w with
     | refl=>exact .inl ⟨rfl,rfl⟩
     | @sil q j e _ m p o g=>
       rcases(f e).1 m with m | rfl | rfl | rfl | rfl
       ·have v:=B e m;rcases g with⟨d,-⟩ | ⟨d,k,u,g⟩ | ⟨d,-⟩
        ·omega
        ·exact .inr (.inl ⟨⟨by omega,by omega⟩,k,u,.sil g m p o⟩)
        ·omega
       ·have o:(n:Int)=q:=o;rcases g with⟨d,rfl⟩ | ⟨d,-⟩ | ⟨d,-⟩
        ·exact .inr (.inl ⟨hs,i,.refl,.refl⟩)
        ·unfold V' at d;omega
        ·omega
       ·have o:(n:Int)=q:=o;rcases g with⟨d,rfl⟩ | ⟨d,-⟩ | ⟨d,-⟩
        ·exact .inr (.inr ⟨rfl,.refl⟩)
        ·unfold V' at d;omega
        ·omega
       ·have o:((Bc a (n+1)).2.1:Int)=q:=o;rcases g with⟨d,-⟩ | ⟨d,k,u,g⟩ | ⟨d,-⟩
        ·omega
        ·rw[←o]at g;exact .inr (.inl ⟨hs,j,.step u ((z k j).1 g),.refl⟩)
        ·omega
       ·have o:((Bc a (n+1)).2.1:Int)=q:=o;rcases g with⟨d,-⟩ | ⟨d,k,u,g⟩ | ⟨d,-⟩
        ·omega
        ·rw[←o]at g;exact .inr (.inr ⟨rfl,.step u ((z k j).1 g)⟩)
        ·omega
     | @eat q j c e _ m p o x y g=>
       rcases(f e).1 m with m | rfl | rfl | rfl | rfl
       ·have v:=B e m;rcases g with⟨d,-⟩ | ⟨d,k,u,g⟩ | ⟨d,-⟩
        ·omega
        ·exact .inr (.inl ⟨⟨by omega,by omega⟩,k,u,.eat g m p o x y⟩)
        ·omega
       all_goals cases p
    rcases t _ _ w with⟨d,-⟩ | ⟨d,-⟩ | ⟨-,E⟩
    ·have d:((n+1+i_ a:Nat):Int)=(n:Int):=d;omega
    ·have d:V' (n+1) (i_ a) ((n+1+i_ a:Nat):Int):=d;unfold V' at d;omega
    ·exact E
   ·intro E;have t:∀k,DY (Mt l a) i k→k=i∨Pth (Bc (.star a) n).2.2 l (n:Int) i ((Bc a (n+1)).2.1:Int) k:=by
     intro k u
     induction u with
     | refl=>exact .inl rfl
     | @step k j u hj g=>
       have pa:=((z k j).2 hj).mono (es':=(Bc (.star a) n).2.2) fun e A=>(f e).2 (.inl A);rcases g with rfl | g
       ·exact .inr ((Pth.one (l:=l) ((f _).2 (.inr (.inl rfl)))).trans pa)
       ·exact .inr ((g.trans (Pth.one ((f _).2 (.inr (.inr (.inr (.inl rfl))))))).trans pa)
    rcases t j E with rfl | w
    ·exact Pth.one ((f _).2 (.inr (.inr (.inl rfl))))
    ·exact w.trans (Pth.one ((f _).2 (.inr (.inr (.inr (.inr rfl))))))
 | .and_ _ _,h,_,_,_=>by cases h
 | .minus _ _,h,_,_,_=>by cases h
theorem RJ{a:N_}{l:List Nat}(hs:a.has a.start=true)(b:∀e∈a.edges,a.has e.to=true){q:Int}{j:Nat}(h:Pth a.edges l a.start 0 q j):j≤l.length∧MC a (l.take j) q:=by
 induction h with
 | refl=>exact⟨t_ _,a.start,⟨rfl,hs⟩,.refl _⟩
 | @sil q j e _ h1 h2 h3 ih=>exact⟨ih.1,XK a _ e h1 h2 (b e h1) (by rw[h3];exact ih.2)⟩
 | @eat q j c e _ h1 h2 h3 h4 h5 ih=>
   have d:=(O_.1 h4).1;refine⟨d,?_⟩;have f:l.take (j+1)=l.take j++[c]:=by rw[Yc3,h4];rfl
   rw[f,LT];exact YW ⟨e,h1,h2,h5,by rw[h3];exact ih.2,b e h1,rfl⟩
theorem Nq{a:N_}{l:List Nat}:∀{j:Nat},j≤l.length→∀q,MC a (l.take j) q→Pth a.edges l a.start 0 q j
 | 0,_,q,h=>by
   refine JJ (Y:=fun q=>Pth a.edges l a.start 0 q 0) (fun q g=>?_) (fun e b c i d=>.sil d b c rfl) q h;rw[g.1];exact .refl
 | j+1,hj,q,h=>by
   have f:j<l.length:=hj;have k:l.take (j+1)=l.take j++[l[j]]:=by rw[Yc3,N' f];rfl
   rw[k,LT]at h;refine JJ (Y:=fun q=>Pth a.edges l a.start 0 q (j+1)) (fun q g=>?_) (fun e b c i d=>.sil d b c rfl) q h;obtain⟨e,b,c,i,d,m,rfl⟩:=g;exact .eat (Nq (by omega) e.fr d) b c rfl (N' f) i
def orL(xs ys:List Bool)(k:Nat):List Bool:=(List.zipWith (·|| ·) (xs.take k) (ys.take k))++xs.drop k
section
variable{xs ys:List Bool}
theorem Wz(h:ys.length=xs.length){k:Nat}(a:k≤xs.length):(orL xs ys k).length=xs.length:=by unfold orL;simp[h];omega
theorem AdR{k:Nat}{x:Bool}(h:ys.length=xs.length)(a:xs[k]?=some x):(orL xs ys k)[k]?=some x:=by
 have b:=(O_.1 a).1;unfold orL;rw[YaE (by simp[h];omega)];simp[h];rw[show min k xs.length=k by omega,Ycm,Nat.add_zero];exact a
theorem ZY{k:Nat}{x y:Bool}(h:ys.length=xs.length)(a:xs[k]?=some x)(b:ys[k]?=some y):(orL xs ys k).set k (x|| y)=orL xs ys (k+1):=by
 have c:=(O_.1 a).1;have d:xs.drop k=x::xs.drop (k+1):=by rw[List.drop_eq_getElem_cons c,(O_.1 a).2]
 have e2:xs.take (k+1)=xs.take k++[x]:=by rw[Yc3,a];rfl
 have e:ys.take (k+1)=ys.take k++[y]:=by rw[Yc3,b];rfl
 unfold orL;rw[d,e2,e,List.zipWith_append (by simp[h])];rw[Ycf _ _ (by simp[h];omega)];simp[h];rw[show k-min k xs.length=0 by omega];rfl
end
theorem ZC{B:Nat→Prop}{H0 H:Aa}{ps:List Pc}{k kb ob s n:Nat}{xs ys:List Bool}{p:Pc}(st:B_ B H0 H ps)(g:ps[k]?=some (pS AQ 4 (T_ ob) n n xs))(h:ps[kb]?=some p)(i:k≠kb)
  (A:∀H',p.ok H'→Q_ H' s 4 (ys.map Value.bool)) (l:ys.length=xs.length) (J:n≤4194304):
  Ak prog 147 #[.slice (T_ ob) n n,.slice (T_ s) n n] H (fun _ H'=>B_ B H0 H' (ps.set k (pS AQ 4 (T_ ob) n n (orL xs ys xs.length)))):=by
 have L:=st.len k g;refine Ak.of_vc func147 rfl (call147 _) ?_;(conv=>whnf);refine A0.mk [4] (fun j:Nat=>[A_ j]) (fun j G=>j≤xs.length∧B_ B H0 G (ps.set k (pS AQ 4 (T_ ob) n n (orL xs ys j)))) (fun j _=>xs.length-j) ?_ ?_
 ·(conv=>whnf);refine⟨0,rfl,t_ _,?_⟩;have e:orL xs ys 0=xs:=rfl;rw[e,CB g];exact st
 ·rintro j G t ⟨C,a⟩;have c:(ps.set k (pS AQ 4 (T_ ob) n n (orL xs ys j)))[k]?=some (pS AQ 4 (T_ ob) n n (orL xs ys j)):=Ip g;have f:(ps.set k (pS AQ 4 (T_ ob) n n (orL xs ys j)))[kb]?=some p:=by rw[YaC i];exact h
  refine AG.m2 (fun m=>?_) (fun m=>?_)
  ·have d:j<xs.length:=by omega
   obtain⟨x,u⟩:∃x,xs[j]?=some x:=⟨_,N' d⟩;obtain⟨y,w⟩:∃y,ys[j]?=some y:=⟨_,N' (by omega)⟩;have D:=Wz l C;have fin:∀z:Bool,z=(x|| y)→∀K:Aa→Prop,(∀G',B_ B H0 G' (ps.set k (pS AQ 4 (T_ ob) n n (orL xs ys (j+1))))→K G')→CN prog (Instr.storeAt 4 (.pointer (some ⟨ob,j*AQ.size,none⟩)) (.bool z)) G K:=fun z m K E=>by
    refine GA (T:=AQ) (j:=j) (x:=z) a k ct4 c rfl (L' _) (by omega) rfl (fun _ _=>rfl) fun G' b=>E G' ?_;rw[List.set_set,m,ZY l u w]at b;exact b
   (conv=>whnf);try (refine An.run ?_)
   refine ixO (j:=j) (x:=x) CJ a k c (AdR l u) rfl fun M N F I o q=>?_;obtain rfl:=q;refine lT ct4 o.one ?_;cases x with
   | true=>
     refine ixE (T:=AQ) (j:=j) CJ a k c (by omega) rfl (fin true rfl _ fun G' b=>?_);(conv=>whnf);rw[P_ j (by omega)];exact⟨rfl,j+1,rfl,⟨d,b⟩,by omega⟩
   | false=>
     have r:=A G (a.at_ kb f);refine ix CJ (by omega) (by omega) ?_;refine G_ (v:=.bool y) ct4 (by rw[r.cell,U',L',K_,o_,w];rfl) trivial ?_;refine ixE (T:=AQ) (j:=j) CJ a k c (by omega) rfl (fin y (by simp) _ fun G' b=>?_);(conv=>whnf);rw[P_ j (by omega)];exact⟨rfl,j+1,rfl,⟨d,b⟩,by omega⟩
  ·obtain rfl:j=xs.length:=by omega
   (conv=>whnf);exact a
def Rx(m:Nat→Option Nat)(L:Nat):List v_:=(Al1 (L+1)).map fun i=>match m i with | none=>.slice none 0 0 | some rb=>.slice (T_ rb) (L+1) (L+1)
structure He(mb:Nat)(nbs:List Nat)(L:Nat)(m:Nat→Nat→Option Nat)(R:Nat→Nat→List Bool)(H:Aa):Prop where
 top:Q_ H mb 267 (nbs.map fun nb=>.slice (T_ nb) (L+1) (L+1))
 rows:∀(j nb:Nat),nbs[j]?=some nb→Q_ H nb 36 (Rx (m j) L)
 cont:∀(j i rb:Nat),m j i=some rb→Q_ H rb 4 ((R j i).map Value.bool)
 nd:nbs.Nodup
 ntop:mb∉nbs
 nrow:∀(j i rb:Nat),m j i=some rb→rb≠mb∧rb∉nbs
 dom:∀(j i rb:Nat),m j i=some rb→j<nbs.length∧i≤L
def EK(mb:Nat)(nbs:List Nat)(L:Nat)(m:Nat→Nat→Option Nat)(R:Nat→Nat→List Bool):Pc where
 foot k:=k=mb∨k∈nbs∨∃j i,m j i=some k
 ok H:=He mb nbs L m R H
 fr h hp:=⟨hp.top.agr h (.inl rfl),fun j nb hj=>(hp.rows j nb hj).agr h (.inr (.inl (c_ hj))),fun j i rb hm=>(hp.cont j i rb hm).agr h (.inr (.inr ⟨j,i,hm⟩)),hp.nd,hp.ntop,hp.nrow,hp.dom⟩
theorem Jh{m:Nat→Option Nat}{L i:Nat}(a:i≤L):(Rx m L)[i]?=some (match m i with | none=>.slice none 0 0 | some rb=>.slice (T_ rb) (L+1) (L+1)):=by
 unfold Rx;rw[o_,YaR (by omega)];rfl
theorem Ji(m:Nat→Option Nat)(L:Nat):(Rx m L).length=L+1:=by unfold Rx;simp
def Kb(m:Nat→Nat→Option Nat)(j i rb:Nat):Nat→Nat→Option Nat:=fun j' i'=>if j'=j∧i'=i then some rb else m j' i'
theorem ZM{m:Nat→Nat→Option Nat}{L j i b:Nat}(d:i≤L):(Rx (m j) L).set i (.slice (T_ b) (L+1) (L+1))=Rx (Kb m j i b j) L:=by
 apply YaJ;intro x;by_cases c:x≤L
 ·rw[Jh c];by_cases a:x=i
  ·subst a;rw[YaA (by rw[Ji];omega)];unfold Kb;simp
  ·rw[YaC (by omega),Jh c];unfold Kb;simp[a]
 ·rw[YaL (by rw[YaH,Ji];omega),YaL (by rw[Ji];omega)]
section
variable{B:Nat→Prop}{H0 H:Aa}{ps:List Pc}
theorem Ae7{k ob n:Nat}{xs:List Bool}(st:B_ B H0 H ps)(i:ps[k]?=some (pS AQ 4 (T_ ob) n n xs)):Q_ H ob 4 (xs.map Value.bool):=by
 have v:=st.len k i;obtain⟨a,⟨w,d⟩,m⟩:=(st.at_ k i).1;have f:∀(xs:List Bool) (a:List v_),AQ.reps none_ H a xs→a=xs.map Value.bool:=by
  intro xs
  induction xs with
  | nil=>intro a h;exact h
  | cons x xs o=>
    rintro a ⟨c,r,rfl,p,q⟩;rw[show c=[Value.bool x]from p,o r q];rfl
 rcases d with⟨d,y⟩ | ⟨b,j,l,d,z,s,A,C,t,u⟩
 ·cases d
 ·cases d;have e:l=a:=by
   have g:l.length=xs.length:=by rw[t];show _*1=_;omega
   rw[←u,Yc2 (by rw[g];show _≤_*1;omega)]
  rw[←f xs a m,←e];exact s
theorem AhH{mb nb j i ob L:Nat}{nbs:List Nat}{m:Nat→Nat→Option Nat}{R:Nat→Nat→List Bool}{xs:List Bool}{K:Aa→Prop}
  (st:B_ B H0 H (EK mb nbs L m R::(ps++[pS AQ 4 (T_ ob) (L+1) (L+1) xs]))) (D:nbs[j]?=some nb) (U:i≤L) (W:R j i=xs)
  (k:∀H',B_ B H0 H' (EK mb nbs L (Kb m j i ob) R::ps)→K H'):CN prog (Instr.storeAt 36 (.pointer (some ⟨nb,i,none⟩)) (.slice (T_ ob) (L+1) (L+1))) H K:=by
 have d:He mb nbs L m R H:=st.at_ 0 rfl;have f:(EK mb nbs L m R::(ps++[pS AQ 4 (T_ ob) (L+1) (L+1) xs]))[(EK mb nbs L m R::ps).length+0]?=some (pS AQ 4 (T_ ob) (L+1) (L+1) xs):=M_ (EK mb nbs L m R::ps) [pS AQ 4 (T_ ob) (L+1) (L+1) xs] 0;have O:=Ae7 st f;have n:(pS AQ 4 (T_ ob) (L+1) (L+1) xs).foot ob:=.inl ⟨0,L+1,L+1,rfl⟩;have E:=st.apart2 (i:=0) (j:=(EK mb nbs L m R::ps).length+0) rfl f (by simp);have o:¬(EK mb nbs L m R).foot ob:=fun h=>E ob h n;have q:nb∈nbs:=c_ D;have F:=d.rows j nb D;have P:=(O_.1 D).1;refine VC.st1 Pg F (by rw[Ji];omega) rfl ?_;intro H' G r X;have I:∀b,b≠nb→H'[b]?=H[b]? :=fun b a=>r b a;have Q:mb≠nb:=fun e=>d.ntop (e ▸ q);have J:ob≠nb:=fun e=>o (.inr (.inl (e ▸ q)));have M:He mb nbs L (Kb m j i ob) R H':=by
  refine⟨d.top.agr r Q,fun g N s=>?_,fun g t C c=>?_,d.nd,d.ntop,fun g t C c=>?_,fun g t C c=>?_⟩
  ·by_cases z:g=j
   ·subst z;rw[D]at s;cases s;rw[ZM U]at G;exact G
   ·have S:N≠nb:=fun e=>z ((List.getElem?_inj (O_.1 s).1 d.nd).1 (by rw[s,D,e]));have e:Kb m j i ob g=m g:=by funext x;unfold Kb;rw[D_ (fun h=>z h.1)]
    rw[e];exact(d.rows g N s).agr r S
  ·unfold Kb at c;split at c
   ·rename_i h;cases c;rw[h.1,h.2,W];exact O.agr r J
   ·exact(d.cont g t C c).agr r (fun e=>(d.nrow g t C c).2 (e ▸ q))
  ·unfold Kb at c;split at c
   ·cases c;exact⟨fun e=>o (.inl e),fun h=>o (.inr (.inl h))⟩
   ·exact d.nrow g t C c
  ·unfold Kb at c;split at c
   ·rename_i h;rw[h.1,h.2];exact⟨P,U⟩
   ·exact d.dom g t C c
 refine k H' ?_;have u:B_ B H0 H (EK mb nbs L m R::ps):=st.subl (List.Sublist.cons_cons _ (List.sublist_append_left _ _));have l:=st.rng _ Yca;refine⟨fun b a=>(I b fun e=>(l nb (.inr (.inl q))).1 (e ▸ a)).trans (st.old b a),st.lt0,by have:=st.size;omega,fun p v=>?_,fun p v b a=>?_,?_⟩
 ·rcases YaP.1 v with rfl | v
  ·exact M
  ·refine p.fr (H:=H) (fun b a=>I b fun e=>?_) (u.oks p (YbY _ v));exact(Ybf.1 u.dis).1 p v nb (.inr (.inl q)) (e ▸ a)
 ·have w:∀b,b<H.size→b<H'.size:=fun b a=>by omega
  rcases YaP.1 v with rfl | v
  ·rcases a with a | a | ⟨g,t,a⟩
   ·exact⟨(l b (.inl a)).1,w _ (l b (.inl a)).2⟩
   ·exact⟨(l b (.inr (.inl a))).1,w _ (l b (.inr (.inl a))).2⟩
   ·unfold Kb at a;split at a
    ·cases a;have:=st.in_ _ f n;exact⟨this.1,w _ this.2⟩
    ·exact⟨(l b (.inr (.inr ⟨g,t,a⟩))).1,w _ (l b (.inr (.inr ⟨g,t,a⟩))).2⟩
  ·have:=u.rng p (YbY _ v) b a;exact⟨this.1,w _ this.2⟩
 ·refine Ybf.2 ⟨fun p v b a y=>?_,(Ybf.1 u.dis).2⟩;have A:=(Ybf.1 u.dis).1 p v;rcases a with a | a | ⟨g,t,a⟩
  ·exact A b (.inl a) y
  ·exact A b (.inr (.inl a)) y
  ·unfold Kb at a;split at a
   ·cases a;have⟨x,V⟩:=List.getElem?_of_mem v;have T:(EK mb nbs L m R::(ps++[pS AQ 4 (T_ ob) (L+1) (L+1) xs]))[x+1]?=some p:=by
     show(ps++[_])[x]?=some p;exact lgL V
    have Y:=(O_.1 V).1;exact st.apart2 (i:=x+1) (j:=(EK mb nbs L m R::ps).length+0) T f (by simp only[b_];omega) ob y n
   ·exact A b (.inr (.inr ⟨g,t,a⟩)) y
end
theorem BA.inj{ns:List p_}:∀{r m:ReM} {i:Nat},BA ns r i→BA ns m i→r=m:=by
 have one:∀{i:Nat} {d d':p_},ns[i]?=some d→ns[i]?=some d'→d=d':=fun h v=>AjR.inj (h.symm.trans v);intro r
 induction r with
 | eps=>
   rintro m i ⟨d,l,c⟩ h;cases m with
   | eps=>rfl
   | cls s=>obtain⟨d',f,g,-⟩:=h;rw[one l f,g]at c;cases c
   | star a=>obtain⟨d',j,f,g,-⟩:=h;rw[one l f,g]at c;cases c
   | _=>obtain⟨d',j,k,f,g,-⟩:=h;rw[one l f,g]at c;cases c
 | cls s=>
   rintro m i ⟨d,l,c,o⟩ h;cases m with
   | eps=>have⟨d',f,g⟩:=h;rw[one l f,g]at c;cases c
   | cls C=>have⟨d',f,g,p⟩:=h;rw[←o,←p,one l f]
   | star a=>obtain⟨d',j,f,g,-⟩:=h;rw[one l f,g]at c;cases c
   | _=>obtain⟨d',j,k,f,g,-⟩:=h;rw[one l f,g]at c;cases c
 | star a w=>
   rintro m i ⟨d,j,l,c,o,q⟩ h;cases m with
   | eps=>have⟨d',f,g⟩:=h;rw[one l f,g]at c;cases c
   | cls s=>obtain⟨d',f,g,-⟩:=h;rw[one l f,g]at c;cases c
   | star a'=>
     have⟨d',n,f,g,p,t⟩:=h;have e:=one l f;subst e;have:j=n:=by omega
     subst this;rw[w q t]
   | _=>obtain⟨d',n,u,f,g,-⟩:=h;rw[one l f,g]at c;cases c
 | _ a b iha ihb=>
   rintro m i ⟨d,j,k,l,c,o,q,x,y⟩ h;cases m with
   | eps=>have⟨d',f,g⟩:=h;rw[one l f,g]at c;cases c
   | cls s=>obtain⟨d',f,g,-⟩:=h;rw[one l f,g]at c;cases c
   | star a'=>obtain⟨d',n,f,g,-⟩:=h;rw[one l f,g]at c;cases c
   | _ a' b'=>
     have⟨d',n,u,f,g,p,t,z,A⟩:=h;have e:=one l f;subst e
     first
      | (have B:j=n:=by omega
         have e2:k=u:=by omega
         subst B e2;rw[iha x z,ihb y A]
         done)
      | (rw[g]at c;cases c)
theorem GI{l:List Nat}:∀{r:ReM} {i j:Nat},Mt l r i j→i≤j∧(i≤l.length→j≤l.length)
 | .eps,i,j,h=>by rw[show i=j from h];exact⟨I_ _,fun h=>h⟩
 | .cls s,i,j,⟨c,h1,_,h3⟩=>by have:=(O_.1 h1).1;omega
 | .cat a b,i,j,⟨k,h1,d⟩=>by have:=GI h1;have:=GI d;omega
 | .alt a b,i,j,h=>by
   rcases h with h | h
   ·exact GI h
   ·exact GI h
 | .star a,i,j,h=>by
   replace h:DY (Mt l a) i j:=h
   induction h with
   | refl=>exact⟨I_ _,fun h=>h⟩
   | step _ d e=>have:=GI d;omega
 | .and_ a b,i,j,h=>GI h.1
 | .minus a b,i,j,h=>GI h.1
noncomputable def Bb(L:Nat)(P:Nat→Prop):List Bool:=(Al1 (L+1)).map fun x=> @decide (P x) (Classical.propDecidable _)
theorem AD(L:Nat)(P:Nat→Prop):(Bb L P).length=L+1:=by unfold Bb;simp
theorem Gv{L x:Nat}(P:Nat→Prop)(h:x≤L):(Bb L P)[x]?=some (@decide (P x) (Classical.propDecidable _)):=by
 unfold Bb;rw[o_,YaR (by omega)];rfl
theorem Ln{L:Nat}{xs:List Bool}{P:Nat→Prop}(e:xs.length=L+1)(h:∀x b,x≤L→xs[x]?=some b→(b=true↔P x)):xs=Bb L P:=by
 apply YaJ;intro x;by_cases c:x≤L
 ·obtain⟨b,d⟩:∃b,xs[x]?=some b:=⟨_,N' (by omega)⟩;rw[Gv P c,d];have:=h x b c d;by_cases a:P x
  ·rw[this.2 a,@n_ (P x) (Classical.propDecidable _) a]
  ·rw[@j_ (P x) (Classical.propDecidable _) a];cases b with
   | true=>exact absurd (this.1 rfl) a
   | false=>rfl
 ·rw[YaL (by omega),YaL (by rw[AD];omega)]
theorem GW{L x:Nat}{P:Nat→Prop}{b:Bool}(a:x≤L)(h:(Bb L P)[x]?=some b):b=true↔P x:=by
 rw[Gv P a]at h;cases h;exact @decide_eq_true_iff (P x) (Classical.propDecidable _)
theorem BQ{L:Nat}{P Q:Nat→Prop}(h:∀x,x≤L→(P x↔Q x)):Bb L P=Bb L Q:=Ln (AD L P) fun x b a c=>(GW a c).trans (h x a)
theorem XQ(L:Nat):AiJ (L+1) false=Bb L fun _=>False:=Ln (by simp) fun x b c a=>by
 rw[YaO,F_ (by omega)]at a;cases a;simp
theorem Lo{L k:Nat}{P:Nat→Prop}{b:Bool}(f:k≤L):(Bb L P).set k b=Bb L fun x=>if x=k then b=true else P x:=Ln (by rw[YaH,AD]) fun x c d a=>by
 by_cases e:x=k
 ·subst e;rw[YaA (by rw[AD];omega)]at a;cases a;rw[F_ rfl]
 ·rw[YaC (fun h=>e h.symm)]at a;rw[D_ e];exact GW d a
theorem WC{L:Nat}(P Q:Nat→Prop):orL (Bb L P) (Bb L Q) (L+1)=Bb L fun x=>P x∨Q x:=Ln (by rw[Wz (by rw[AD,AD]) (by rw[AD];omega),AD]) fun x b c a=>by
 unfold orL at a;rw[Yc2 (by rw[AD];omega),Yc2 (by rw[AD];omega),List.drop_eq_nil_of_le (by rw[AD];omega),YaX,List.getElem?_zipWith,Gv P c,Gv Q c]at a;simp only[AjR.injEq]at a;subst a;rw[Yay,@decide_eq_true_iff (P x) (Classical.propDecidable _),@decide_eq_true_iff (Q x) (Classical.propDecidable _)]
noncomputable def Da(ns:List p_)(l:List Nat)(j i:Nat):List Bool:=Bb l.length fun x=>∃r,BA ns r j∧Mt l r i x
theorem Js{ns:List p_}{l:List Nat}{r:ReM}{j:Nat}(h:BA ns r j)(i:Nat):Da ns l j i=Bb l.length fun x=>Mt l r i x:=
 BQ fun x _=>⟨fun⟨c,b,a⟩=>by rw[h.inj b];exact a,fun a=>⟨r,h,a⟩⟩
def Sy(l:List Nat)(a b:ReM)(i k x:Nat):Prop:=∃j,j<k∧Mt l a i j∧Mt l b j x
theorem Xd(l:List Nat)(a b:ReM)(i:Nat):(Bb l.length fun _=>False)=Bb l.length (Sy l a b i i):=BQ fun x _=>⟨fun h=>h.elim,fun⟨j,d,c,_⟩=>by have:=(GI c).1;omega⟩
section
variable{l:List Nat}{a b:ReM}
theorem Xb{i k:Nat}(h:¬Mt l a i k):Bb l.length (Sy l a b i k)=Bb l.length (Sy l a b i (k+1)):=BQ fun x _=>
 ⟨fun⟨j,f,c,d⟩=>⟨j,by omega,c,d⟩,fun⟨j,f,c,d⟩=>⟨j,by
  have:j≠k:=fun e=>h (e ▸ c);omega,c,d⟩⟩
theorem Xc{i k:Nat}(h:Mt l a i k):orL (Bb l.length (Sy l a b i k)) (Bb l.length fun x=>Mt l b k x) (l.length+1)=Bb l.length (Sy l a b i (k+1)):=by
 rw[WC];refine BQ fun x _=>⟨fun f=>?_,fun⟨j,g,d,c⟩=>?_⟩
 ·rcases f with⟨j,g,d,c⟩ | c
  ·exact⟨j,by omega,d,c⟩
  ·exact⟨k,by omega,h,c⟩
 ·by_cases e:j=k
  ·exact .inr (e ▸ c)
  ·exact .inl ⟨j,by omega,d,c⟩
theorem YT{i:Nat}(e:i≤l.length):Bb l.length (Sy l a b i (l.length+1))=Bb l.length fun x=>Mt l (.cat a b) i x:=
 BQ fun x _=>⟨fun⟨j,_,c,d⟩=>⟨j,c,d⟩,fun⟨j,c,d⟩=>⟨j,by have:=(GI c).2 e;omega,c,d⟩⟩
end
def I6(l:List Nat)(a:ReM)(i k x:Nat):Prop:=x=i∨∃j,j<k∧DY (Mt l a) i j∧Mt l a j x
section
variable{l:List Nat}{a:ReM}
theorem Vo{i:Nat}(b:i≤l.length):(Bb l.length fun _=>False).set i true=Bb l.length (I6 l a i i):=by
 rw[Lo b];refine BQ fun x _=>⟨fun h=>?_,fun h=>?_⟩
 ·split at h
  ·rename_i e;exact .inl e
  ·exact h.elim
 ·rcases h with h | ⟨j,d,c,_⟩
  ·rw[F_ h]
  ·have:=(GI (r:=.star a) (l:=l) (i:=i) (j:=j) c).1;omega
theorem OR{i k:Nat}:I6 l a i k k↔DY (Mt l a) i k:=by
 constructor
 ·rintro(h | ⟨j,c,b,d⟩)
  ·rw[h];exact .refl
  ·exact .step b d
 ·intro h
  induction h with
  | refl=>exact .inl rfl
  | @step j k c b ih=>
    have:=(GI b).1;by_cases e:j=k
    ·exact e ▸ ih
    ·exact .inr ⟨j,by omega,c,b⟩
theorem Vm{i k:Nat}(h:¬I6 l a i k k):Bb l.length (I6 l a i k)=Bb l.length (I6 l a i (k+1)):=BQ fun x _=>by
 rw[OR]at h;constructor
 ·rintro(b | ⟨j,b,c,d⟩)
  ·exact .inl b
  ·exact .inr ⟨j,by omega,c,d⟩
 ·rintro(b | ⟨j,b,c,d⟩)
  ·exact .inl b
  ·have:j≠k:=fun e=>h (e ▸ c);exact .inr ⟨j,by omega,c,d⟩
theorem Vn{i k:Nat}(h:I6 l a i k k):orL (Bb l.length (I6 l a i k)) (Bb l.length fun x=>Mt l a k x) (l.length+1)=Bb l.length (I6 l a i (k+1)):=by
 rw[WC];rw[OR]at h;refine BQ fun x _=>⟨fun d=>?_,fun d=>?_⟩
 ·rcases d with(c | ⟨j,c,f,b⟩) | b
  ·exact .inl c
  ·exact .inr ⟨j,by omega,f,b⟩
  ·exact .inr ⟨k,by omega,h,b⟩
 ·rcases d with c | ⟨j,c,f,b⟩
  ·exact .inl (.inl c)
  ·by_cases e:j=k
   ·exact .inr (e ▸ b)
   ·exact .inl (.inr ⟨j,by omega,f,b⟩)
theorem Ya{i:Nat}(c:i≤l.length):Bb l.length (I6 l a i (l.length+1))=Bb l.length fun x=>Mt l (.star a) i x:=
 BQ fun x _=>⟨fun h=>by
  rcases h with h | ⟨j,_,b,d⟩
  ·rw[h];exact .refl
  ·exact .step b d,fun h=>by
  have e:DY (Mt l a) i x:=h;cases e with
  | refl=>exact .inl rfl
  | @step j _ h1 b=>exact .inr ⟨j,by have:=(GI (r:=.star a) (l:=l) (i:=i) (j:=j) h1).2 c;omega,h1,b⟩⟩
end
def Hr(f:Bool→Bool→Bool)(xs ys:List Bool)(k x:Nat):Prop:=x<k∧∃a b,xs[x]?=some a∧ys[x]?=some b∧f a b=true
theorem Kk{L k:Nat}{f:Bool→Bool→Bool}{xs ys:List Bool}{a b:Bool}(j:k≤L)(g:xs[k]?=some a)(i:ys[k]?=some b):(Bb L (Hr f xs ys k)).set k (f a b)=Bb L (Hr f xs ys (k+1)):=by
 rw[Lo j];refine BQ fun x _=>?_;by_cases e:x=k
 ·subst e;rw[F_ rfl];exact⟨fun h=>⟨by omega,a,b,g,i,h⟩,fun⟨_,a',b',d,c,l⟩=>by rw[g]at d;rw[i]at c;cases d;cases c;exact l⟩
 ·rw[D_ e];exact⟨fun⟨d,c⟩=>⟨by omega,c⟩,fun⟨d,c⟩=>⟨by omega,c⟩⟩
section
variable{l:List Nat}
theorem Kl{a b:ReM}{i:Nat}(f:Bool→Bool→Bool)(e:f false false=false):(Bb l.length fun _=>False)=Bb l.length (Hr f (Bb l.length fun x=>Mt l a i x) (Bb l.length fun x=>Mt l b i x) i):=
 BQ fun x c=>⟨fun h=>h.elim,fun⟨m,p,q,g,j,d⟩=>by
  have k:p=false:=by
   cases p with
   | false=>rfl
   | true=>have:=(GI ((GW c g).1 rfl)).1;omega
  have e2:q=false:=by
   cases q with
   | false=>rfl
   | true=>have:=(GI ((GW c j).1 rfl)).1;omega
  rw[k,e2,e]at d;cases d⟩
theorem L6{a b r:ReM}{i:Nat}(f:Bool→Bool→Bool)(d:∀x p q,(p=true↔Mt l a i x)→(q=true↔Mt l b i x)→(f p q=true↔Mt l r i x)):Bb l.length (Hr f (Bb l.length fun x=>Mt l a i x) (Bb l.length fun x=>Mt l b i x) (l.length+1))=Bb l.length fun x=>Mt l r i x:=
 BQ fun x c=>⟨fun⟨_,p,q,e,g,j⟩=>(d x p q (GW c e) (GW c g)).1 j,fun h=>by
  refine⟨by omega,_,_,Gv _ c,Gv _ c,(d x _ _ ?_ ?_).2 h⟩
  ·exact @decide_eq_true_iff _ (Classical.propDecidable _)
  ·exact @decide_eq_true_iff _ (Classical.propDecidable _)⟩
theorem YK{a b:ReM}{i:Nat}:∀x p q,(p=true↔Mt l a i x)→(q=true↔Mt l b i x)→((p|| q)=true↔Mt l (.alt a b) i x):=fun x p q c d=>by
 rw[Yay,c,d];exact Iff.rfl
theorem YL{a b:ReM}{i:Nat}:∀x p q,(p=true↔Mt l a i x)→(q=true↔Mt l b i x)→((p&&q)=true↔Mt l (.and_ a b) i x):=fun x p q c d=>by
 rw[r_,c,d];exact Iff.rfl
theorem Uo{a b:ReM}{i:Nat}:∀x p q,(p=true↔Mt l a i x)→(q=true↔Mt l b i x)→((p&& !q)=true↔Mt l (.minus a b) i x):=fun x p q c d=>by
 rw[r_,c,Yax,←Bool.not_eq_true,d];exact Iff.rfl
theorem epsP{i:Nat}(a:i≤l.length):(Bb l.length fun _=>False).set i true=Bb l.length fun x=>Mt l .eps i x:=by
 rw[Lo a];refine BQ fun x _=>?_;show(if x=i then true=true else False)↔i=x;split
 ·rename_i e;simp[e]
 ·rename_i e;simp;omega
theorem VD{s:BitVec 256}{i:Nat}(h:∀c,l[i]?=some c→s.getLsbD c=false):(Bb l.length fun _=>False)=Bb l.length fun x=>Mt l (.cls s) i x:=
 BQ fun x _=>⟨fun h=>h.elim,fun⟨c,b,a,_⟩=>by rw[h c b]at a;cases a⟩
theorem YX{s:BitVec 256}{i c:Nat}(a:l[i]?=some c)(h:s.getLsbD c=true):(Bb l.length fun _=>False).set (i+1) true=Bb l.length fun x=>Mt l (.cls s) i x:=by
 have d:=(O_.1 a).1;rw[Lo (by omega)];refine BQ fun x _=>?_;split
 ·rename_i e;exact⟨fun _=>⟨c,a,h,e⟩,fun _=>rfl⟩
 ·rename_i e;exact⟨fun h=>h.elim,fun⟨_,_,_,b⟩=>absurd b e⟩
end
def tmL(na:Option Addr)(n nc:Nat)(Az:Int)(s:ByteArray)(m:v_):List v_:=[.slice na n nc,A_ Az,.string s,m]
theorem tm_z:(prog.info? 266).bind (·.zero)=some (.agg (tmL none 0 0 0 (⟨#[]⟩) (.slice none 0 0)).toArray):=by kernel_rfl
abbrev ME(nb L:Nat):v_:=.slice (T_ nb) (L+1) (L+1)
structure Pr(mb:Nat)(nbs:List Nat)(L N:Nat)(H:Aa):Prop where
 top:Q_ H mb 267 (nbs.map (ME · L)++AiJ (N-nbs.length) (.slice none 0 0))
 rows:∀nb∈nbs,Q_ H nb 36 (AiJ (L+1) (.slice none 0 0))
 nd:nbs.Nodup
 ntop:mb∉nbs
def pMk(mb:Nat)(nbs:List Nat)(L N:Nat):Pc where
 foot k:=k=mb∨k∈nbs
 ok H:=Pr mb nbs L N H
 fr h hp:=⟨hp.top.agr h (.inl rfl),fun nb hn=>(hp.rows nb hn).agr h (.inr hn),hp.nd,hp.ntop⟩
theorem AgT{nbs:List Nat}{L N nb:Nat}(h:nbs.length<N):(nbs.map (ME · L)++AiJ (N-nbs.length) (Value.slice none 0 0)).set nbs.length (ME nb L)=(nbs++[nb]).map (ME · L)++AiJ (N-(nbs++[nb]).length) (.slice none 0 0):=by
 rw[Ycf _ _ (by simp)];obtain⟨d,a⟩:∃d,N-nbs.length=d+1:=⟨N-nbs.length-1,by omega⟩;rw[a];have e:N-(nbs++[nb]).length=d:=by simp;omega
 rw[e];simp[List.replicate_succ]
theorem X2(L:Nat):Rx (fun _=>none) L=AiJ (L+1) (Value.slice none 0 0):=by
 apply YaJ;intro x;by_cases a:x≤L
 ·rw[Jh a,YaO,F_ (by omega)]
 ·rw[YaL (by rw[Ji];omega),YaL (by simp;omega)]
theorem Pr.done{mb L N:Nat}{nbs:List Nat}{H:Aa}{R:Nat→Nat→List Bool}(h:Pr mb nbs L N H)(c:nbs.length=N):He mb nbs L (fun _ _=>none) R H:=by
 refine⟨?_,fun j nb d=>?_,fun j i b a=>(by cases a),h.nd,h.ntop,fun j i b a=>(by cases a),fun j i b a=>(by cases a)⟩
 ·have:=h.top;rw[c,Ycm,List.replicate_zero,YaX]at this;exact this
 ·show Q_ H nb _ (Rx (fun _=>none) L);rw[X2];exact h.rows nb (c_ d)
theorem B_.mkRow{B:Nat→Prop}{H0 H H1 H2:Aa}{ps:List Pc}{k mb nb L N:Nat}{nbs:List Nat}(st:B_ B H0 H ps)(m:ps[k]?=some (pMk mb nbs L N))(q:nbs.length<N)(r:nb=H.size)(l:C_ (fun b=>b<nb) H H1)
  (n:Q_ H1 nb 36 (AiJ (L+1) (.slice none 0 0))) (f:Q_ H2 mb 267 ((nbs.map (ME · L)++AiJ (N-nbs.length) (Value.slice none 0 0)).set nbs.length (ME nb L))) (g:∀b,b≠mb→H2[b]?=H1[b]?):B_ B H0 H2 (ps.set k (pMk mb (nbs++[nb]) L N)):=by
 have d:Pr mb nbs L N H:=st.at_ k m;have s:=(st.in_ k m (k:=mb) (.inl rfl)).2;have i:∀b∈nbs,b<H.size:=fun b c=>(st.in_ k m (k:=b) (.inr c)).2;have o:mb≠nb:=by omega
 have j:Q_ H2 nb 36 (AiJ (L+1) (.slice none 0 0)):=n.agr (S:=fun b=>b≠mb) (fun b c=>g b c) (fun e=>o e.symm);have p:H.size≤H2.size:=by have:=j.lt;omega
 refine st.upd k m (fun b c=>(g b fun e=>c.2 (.inl e)).trans (l b (by have:=c.1;omega))) _ ?_ (fun b c=>?_) (fun b c=>?_) p
 ·rw[AgT q]at f;refine⟨f,fun b c=>?_,?_,?_⟩
  ·rcases q_.1 c with c | c
   ·have t:b≠mb:=fun e=>d.ntop (e ▸ c);have v:=i b c;exact((d.rows b c).agr l (by omega)).agr (S:=fun b=>b≠mb) (fun b c=>g b c) t
   ·rw[Y_]at c;subst c;exact j
  ·refine YcH.2 ⟨d.nd,List.nodup_cons.2 ⟨by simp,YcJ⟩,fun a u b c=>?_⟩;rw[Y_]at c;subst c;have:=i a u;omega
  ·intro h;rcases q_.1 h with h | h
   ·exact d.ntop h
   ·rw[Y_]at h;omega
 ·rcases c with c | c
  ·exact .inl (.inl c)
  ·rcases q_.1 c with c | c
   ·exact .inl (.inr c)
   ·rw[Y_]at c;right;omega
 ·rcases c with c | c
  ·subst c;exact f.lt
  ·rcases q_.1 c with c | c
   ·have:=i b c;omega
   ·rw[Y_]at c;subst c;exact j.lt
theorem AgZ{S:Nat→Prop}{H:Aa}{v:v_}{ns:List p_}{Az:Int}{s:ByteArray}(R:Nat→Nat→List Bool)(hS:∀k,S k→k<H.size)(A:ReV S H v ns Az)(hs:s.size≤4194303):
  Ak prog 101 #[v,.string s] H fun r H'=>∃tb mb nbs na nc,r= U_ tb∧g_ tRn S H na nc ns∧nbs.length=ns.length∧
   St H H' [EK mb nbs s.size (fun _ _=>none) R,pB 266 tb (tmL na ns.length nc Az s (.slice (T_ mb) ns.length ns.length))]:=by
 have Q:ns.length≤4194304:=A.1;refine Ak.of_vc func101 rfl (call101 _) (AaC A fun na nc W X=>?_);intro B H1 C D u E;have st1:=(St.nil H).box C D u E;refine L_ (cs:=reL (.slice na ns.length nc) Az) JZ (u.cells fun j v A=>by rw[K_];exact A) trivial ?_;refine Ax underlying266 rfl _ tm_z (tmL na ns.length nc Az s (.slice none 0 0)) rfl (Ct (tmL na ns.length nc Az s (.slice none 0 0)) rfl ?_);intro tb H2 F I J K;have p:=st1.box F I J K;refine f_ F1 ?_;refine lT (v:=.slice na ns.length nc) DZ ((p.blk 0 rfl).ce rfl) ?_;refine D3 TE rfl (by omega) (by omega) (by omega) (by omega) ?_;intro mb H3 L Y w M;rw[U']at w ⊢;have d:=p.add (H':=H3) (fun k c=>M k (by rw[L];exact c)) (pMk mb [] s.size ns.length) ⟨w,fun _ h=>(by cases h),YcJ,(fun h=>by cases h)⟩ fun k c=>by
  rcases c with c | c
  ·rw[c];omega
  ·cases c
 replace d:St H H3 [pB 56 B (reL (.slice na ns.length nc) Az),pB 266 tb (tmL na ns.length nc Az s (.slice none 0 0)),pMk mb [] s.size ns.length]:=d;refine f_ KV ?_;refine Bh d 1 S7 rfl (by show _<4;decide) rfl fun H4 q=>?_;replace q:St H H4 [pB 56 B (reL (.slice na ns.length nc) Az),pB 266 tb (tmL na ns.length nc Az s (.slice (T_ mb) ns.length ns.length)),pMk mb [] s.size ns.length]:=q;clear st1 p d;(conv=>whnf);refine A0.mk [6] (fun k:Nat=>[A_ k]) (fun k G=>k≤ns.length∧∃nbs:List Nat,nbs.length=k∧St H G [pB 56 B (reL (.slice na ns.length nc) Az),pB 266 tb (tmL na ns.length nc Az s (.slice (T_ mb) ns.length ns.length)),pMk mb nbs s.size ns.length]) (fun k _=>ns.length-k) ?_ ?_
 ·(conv=>whnf);exact⟨0,rfl,t_ _,[],rfl,q⟩
 ·rintro k G T ⟨c,nbs,g,m⟩;refine f_ F1 ?_;refine lT (v:=.slice na ns.length nc) DZ ((m.blk 0 rfl).ce rfl) ?_;refine AG.m2 (fun Z=>?_) (fun Z=>?_)
  ·have a0:k<ns.length:=by omega
   refine Aq.heldZ (H_ G) [10] (sq [0,1,2,3,4,5,6,7] (.f 8 (sq [9] (.f 10 .e)))) rfl (by kernel_rfl) (f_ KV ?_);refine G_ (v:=.slice (T_ mb) ns.length ns.length) S7 ((m.blk 1 rfl).ce rfl) (m.blk 1 rfl).lt ?_;(conv=>whnf);rw[W_ (x:=(s.size:Int)+1) (by omega)];refine D3 WE rfl (by omega) (by omega) (by omega) (by omega) ?_;intro nb G1 N U n a;rw[show((s.size:Int)+1).toNat=s.size+1 by omega]at n ⊢;refine⟨fun k c=>a k (by rw[N];exact c),?_⟩;refine VC.ix TE (by omega) (by omega) ?_;have O:Pr mb nbs s.size ns.length G:=m.at_ 2 rfl;have P:=(m.in_ 2 rfl (k:=mb) (.inl rfl)).2;(conv=>whnf);rw[show 0+(k:Int).toNat*1=k by omega];refine VC.st1 (o:=k) (v:=ME nb s.size) VH (O.top.agr a (by rw[N];exact P)) (by simp;omega) rfl ?_;intro G2 y z V;have t:=B_.mkRow m (k:=2) (H2:=G2) rfl (by omega) N a n (Eq.mp (by rw[g]) y) (fun b l=>z b l);(conv=>whnf);rw[P_ k (by omega)];exact⟨rfl,k+1,rfl,⟨by omega,nbs++[nb],by simp[g],t⟩,by omega⟩
  ·obtain rfl:k=ns.length:=by omega
   (conv=>whnf);refine⟨tb,mb,nbs,na,nc,rfl,X,g,?_⟩;have t:=m.say 2 rfl (EK mb nbs s.size (fun _ _=>none) R) (Pr.done (m.at_ 2 rfl) g) (fun b l=>by
    rcases l with l | l | ⟨j,i,l⟩
    ·exact .inl l
    ·exact .inr l
    ·cases l)
   exact t.pick [2,1] (by decide)
theorem sneq{P:w_}{t e:x_}{x y:z_}{a:Option Addr}{n m:Nat}{S:Nat→Prop}{H:Aa}{K:v_→Prop}(h:P.underlying t=some (.slice e))(k:K (.bool (!a.isNone))):AJ P (do eqGuard .neq t x y (.slice a n m) (.slice none 0 0);binOp .neq t (.slice a n m) (.slice none 0 0)) S H K:=by
 refine AJ.mk _ (fun w _=>?_) k;have b:∀d:Nat,(Op.equalIn (d+1) t (.slice a n m) (.slice none 0 0)).run P w= .ok a.isNone w:=fun d=>by
  cases a<;>simp[Op.equalIn,run_underlying h]
 have:(Op.equal t (.slice a n m) (.slice none 0 0)).run P w= .ok a.isNone w:=b 9999;simp[eqGuard,binOp,this]
theorem NI{S:Nat→Prop}{H:Aa}:∀xs:List Bool,AQ.reps S H (xs.map Value.bool) xs
 | []=>rfl
 | x::xs=>⟨[.bool x],xs.map Value.bool,rfl,rfl,NI xs⟩
theorem lg2{α:Type}(a:α)(ps:List α)(b c:α):(a::ps++[b]++[c])[ps.length+2]?=some c:=by
 rw[show ps.length+2=(a::ps++[b]).length by simp];exact Ep _ _
theorem ls2{α:Type}(a:α)(ps:List α)(b c d:α):(a::ps++[b]++[c]).set (ps.length+2) d=a::(ps++[b,d]):=by
 rw[show ps.length+2=(a::ps++[b]).length by simp,Ru];simp
def FA(m m':Nat→Nat→Option Nat):Prop:=∀a b c,m a b=some c→m' a b=some c
theorem FA.refl(m:Nat→Nat→Option Nat):FA m m:=fun _ _ _ h=>h
theorem FA.trans{m d e:Nat→Nat→Option Nat}(h:FA m d)(g:FA d e):FA m e:=fun a b c k=>g a b c (h a b c k)
theorem FA.put{m d:Nat→Nat→Option Nat}{j i f:Nat}(h:FA m d)(g:m j i=none):FA m (Kb d j i f):=fun a b c k=>by
 unfold Kb;split
 ·rename_i e;rw[e.1,e.2,g]at k;cases k
 ·exact h a b c k
def AbJ(B:Nat→Prop)(H0:Aa)(mb:Nat)(nbs:List Nat)(L:Nat)(R:Nat→Nat→List Bool)(m:Nat→Nat→Option Nat)(ps:List Pc)(j i:Nat)(v:v_)(H':Aa):Prop:=
 ∃m' rb,v=ME rb L∧m' j i=some rb∧FA m m'∧B_ B H0 H' (EK mb nbs L m' R::ps)
theorem BA.node{ns:List p_}{r:ReM}{j:Nat}(h:BA ns r j):∃d,ns[j]?=some d∧d.op=opOf r:=by
 cases r with
 | eps=>have⟨d,c,e⟩:=h;exact⟨d,c,e⟩
 | cls s=>obtain⟨d,c,e,-⟩:=h;exact⟨d,c,e⟩
 | star a=>obtain⟨d,k,c,e,-⟩:=h;exact⟨d,c,e⟩
 | _ a b=>obtain⟨d,k,f,c,e,-⟩:=h;exact⟨d,c,e⟩
def frP(mb:Nat)(nbs:List Nat)(L:Nat)(m:Nat→Nat→Option Nat)(R:Nat→Nat→List Bool)(ps:List Pc)(ob:Nat)(xs:List Bool)(x:Nat)(d:p_):List Pc:=
 EK mb nbs L m R::(ps++[pS AQ 4 (T_ ob) (L+1) (L+1) xs,pB 159 x (X_ d)])
section
variable{mb L ob x:Nat}{nbs:List Nat}{m:Nat→Nat→Option Nat}{R:Nat→Nat→List Bool}{ps:List Pc}{xs:List Bool}{d:p_}
theorem ET:(frP mb nbs L m R ps ob xs x d)[ps.length+1]?=some (pS AQ 4 (T_ ob) (L+1) (L+1) xs):=M_ ps [pS AQ 4 (T_ ob) (L+1) (L+1) xs,pB 159 x (X_ d)] 0
theorem FD:(frP mb nbs L m R ps ob xs x d)[ps.length+2]?=some (pB 159 x (X_ d)):=M_ ps [pS AQ 4 (T_ ob) (L+1) (L+1) xs,pB 159 x (X_ d)] 1
theorem U7(ys:List Bool):(frP mb nbs L m R ps ob xs x d).set (ps.length+1) (pS AQ 4 (T_ ob) (L+1) (L+1) ys)=frP mb nbs L m R ps ob ys x d:=congrArg (EK mb nbs L m R::·) (X' ps [pS AQ 4 (T_ ob) (L+1) (L+1) xs,pB 159 x (X_ d)] 0 _)
theorem Z3{kt:Nat}{p:Pc}(h:ps[kt]?=some p):(frP mb nbs L m R ps ob xs x d)[kt+1]?=some p:=lgL h
theorem HX{B:Nat→Prop}{H0 H:Aa}{q:Nat}{b:Bool}{K:Aa→Prop}(st:B_ B H0 H (frP mb nbs L m R ps ob xs x d))(c:q<xs.length)(k:∀G,B_ B H0 G (frP mb nbs L m R ps ob (xs.set q b) x d)→K G):
  CN prog (Instr.storeAt 4 (.pointer (some ⟨ob,q*AQ.size,none⟩)) (.bool b)) H K:=
 GA (T:=AQ) (j:=q) (x:=b) st (ps.length+1) ct4 ET rfl (L' _) c rfl (fun _ _=>rfl) fun G a=>k G (by rw[U7]at a;exact a)
end
theorem AgE{B:Nat→Prop}{H0:Aa}{ns:List p_}{na:Option Addr}{nc:Nat}{Az:Int}{s:ByteArray}{tb mb kt:Nat}{nbs:List Nat}(hD:g_ tRn B H0 na nc ns)(bn:nbs.length=ns.length)(hN:ns.length≤4194304)(hs:s.size≤4194303):
  ∀(k:Nat) (r:ReM),r.nodes<k→∀{H:Aa} {m:Nat→Nat→Option Nat} {ps:List Pc} {j i:Nat},B_ B H0 H (EK mb nbs s.size m (Da ns (R_ s))::ps)→
   ps[kt]?=some (pB 266 tb (tmL na ns.length nc Az s (.slice (T_ mb) ns.length ns.length)))→BA ns r j→i≤s.size→
   Ak prog 102 #[U_ tb,A_ j,A_ i] H (AbJ B H0 mb nbs s.size (Da ns (R_ s)) m ps j i):=by
 intro k
 induction k with
 | zero=>intro r h;omega
 | succ k IH=>
 intro r hr H m ps j i st X ht hi;have⟨d,hd,a9⟩:=ht.node;have bo:=(O_.1 hd).1;obtain⟨nb,a4⟩:∃nb,nbs[j]?=some nb:=⟨_,N' (by omega)⟩;have ao:He mb nbs s.size m (Da ns (R_ s)) H:=st.at_ 0 rfl;have aj:=ao.rows j nb a4;have az:=MN s;refine Ak.of_vc func102 rfl (call102 _) (f_ KV ?_);refine G_ (v:=.slice (T_ mb) ns.length ns.length) S7 (by rw[(st.blk (kt+1) X).cell];rfl) trivial ?_;refine VC.ix TE (by omega) (by omega) ?_;refine G_ (v:=ME nb s.size) VH (by rw[ao.top.cell,U',L',K_,o_,a4];rfl) trivial ?_;refine VC.ix WE (by omega) (by omega) ?_;refine G_ Pg (by rw[aj.cell,U',L',K_];exact Jh hi) trivial ?_;cases hm:m j i with
 | some rb=>
   refine sneq underlying36 (f_ KV ?_);refine G_ (v:=.slice (T_ mb) ns.length ns.length) S7 (by rw[(st.blk (kt+1) X).cell];rfl) trivial ?_;refine VC.ix TE (by omega) (by omega) ?_;refine G_ (v:=ME nb s.size) VH (by rw[ao.top.cell,U',L',K_,o_,a4];rfl) trivial ?_;refine VC.ix WE (by omega) (by omega) ?_;refine G_ (v:=ME rb s.size) Pg (by rw[aj.cell,U',L',K_];refine(Jh hi).trans ?_;rw[hm]) trivial ?_;(conv=>whnf);exact⟨m,rb,rfl,hm,.refl m,st⟩
 | none=>
   refine sneq underlying36 (f_ GQ ?_);refine G_ (v:=.string s) ct9 (by rw[(st.blk (kt+1) X).cell];rfl) trivial ?_;(conv=>whnf);rw[W_ (x:=(s.size:Int)+1) (by omega)];refine D3 CJ rfl (by omega) (by omega) (by omega) (by omega) ?_;intro ob H1 b0 b4 ar b5;rw[show((s.size:Int)+1).toNat=s.size+1 by omega]at ar ⊢;have ap:AQ.reps none_ H1 (AiJ (s.size+1) (Value.bool false)) (AiJ (s.size+1) false):=by
    have:=NI (S:=none_) (H:=H1) (AiJ (s.size+1) false);rwa [List.map_replicate]at this
   have st1:=st.new (T:=AQ) (n:=s.size+1) (xs:=AiJ (s.size+1) false) b0 b4 ar b5 ap (by simp) (by unfold maxLen;omega);have ak:(EK mb nbs s.size m (Da ns (R_ s))::ps++[pS AQ 4 (T_ ob) (s.size+1) (s.size+1) (AiJ (s.size+1) false)])[kt+1]?=some (pB 266 tb (tmL na ns.length nc Az s (.slice (T_ mb) ns.length ns.length))):=lgL X;refine f_ AcS (f_ F1 ?_);refine G_ (v:=.slice na ns.length nc) DZ (by rw[(st1.blk (kt+1) ak).cell];rfl) trivial ?_;refine ixr (i:=j) EZ (hD.frame st1.old) hd rfl ?_;rintro b2 o2 c2 bp au ⟨rfl,bm⟩;refine L_ (cs:=X_ d) (by rw[AV];exact KN) au trivial ?_;refine Am _ rnZ OF rfl ?_;intro x H2 b6 b7 b8 bd;have ab:=st1.box b6 b7 b8 bd;refine AN (cs:=X_ d) (l:=rnZ) ab (ps.length+2) (by rw[AV];rfl) (lg2 _ ps _ _) (by rw[AV,Cy];decide) (CP d) fun H3 g=>?_;rw[AH (show(X_ d).length=rnZ.length by rw[AV,Cy])]at g;replace g:B_ B H0 H3 (frP mb nbs s.size m (Da ns (R_ s)) ps ob (AiJ (s.size+1) false) x d):=by
    rw[ls2]at g;exact g
   have e0:AiJ (s.size+1) false=Bb (R_ s).length fun _=>False:=by rw[az];exact XQ _
   rw[e0]at g;clear st1 ab ak;have a2:∀{G:Aa} {J:Nat→Nat→Option Nat} {xs:List Bool},B_ B H0 G (frP mb nbs s.size J (Da ns (R_ s)) ps ob xs x d)→VC.cell G x 0=some (.int .i64 d.op):=fun o=>by rw[(o.blk (ps.length+2) FD).cell];exact DN d
   have a5:∀{G:Aa} {J:Nat→Nat→Option Nat} {xs:List Bool},B_ B H0 G (frP mb nbs s.size J (Da ns (R_ s)) ps ob xs x d)→VC.cell G x 257=some (.int .i64 d.l):=fun o=>by rw[(o.blk (ps.length+2) FD).cell];exact Jr d
   have ae:∀{G:Aa} {J:Nat→Nat→Option Nat} {xs:List Bool},B_ B H0 G (frP mb nbs s.size J (Da ns (R_ s)) ps ob xs x d)→VC.cell G x 258=some (.int .i64 d.r):=fun o=>by rw[(o.blk (ps.length+2) FD).cell];exact RH d
   have Y:∀{G:Aa} {J:Nat→Nat→Option Nat} {xs:List Bool},B_ B H0 G (frP mb nbs s.size J (Da ns (R_ s)) ps ob xs x d)→VC.cell G tb 2=some (.string s):=fun o=>by rw[(o.blk (kt+1) (Z3 X)).cell];rfl
   have F:∀{xs:List Bool},(ps++[pS AQ 4 (T_ ob) (s.size+1) (s.size+1) xs,pB 159 x (X_ d)])[kt]?=some (pB 266 tb (tmL na ns.length nc Az s (.slice (T_ mb) ns.length ns.length))):=lgL X;have E:∀{G:Aa} {J:Nat→Nat→Option Nat} {xs:List Bool} {r':ReM} {j' i' rb:Nat},B_ B H0 G (frP mb nbs s.size J (Da ns (R_ s)) ps ob xs x d)→BA ns r' j'→J j' i'=some rb→Q_ G rb 4 ((Bb (R_ s).length fun y=>Mt (R_ s) r' i' y).map Value.bool):=fun o be bf=>by
    have h:=(show He _ _ _ _ _ _ from o.at_ 0 rfl).cont _ _ _ bf;rw[Js be]at h;exact h
   (conv=>whnf);refine An.cut (α:=Unit) [] (fun _=>[]) (fun _ G=>∃J,FA m J∧B_ B H0 G (frP mb nbs s.size J (Da ns (R_ s)) ps ob (Bb (R_ s).length fun y=>Mt (R_ s) r i y) x d)) ?_ ?_
   rotate_left
   ·rintro⟨⟩ G R ⟨J,O,o⟩;have aw:He mb nbs s.size J (Da ns (R_ s)) G:=o.at_ 0 rfl;refine f_ KV ?_;refine G_ (v:=.slice (T_ mb) ns.length ns.length) S7 (by rw[(o.blk (kt+1) (Z3 X)).cell];rfl) trivial ?_;refine VC.ix TE (by omega) (by omega) ?_;refine G_ (v:=ME nb s.size) VH (by rw[aw.top.cell,U',L',K_,o_,a4];rfl) trivial ?_;refine VC.ix WE (by omega) (by omega) ?_;have bg:B_ B H0 G (EK mb nbs s.size J (Da ns (R_ s))::(ps++[pS AQ 4 (T_ ob) (s.size+1) (s.size+1) (Bb (R_ s).length fun y=>Mt (R_ s) r i y)])):=
     o.subl (List.Sublist.cons_cons _ (List.Sublist.append_left (List.Sublist.cons_cons _ (Ycw _)) _))
    rw[show 0+(i:Int).toNat*1=i by omega];refine AhH bg a4 hi (Js ht i) fun G2 ab=>?_;(conv=>whnf);exact⟨Kb J j i ob,ob,rfl,by unfold Kb;simp,O.put hm,ab⟩
   ·refine f_ BI (G_ (v:=A_ d.op) E_ (a2 g) trivial ?_);rw[a9];cases r with
    | eps=>
      (conv=>whnf);try (refine An.run ?_)
      refine ixE (T:=AQ) (j:=i) CJ g (ps.length+1) ET (by rw[AD];omega) rfl ?_;refine HX g (q:=i) (by rw[AD];omega) fun G o=>?_;rw[epsP (by omega)]at o;(conv=>whnf);exact⟨rfl,(),rfl,m,.refl m,o⟩
    | cls cs=>
      have⟨d',w,U,am⟩:=ht;rw[hd]at w;cases w;(conv=>whnf);try (refine An.run ?_)
      (conv=>whnf);try (refine An.run ?_)
      refine f_ GQ (G_ (v:=.string s) ct9 (Y g) trivial ?_);by_cases bh:i<s.size
      ·(conv=>whnf);rw[show decide ((i:Int)<(s.size:Int))=true from e_];refine f_ GQ (G_ (v:=.string s) ct9 (Y g) trivial ?_);have⟨c,ax,au,bq⟩:=Dl bh;have ay:=QN ax;refine DQ Fw rfl ax (f_ Rb ?_);(conv=>whnf);rw[w64 (x:=((c.toNat:Nat):Int)) (by omega) (by have:=c.toNat_lt;omega)];refine M' E6 (by omega) (by have:=c.toNat_lt;omega) ?_;refine G_ (v:=.bool (d.set.getLsbD c.toNat)) ct4 (by
        rw[(g.blk (ps.length+2) FD).cell,show(0+1+((c.toNat:Nat):Int).toNat*1:Nat)=1+c.toNat by omega];exact Vg d _ _ (Pw d.set (by have:=c.toNat_lt;omega))) trivial ?_
       cases hb:d.set.getLsbD c.toNat with
       | true=>
         (conv=>whnf);rw[P_ i (by omega)];refine ixE (T:=AQ) (j:=i+1) CJ g (ps.length+1) ET (by rw[AD];omega) rfl ?_;refine HX g (q:=i+1) (by rw[AD];omega) fun G o=>?_;rw[YX ay hb,am]at o;(conv=>whnf);exact⟨rfl,(),rfl,m,.refl m,o⟩
       | false=>
         rw[VD (s:=cs) (i:=i) (fun c' ag=>by rw[ay]at ag;cases ag;rw[←am];exact hb)]at g;(conv=>whnf);exact⟨rfl,(),rfl,m,.refl m,g⟩
      ·(conv=>whnf);rw[show decide ((i:Int)<(s.size:Int))=false from V_];rw[VD (s:=cs) (i:=i) (fun c' ag=>by have:=(O_.1 ag).1;omega)]at g;(conv=>whnf);exact⟨rfl,(),rfl,m,.refl m,g⟩
    | cat a b=>
      have⟨d',ja,jb,w,U,P,Z,I,M⟩:=ht;rw[hd]at w;cases w;simp only[ReM.nodes]at hr;(conv=>whnf);try (refine An.run ?_)
      (conv=>whnf);try (refine An.run ?_)
      (conv=>whnf);try (refine An.run ?_)
      refine f_ Ci (G_ (v:=A_ d.l) E_ (a5 g) trivial ?_);rw[P];refine Ae.mk (IH a (by omega) g F I hi) ?_;rintro _ G1 ⟨J,ra,rfl,a0,O,u⟩;rw[Xd (R_ s) a b i]at u;(conv=>whnf);refine A0.mk [10] (fun q:Nat=>[A_ q]) (fun q G=>i≤q∧q≤s.size+1∧∃K,FA J K∧B_ B H0 G (frP mb nbs s.size K (Da ns (R_ s)) ps ob (Bb (R_ s).length (Sy (R_ s) a b i q)) x d)) (fun q _=>s.size+1-q) ?_ ?_
      ·(conv=>whnf);exact⟨i,rfl,I_ _,by omega,J,.refl J,u⟩
      ·rintro q G R ⟨ah,ai,K,A,o⟩;refine f_ GQ (G_ (v:=.string s) ct9 (Y o) trivial ?_);refine AG.m2 (fun hz=>?_) (fun hz=>?_)
       ·have a3:q≤s.size:=by omega
        have hA:=E o I (A _ _ _ a0);(conv=>whnf);try (refine An.run ?_)
        refine VC.ix CJ (by omega) (by omega) ?_;obtain⟨N,a6⟩:∃N,(Bb (R_ s).length fun y=>Mt (R_ s) a i y)[q]?=some N:=⟨_,N' (by rw[AD];omega)⟩;have a7:=GW (by omega) a6;refine G_ (v:=.bool N) ct4 (by rw[hA.cell,U',L',K_,o_,a6];rfl) trivial ?_;cases N with
        | true=>
          refine f_ Ej (G_ (v:=A_ d.r) E_ (ae o) trivial ?_);rw[Z];refine Ae.mk (IH b (by omega) o F M a3) ?_;rintro _ G2 ⟨L,rb,rfl,Q,aq,a1⟩;replace a1:B_ B H0 G2 (frP mb nbs s.size L (Da ns (R_ s)) ps ob (Bb (R_ s).length (Sy (R_ s) a b i q)) x d):=a1;refine Ae.mk (ZC (kb:=0) (ys:=Bb (R_ s).length fun y=>Mt (R_ s) b q y) a1 ET rfl (by omega) (fun H' a8=>by
           have h:=He.cont a8 _ _ _ Q;rw[Js M]at h;exact h) (by rw[AD,AD]) (by omega)) ?_
          rintro _ G3 t;rw[U7,AD,Xc (a7.1 rfl)]at t;(conv=>whnf);rw[P_ q (by omega)];exact⟨rfl,q+1,rfl,⟨by omega,by omega,L,A.trans aq,t⟩,by omega⟩
        | false=>
          rw[Xb (fun h=>by have:=a7.2 h;cases this)]at o;(conv=>whnf);rw[P_ q (by omega)];exact⟨rfl,q+1,rfl,⟨by omega,by omega,K,A,o⟩,by omega⟩
       ·obtain rfl:q=s.size+1:=by omega
        have e9:=YT (l:=R_ s) (a:=a) (b:=b) (i:=i) (by omega);rw[show(R_ s).length+1=s.size+1 by omega]at e9;rw[e9]at o;(conv=>whnf);exact⟨rfl,(),rfl,K,O.trans A,o⟩
    | star a=>
      have⟨d',ja,w,U,P,I⟩:=ht;rw[hd]at w;cases w;simp only[ReM.nodes]at hr;(conv=>whnf);try (refine An.run ?_)
      (conv=>whnf);try (refine An.run ?_)
      (conv=>whnf);try (refine An.run ?_)
      (conv=>whnf);try (refine An.run ?_)
      refine ixE (T:=AQ) (j:=i) CJ g (ps.length+1) ET (by rw[AD];omega) rfl ?_;refine HX g (q:=i) (by rw[AD];omega) fun G1 u=>?_;rw[Vo (a:=a) (by omega)]at u;(conv=>whnf);refine A0.mk [11] (fun q:Nat=>[A_ q]) (fun q G=>i≤q∧q≤s.size+1∧∃K,FA m K∧B_ B H0 G (frP mb nbs s.size K (Da ns (R_ s)) ps ob (Bb (R_ s).length (I6 (R_ s) a i q)) x d)) (fun q _=>s.size+1-q) ?_ ?_
      ·(conv=>whnf);exact⟨i,rfl,I_ _,by omega,m,.refl m,u⟩
      ·rintro q G R ⟨ah,ai,K,A,o⟩;refine f_ GQ (G_ (v:=.string s) ct9 (Y o) trivial ?_);refine AG.m2 (fun hz=>?_) (fun hz=>?_)
       ·have a3:q≤s.size:=by omega
        (conv=>whnf);try (refine An.run ?_)
        obtain⟨N,a6⟩:∃N,(Bb (R_ s).length (I6 (R_ s) a i q))[q]?=some N:=⟨_,N' (by rw[AD];omega)⟩;have a7:=GW (by omega) a6;refine ixO (j:=q) (x:=N) CJ o (ps.length+1) ET a6 rfl fun b9 o9 br bu bi bj=>?_;obtain rfl:=bj;refine lT ct4 bi.one ?_;cases N with
        | true=>
          refine f_ Ci (G_ (v:=A_ d.l) E_ (a5 o) trivial ?_);rw[P];refine Ae.mk (IH a (by omega) o F I a3) ?_;rintro _ G2 ⟨L,rb,rfl,Q,aq,a1⟩;replace a1:B_ B H0 G2 (frP mb nbs s.size L (Da ns (R_ s)) ps ob (Bb (R_ s).length (I6 (R_ s) a i q)) x d):=a1;refine Ae.mk (ZC (kb:=0) (ys:=Bb (R_ s).length fun y=>Mt (R_ s) a q y) a1 ET rfl (by omega) (fun H' a8=>by
           have h:=He.cont a8 _ _ _ Q;rw[Js I]at h;exact h) (by rw[AD,AD]) (by omega)) ?_
          rintro _ G3 t;rw[U7,AD,Vn (a7.1 rfl)]at t;(conv=>whnf);rw[P_ q (by omega)];exact⟨rfl,q+1,rfl,⟨by omega,by omega,L,A.trans aq,t⟩,by omega⟩
        | false=>
          rw[Vm (fun h=>by have:=a7.2 h;cases this)]at o;(conv=>whnf);rw[P_ q (by omega)];exact⟨rfl,q+1,rfl,⟨by omega,by omega,K,A,o⟩,by omega⟩
       ·obtain rfl:q=s.size+1:=by omega
        have e9:=Ya (l:=R_ s) (a:=a) (i:=i) (by omega);rw[show(R_ s).length+1=s.size+1 by omega]at e9;rw[e9]at o;(conv=>whnf);exact⟨rfl,(),rfl,K,A,o⟩
    | alt a b=>
      have⟨d',ja,jb,w,U,P,Z,I,M⟩:=ht;rw[hd]at w;cases w;simp only[ReM.nodes]at hr;(conv=>whnf);try (refine An.run ?_)
      (conv=>whnf);try (refine An.run ?_)
      (conv=>whnf);try (refine An.run ?_)
      (conv=>whnf);try (refine An.run ?_)
      refine Aq.heldZ (fun k=>k=x) [] (sq [0,1,2,3,5,6,7,8] (.f 4 (.f 9 (sq [10,11] .e)))) rfl (by kernel_rfl) (f_ Ci (G_ (v:=A_ d.l) E_ (a5 g) rfl ?_));rw[P];refine f_ Ej (G_ (v:=A_ d.r) E_ (ae g) rfl ?_);rw[Z];refine Ae.mk (IH a (by omega) g F I hi) ?_;rintro _ G1 ⟨J,ra,rfl,a0,O,u⟩;replace u:B_ B H0 G1 (frP mb nbs s.size J (Da ns (R_ s)) ps ob (Bb (R_ s).length fun _=>False) x d):=u;refine⟨fun k hk=>by rw[show k=x from hk];exact(u.blk (ps.length+2) FD).trans (g.blk (ps.length+2) FD).symm,?_⟩;refine Ae.mk (IH b (by omega) u F M hi) ?_;rintro _ G2 ⟨K,rb,rfl,Q,A,C⟩;replace C:B_ B H0 G2 (frP mb nbs s.size K (Da ns (R_ s)) ps ob (Bb (R_ s).length fun _=>False) x d):=C;refine⟨fun k hk=>by rw[show k=x from hk];exact(C.blk (ps.length+2) FD).trans (g.blk (ps.length+2) FD).symm,?_⟩;rw[Kl (a:=a) (b:=b) (i:=i) (·|| ·) rfl]at C;(conv=>whnf);refine A0.mk [14] (fun q:Nat=>[A_ q]) (fun q G=>i≤q∧q≤s.size+1∧∃L,FA K L∧B_ B H0 G (frP mb nbs s.size L (Da ns (R_ s)) ps ob (Bb (R_ s).length (Hr (·|| ·) (Bb (R_ s).length fun y=>Mt (R_ s) a i y) (Bb (R_ s).length fun y=>Mt (R_ s) b i y) q)) x d)) (fun q _=>s.size+1-q) ?_ ?_
      ·(conv=>whnf);exact⟨i,rfl,I_ _,by omega,K,.refl K,C⟩
      ·rintro q G R ⟨ah,ai,L,D,o⟩;refine f_ GQ (G_ (v:=.string s) ct9 (Y o) trivial ?_);refine AG.m2 (fun hz=>?_) (fun hz=>?_)
       ·have a3:q≤s.size:=by omega
        have hA:=E o I (D _ _ _ (A _ _ _ a0));obtain⟨va,V⟩:∃N,(Bb (R_ s).length fun y=>Mt (R_ s) a i y)[q]?=some N:=⟨_,N' (by rw[AD];omega)⟩;obtain⟨vb,W⟩:∃N,(Bb (R_ s).length fun y=>Mt (R_ s) b i y)[q]?=some N:=⟨_,N' (by rw[AD];omega)⟩;have fin:∀z:Bool,(·|| ·) va vb=z→(Bb (R_ s).length (Hr (·|| ·) (Bb (R_ s).length fun y=>Mt (R_ s) a i y) (Bb (R_ s).length fun y=>Mt (R_ s) b i y) q)).set q z=Bb (R_ s).length (Hr (·|| ·) (Bb (R_ s).length fun y=>Mt (R_ s) a i y) (Bb (R_ s).length fun y=>Mt (R_ s) b i y) (q+1)):=fun z hz=>by
         rw[←hz];exact Kk (by omega) V W
        (conv=>whnf);try (refine An.run ?_)
        refine f_ BI (G_ (v:=A_ d.op) E_ (a2 o) trivial ?_);rw[a9];(conv=>whnf);try (refine An.run ?_)
        refine VC.ix CJ (by omega) (by omega) ?_;refine G_ (v:=.bool va) ct4 (by rw[hA.cell,U',L',K_,o_,V];rfl) trivial ?_;cases va with
        | true=>
          refine ixE (T:=AQ) (j:=q) CJ o (ps.length+1) ET (by rw[AD];omega) rfl ?_;refine HX o (q:=q) (by rw[AD];omega) fun G3 t=>?_;rw[fin _ (by cases vb<;>rfl)]at t;(conv=>whnf);rw[P_ q (by omega)];exact⟨rfl,q+1,rfl,⟨by omega,by omega,L,D,t⟩,by omega⟩
        | false=>
          have hB:=E o M (D _ _ _ Q);refine VC.ix CJ (by omega) (by omega) ?_;refine G_ (v:=.bool vb) ct4 (by rw[hB.cell,U',L',K_,o_,W];rfl) trivial ?_;refine ixE (T:=AQ) (j:=q) CJ o (ps.length+1) ET (by rw[AD];omega) rfl ?_;refine HX o (q:=q) (by rw[AD];omega) fun G3 t=>?_;rw[fin _ (by cases vb<;>rfl)]at t;(conv=>whnf);rw[P_ q (by omega)];exact⟨rfl,q+1,rfl,⟨by omega,by omega,L,D,t⟩,by omega⟩
       ·obtain rfl:q=s.size+1:=by omega
        have e9:=L6 (l:=R_ s) (a:=a) (b:=b) (i:=i) (·|| ·) YK;rw[show(R_ s).length+1=s.size+1 by omega]at e9;rw[e9]at o;(conv=>whnf);exact⟨rfl,(),rfl,L,(O.trans A).trans D,o⟩
    | and_ a b=>
      have⟨d',ja,jb,w,U,P,Z,I,M⟩:=ht;rw[hd]at w;cases w;simp only[ReM.nodes]at hr;(conv=>whnf);try (refine An.run ?_)
      (conv=>whnf);try (refine An.run ?_)
      (conv=>whnf);try (refine An.run ?_)
      (conv=>whnf);try (refine An.run ?_)
      refine Aq.heldZ (fun k=>k=x) [] (sq [0,1,2,3,5,6,7,8] (.f 4 (.f 9 (sq [10,11] .e)))) rfl (by kernel_rfl) (f_ Ci (G_ (v:=A_ d.l) E_ (a5 g) rfl ?_));rw[P];refine f_ Ej (G_ (v:=A_ d.r) E_ (ae g) rfl ?_);rw[Z];refine Ae.mk (IH a (by omega) g F I hi) ?_;rintro _ G1 ⟨J,ra,rfl,a0,O,u⟩;replace u:B_ B H0 G1 (frP mb nbs s.size J (Da ns (R_ s)) ps ob (Bb (R_ s).length fun _=>False) x d):=u;refine⟨fun k hk=>by rw[show k=x from hk];exact(u.blk (ps.length+2) FD).trans (g.blk (ps.length+2) FD).symm,?_⟩;refine Ae.mk (IH b (by omega) u F M hi) ?_;rintro _ G2 ⟨K,rb,rfl,Q,A,C⟩;replace C:B_ B H0 G2 (frP mb nbs s.size K (Da ns (R_ s)) ps ob (Bb (R_ s).length fun _=>False) x d):=C;refine⟨fun k hk=>by rw[show k=x from hk];exact(C.blk (ps.length+2) FD).trans (g.blk (ps.length+2) FD).symm,?_⟩;rw[Kl (a:=a) (b:=b) (i:=i) (·&&·) rfl]at C;(conv=>whnf);refine A0.mk [14] (fun q:Nat=>[A_ q]) (fun q G=>i≤q∧q≤s.size+1∧∃L,FA K L∧B_ B H0 G (frP mb nbs s.size L (Da ns (R_ s)) ps ob (Bb (R_ s).length (Hr (·&&·) (Bb (R_ s).length fun y=>Mt (R_ s) a i y) (Bb (R_ s).length fun y=>Mt (R_ s) b i y) q)) x d)) (fun q _=>s.size+1-q) ?_ ?_
      ·(conv=>whnf);exact⟨i,rfl,I_ _,by omega,K,.refl K,C⟩
      ·rintro q G R ⟨ah,ai,L,D,o⟩;refine f_ GQ (G_ (v:=.string s) ct9 (Y o) trivial ?_);refine AG.m2 (fun hz=>?_) (fun hz=>?_)
       ·have a3:q≤s.size:=by omega
        have hA:=E o I (D _ _ _ (A _ _ _ a0));obtain⟨va,V⟩:∃N,(Bb (R_ s).length fun y=>Mt (R_ s) a i y)[q]?=some N:=⟨_,N' (by rw[AD];omega)⟩;obtain⟨vb,W⟩:∃N,(Bb (R_ s).length fun y=>Mt (R_ s) b i y)[q]?=some N:=⟨_,N' (by rw[AD];omega)⟩;have fin:∀z:Bool,(·&&·) va vb=z→(Bb (R_ s).length (Hr (·&&·) (Bb (R_ s).length fun y=>Mt (R_ s) a i y) (Bb (R_ s).length fun y=>Mt (R_ s) b i y) q)).set q z=Bb (R_ s).length (Hr (·&&·) (Bb (R_ s).length fun y=>Mt (R_ s) a i y) (Bb (R_ s).length fun y=>Mt (R_ s) b i y) (q+1)):=fun z hz=>by
         rw[←hz];exact Kk (by omega) V W
        (conv=>whnf);try (refine An.run ?_)
        refine f_ BI (G_ (v:=A_ d.op) E_ (a2 o) trivial ?_);rw[a9];(conv=>whnf);try (refine An.run ?_)
        (conv=>whnf);try (refine An.run ?_)
        refine VC.ix CJ (by omega) (by omega) ?_;refine G_ (v:=.bool va) ct4 (by rw[hA.cell,U',L',K_,o_,V];rfl) trivial ?_;cases va with
        | true=>
          have hB:=E o M (D _ _ _ Q);refine VC.ix CJ (by omega) (by omega) ?_;refine G_ (v:=.bool vb) ct4 (by rw[hB.cell,U',L',K_,o_,W];rfl) trivial ?_;refine ixE (T:=AQ) (j:=q) CJ o (ps.length+1) ET (by rw[AD];omega) rfl ?_;refine HX o (q:=q) (by rw[AD];omega) fun G3 t=>?_;rw[fin _ (by cases vb<;>rfl)]at t;(conv=>whnf);rw[P_ q (by omega)];exact⟨rfl,q+1,rfl,⟨by omega,by omega,L,D,t⟩,by omega⟩
        | false=>
          refine ixE (T:=AQ) (j:=q) CJ o (ps.length+1) ET (by rw[AD];omega) rfl ?_;refine HX o (q:=q) (by rw[AD];omega) fun G3 t=>?_;rw[fin _ (by cases vb<;>rfl)]at t;(conv=>whnf);rw[P_ q (by omega)];exact⟨rfl,q+1,rfl,⟨by omega,by omega,L,D,t⟩,by omega⟩
       ·obtain rfl:q=s.size+1:=by omega
        have e9:=L6 (l:=R_ s) (a:=a) (b:=b) (i:=i) (·&&·) YL;rw[show(R_ s).length+1=s.size+1 by omega]at e9;rw[e9]at o;(conv=>whnf);exact⟨rfl,(),rfl,L,(O.trans A).trans D,o⟩
    | minus a b=>
      have⟨d',ja,jb,w,U,P,Z,I,M⟩:=ht;rw[hd]at w;cases w;simp only[ReM.nodes]at hr;(conv=>whnf);try (refine An.run ?_)
      (conv=>whnf);try (refine An.run ?_)
      (conv=>whnf);try (refine An.run ?_)
      (conv=>whnf);try (refine An.run ?_)
      refine Aq.heldZ (fun k=>k=x) [] (sq [0,1,2,3,5,6,7,8] (.f 4 (.f 9 (sq [10,11] .e)))) rfl (by kernel_rfl) (f_ Ci (G_ (v:=A_ d.l) E_ (a5 g) rfl ?_));rw[P];refine f_ Ej (G_ (v:=A_ d.r) E_ (ae g) rfl ?_);rw[Z];refine Ae.mk (IH a (by omega) g F I hi) ?_;rintro _ G1 ⟨J,ra,rfl,a0,O,u⟩;replace u:B_ B H0 G1 (frP mb nbs s.size J (Da ns (R_ s)) ps ob (Bb (R_ s).length fun _=>False) x d):=u;refine⟨fun k hk=>by rw[show k=x from hk];exact(u.blk (ps.length+2) FD).trans (g.blk (ps.length+2) FD).symm,?_⟩;refine Ae.mk (IH b (by omega) u F M hi) ?_;rintro _ G2 ⟨K,rb,rfl,Q,A,C⟩;replace C:B_ B H0 G2 (frP mb nbs s.size K (Da ns (R_ s)) ps ob (Bb (R_ s).length fun _=>False) x d):=C;refine⟨fun k hk=>by rw[show k=x from hk];exact(C.blk (ps.length+2) FD).trans (g.blk (ps.length+2) FD).symm,?_⟩;rw[Kl (a:=a) (b:=b) (i:=i) (fun p q=>p&& !q) rfl]at C;(conv=>whnf);refine A0.mk [14] (fun q:Nat=>[A_ q]) (fun q G=>i≤q∧q≤s.size+1∧∃L,FA K L∧B_ B H0 G (frP mb nbs s.size L (Da ns (R_ s)) ps ob (Bb (R_ s).length (Hr (fun p q=>p&& !q) (Bb (R_ s).length fun y=>Mt (R_ s) a i y) (Bb (R_ s).length fun y=>Mt (R_ s) b i y) q)) x d)) (fun q _=>s.size+1-q) ?_ ?_
      ·(conv=>whnf);exact⟨i,rfl,I_ _,by omega,K,.refl K,C⟩
      ·rintro q G R ⟨ah,ai,L,D,o⟩;refine f_ GQ (G_ (v:=.string s) ct9 (Y o) trivial ?_);refine AG.m2 (fun hz=>?_) (fun hz=>?_)
       ·have a3:q≤s.size:=by omega
        have hA:=E o I (D _ _ _ (A _ _ _ a0));obtain⟨va,V⟩:∃N,(Bb (R_ s).length fun y=>Mt (R_ s) a i y)[q]?=some N:=⟨_,N' (by rw[AD];omega)⟩;obtain⟨vb,W⟩:∃N,(Bb (R_ s).length fun y=>Mt (R_ s) b i y)[q]?=some N:=⟨_,N' (by rw[AD];omega)⟩;have fin:∀z:Bool,(fun p q=>p&& !q) va vb=z→(Bb (R_ s).length (Hr (fun p q=>p&& !q) (Bb (R_ s).length fun y=>Mt (R_ s) a i y) (Bb (R_ s).length fun y=>Mt (R_ s) b i y) q)).set q z=Bb (R_ s).length (Hr (fun p q=>p&& !q) (Bb (R_ s).length fun y=>Mt (R_ s) a i y) (Bb (R_ s).length fun y=>Mt (R_ s) b i y) (q+1)):=fun z hz=>by
         rw[←hz];exact Kk (by omega) V W
        (conv=>whnf);try (refine An.run ?_)
        refine f_ BI (G_ (v:=A_ d.op) E_ (a2 o) trivial ?_);rw[a9];(conv=>whnf);try (refine An.run ?_)
        (conv=>whnf);try (refine An.run ?_)
        refine VC.ix CJ (by omega) (by omega) ?_;refine G_ (v:=.bool va) ct4 (by rw[hA.cell,U',L',K_,o_,V];rfl) trivial ?_;cases va with
        | true=>
          have hB:=E o M (D _ _ _ Q);refine VC.ix CJ (by omega) (by omega) ?_;refine G_ (v:=.bool vb) ct4 (by rw[hB.cell,U',L',K_,o_,W];rfl) trivial ?_;refine ixE (T:=AQ) (j:=q) CJ o (ps.length+1) ET (by rw[AD];omega) rfl ?_;refine HX o (q:=q) (by rw[AD];omega) fun G3 t=>?_;rw[fin _ (by cases vb<;>rfl)]at t;(conv=>whnf);rw[P_ q (by omega)];exact⟨rfl,q+1,rfl,⟨by omega,by omega,L,D,t⟩,by omega⟩
        | false=>
          refine ixE (T:=AQ) (j:=q) CJ o (ps.length+1) ET (by rw[AD];omega) rfl ?_;refine HX o (q:=q) (by rw[AD];omega) fun G3 t=>?_;rw[fin _ (by cases vb<;>rfl)]at t;(conv=>whnf);rw[P_ q (by omega)];exact⟨rfl,q+1,rfl,⟨by omega,by omega,L,D,t⟩,by omega⟩
       ·obtain rfl:q=s.size+1:=by omega
        have e9:=L6 (l:=R_ s) (a:=a) (b:=b) (i:=i) (fun p q=>p&& !q) Uo;rw[show(R_ s).length+1=s.size+1 by omega]at e9;rw[e9]at o;(conv=>whnf);exact⟨rfl,(),rfl,L,(O.trans A).trans D,o⟩
noncomputable def Pk(l:List Nat)(r:ReM):Bool:= @decide (Mt l r 0 l.length) (Classical.propDecidable _)
theorem ZL(l:List Nat)(r:ReM):Pk l r=true↔Mt l r 0 l.length:= @decide_eq_true_iff _ (Classical.propDecidable _)
theorem Th{S:Nat→Prop}{H:Aa}{v:v_}{ns:List p_}{Az:Nat}{s:ByteArray}{r:ReM}(c:∀k,S k→k<H.size)(u:ReV S H v ns (Az:Int))(w:BA ns r Az)(hs:s.size≤4194303):
  BM prog 41 #[v,.string s] H (.bool (Pk (R_ s) r)):=by
 have x:ns.length≤4194304:=u.1;have d:=MN s;refine Ak.of_vc func41 rfl (call41 _) (AaC u fun na nc z A=>?_);intro E H1 g h j l;have st1:=(St.nil H).box g h j l;have m:=st1.blk 0 rfl;have b:=m.lt;refine Aq.heldZ (H_ H1) [] (sq [0,1,3,4,6,7] (.f 2 (.f 5 (sq [8] (.f 9 (.f 10 .e)))))) rfl (by kernel_rfl) (Ae4 (S:=S) x m JZ b (A.frame (st1.old.mono c)) fun F n=>(f_ Zv ?_));refine G_ (v:=A_ Az) E_ (by rw[m.cell];rfl) b ?_;refine Ae.mk (AgZ (Da ns (R_ s)) (fun k o=>st1.up (c k o)) n hs) ?_;rintro _ H2 ⟨tb,mb,nbs,C,D,rfl,p,q,stN⟩;refine⟨stN.old,?_⟩;refine Ae.mk (AgE (B:=H_ H1) (kt:=0) (p.mono fun k o=>st1.up (c k o)) q x hs (r.nodes+1) r (by omega) stN rfl w (i:=0) (t_ _)) ?_;rintro _ H3 ⟨m',G,rfl,t,-,a⟩;refine⟨a.old,?_⟩;have y:=(show He _ _ _ _ _ _ from a.at_ 0 rfl).cont _ _ _ t;rw[Js w]at y;refine VC.ix CJ (by omega) (by omega) ?_;refine G_ (v:=.bool (Pk (R_ s) r)) ct4 (by
  rw[y.cell,U',L',K_,o_,Gv _ (show s.size≤(R_ s).length by omega)];unfold Pk;rw[d];rfl) trivial ?_
 refine⟨a.old,?_⟩;(conv=>whnf);refine⟨a.old,?_⟩;(conv=>whnf);exact⟨rfl,(st1.call a.old).old⟩
structure RowI(B:Nat→Prop)(H:Aa)(s q2 q3 i:Nat)(t:ByteArray)(os:List Int)(ps:List Pc)(f:AF)(fs:List AF)(j:Nat)(any:Bool)(G:Aa):Prop where
 ex:∃(f':AF) (r:ReM) (B':Nat→Prop) (fn:v_) (a:Option Addr) (n cap:Nat),i≤j∧j≤t.size∧Cb t ⟨i,f,fs⟩=Cb t ⟨j,f',fs⟩∧(A7 f').row=(if any then some r else none)∧
  (any=false→r= .eps∧f'.factor=none)∧(any=true→FF (bt t j)=false)∧f'.alt=f.alt∧f'.meet=f.meet∧f'.sign=f.sign∧f'.place=f.place∧
  (∀k,B k→B' k)∧C_ B H G∧B_ B' G G (sP s t j a n cap os ps++[pB 142 q2 Al,pB 142 q3 (Ab r fn)])∧CF B' G fn r
theorem Fd{B:Nat→Prop}{H H':Aa}(a:EH H)(b:B 0)(c:C_ B H H'):EH H':=by
 refine⟨a.1.eq (c _ b),?_⟩;have h:=c _ b;rw[Array.getElem?_eq_getElem a.2]at h;exact(Array.getElem?_eq_some_iff.1 h).1
theorem TA{f:AF}(h:f.factor=none):A7 f=f:=by unfold A7;rw[h]
theorem GZ(f:AF):(A7 f).alt=f.alt∧(A7 f).meet=f.meet∧(A7 f).sign=f.sign∧(A7 f).place=f.place:=by
 unfold A7;split<;>exact⟨rfl,rfl,rfl,rfl⟩
theorem AaI{B:Nat→Prop}{H:Aa}{s i:Nat}{t:ByteArray}{os:List Int}{ps:List Pc}{f:AF}{fs:List AF}(hE:EH H)(am:B 0)(ht:t.size≤1048576)(hi:i≤t.size)(b8:os.length=fs.length)(b9:fs.length≤1000)
  (ao:f.row=none) (ab:f.factor=none) (IH:∀i',i<i'→KJ t i') (sc:Sc B H s t i os ps):
  Ca prog 166 #[U_ s] H
   (fun v H'=>∃j o r,i≤j∧j≤t.size∧(j=t.size∨bt t j=124∨bt t j=38∨bt t j=45∨bt t j=41)∧Cb t ⟨i,f,fs⟩=Cb t ⟨j,o,fs⟩∧(A7 o).row.getD .eps=r∧
    o.alt=f.alt∧o.meet=f.meet∧o.sign=f.sign∧o.place=f.place∧SR B H s t j os ps r v H')
   (fun x H'=>SE B H t ⟨i,f,fs⟩ x H'):=by
 have⟨a,n,cap,st⟩:=sc;refine Ca.of_vc func166 rfl (call166 _) (Am (.agg Al.toArray) Al Dq rfl ?_);intro Z H1 bd be ap aq;have st1:=st.box bd be ap aq;refine Ax underlying98 rfl _ rfl [] rfl (Aj.of (Ae.mk (Rq (r:=.eps) st1 rfl) ?_));rintro _ H2 ⟨B1,f1,rfl,s1,a2,ar,gs⟩;obtain⟨g1,c1,rfl⟩:=gs.fn;refine Am (.agg Al.toArray) Al Dq rfl ?_;intro q3 H3 bf bg au aw;have Q:=ar.box bf bg au aw;rw[YaN]at Q;replace Q:B_ B1 H2 H3 (sP s t i a n cap os ps++[pB 142 Z Al,pB 142 q3 Al]):=Q;refine Bw (cs:=Ab .eps (.func (.func g1) #[] c1)) Q _ rfl (M_ _ _ 1) (by simp[Ab,Al]) rfl fun H4 J c8 c9=>?_;rw[X',C2 rfl]at J;replace J:B_ B1 H2 H4 (sP s t i a n cap os ps++[pB 142 Z Al,pB 142 q3 (Ab .eps (.func (.func g1) #[] c1))]):=J;(conv=>whnf);refine EN.mk [4] (fun x:Nat×Bool=>match x with | (_,b)=>[.bool b]) (fun x G=>match x with | (j,b)=>RowI B H s Z q3 i t os ps f fs j b G) (fun x _=>match x with | (j,_)=>t.size-j) ?_ ?_
 ·(conv=>whnf);refine⟨(i,false),rfl,⟨f,.eps,B1,.func (.func g1) #[] c1,a,n,cap,I_ _,hi,rfl,by rw[TA ab];exact ao,fun _=>⟨rfl,ab⟩,fun h=>AkG h,rfl,rfl,rfl,rfl,s1,?_,J.rebase,gs.frame J.old fun k l=>l⟩⟩;exact(st1.old.trans (a2.mono fun k l=>st1.up l)).trans fun k l=>J.old k (s1 k l)
 ·rintro⟨j,M⟩ G c6 ⟨o,r,B2,f2,a2,n2,E,R,hj,C,hr,F,a0,e1,e2,e3,e4,w,N,ax,gv⟩;obtain⟨y,z,rfl⟩:=gv.fn;clear st st1 ar Q J gs ap au aq aw;have S:(A7 o).row.getD .eps=r:=by
   rw[hr];cases M with
   | false=>exact(F rfl).1.symm
   | true=>rfl
  refine Aj.of (Ah (Fc (ax.blk 0 rfl)) fun G1 bh=>?_);have a1:=ax.call bh;by_cases h0:j<t.size
  ·rw[j_ (show¬t.size≤j by omega)];refine Aj.of (Ah (DC (a1.blk 0 rfl) h0) fun G2 bi=>?_);have m:=a1.call bi;refine Bf.run ?_;(conv=>whnf);by_cases L:bt t j=124
   ·have d:(((bt t j:Nat):Int)==124)=true:=by rw[L];rfl
    (conv=>whnf);rw[d];clear d;refine L_ (cs:=Ab r (.func (.func y) #[] z)) AX (Av (m.blk _ (M_ _ _ 1))) trivial (Bw (cs:=Ab r (.func (.func y) #[] z)) m _ rfl (M_ _ _ 0) (by simp[Ab,Al]) rfl fun G9 g ja js=>?_);rw[X',C2 rfl]at g;refine lN (cs:=Ab r (.func (.func y) #[] z)) AX (Av (g.blk _ (M_ _ _ 0))) ?_;exact⟨j,o,r,R,hj,.inr (.inl L),C,S,e1,e2,e3,e4,B2,_,rfl,w,N.trans fun k l=>g.old k (w k l),⟨a2,n2,E,g.lft.rebase⟩,gv.frame g.old fun k l=>l⟩
   ·have d:(((bt t j:Nat):Int)==124)=false:=EV L;(conv=>whnf);rw[d];clear d;by_cases a6:bt t j=38
    ·have d:(((bt t j:Nat):Int)==38)=true:=by rw[a6];rfl
     (conv=>whnf);rw[d];clear d;refine L_ (cs:=Ab r (.func (.func y) #[] z)) AX (Av (m.blk _ (M_ _ _ 1))) trivial (Bw (cs:=Ab r (.func (.func y) #[] z)) m _ rfl (M_ _ _ 0) (by simp[Ab,Al]) rfl fun G9 g ja js=>?_);rw[X',C2 rfl]at g;refine lN (cs:=Ab r (.func (.func y) #[] z)) AX (Av (g.blk _ (M_ _ _ 0))) ?_;exact⟨j,o,r,R,hj,.inr (.inr (.inl a6)),C,S,e1,e2,e3,e4,B2,_,rfl,w,N.trans fun k l=>g.old k (w k l),⟨a2,n2,E,g.lft.rebase⟩,gv.frame g.old fun k l=>l⟩
    ·have d:(((bt t j:Nat):Int)==38)=false:=EV a6;(conv=>whnf);rw[d];clear d;by_cases a8:bt t j=45
     ·have d:(((bt t j:Nat):Int)==45)=true:=by rw[a8];rfl
      (conv=>whnf);rw[d];clear d;refine L_ (cs:=Ab r (.func (.func y) #[] z)) AX (Av (m.blk _ (M_ _ _ 1))) trivial (Bw (cs:=Ab r (.func (.func y) #[] z)) m _ rfl (M_ _ _ 0) (by simp[Ab,Al]) rfl fun G9 g ja js=>?_);rw[X',C2 rfl]at g;refine lN (cs:=Ab r (.func (.func y) #[] z)) AX (Av (g.blk _ (M_ _ _ 0))) ?_;exact⟨j,o,r,R,hj,.inr (.inr (.inr (.inl a8))),C,S,e1,e2,e3,e4,B2,_,rfl,w,N.trans fun k l=>g.old k (w k l),⟨a2,n2,E,g.lft.rebase⟩,gv.frame g.old fun k l=>l⟩
     ·have d:(((bt t j:Nat):Int)==45)=false:=EV a8;(conv=>whnf);rw[d];clear d;by_cases a9:bt t j=41
      ·have d:(((bt t j:Nat):Int)==41)=true:=by rw[a9];rfl
       (conv=>whnf);rw[d];clear d;refine L_ (cs:=Ab r (.func (.func y) #[] z)) AX (Av (m.blk _ (M_ _ _ 1))) trivial (Bw (cs:=Ab r (.func (.func y) #[] z)) m _ rfl (M_ _ _ 0) (by simp[Ab,Al]) rfl fun G9 g ja js=>?_);rw[X',C2 rfl]at g;refine lN (cs:=Ab r (.func (.func y) #[] z)) AX (Av (g.blk _ (M_ _ _ 0))) ?_;exact⟨j,o,r,R,hj,.inr (.inr (.inr (.inr a9))),C,S,e1,e2,e3,e4,B2,_,rfl,w,N.trans fun k l=>g.old k (w k l),⟨a2,n2,E,g.lft.rebase⟩,gv.frame g.old fun k l=>l⟩
      ·have d:(((bt t j:Nat):Int)==41)=false:=EV a9;(conv=>whnf);rw[d];clear d;(conv=>whnf);try (refine Bf.run ?_)
       by_cases T:bt t j=42
       ·have d:(((bt t j:Nat):Int)==42)=true:=by rw[T];rfl
        (conv=>whnf);rw[d];clear d;refine f_ AK ?_;refine lT (v:=A_ j) E_ ((m.blk 0 rfl).ce rfl) ?_;refine Aj.mk (Df (c:=20) (e:=j)) (fun _ _ h=>h.elim) ?_;rintro _ _ ⟨rfl,rfl⟩;have K:o.factor=none:=by
         cases M with
         | false=>exact(F rfl).2
         | true=>have:=a0 rfl;rw[T]at this;exact absurd this (by decide)
        exact⟨20,j,C.trans (EE (s:=⟨j,o,fs⟩) h0 (Ft (by rw[T];rfl) K)),rfl,N.trans fun k l=>m.old k (w k l)⟩
       ·have d:(((bt t j:Nat):Int)==42)=false:=EV T;(conv=>whnf);rw[d];clear d;by_cases U:bt t j=43
        ·have d:(((bt t j:Nat):Int)==43)=true:=by rw[U];rfl
         (conv=>whnf);rw[d];clear d;refine f_ AK ?_;refine lT (v:=A_ j) E_ ((m.blk 0 rfl).ce rfl) ?_;refine Aj.mk (Df (c:=20) (e:=j)) (fun _ _ h=>h.elim) ?_;rintro _ _ ⟨rfl,rfl⟩;have K:o.factor=none:=by
          cases M with
          | false=>exact(F rfl).2
          | true=>have:=a0 rfl;rw[U]at this;exact absurd this (by decide)
         exact⟨20,j,C.trans (EE (s:=⟨j,o,fs⟩) h0 (Ft (by rw[U];rfl) K)),rfl,N.trans fun k l=>m.old k (w k l)⟩
        ·have d:(((bt t j:Nat):Int)==43)=false:=EV U;(conv=>whnf);rw[d];clear d;by_cases V:bt t j=63
         ·have d:(((bt t j:Nat):Int)==63)=true:=by rw[V];rfl
          (conv=>whnf);rw[d];clear d;refine f_ AK ?_;refine lT (v:=A_ j) E_ ((m.blk 0 rfl).ce rfl) ?_;refine Aj.mk (Df (c:=20) (e:=j)) (fun _ _ h=>h.elim) ?_;rintro _ _ ⟨rfl,rfl⟩;have K:o.factor=none:=by
           cases M with
           | false=>exact(F rfl).2
           | true=>have:=a0 rfl;rw[V]at this;exact absurd this (by decide)
          exact⟨20,j,C.trans (EE (s:=⟨j,o,fs⟩) h0 (Ft (by rw[V];rfl) K)),rfl,N.trans fun k l=>m.old k (w k l)⟩
         ·have d:(((bt t j:Nat):Int)==63)=false:=EV V;(conv=>whnf);rw[d];clear d;by_cases I:bt t j=123
          ·have d:(((bt t j:Nat):Int)==123)=true:=by rw[I];rfl
           (conv=>whnf);rw[d];clear d;refine f_ AK ?_;refine lT (v:=A_ j) E_ ((m.blk 0 rfl).ce rfl) ?_;refine Aj.mk (Df (c:=20) (e:=j)) (fun _ _ h=>h.elim) ?_;rintro _ _ ⟨rfl,rfl⟩;have K:o.factor=none:=by
            cases M with
            | false=>exact(F rfl).2
            | true=>have:=a0 rfl;rw[I]at this;exact absurd this (by decide)
           exact⟨20,j,C.trans (EE (s:=⟨j,o,fs⟩) h0 (Ft (by rw[I];rfl) K)),rfl,N.trans fun k l=>m.old k (w k l)⟩
          ·have d:(((bt t j:Nat):Int)==123)=false:=EV I;(conv=>whnf);rw[d];clear d;(conv=>whnf);try (refine Bf.run ?_)
           have bj:NV (bt t j):=⟨L,a6,a8,a9,Lk T U V I⟩;refine Aj.mk (Ag7 (f:=o) (fs:=fs) (Fd hE am (N.trans fun k l=>m.old k (w k l))) (w _ am) ht h0 b8 b9 bj (fun i' cd=>IH i' (by omega)) (B:=B2) (ps:=ps++[pB 142 Z Al,pB 142 q3 (Ab r (.func (.func y) #[] z))]) ⟨a2,n2,E,m.rebase⟩) ?_ ?_
           rotate_left
           ·intro x G3 h;exact h.from C (N.trans fun k l=>m.old k (w k l)) w
           rintro _ G3 ⟨j1,r1,ce,ay,az,⟨B3,f3,rfl,s3,a3,⟨a4,n4,A,aj⟩,bm⟩⟩;have bn:C_ B H G2:=N.trans fun k l=>m.old k (w k l);have b0:C_ B H G3:=bn.trans fun k l=>a3 k (w k l);have bo:CF B3 G3 (.func (.func y) #[] z) r:=gv.frame (m.old.trans a3) s3;replace aj:B_ B3 G3 G3 (sP s t j1 a4 n4 A os ps++[pB 142 Z Al,pB 142 q3 (Ab r (.func (.func y) #[] z))]):=aj;refine Aj.mk (XN (k:=0) (f:={A7 o with factor:=some r1}) (fs:=fs) (by omega) ay rfl aj rfl bm) ?_ ?_
           rotate_left
           ·rintro x G4 ⟨c,p,h1,h2,h3⟩;exact⟨c,p,(C.trans az).trans h1,h2,b0.trans fun k l=>h3 k (s3 k (w k l))⟩
           rintro _ G4 ⟨j2,q,cg,ae,ah,bp,⟨B4,f4,rfl,s4,a5,ak,b4⟩⟩;have bq:C_ B H G4:=b0.trans fun k l=>a5 k (s3 k (w k l));have br:CF B4 G4 (.func (.func y) #[] z) r:=bo.frame a5 s4;obtain⟨O,P,rfl⟩:=b4.fn;replace ak:B_ B4 G4 G4 (sP s t j2 a4 n4 A os ps++[pB 142 Z Al,pB 142 q3 (Ab r (.func (.func y) #[] z))]):=ak;refine Am (.agg Al.toArray) Al Dq rfl ?_;intro q5 G5 bu bv bw bx;have b5:=ak.box bu bv bw bx;rw[YaN]at b5;refine Bw (cs:=Ab q (.func (.func O) #[] P)) b5 _ rfl (M_ _ _ 2) (by simp[Ab,Al]) rfl fun G6 u ch cj=>?_;rw[X',C2 rfl]at u;replace u:B_ B4 G4 G6 (sP s t j2 a4 n4 A os ps++[pB 142 Z Al,pB 142 q3 (Ab r (.func (.func y) #[] z)),pB 142 q5 (Ab q (.func (.func O) #[] P))]):=u;have b6:C_ B H G6:=bq.trans fun k l=>u.old k (s4 k (s3 k (w k l)));have bz:=br.frame u.old fun k l=>l;have ai:=b4.frame u.old fun k l=>l;have b7:Cb t ⟨i,f,fs⟩=Cb t ⟨j2,{A7 o with factor:=some q},fs⟩:=C.trans (az.trans bp);have⟨z1,z2,z3,z4⟩:=GZ o;(conv=>whnf);cases M with
           | false=>
             replace hr:(A7 o).row=none:=hr;(conv=>whnf);try (refine Bf.run ?_)
             refine L_ (cs:=Ab (q) (.func (.func O) #[] P)) AX (Av (u.blk _ (M_ _ _ 2))) trivial (Bw (cs:=Ab (q) (.func (.func O) #[] P)) u _ rfl (M_ _ _ 1) (by simp[Ab]) rfl fun G9 g W c2=>?_);rw[X']at g;have e9:Ai (Ab r (.func (.func y) #[] z)) 0 (Ab (q) (.func (.func O) #[] P))=Ab (q) (.func (.func O) #[] P):=C2 rfl;replace g:B_ B4 _ G9 (sP s t j2 a4 n4 A os ps++[pB 142 Z Al,pB 142 q3 (Ai (Ab r (.func (.func y) #[] z)) 0 (Ab (q) (.func (.func O) #[] P))),pB 142 q5 (Ab (q) (.func (.func O) #[] P))]):=g;rw[e9]at g;(conv=>whnf);refine⟨rfl,(j2,true),rfl,⟨{A7 o with factor:=some q},q,B4,.func (.func O) #[] P,a4,n4,A,by omega,ae,b7,?_,fun h=>AkG h,fun _=>ah,z1.trans e1,z2.trans e2,z3.trans e3,z4.trans e4,(fun k l=>s4 k (s3 k (w k l))),?_,(g.subl ((Yct _).2 (List.Sublist.cons_cons _ (List.Sublist.cons_cons _ (Ycw _))))).rebase,?_⟩,?_⟩
             ·show some (YS (A7 o).row q)=some (q);rw[hr];rfl
             ·exact b6.trans (W.mono fun k l=>fun e=>(u.rng _ (Ycz _ (YbY _ Yca)) k e).1 ((fun k l=>s4 k (s3 k (w k l))) k l))
             ·exact ai.frame (W.mono fun k l=>fun e=>(u.rng _ (Ycz _ (YbY _ Yca)) k e).1 l) fun k l=>l
             ·show t.size-j2<t.size-j;omega
           | true=>
             replace hr:(A7 o).row=some r:=hr;(conv=>whnf);try (refine Bf.run ?_)
             refine L_ (cs:=Ab r (.func (.func y) #[] z)) AX (Av (u.blk _ (M_ _ _ 1))) trivial (L_ (cs:=Ab q (.func (.func O) #[] P)) AX (Av (u.blk _ (M_ _ _ 2))) trivial (Aj.of (Ae.mk (F3 .cat u bz ai) ?_)));rintro _ G7 ⟨B7,f7,rfl,s7,a7,c3,gj⟩;obtain⟨X,Y,rfl⟩:=gj.fn;refine Bw (cs:=Ab (.cat r q) (.func (.func X) #[] Y)) c3 _ rfl (M_ _ _ 2) (by simp[Ab]) rfl fun G8 D ck cm=>?_;rw[X']at D;have e8:Ai (Ab q (.func (.func O) #[] P)) 0 (Ab (.cat r q) (.func (.func X) #[] Y))=Ab (.cat r q) (.func (.func X) #[] Y):=C2 rfl;replace D:B_ B7 G7 G8 (sP s t j2 a4 n4 A os ps++[pB 142 Z Al,pB 142 q3 (Ab r (.func (.func y) #[] z)),pB 142 q5 (Ai (Ab q (.func (.func O) #[] P)) 0 (Ab (.cat r q) (.func (.func X) #[] Y)))]):=D;rw[e8]at D;have s8:∀k,B k→B7 k:=fun k l=>s7 k (s4 k (s3 k (w k l)));have ag8:C_ B H G8:=(b6.trans (a7.mono fun k l=>u.up (s4 k (s3 k (w k l))))).trans fun k l=>D.old k (s8 k l);have c5:=gj.frame D.old fun k l=>l;refine L_ (cs:=Ab (.cat r q) (.func (.func X) #[] Y)) AX (Av (D.blk _ (M_ _ _ 2))) trivial (Bw (cs:=Ab (.cat r q) (.func (.func X) #[] Y)) D _ rfl (M_ _ _ 1) (by simp[Ab]) rfl fun G9 g W c2=>?_);rw[X']at g;have e9:Ai (Ab r (.func (.func y) #[] z)) 0 (Ab (.cat r q) (.func (.func X) #[] Y))=Ab (.cat r q) (.func (.func X) #[] Y):=C2 rfl;replace g:B_ B7 _ G9 (sP s t j2 a4 n4 A os ps++[pB 142 Z Al,pB 142 q3 (Ai (Ab r (.func (.func y) #[] z)) 0 (Ab (.cat r q) (.func (.func X) #[] Y))),pB 142 q5 (Ab (.cat r q) (.func (.func X) #[] Y))]):=g;rw[e9]at g;(conv=>whnf);refine⟨rfl,(j2,true),rfl,⟨{A7 o with factor:=some q},.cat r q,B7,.func (.func X) #[] Y,a4,n4,A,by omega,ae,b7,?_,fun h=>AkG h,fun _=>ah,z1.trans e1,z2.trans e2,z3.trans e3,z4.trans e4,s8,?_,(g.subl ((Yct _).2 (List.Sublist.cons_cons _ (List.Sublist.cons_cons _ (Ycw _))))).rebase,?_⟩,?_⟩
             ·show some (YS (A7 o).row q)=some (.cat r q);rw[hr];rfl
             ·exact ag8.trans (W.mono fun k l=>fun e=>(D.rng _ (Ycz _ (YbY _ Yca)) k e).1 (s8 k l))
             ·exact c5.frame (W.mono fun k l=>fun e=>(D.rng _ (Ycz _ (YbY _ Yca)) k e).1 l) fun k l=>l
             ·show t.size-j2<t.size-j;omega
  ·rw[n_ (show t.size≤j by omega)];refine L_ (cs:=Ab r (.func (.func y) #[] z)) AX (Av (a1.blk _ (M_ _ _ 1))) trivial (Bw (cs:=Ab r (.func (.func y) #[] z)) a1 _ rfl (M_ _ _ 0) (by simp[Ab,Al]) rfl fun G9 g ja js=>?_);rw[X',C2 rfl]at g;refine lN (cs:=Ab r (.func (.func y) #[] z)) AX (Av (g.blk _ (M_ _ _ 0))) ?_;exact⟨j,o,r,R,hj,.inl (by omega),C,S,e1,e2,e3,e4,B2,_,rfl,w,N.trans fun k l=>g.old k (w k l),⟨a2,n2,E,g.lft.rebase⟩,gv.frame g.old fun k l=>l⟩
theorem Pq(f:AF):(A7 f).factor=none:=by
 unfold A7;split
 ·rename_i h;exact h
 ·rfl
theorem DH(f:AF):(Cu f).alt=f.alt∧(Cu f).place=f.place∧(Cu f).row=none∧(Cu f).factor=none:=by
 have⟨a,c,d,b⟩:=GZ f;exact⟨a,b,rfl,Pq f⟩
theorem LC(f:AF):(Cu f).meet=some (match f.meet with | none=>(A7 f).row.getD .eps | some q=>if f.sign=38 then .and_ q ((A7 f).row.getD .eps)else .minus q ((A7 f).row.getD .eps)):=by
 have⟨c,a,b,d⟩:=GZ f;show some (match(A7 f).meet with | none=>(A7 f).row.getD .eps | some q=>if(A7 f).sign=38 then .and_ q ((A7 f).row.getD .eps)else .minus q ((A7 f).row.getD .eps))=_;rw[a,b]
theorem P5(f:AF):(CH f).alt=some (match f.alt with | none=>(Cu f).meet.getD .eps | some q=>.alt q ((Cu f).meet.getD .eps)):=by
 have⟨a,b,c,d⟩:=DH f;show some (match(Cu f).alt with | none=>(Cu f).meet.getD .eps | some q=>.alt q ((Cu f).meet.getD .eps))=_;rw[a]
theorem Gi(f:AF):(CH f).meet=none∧(CH f).place=f.place∧(CH f).row=none∧(CH f).factor=none:=by
 have⟨d,a,b,c⟩:=DH f;exact⟨rfl,a,b,c⟩
structure AhY(B:Nat→Prop)(H:Aa)(s q2 q3 i:Nat)(t:ByteArray)(os:List Int)(ps:List Pc)(f:AF)(fs:List AF)(j:Nat)(G:Aa):Prop where
 ex:∃(f':AF) (r:ReM) (B':Nat→Prop) (fn:v_) (a:Option Addr) (n cap:Nat),i≤j∧j≤t.size∧(j=t.size∨bt t j=124∨bt t j=38∨bt t j=45∨bt t j=41)∧Cb t ⟨i,f,fs⟩=Cb t ⟨j,f',fs⟩∧(Cu f').meet=some r∧f'.alt=f.alt∧f'.place=f.place∧
  (∀k,B k→B' k)∧C_ B H G∧B_ B' G G (sP s t j a n cap os ps++[pB 142 q2 Al,pB 142 q3 (Ab r fn)])∧CF B' G fn r
theorem Tn{B:Nat→Prop}{H:Aa}{s i:Nat}{t:ByteArray}{os:List Int}{ps:List Pc}{f:AF}{fs:List AF}(hE:EH H)(E:B 0)(ht:t.size≤1048576)(hi:i≤t.size)(a7:os.length=fs.length)(a8:fs.length≤1000)
  (a9:f.meet=none) (ai:f.row=none) (aj:f.factor=none) (IH:∀i',i<i'→KJ t i') (sc:Sc B H s t i os ps):
  Ca prog 128 #[U_ s] H
   (fun v H'=>∃j m r,i≤j∧j≤t.size∧(j=t.size∨bt t j=124∨bt t j=41)∧Cb t ⟨i,f,fs⟩=Cb t ⟨j,m,fs⟩∧(Cu m).meet=some r∧m.alt=f.alt∧m.place=f.place∧SR B H s t j os ps r v H')
   (fun x H'=>SE B H t ⟨i,f,fs⟩ x H'):=by
 have⟨a,n,cap,st⟩:=sc;refine Ca.of_vc func128 rfl (call128 _) (Am (.agg Al.toArray) Al Dq rfl ?_);intro F H1 aw ax ak am;have st1:=st.box aw ax ak am;refine Aj.mk (AaI (f:=f) (fs:=fs) (Fd hE E st1.old) E ht hi a7 a8 ai aj IH (B:=B) (ps:=ps++[pB 142 F Al]) ⟨a,n,cap,st1.rebase⟩) ?_ ?_
 rotate_left
 ·intro x H7 h;exact h.from rfl st1.old fun k b=>b
 rintro _ H2 ⟨J,f1,r1,K,L,M,N,O,e1,e2,e3,e5,⟨B1,f3,rfl,s1,a1,⟨P,Q,c,W⟩,gs⟩⟩;obtain⟨g1,c1,rfl⟩:=gs.fn;replace W:B_ B1 H2 H2 (sP s t J P Q c os ps++[pB 142 F Al]):=W;refine Am (.agg Al.toArray) Al Dq rfl ?_;intro z H3 ay az ao ap;have R:=W.box ay az ao ap;rw[YaN]at R;replace R:B_ B1 H2 H3 (sP s t J P Q c os ps++[pB 142 F Al,pB 142 z Al]):=R;refine Bw (cs:=Ab r1 (.func (.func g1) #[] c1)) R _ rfl (M_ _ _ 1) (by simp[Ab,Al]) rfl fun H4 C b9 bd=>?_;rw[X',C2 rfl]at C;replace C:B_ B1 H2 H4 (sP s t J P Q c os ps++[pB 142 F Al,pB 142 z (Ab r1 (.func (.func g1) #[] c1))]):=C;have aq:C_ B H H4:=(st1.old.trans a1).trans fun k b=>C.old k (s1 k b);(conv=>whnf);refine EN.mk [] (fun _:Nat=>[]) (fun j G=>AhY B H s F z i t os ps f fs j G) (fun j _=>t.size-j) ?_ ?_
 ·(conv=>whnf);exact⟨J,rfl,⟨f1,r1,B1,.func (.func g1) #[] c1,P,Q,c,K,L,M,N,by rw[LC,e2,a9,O],e1,e5,s1,aq,C.rebase,gs.frame C.old fun k b=>b⟩⟩
 ·rintro j G b8 ⟨m,r,B2,f2,P,Q,c,ar,hj,a6,X,hm,ha,e4,A,ag,au,gv⟩;obtain⟨w,y,rfl⟩:=gv.fn;clear st st1 W R C gs ak ao am ap a1 aq s1;refine Aj.of (Ah (Fc (au.blk 0 rfl)) fun G1 b0=>?_);have Y:=au.call b0;by_cases h0:j<t.size
  ·rw[j_ (show¬t.size≤j by omega)];have a6:bt t j=124∨bt t j=38∨bt t j=45∨bt t j=41:=a6.resolve_left (by omega);refine Aj.of (Ah (DC (Y.blk 0 rfl) h0) fun G2 b4=>?_);have I:=Y.call b4;(conv=>whnf);try (refine Bf.run ?_)
   (conv=>whnf);by_cases Z:bt t j=38
   ·have d:(((bt t j:Nat):Int)==38)=true:=by rw[Z];rfl
    (conv=>whnf);rw[d];refine f_ AK ?_;refine lT (v:=A_ j) E_ ((I.blk 0 rfl).ce rfl) ?_;(conv=>whnf);rw[W_ (x:=(j:Int)+1) (by omega)];refine f_ AK (Bh I 0 E_ rfl (by simp) rfl fun G3 g=>?_);replace g:B_ B2 G G3 (sP s t (j+1) P Q c os ps++[pB 142 F Al,pB 142 z (Ab r (.func (.func w) #[] y))]):=g;have D:C_ B H G3:=ag.trans fun k b=>g.old k (A k b);have ab:=gv.frame g.old fun k b=>b;have o:Cb t ⟨i,f,fs⟩=Cb t ⟨j+1,{Cu m with sign:=38},fs⟩:=X.trans (Ey (s:=⟨j,m,fs⟩) h0 (by have:=Ij (t:=t) (i:=j) (f:=m) (fs:=fs) (.inl Z);rw[Z]at this;exact this));refine C3.held (fun k=>k=z) [4] (sq [0,1] (.f 2 (.f 3 (.f 4 .e)))) (Dz _ _) rfl (by kernel_rfl) (L_ (cs:=Ab r (.func (.func w) #[] y)) AX (Av (g.blk _ (M_ _ _ 1))) rfl (Aj.mk (AaI (f:={Cu m with sign:=38}) (fs:=fs) (Fd hE E D) (A _ E) ht (by omega) a7 a8 rfl (DH m).2.2.2 (fun i' b5=>IH i' (by omega)) (B:=B2) (ps:=ps++[pB 142 F Al,pB 142 z (Ab r (.func (.func w) #[] y))]) ⟨P,Q,c,g.rebase⟩) ?_ ?_))
    rotate_left
    ·intro x H7 h;exact h.from o D A
    rintro _ G4 ⟨J,f1,S,K,L,M,N,O,e1,e2,e3,e5,⟨B3,f3,rfl,s3,a3,⟨a4,n4,p,q⟩,gs⟩⟩;replace q:B_ B3 G4 G4 (sP s t J a4 n4 p os ps++[pB 142 F Al,pB 142 z (Ab r (.func (.func w) #[] y))]):=q;refine⟨fun k b=>by rw[show k=z from b];exact(q.blk _ (M_ _ _ 1)).trans (g.blk _ (M_ _ _ 1)).symm,?_⟩;have ae:C_ B H G4:=D.trans fun k b=>a3 k (A k b);refine Aj.of (Ae.mk (F3 .and_ q (ab.frame a3 s3) gs) ?_);rintro _ G5 ⟨B5,f5,rfl,s5,a5,T,gj⟩;refine⟨fun k b=>by rw[show k=z from b];exact(T.blk _ (M_ _ _ 1)).trans (g.blk _ (M_ _ _ 1)).symm,?_⟩;obtain⟨U,V,rfl⟩:=gj.fn;refine Bw (cs:=Ab (opR .and_ r S) (.func (.func U) #[] V)) T _ rfl (M_ _ _ 1) (by simp[Ab]) rfl fun G6 l b6 b7=>?_;rw[X']at l;have e6:Ai (Ab r (.func (.func w) #[] y)) 0 (Ab (opR .and_ r S) (.func (.func U) #[] V))=Ab (opR .and_ r S) (.func (.func U) #[] V):=C2 rfl;replace l:B_ B5 G5 G6 (sP s t J a4 n4 p os ps++[pB 142 F Al,pB 142 z (Ai (Ab r (.func (.func w) #[] y)) 0 (Ab (opR .and_ r S) (.func (.func U) #[] V)))]):=l;rw[e6]at l;have s6:∀k,B k→B5 k:=fun k b=>s5 k (s3 k (A k b));have ah:C_ B H G6:=(ae.trans (a5.mono fun k b=>q.up (s3 k (A k b)))).trans fun k b=>l.old k (s6 k b);(conv=>whnf);refine⟨rfl,J,rfl,⟨f1,opR .and_ r S,B5,.func (.func U) #[] V,a4,n4,p,by omega,L,M,o.trans N,by rw[LC,e2,e3,show({Cu m with sign:=38}:AF).meet=(Cu m).meet from rfl,hm];show some (if 38=38 then _ else _)=_;rw[F_ rfl,O]<;>rfl,e1.trans ((DH m).1.trans ha),e5.trans ((DH m).2.1.trans e4),s6,ah,l.rebase,gj.frame l.old fun k b=>b⟩,by omega⟩
   ·have d:(((bt t j:Nat):Int)==38)=false:=EV Z;(conv=>whnf);rw[d];clear d;by_cases a0:bt t j=45
    ·have d:(((bt t j:Nat):Int)==45)=true:=by rw[a0];rfl
     (conv=>whnf);rw[d];refine f_ AK ?_;refine lT (v:=A_ j) E_ ((I.blk 0 rfl).ce rfl) ?_;(conv=>whnf);rw[W_ (x:=(j:Int)+1) (by omega)];refine f_ AK (Bh I 0 E_ rfl (by simp) rfl fun G3 g=>?_);replace g:B_ B2 G G3 (sP s t (j+1) P Q c os ps++[pB 142 F Al,pB 142 z (Ab r (.func (.func w) #[] y))]):=g;have D:C_ B H G3:=ag.trans fun k b=>g.old k (A k b);have ab:=gv.frame g.old fun k b=>b;have o:Cb t ⟨i,f,fs⟩=Cb t ⟨j+1,{Cu m with sign:=45},fs⟩:=X.trans (Ey (s:=⟨j,m,fs⟩) h0 (by have:=Ij (t:=t) (i:=j) (f:=m) (fs:=fs) (.inr a0);rw[a0]at this;exact this));refine C3.held (fun k=>k=z) [4] (sq [0,1] (.f 2 (.f 3 (.f 4 .e)))) (Dz _ _) rfl (by kernel_rfl) (L_ (cs:=Ab r (.func (.func w) #[] y)) AX (Av (g.blk _ (M_ _ _ 1))) rfl (Aj.mk (AaI (f:={Cu m with sign:=45}) (fs:=fs) (Fd hE E D) (A _ E) ht (by omega) a7 a8 rfl (DH m).2.2.2 (fun i' b5=>IH i' (by omega)) (B:=B2) (ps:=ps++[pB 142 F Al,pB 142 z (Ab r (.func (.func w) #[] y))]) ⟨P,Q,c,g.rebase⟩) ?_ ?_))
     rotate_left
     ·intro x H7 h;exact h.from o D A
     rintro _ G4 ⟨J,f1,S,K,L,M,N,O,e1,e2,e3,e5,⟨B3,f3,rfl,s3,a3,⟨a4,n4,p,q⟩,gs⟩⟩;replace q:B_ B3 G4 G4 (sP s t J a4 n4 p os ps++[pB 142 F Al,pB 142 z (Ab r (.func (.func w) #[] y))]):=q;refine⟨fun k b=>by rw[show k=z from b];exact(q.blk _ (M_ _ _ 1)).trans (g.blk _ (M_ _ _ 1)).symm,?_⟩;have ae:C_ B H G4:=D.trans fun k b=>a3 k (A k b);refine Aj.of (Ae.mk (F3 .minus q (ab.frame a3 s3) gs) ?_);rintro _ G5 ⟨B5,f5,rfl,s5,a5,T,gj⟩;refine⟨fun k b=>by rw[show k=z from b];exact(T.blk _ (M_ _ _ 1)).trans (g.blk _ (M_ _ _ 1)).symm,?_⟩;obtain⟨U,V,rfl⟩:=gj.fn;refine Bw (cs:=Ab (opR .minus r S) (.func (.func U) #[] V)) T _ rfl (M_ _ _ 1) (by simp[Ab]) rfl fun G6 l b6 b7=>?_;rw[X']at l;have e6:Ai (Ab r (.func (.func w) #[] y)) 0 (Ab (opR .minus r S) (.func (.func U) #[] V))=Ab (opR .minus r S) (.func (.func U) #[] V):=C2 rfl;replace l:B_ B5 G5 G6 (sP s t J a4 n4 p os ps++[pB 142 F Al,pB 142 z (Ai (Ab r (.func (.func w) #[] y)) 0 (Ab (opR .minus r S) (.func (.func U) #[] V)))]):=l;rw[e6]at l;have s6:∀k,B k→B5 k:=fun k b=>s5 k (s3 k (A k b));have ah:C_ B H G6:=(ae.trans (a5.mono fun k b=>q.up (s3 k (A k b)))).trans fun k b=>l.old k (s6 k b);(conv=>whnf);refine⟨rfl,J,rfl,⟨f1,opR .minus r S,B5,.func (.func U) #[] V,a4,n4,p,by omega,L,M,o.trans N,by rw[LC,e2,e3,show({Cu m with sign:=45}:AF).meet=(Cu m).meet from rfl,hm];show some (if 45=38 then _ else _)=_;rw[D_ (by decide),O]<;>rfl,e1.trans ((DH m).1.trans ha),e5.trans ((DH m).2.1.trans e4),s6,ah,l.rebase,gj.frame l.old fun k b=>b⟩,by omega⟩
    ·have d:(((bt t j:Nat):Int)==45)=false:=EV a0;(conv=>whnf);rw[d];refine L_ (cs:=Ab r (.func (.func w) #[] y)) AX (Av (I.blk _ (M_ _ _ 1))) trivial (Bw (cs:=Ab r (.func (.func w) #[] y)) I _ rfl (M_ _ _ 0) (by simp[Ab,Al]) rfl fun G9 u ja js=>?_);rw[X',C2 rfl]at u;refine lN (cs:=Ab r (.func (.func w) #[] y)) AX (Av (u.blk _ (M_ _ _ 0))) ?_;exact⟨j,m,r,ar,hj,by omega,X,hm,ha,e4,B2,_,rfl,A,ag.trans fun k b=>u.old k (A k b),⟨P,Q,c,u.lft.rebase⟩,gv.frame u.old fun k b=>b⟩
  ·rw[n_ (show t.size≤j by omega)];refine L_ (cs:=Ab r (.func (.func w) #[] y)) AX (Av (Y.blk _ (M_ _ _ 1))) trivial (Bw (cs:=Ab r (.func (.func w) #[] y)) Y _ rfl (M_ _ _ 0) (by simp[Ab,Al]) rfl fun G9 u ja js=>?_);rw[X',C2 rfl]at u;refine lN (cs:=Ab r (.func (.func w) #[] y)) AX (Av (u.blk _ (M_ _ _ 0))) ?_;exact⟨j,m,r,ar,hj,by omega,X,hm,ha,e4,B2,_,rfl,A,ag.trans fun k b=>u.old k (A k b),⟨P,Q,c,u.lft.rebase⟩,gv.frame u.old fun k b=>b⟩
structure AltI(B:Nat→Prop)(H:Aa)(s q2 q3 i:Nat)(t:ByteArray)(os:List Int)(ps:List Pc)(f:AF)(fs:List AF)(j:Nat)(G:Aa):Prop where
 ex:∃(f':AF) (r:ReM) (B':Nat→Prop) (fn:v_) (a:Option Addr) (n cap:Nat),i≤j∧j≤t.size∧(j=t.size∨bt t j=124∨bt t j=41)∧Cb t ⟨i,f,fs⟩=Cb t ⟨j,f',fs⟩∧(CH f').alt=some r∧f'.place=f.place∧
  (∀k,B k→B' k)∧C_ B H G∧B_ B' G G (sP s t j a n cap os ps++[pB 142 q2 Al,pB 142 q3 (Ab r fn)])∧CF B' G fn r
theorem Y9{B:Nat→Prop}{H:Aa}{s i:Nat}{t:ByteArray}{os:List Int}{ps:List Pc}{f:AF}{fs:List AF}(hE:EH H)(F:B 0)(ht:t.size≤1048576)(hi:i≤t.size)(Y:os.length=fs.length)(Z:fs.length≤1000)
  (a0:f.alt=none) (R:f.meet=none) (a6:f.row=none) (a7:f.factor=none) (IH:∀i',i<i'→KJ t i') (sc:Sc B H s t i os ps):
  Ca prog 72 #[U_ s] H
   (fun v H'=>∃j p r,i≤j∧j≤t.size∧(j=t.size∨bt t j=41)∧Cb t ⟨i,f,fs⟩=Cb t ⟨j,p,fs⟩∧(CH p).alt=some r∧p.place=f.place∧SR B H s t j os ps r v H')
   (fun x H'=>SE B H t ⟨i,f,fs⟩ x H'):=by
 have⟨a,n,cap,st⟩:=sc;refine Ca.of_vc func72 rfl (call72 _) (Am (.agg Al.toArray) Al Dq rfl ?_);intro I H1 am ao a8 a9;have st1:=st.box am ao a8 a9;refine Aj.mk (Tn (f:=f) (fs:=fs) (Fd hE F st1.old) F ht hi Y Z R a6 a7 IH (B:=B) (ps:=ps++[pB 142 I Al]) ⟨a,n,cap,st1.rebase⟩) ?_ ?_
 rotate_left
 ·intro x H7 h;exact h.from rfl st1.old fun k b=>b
 rintro _ H2 ⟨O,f1,r1,P,S,T,U,V,e1,e5,⟨B1,f3,rfl,s1,a1,⟨J,K,c,L⟩,gs⟩⟩;obtain⟨g1,c1,rfl⟩:=gs.fn;replace L:B_ B1 H2 H2 (sP s t O J K c os ps++[pB 142 I Al]):=L;refine Am (.agg Al.toArray) Al Dq rfl ?_;intro D H3 ap aq ab ae;have w:=L.box ap aq ab ae;rw[YaN]at w;replace w:B_ B1 H2 H3 (sP s t O J K c os ps++[pB 142 I Al,pB 142 D Al]):=w;refine Bw (cs:=Ab r1 (.func (.func g1) #[] c1)) w _ rfl (M_ _ _ 1) (by simp[Ab,Al]) rfl fun H4 m b0 b4=>?_;rw[X',C2 rfl]at m;replace m:B_ B1 H2 H4 (sP s t O J K c os ps++[pB 142 I Al,pB 142 D (Ab r1 (.func (.func g1) #[] c1))]):=m;have ah:C_ B H H4:=(st1.old.trans a1).trans fun k b=>m.old k (s1 k b);(conv=>whnf);refine EN.mk [] (fun _:Nat=>[]) (fun j G=>AltI B H s I D i t os ps f fs j G) (fun j _=>t.size-j) ?_ ?_
 ·(conv=>whnf);exact⟨O,rfl,⟨f1,r1,B1,.func (.func g1) #[] c1,J,K,c,P,S,T,U,by rw[P5,e1,a0,V];rfl,e5,s1,ah,m.rebase,gs.frame m.old fun k b=>b⟩⟩
 ·rintro j G az ⟨p,r,B2,f2,J,K,c,ai,hj,Q,W,hm,e4,E,ag,aj,gv⟩;obtain⟨q,u,rfl⟩:=gv.fn;clear st st1 L w m gs a8 ab a9 ae a1 ah s1;refine Aj.of (Ah (Fc (aj.blk 0 rfl)) fun G1 ar=>?_);have M:=aj.call ar;by_cases h0:j<t.size
  ·rw[j_ (show¬t.size≤j by omega)];have Q:bt t j=124∨bt t j=41:=Q.resolve_left (by omega);refine Aj.of (Ah (DC (M.blk 0 rfl) h0) fun G2 au=>?_);have N:=M.call au;(conv=>whnf);try (refine Bf.run ?_)
   (conv=>whnf);by_cases y:bt t j=124
   ·have d:(((bt t j:Nat):Int)==124)=true:=by rw[y];rfl
    (conv=>whnf);rw[d];refine f_ AK ?_;refine lT (v:=A_ j) E_ ((N.blk 0 rfl).ce rfl) ?_;(conv=>whnf);rw[W_ (x:=(j:Int)+1) (by omega)];refine f_ AK (Bh N 0 E_ rfl (by simp) rfl fun G3 l=>?_);replace l:B_ B2 G G3 (sP s t (j+1) J K c os ps++[pB 142 I Al,pB 142 D (Ab r (.func (.func q) #[] u))]):=l;have X:C_ B H G3:=ag.trans fun k b=>l.old k (E k b);have aw:=gv.frame l.old fun k b=>b;have z:Cb t ⟨i,f,fs⟩=Cb t ⟨j+1,CH p,fs⟩:=W.trans (Ey (s:=⟨j,p,fs⟩) h0 (Qe y));refine C3.held (fun k=>k=D) [4] (sq [0,1] (.f 2 (.f 3 (.f 4 .e)))) (Dz _ _) rfl (by kernel_rfl) (L_ (cs:=Ab r (.func (.func q) #[] u)) AX (Av (l.blk _ (M_ _ _ 1))) rfl (Aj.mk (Tn (f:=CH p) (fs:=fs) (Fd hE F X) (E _ F) ht (by omega) Y Z (Gi p).1 (Gi p).2.2.1 (Gi p).2.2.2 (fun i' b5=>IH i' (by omega)) (B:=B2) (ps:=ps++[pB 142 I Al,pB 142 D (Ab r (.func (.func q) #[] u))]) ⟨J,K,c,l.rebase⟩) ?_ ?_))
    rotate_left
    ·intro x H7 h;exact h.from z X E
    rintro _ G4 ⟨O,f1,r2,P,S,T,U,V,e1,e5,⟨B3,f3,rfl,s3,a3,⟨a4,n4,A,C⟩,gs⟩⟩;replace C:B_ B3 G4 G4 (sP s t O a4 n4 A os ps++[pB 142 I Al,pB 142 D (Ab r (.func (.func q) #[] u))]):=C;refine⟨fun k b=>by rw[show k=D from b];exact(C.blk _ (M_ _ _ 1)).trans (l.blk _ (M_ _ _ 1)).symm,?_⟩;have ax:C_ B H G4:=X.trans fun k b=>a3 k (E k b);refine Aj.of (Ae.mk (F3 .alt C (aw.frame a3 s3) gs) ?_);rintro _ G5 ⟨B5,f5,rfl,s5,a5,ak,gj⟩;refine⟨fun k b=>by rw[show k=D from b];exact(ak.blk _ (M_ _ _ 1)).trans (l.blk _ (M_ _ _ 1)).symm,?_⟩;obtain⟨g5,c5,rfl⟩:=gj.fn;refine Bw (cs:=Ab (opR .alt r r2) (.func (.func g5) #[] c5)) ak _ rfl (M_ _ _ 1) (by simp[Ab]) rfl fun G6 o b6 b7=>?_;rw[X']at o;have e6:Ai (Ab r (.func (.func q) #[] u)) 0 (Ab (opR .alt r r2) (.func (.func g5) #[] c5))=Ab (opR .alt r r2) (.func (.func g5) #[] c5):=C2 rfl;replace o:B_ B5 G5 G6 (sP s t O a4 n4 A os ps++[pB 142 I Al,pB 142 D (Ai (Ab r (.func (.func q) #[] u)) 0 (Ab (opR .alt r r2) (.func (.func g5) #[] c5)))]):=o;rw[e6]at o;have s6:∀k,B k→B5 k:=fun k b=>s5 k (s3 k (E k b));have ay:C_ B H G6:=(ax.trans (a5.mono fun k b=>C.up (s3 k (E k b)))).trans fun k b=>o.old k (s6 k b);(conv=>whnf);refine⟨rfl,O,rfl,⟨f1,opR .alt r r2,B5,.func (.func g5) #[] c5,a4,n4,A,by omega,S,T,z.trans U,by rw[P5,e1,hm,V];rfl,e5.trans ((Gi p).2.1.trans e4),s6,ay,o.rebase,gj.frame o.old fun k b=>b⟩,by omega⟩
   ·have d:(((bt t j:Nat):Int)==124)=false:=EV y;(conv=>whnf);rw[d];refine L_ (cs:=Ab r (.func (.func q) #[] u)) AX (Av (N.blk _ (M_ _ _ 1))) trivial (Bw (cs:=Ab r (.func (.func q) #[] u)) N _ rfl (M_ _ _ 0) (by simp[Ab,Al]) rfl fun G9 g ja js=>?_);rw[X',C2 rfl]at g;refine lN (cs:=Ab r (.func (.func q) #[] u)) AX (Av (g.blk _ (M_ _ _ 0))) ?_;exact⟨j,p,r,ai,hj,by omega,W,hm,e4,B2,_,rfl,E,ag.trans fun k b=>g.old k (E k b),⟨J,K,c,g.lft.rebase⟩,gv.frame g.old fun k b=>b⟩
  ·rw[n_ (show t.size≤j by omega)];refine L_ (cs:=Ab r (.func (.func q) #[] u)) AX (Av (M.blk _ (M_ _ _ 1))) trivial (Bw (cs:=Ab r (.func (.func q) #[] u)) M _ rfl (M_ _ _ 0) (by simp[Ab,Al]) rfl fun G9 g ja js=>?_);rw[X',C2 rfl]at g;refine lN (cs:=Ab r (.func (.func q) #[] u)) AX (Av (g.blk _ (M_ _ _ 0))) ?_;exact⟨j,p,r,ai,hj,by omega,W,hm,e4,B2,_,rfl,E,ag.trans fun k b=>g.old k (E k b),⟨J,K,c,g.lft.rebase⟩,gv.frame g.old fun k b=>b⟩
theorem V5{t:ByteArray}(g:t.size≤1048576):∀(n i:Nat),t.size-i≤n→i≤t.size→KJ t i
 | 0,i,hn,e=>fun B H s h ps f fs j a e b c k l m o sc=>Y9 j a g e b c k l m o (fun p q=>fun B H s h ps f fs _ _ d=>absurd d (by omega)) sc
 | n+1,i,hn,e=>fun B H s h ps f fs j a e b c k l m o sc=>Y9 j a g e b c k l m o (fun p q=>by
    by_cases r:p≤t.size
    ·exact V5 g n p (by omega) r
    ·exact fun B H s h ps f fs _ _ d=>absurd d (by omega)) sc
def PZ(q2 q3:Nat)(v:v_)(c e:Nat):List Pc:=[pB 28 q2 [v],pB 68 q3 (Ap c e)]
theorem W1{H:Aa}{a b:Nat}{K:Aa→Prop}(k:K H):Fh prog 71 #[U_ a,U_ b] .returning .returning H K:=by
 refine Fh.mk (R:=fun H'=>H'=H) (HP (R:=fun H'=>H'=H) func71 rfl ⟨⟨_,rfl⟩,rfl,rfl,rfl,rfl,rfl⟩ .ret rfl ?_) (fun H' h=>by rw[h];exact k);(conv=>whnf);refine⟨rfl,?_⟩;refine Rm underlying20 ?_;(conv=>whnf)
theorem W0{B:Nat→Prop}{H0 H:Aa}{a b c e c0 e0:Nat}{v:v_}{ps:List Pc}{K:Aa→Prop}(st:B_ B H0 H (PZ a b v c0 e0++ps))(k:∀H',B_ B H0 H' (PZ a b .nilIface c e++ps)→K H'):
  Fh prog 71 #[U_ a,U_ b] (.panicking (pe (En c e))) (.panicking [{v:=En c e,recovered:=true}]) H K:=by
 refine Fh.mk (R:=fun H'=>B_ B H0 H' (PZ a b .nilIface c e++ps)) (HP (R:=fun H'=>B_ B H0 H' (PZ a b .nilIface c e++ps)) func71 rfl ⟨⟨_,rfl⟩,rfl,rfl,rfl,rfl,rfl⟩ (.pan _) rfl ?_) k;(conv=>whnf);refine⟨rfl,?_⟩;refine Wn underlying20 (Aq.held (fun _=>False) 4 (sq [0,1] (.f 2 (.f 3 .e))) rfl (by kernel_rfl) (TR underlying68 (fun i h=>by cases h) (Bh st 0 E4 rfl (by simp) rfl fun H1 st1=>(⟨fun k g=>g.elim,?_⟩))));refine AN (cs:=Ap c e) st1 1 rfl rfl (I_ _) rfl fun H3 d=>(⟨fun k g=>g.elim,?_⟩);(conv=>whnf);have e2:Ai (Ap c0 e0) 0 (Ap c e)=Ap c e:=AH rfl;rw[e2]at d;exact d
def Me(t:ByteArray)(v:v_):Prop:=match CY t with
 | .inl (c,p)=>v= .tuple #[.nilIface,.agg #[A_ c,A_ p,.string ⟨#[]⟩]]
 | .inr r=>v= .tuple #[Ao r,.agg #[A_ 0,A_ 0,.string ⟨#[]⟩]]
theorem AcM:(prog.info? 68).bind (·.zero)=some (EQ 0 0):=by kernel_rfl
theorem Je{H:Aa}{b c e:Nat}(h:Q_ H b 68 (Ap c e)):Be H b 0 (Ap c e):=h.cells (fun j v a=>by rw[K_];exact a)
theorem W2{H:Aa}{t:ByteArray}(hE:EH H):Ak prog 33 #[.string t] H fun v H'=>C_ (H_ H) H H'∧Me t v:=by
 refine Ak.of_defer func33 rfl (call33 _) ⟨rfl,rfl,rfl,⟨_,rfl⟩,rfl,rfl⟩ (fun vs w=>call71 _ w) (Am .nilIface [.nilIface] rfl rfl ?_);intro Q H1 R S T U;have st1:=(St.nil H).box R S T U;refine Am (EQ 0 0) (Ap 0 0) AcM rfl ?_;intro V H2 W X Y Z;have b:=st1.box W X Y Z;replace b:B_ (H_ H) H H2 (PZ Q V .nilIface 0 0):=b;by_cases n:1048576<t.size
 ·have d1:decide (1048576<(t.size:Int))=true:=e_;(conv=>whnf);rw[d1];refine Ax underlying68 rfl _ rfl (Ap 1 0) rfl (Bh b 0 E4 rfl (by simp) rfl fun H3 a0=>(AN (cs:=Ap 1 0) a0 1 rfl rfl (I_ _) rfl fun H4 i=>?_));have e2:Ai (Ap 0 0) 0 (Ap 1 0)=Ap 1 0:=AH rfl;rw[e2]at i;refine lT (v:=.nilIface) E4 ((i.blk 0 rfl).ce rfl) ?_;refine L_ (cs:=Ap 1 0) N8 (Je (i.blk 1 rfl)) trivial (⟨i.old,?_⟩);unfold Me CY;rw[F_ n]<;>rfl
 ·have d1:decide (1048576<(t.size:Int))=false:=V_;have F:CY t=Cb t ⟨0,EB (-1),[]⟩:=by unfold CY;rw[D_ n]
  have q:∀{c p:Nat},Cb t ⟨0,EB (-1),[]⟩= .inl (c,(p:Int))→Me t (.tuple #[.nilIface,EQ c p]):=fun h=>by
   unfold Me;rw[F,h];rfl
  (conv=>whnf);rw[d1];(conv=>whnf);refine⟨rfl,?_⟩;refine Ax underlying139 rfl _ rfl (scL t 0 (.slice none 0 0)) rfl (Ct (scL t 0 (.slice none 0 0)) rfl ?_);intro s H3 a1 a3 a5 a6;have G:=((St.nil H2).box a1 a3 a5 a6).nils tPl 3;have u:C_ (H_ H2) H2 H3:=G.old;have y:EH H2:=Fd hE (B:=H_ H) hE.2 b.old;have a7:EH H3:=Fd y (B:=H_ H2) y.2 u;have z:∀{H4:Aa} {x:v_} (fr:Fr) (K:Aa→Prop),SE (H_ H2) H3 t ⟨0,EB (-1),[]⟩ x H4→(∀(c p:Nat) (H5:Aa),Me t (.tuple #[.nilIface,EQ c p])→B_ (H_ H) H H5 (PZ Q V .nilIface c p)→K H5)→
    Fh prog 71 #[U_ Q,U_ V] (.panicking (pe x)) (.panicking [{v:=x,recovered:=true}]) H4 K:=fun fr K ⟨c,p,h1,h2,h3⟩ k=>by
   subst h2;exact W0 (ps:=[]) (b.call (u.trans h3)) fun H5 d=>k c p H5 (q h1) d
  refine Aj.mk (V5 (by omega) t.size 0 (by omega) (by omega) (H_ H2) H3 s [] [] (EB (-1)) [] a7 y.2 (by omega) rfl (by decide) rfl rfl rfl rfl ⟨none,0,0,G.rebase⟩) ?_ ?_
  ·rintro _ H4 ⟨j,O,r,am,hj,I,J,a8,ao,⟨B1,f1,rfl,s1,a4,⟨a2,n2,o,i⟩,gv⟩⟩;obtain⟨g1,P,rfl⟩:=gv.fn;have a9:C_ (H_ H2) H2 H4:=u.trans a4;refine Am (.agg Al.toArray) Al Dq rfl ?_;intro q5 H5 ab ae ag ah;have d:=i.box ab ae ag ah;refine Bw (cs:=Ab r (.func (.func g1) #[] P)) d 2 rfl rfl (by simp[Ab,Al]) rfl fun H6 l ap aq=>?_;replace l:B_ B1 H4 H6 [pSc s t j (.slice a2 n2 o),pS tPl 3 a2 n2 o [],pB 142 q5 (Ai Al 0 (Ab r (.func (.func g1) #[] P)))]:=l;rw[C2 rfl]at l;have L:C_ (H_ H2) H2 H6:=a9.trans fun k A=>l.old k (s1 k A);refine Bf.run (Aj.of (Ah (Fc (l.blk 0 rfl)) fun H7 M=>?_));have m:=l.call M;have C:C_ (H_ H2) H2 H7:=L.trans (M.mono fun k A=>Ar L A);by_cases h0:j<t.size
   ·have ai:bt t j=41:=by rcases I with h | h;omega;exact h
    rw[j_ (show¬t.size≤j by omega)];refine f_ AK ?_;refine lT (v:=A_ j) E_ ((m.blk 0 rfl).ce rfl) ?_;refine Aj.mk (Df (c:=20) (e:=j)) (fun _ _ h=>h.elim) ?_;rintro _ _ ⟨rfl,rfl⟩;(conv=>whnf);refine W0 (ps:=[]) (b.call C) fun H8 f=>?_;refine lT (v:=.nilIface) E4 ((f.blk 0 rfl).ce rfl) ?_;refine lN (cs:=Ap 20 j) N8 (Je (f.blk 1 rfl)) ?_;exact⟨f.old,q (J.trans (EE (s:=⟨j,O,[]⟩) h0 (Ll ai)))⟩
   ·rw[n_ (show t.size≤j by omega)];have g:Cb t ⟨0,EB (-1),[]⟩=(if 2000<r.nodes then .inl (24,0)else .inr r):=by
     rw[J,O8 (s:=⟨j,O,[]⟩) h0];show(if 2000<((CH O).alt.getD .eps).nodes then Sum.inl (24,0)else Sum.inr ((CH O).alt.getD .eps))=_;rw[a8];rfl
    have k5:Q_ H7 q5 142 (Ab r (.func (.func g1) #[] P)):=m.blk 2 rfl;refine f_ MX ?_;refine G_ (v:=A_ ((S_ r:Nat):Int)) E_ (by rw[k5.cell];rfl) trivial ?_;by_cases hn:2000<r.nodes
    ·have d2:decide (2000<((S_ r:Nat):Int))=true:=n_ (by unfold S_;omega);rw[F_ hn]at g;have f:=b.call C;(conv=>whnf);rw[d2];refine Ax underlying68 rfl _ rfl (Ap 24 0) rfl (Bh f 0 E4 rfl (by simp) rfl fun H9 D=>(AN (cs:=Ap 24 0) D 1 rfl rfl (I_ _) rfl fun H10 a=>?_));have e2:Ai (Ap 0 0) 0 (Ap 24 0)=Ap 24 0:=AH rfl;rw[e2]at a;(conv=>whnf);refine W1 ?_;refine lT (v:=.nilIface) E4 ((a.blk 0 rfl).ce rfl) ?_;refine lN (cs:=Ap 24 0) N8 (Je (a.blk 1 rfl)) ?_;exact⟨a.old,q (c:=24) (p:=0) g⟩
    ·have d2:decide (2000<((S_ r:Nat):Int))=false:=j_ (by unfold S_;omega);rw[D_ hn]at g;(conv=>whnf);rw[d2];refine f_ MY ?_;refine G_ (v:=.func (.func g1) #[] P) VF (by rw[k5.cell];rfl) trivial ?_;have⟨g2,c2,aj,E⟩:=AgH (gv.frame m.old fun k A=>A) (fun k A=>m.up A);injection aj with hg1 hg2 hg3
     injection hg1 with hg1
     subst hg1 hg3;(conv=>whnf);rw[MO];refine Aj.of (Ah (E H7 (C_.refl _ _)) fun H8 ak=>?_);have f:=(b.call C).call ak;have⟨T1,v1,e1⟩:=Jl r;refine Ax underlying68 rfl _ rfl (Ap 0 0) rfl (Bh f 0 E4 rfl (by simp) (Gd r) fun H9 D=>(AN (cs:=Ap 0 0) D 1 rfl rfl (I_ _) rfl fun H10 a=>?_));have e2:Ai (Ap 0 0) 0 (Ap 0 0)=Ap 0 0:=AH rfl;rw[e2]at a;(conv=>whnf);refine W1 ?_;refine lT (v:=Ao r) E4 ((a.blk 0 rfl).ce rfl) ?_;refine L_ (cs:=Ap 0 0) N8 (Je (a.blk 1 rfl)) trivial (⟨a.old,?_⟩);unfold Me;rw[F,g];rfl
  ·intro x H4 h;(conv=>whnf);refine z [] _ h fun c p H5 N d=>?_;refine lT (v:=.nilIface) E4 ((d.blk 0 rfl).ce rfl) ?_;refine lN (cs:=Ap c p) N8 (Je (d.blk 1 rfl)) ?_;exact⟨d.old,N⟩
def M7(t:ByteArray)(f:AF):Prop:= -1≤f.place∧f.place≤(t.size:Int)
structure AbK(t:ByteArray)(s:RdS):Prop where
 f:M7 t s.f
 fs:∀g∈s.fs,M7 t g
def AfS(t:ByteArray)(c:Nat)(p:Int):Prop:=c≠0∧c≤30∧ -1≤p∧p≤(t.size:Int)+10
def QB(t:ByteArray):Sum (Nat×Int) ReM→Prop
 | .inl (c,p)=>AfS t c p
 | .inr r=>r.nodes≤2000
section
variable{t:ByteArray}
theorem AhQ{m i:Nat}{e:Nat×Nat}(h:upM t m i= .inl e):e.1=20∧e.2≤i+1:=by
 unfold upM at h;split at h
 ·split at h
  ·cases h
  ·split at h
   ·cases h
   ·cases h;exact⟨rfl,I_ _⟩
 ·cases h
theorem AcF{p m i:Nat}{n:Int}{e:Nat×Nat}(h:F0 t p m n i= .inl e):(e.1=20∧e.2=i)∨(e.1=22∧e.2=p):=by
 unfold F0 at h;split at h
 ·split at h
  ·cases h;exact .inr ⟨rfl,rfl⟩
  ·cases h
 ·cases h;exact .inl ⟨rfl,rfl⟩
theorem Uq{i:Nat}{e:Nat×Nat}(h:Cc t i= .inl e):e.1≠0∧e.1≤30∧e.2≤i+10:=by
 unfold Cc at h;split at h
 ·obtain⟨g,j,-⟩:=GT (t:=t) 3 (i+1) 0;generalize BV t 3 (i+1) 0=q at*;split at h
  ·rename_i e2 a;cases h;have:=AhQ a;refine⟨?_,?_,?_⟩<;>omega
  ·rename_i k b a;have c:b≤i+9:=by
    unfold upM at a;split at a
    ·split at a
     ·cases a;omega
     ·split at a
      ·obtain⟨l,m,-⟩:=GT (t:=t) 3 (q.2+1) 0;cases a;omega
      ·cases a
    ·cases a;omega
   rcases AcF h with⟨d,f⟩ | ⟨d,f⟩
   ·refine⟨?_,?_,?_⟩<;>omega
   ·refine⟨?_,?_,?_⟩<;>omega
 ·cases h;exact⟨show(20:Nat)≠0 by decide,show(20:Nat)≤30 by decide,show i+1≤i+10 by omega⟩
theorem Aa7{s:RdS}{e:Nat×Nat}(b:s.i<t.size)(h:Cm t s= .inl e):e.1≠0∧e.1≤30∧e.2≤t.size+10:=by
 have k:∀c:Nat,c≠0→c≤30→c≠0∧c≤30∧s.i≤t.size+10:=fun c d f=>⟨d,f,by omega⟩;unfold Cm at h;split at h
 ·split at h
  ·cases h;exact k 20 (by decide) (by decide)
  ·split at h
   ·rename_i e2 a;cases h;unfold EL at a;split at a
    ·cases a
    ·split at a
     ·cases a
     ·split at a
      ·cases a
      ·have:=Uq a;exact⟨this.1,this.2.1,by omega⟩
   ·cases h
 ·split at h
  ·cases h
  ·split at h
   ·cases h
   ·split at h
    ·split at h
     ·cases h;exact k 20 (by decide) (by decide)
     ·cases h
    ·split at h
     ·split at h
      ·cases h;exact k 23 (by decide) (by decide)
      ·cases h
     ·split at h
      ·rename_i e2 g;cases h;have:=OC g b;exact⟨show(10:Nat)≠0 by decide,show(10:Nat)≤30 by decide,by show e2≤_;omega⟩
      ·cases h
theorem Qc{f:AF}(h:M7 t f):M7 t (A7 f):=by unfold M7;rw[(GZ f).2.2.2];exact h
theorem AdX{f:AF}(h:M7 t f):M7 t (Cu f):=by unfold M7;rw[(DH f).2.1];exact h
theorem Aa3{f:AF}(h:M7 t f):M7 t (CH f):=by unfold M7;rw[(Gi f).2.1];exact h
theorem Aa8{s c:RdS}(e:s.i<t.size)(hs:AbK t s)(h:Cm t s= .inr c):AbK t c:=by
 unfold Cm at h;split at h
 ·split at h
  ·cases h
  ·split at h
   ·cases h
   ·cases h;exact⟨hs.f,hs.fs⟩
 ·split at h
  ·cases h;exact⟨Aa3 hs.f,hs.fs⟩
  ·split at h
   ·cases h;exact⟨AdX hs.f,hs.fs⟩
   ·split at h
    ·split at h
     ·cases h
     ·rename_i g r a;cases h;have:=hs.fs;rw[a]at this;exact⟨this g Yca,fun x d=>this x (YbY _ d)⟩
    ·split at h
     ·split at h
      ·cases h
      ·cases h;refine⟨⟨by show(-1:Int)≤(s.i:Int);omega,by show(s.i:Int)≤_;omega⟩,fun g b=>?_⟩;rcases YaP.1 b with rfl | b
       ·exact Qc hs.f
       ·exact hs.fs g b
     ·split at h
      ·cases h
      ·cases h;exact⟨Qc hs.f,hs.fs⟩
theorem W3{s:RdS}(hs:AbK t s):QB t (XE s):=by
 unfold XE;split
 ·show QB t (if _ then _ else _);split
  ·exact⟨by decide,by decide,by decide,by omega⟩
  ·rename_i h;show ReM.nodes _≤2000;omega
 ·have:=hs.f;unfold M7 at this;exact⟨by decide,by decide,this.1,by omega⟩
end
theorem Tr{t:ByteArray}:∀(n:Nat) (s:RdS),AbK t s→QB t (HF t n s)
 | 0,s,h=>W3 h
 | n+1,s,h=>by
   unfold HF;by_cases a:s.i<t.size
   ·rw[F_ a];cases b:Cm t s with
    | inl e=>
      have:=Aa7 a b;exact⟨this.1,this.2.1,by show(-1:Int)≤(e.2:Int);omega,by show(e.2:Int)≤_;omega⟩
    | inr c=>exact Tr n c (Aa8 a h b)
   ·rw[D_ a];exact W3 h
theorem Qa(t:ByteArray):QB t (CY t):=by
 unfold CY;split
 ·exact⟨by decide,by decide,by decide,by omega⟩
 ·exact Tr _ _ ⟨⟨by decide,by show(-1:Int)≤_;omega⟩,fun g a=>by cases a⟩
theorem XC{t:ByteArray}{c:Nat}{p:Int}(h:CY t= .inl (c,p)):p≤1048600:=by
 have a:=Qa t;rw[h]at a;obtain⟨-,-,-,b⟩:AfS t c p:=a;unfold CY at h;split at h
 ·cases h;decide
 ·omega
def fiL(c:Nat)(p:Int):List v_:=[A_ c,A_ p,.string ⟨#[]⟩]
def Ky(c:Nat)(p:Int):List Lit:=[.int .i64 (c:Int),.int .i64 p,.string []]
theorem VO{c:Nat}{p:Int}(b:c<9223372036854775808)(d:J' .i64 p):prog.keyLits 3 68 (fiL c p)=some (Ky c p):=by
 have e:prog.cellsOf 68=3:=by kernel_rfl
 have f:prog.cellsOf 24=1:=by kernel_rfl
 have g:prog.cellsOf 3=1:=by kernel_rfl
 have h:prog.cellsOf 9=1:=by kernel_rfl
 have a:(⟨#[]⟩:ByteArray).size≤maxLen:=t_ _;simp[Program.keyLits,underlying68,underlying24,underlying3,underlying9,e,f,g,h,fiL,Ky,a,Nj (BX b),Nj d]
theorem U4{c c':Nat}{p p':Int}:decide (c=c'∧p=p')=true↔Ky c p=Ky c' p':=by
 unfold Ky;rw[Zzj];constructor
 ·rintro⟨rfl,rfl⟩;rfl
 ·intro h;simp only[List.cons.injEq,Lit.int.injEq,true_and,and_true]at h;exact⟨by omega,by omega⟩
theorem Af8{c c':Nat}{p p':Int}(d:c<9223372036854775808)(e:J' .i64 p)(a:c'<9223372036854775808)(b:J' .i64 p'){x y:z_}{S:Nat→Prop}{H:Aa}{K:v_→Prop}(k:K (.bool (decide (c=c'∧p=p')))):
  AJ prog (do eqGuard .eql 68 x y (.agg (fiL c p).toArray) (.agg (fiL c' p').toArray);binOp .eql 68 (.agg (fiL c p).toArray) (.agg (fiL c' p').toArray)) S H K:=
 veq (m:=3) (la:=Ky c p) (lb:=Ky c' p') (by kernel_rfl) (by decide) (eqGuardType68) rfl rfl (VO d e) (VO a b) U4 k
def erI(bad:Bool):Int:=if bad then 30 else 0
def bdE(er:Bool)(n:Nat)(v sub:v_):List v_:=[A_ n,A_ 0,A_ 0,v,sub,A_ (erI er)]
section
variable{B:Nat→Prop}{H0 H:Aa}{rest:List Pc}{bb n:Nat}{v sub:v_}{er:Bool}
end
abbrev bdP(bb:Nat)(er:Bool)(n:Nat)(a:Option Addr)(c:Nat)(es:List Y')(rest:List Pc):List Pc:=pB tBd bb (bdE er n (.slice a es.length c) .nilFunc)::pS tEd 174 a es.length c es::rest
structure PartW(B:Nat→Prop)(H0:Aa)(bb:Nat)(er:Bool)(n:Nat)(es:List Y')(rest:List Pc)(r:ReM)(v:v_)(H':Aa):Prop where
 ex:∃(p q n':Nat) (es':List Y') (a':Option Addr) (c':Nat),v= .tuple #[A_ p,A_ q]∧p≤1000000∧q≤1000000∧n≤n'∧n'≤n+2*r.nodes∧es'.length≤es.length+4*r.nodes∧B_ B H0 H' (bdP bb (er|| !r.plain) n' a' c' es' rest)
theorem AcN:(prog.info? 68).bind (·.zero)=some (.agg (fiL 0 0).toArray):=by kernel_rfl
theorem AfG{H:Aa}{b c:Nat}{p:Int}(h:Q_ H b 68 (fiL c p)):Be H b 0 (fiL c p):=h.cells (fun j v a=>by rw[K_];exact a)
structure Ag0(t:ByteArray)(n:v_)(c:Nat)(p i:Int):Prop where
 ci:i=(c:Int)
 c30:c≤30
 pk:J' .i64 p
 z:c=0→p=0
 ok:i=0→∃r,CY t= .inr r∧r.nodes≤2000∧n=Ao r
theorem Ag0.dec{t:ByteArray}{n:v_}{c:Nat}{p i:Int}(h:Ag0 t n c p i):decide (c=0∧p=0)=(i==0):=by
 rw[h.ci];by_cases a:c=0
 ·rw[n_ ⟨a,h.z a⟩,a];rfl
 ·rw[j_ (fun k=>a k.1)];exact(beq_eq_false_iff_ne.2 (by omega)).symm
def Hj(S:Nat→Prop)(H:Aa)(t:ByteArray)(l:List v_):Prop:=match CY t with
 | .inl _=>True
 | .inr r=>∃ns Az,ReV S H (.agg l.toArray) ns ((Az:Nat):Int)∧BA ns r Az
theorem Hj.frame{S:Nat→Prop}{H H':Aa}{t:ByteArray}{l:List v_}(h:Hj S H t l)(k:C_ S H H'):Hj S H' t l:=by
 unfold Hj at*;cases a:CY t with
 | inl e=>trivial
 | inr r=>
   rw[a]at h;have⟨ns,Az,b,c⟩:=h;exact⟨ns,Az,b.frame k,c⟩
def XB(S:Nat→Prop)(t:ByteArray)(l:List v_):Pc:=⟨S,fun H=>Hj S H t l,fun h hp=>hp.frame h⟩
theorem Hj.tree{S:Nat→Prop}{H:Aa}{t:ByteArray}{l:List v_}{r:ReM}(h:Hj S H t l)(a:CY t= .inr r):∃ns Az,ReV S H (.agg l.toArray) ns ((Az:Nat):Int)∧BA ns r Az:=by
 unfold Hj at h;rw[a]at h;exact h
def AhX(t:ByteArray)(n:v_)(c:Nat)(p i:Int):Prop:=Ag0 t n c p i∧∀{H H':Aa} {v:v_},Hm t H v H'→∃l:List v_,v= .tuple #[.agg l.toArray,A_ i,A_ p]∧l.length=2∧l.all (·.oneCell')=true∧Hj (fun k=>H.size≤k∧k<H'.size) H' t l
theorem Aa1{t:ByteArray}{v:v_}(h:Me t v):∃n c p i,v= .tuple #[n,.agg (fiL c p).toArray]∧AhX t n c p i:=by
 have d:=Qa t;unfold Me at h;cases f:CY t with
 | inl e=>
   have⟨c,p⟩:=e;rw[f]at h d;obtain⟨q,s,A,B⟩:AfS t c p:=d;have o:=XC f;refine⟨.nilIface,c,p,(c:Int),h,⟨rfl,s,BP (by unfold AO;omega),fun l=>absurd l q,fun l=>absurd l (by omega)⟩,fun{H H' v} g=>?_⟩;unfold Hm at g;rw[f]at g;refine⟨s_,g,rfl,rfl,?_⟩;unfold Hj;rw[f];trivial
 | inr r=>
   rw[f]at h d;have u:r.nodes≤2000:=d;refine⟨Ao r,0,0,0,h,⟨rfl,by decide,BX (x:=0) (by decide),fun _=>rfl,fun _=>⟨r,f,u,rfl⟩⟩,fun{H H' v} g=>?_⟩;unfold Hm at g;rw[f]at g;obtain⟨ns,na,nc,Az,rfl,w,y,z,j⟩:=g;refine⟨reL (.slice na ns.length nc) ((Az:Nat):Int),rfl,rfl,rfl,?_⟩;unfold Hj;rw[f];obtain⟨a,cap,e,hs,-⟩:=j.view (S':=fun k=>H.size≤k∧k<H'.size) (fun b m=>j.lt m) (fun b m=>m.elim);injection e with e1 e2 e3
   subst e1;subst e3;exact⟨ns,Az,⟨by omega,na,nc,rfl,hs⟩,w⟩
end Go.Proofs.YtfbghcpdinlmcaaGreatDoor
namespace Go.VC
section
variable{α:Type}{T:Ty α}{B:Nat→Prop}{H0 H H1:Aa}{ps:List Pc}{e te:x_}{b:Nat}{w0:v_}{vs:List v_}{ss:Nat→Slot}{xs:List α}{v:v_}{j:Nat}
end
end Go.VC
namespace Go.VC
open Go.Lib Go.RowKit
abbrev Aa5:String:= "internal/strconv.uint64pow10"
def EM(P:w_)(H:Aa):Prop:=∀w:y_,w.heap=H→TabIs P w Aa5 .u64 pow10Tab
theorem WM{P:w_}{w w':y_}{a:String}{cs:Array v_}(h:w.var? P a=some cs)(e:C_ (H_ w.heap) w.heap w'.heap):w'.var? P a=some cs:=by
 unfold World.var? at*;cases d:P.globalNamed a with
 | none=>simp[d]at h
 | some g=>
   simp only[d,YbP]at h ⊢;have b:g<w.heap.size:=by
    rcases Nat.lt_or_ge g w.heap.size with c | c
    ·exact c
    ·rw[Array.getElem?_eq_none c]at h;simp at h
   rw[e g b];exact h
theorem EM.agr{P:w_}{H H':Aa}(h:EM P H)(a:C_ (H_ H) H H'):EM P H':=by
 intro w b;subst b;have:=h {w with heap:=H} rfl;exact WM (w:={w with heap:=H}) (w':=w) this a
structure Yp(P:w_)(f:FuncId)(e:x_):Prop where
 call:∀(args:Array v_) (w:y_),(callFunc f args).run P w= .ok (.enter f args) w
 run_:∀(B n:Nat) (i:Int) (sv:v_) (xs:List v_) (w:y_),-9223372036854775808≤i→i≤9223372036854775807→w.ownsRow B e 1 sv n xs→B≤w.heap.size→n+21≤140737488355328→TabBelow P B w Aa5 .u64 pow10Tab→
  Calls P f #[sv,A_ i,A_ 10] w fun e' w'=>∃v',e'= .returned v'∧w'.ownsRow B e 1 v' (n+(itoa i).length) (xs++Go.Lib.byteCells (itoa i))∧Below B w w'∧OthersKept e none w w'
abbrev tU8:Ty Int:=GB .u8
def I9(i:Int):List Int:=(itoa i).map fun b=>(b.toNat:Int)
theorem Zh(i:Int):(I9 i).length=(itoa i).length:=Z_ _
theorem Lm{S:Nat→Prop}{H:Aa}:∀{xs:List Int} {cs:List v_},tU8.reps S H cs xs→cs=xs.map (Value.int .u8)∧∀x∈xs,J' .u8 x
 | [],_,h=>by cases h;exact⟨rfl,fun x b=>by cases b⟩
 | x::xs,_,h=>by
   obtain⟨c,r,rfl,⟨rfl,d⟩,e⟩:=h;obtain⟨rfl,f⟩:=Lm e;refine⟨rfl,fun y a=>?_⟩;rcases YaP.1 a with rfl | a
   ·exact d
   ·exact f y a
theorem RQ{S:Nat→Prop}{H:Aa}:∀{xs:List Int},(∀x∈xs,J' .u8 x)→tU8.reps S H (xs.map (Value.int .u8)) xs
 | [],_=>rfl
 | x::xs,h=>⟨[.int .u8 x],xs.map (Value.int .u8),rfl,⟨rfl,h x (by simp)⟩,RQ fun y a=>h y (by simp[a])⟩
theorem Uy(i:Int):Go.Lib.byteCells (itoa i)=(I9 i).map (Value.int .u8):=by
 unfold Go.Lib.byteCells I9;rw[YcG];rfl
theorem AfC(b:UInt8):J' .u8 (b.toNat:Int):=K5 (UInt8.toNat_lt b)
theorem Ag3{P:w_}{f:FuncId}{H0 H:Aa}{e:x_}{a:Option Addr}{n cap:Nat}{xs:List Int}{i:Int}{K:v_→Aa→Prop}(S:Yp P f e)(st:St H0 H [pS tU8 e a n cap xs])(A:EM P H0)(h0: -9223372036854775808≤i)(T:i≤9223372036854775807)(U:xs.length+21≤140737488355328)
  (k:∀a' d H',St H0 H' [pS tU8 e a' (xs++I9 i).length d (xs++I9 i)]→K (.slice a' (xs++I9 i).length d) H'):Ae P f #[.slice a n cap,A_ i,A_ 10] H K:=by
 obtain⟨B,-⟩:=st.at_ 0 rfl;obtain⟨Z,⟨V,m⟩,r⟩:=B;obtain⟨rfl,C⟩:=Lm r;refine⟨fun w W=>⟨S.call _ w,?_⟩⟩;subst W;have X:n=xs.length:=by
  rcases m with⟨h,o⟩ | ⟨b,c,l,h,-⟩
  ·injection h with e1 e2 e3;omega
  ·injection h
 have D:w.ownsRow H0.size e 1 (.slice a n cap) xs.length (xs.map (Value.int .u8)):=by
  refine⟨by rw[Z_,L'],?_⟩;rcases m with⟨h,o⟩ | ⟨b,c,l,h,-,E,s,t,u,v⟩
  ·exact .inl ⟨h,o⟩
  ·have y:H0.size≤b:=by
    have:=(st.in_ 0 rfl (k:=b) (.inl ⟨0,n,cap,by rw[h];injection h with e1 e2 e3;subst e1;subst e2;subst e3;rfl⟩)).1;unfold H_ at this;omega
   exact .inr ⟨b,c,l.toArray,h,y,E,s,t,by rw[YbW];exact u,v⟩
 have F:TabBelow P H0.size w Aa5 .u64 pow10Tab:=fun p E=>(A.agr (st.old.trans (show C_ (H_ H0) w.heap p.heap from fun j M=>E.block j M))) p rfl;refine(S.run_ H0.size xs.length i _ _ w h0 T D (Bv st.old) U F).mono ?_;rintro _ p ⟨N,rfl,z,g,-⟩;have⟨G,I⟩:=z;have J:xs.length+(itoa i).length=(xs++I9 i).length:=by rw[J_,Zh]
 rw[J]at I G;have O:C_ (H_ H0) H0 p.heap:=st.old.trans (show C_ (H_ H0) w.heap p.heap from fun j M=>g.block j M);have q:tU8.reps none_ p.heap (xs.map (Value.int .u8)++Go.Lib.byteCells (itoa i)) (xs++I9 i):=by
  rw[Uy,←YcB];refine RQ fun x L=>?_;rcases q_.1 L with L | L
  ·exact C x L
  ·obtain⟨b,-,rfl⟩:=List.mem_map.1 L;exact AfC b
 have mk:∀a' d,N= .slice a' (xs++I9 i).length d→l_ tU8 none_ p.heap H0.size e N (xs++I9 i)→∃H',H'=p.heap∧St H0 H' [pS tU8 e a' (xs++I9 i).length d (xs++I9 i)]:=fun a' d Y hs=>by
  subst Y;refine⟨_,rfl,?_⟩;have⟨a2,c2,e2,Q⟩:=(St.nil H0).got O hs;injection e2 with e21 e22 e23
  subst e21;subst e23;exact Q
 have hs:l_ tU8 none_ p.heap H0.size e N (xs++I9 i):=by
  refine⟨_,⟨G,?_⟩,q⟩;rcases I with⟨h,o⟩ | ⟨b,c,l,h,y,E,s,t,u,v⟩
  ·exact .inl ⟨h,o⟩
  ·exact .inr ⟨b,c,l.toList,h,y,E,s,t,by rw[Array.length_toList];exact u,v⟩
 obtain⟨a',d,rfl⟩:=hs.hull;obtain⟨_,rfl,R⟩:=mk a' d rfl hs;exact⟨_,rfl,⟨g.os.symm ▸ rfl,g.tape.symm ▸ rfl,g.output.symm ▸ rfl⟩,k a' d _ R⟩
end Go.VC
namespace Go.Proofs.YtfbghcpdinlmcaaGreatDoor
open Go.VC
def Rp:Go.Shelf.Ren:=⟨fun | 176=>141 | 249=>182 | 288=>208 | 283=>225 | 284=>226 | 285=>227 | 286=>228 | 129=>207 | 317=>236 | 318=>237 | 319=>238 | 320=>239 | 337=>243 | 338=>244 | n=>n,fun | 37=>201 | 2=>2 | 3=>3 | 53=>99 | 4=>4 | 9=>9 | 171=>350 | 0=>0 | 173=>352 | 212=>362 | 51=>332 | 5=>5 | 20=>20 | 213=>363 | 46=>218 | 232=>367 | 233=>368 | n=>n,fun | 17=>1 | 18=>3 | 19=>4 | n=>n⟩
theorem ZF:Go.Proofs.LaysM.n176 prog Rp:={
 mixed:=by kernel_rfl
 f129:=func207.trans (congrArg some (by kernel_rfl))
 f176:=func141.trans (congrArg some (by kernel_rfl))
 f249:=func182.trans (congrArg some (by kernel_rfl))
 f283:=func225.trans (congrArg some (by kernel_rfl))
 f284:=func226.trans (congrArg some (by kernel_rfl))
 f285:=func227.trans (congrArg some (by kernel_rfl))
 f286:=func228.trans (congrArg some (by kernel_rfl))
 f288:=func208.trans (congrArg some (by kernel_rfl))
 f317:=func236.trans (congrArg some (by kernel_rfl))
 f318:=func237.trans (congrArg some (by kernel_rfl))
 f319:=func238.trans (congrArg some (by kernel_rfl))
 f320:=func239.trans (congrArg some (by kernel_rfl))
 f337:=func243.trans (congrArg some (by kernel_rfl))
 f338:=func244.trans (congrArg some (by kernel_rfl))
 t0:=underlying0
 a0:=isAgg0
 z0:=sizeOf0
 v0:=zeroValue0
 t2:=underlying2
 a2:=isAgg2
 z2:=sizeOf2
 v2:=zeroValue2
 t3:=underlying3
 a3:=isAgg3
 z3:=sizeOf3
 v3:=zeroValue3
 t4:=underlying4
 a4:=isAgg4
 z4:=sizeOf4
 v4:=zeroValue4
 t5:=underlying5
 a5:=isAgg5
 z5:=sizeOf5
 v5:=zeroValue5
 t9:=underlying9
 a9:=isAgg9
 z9:=sizeOf9
 v9:=zeroValue9
 t20:=underlying20
 a20:=isAgg20
 z20:=sizeOf20
 v20:=zeroValue20
 t37:=underlying201
 a37:=isAgg201
 z37:=sizeOf201
 v37:=zeroValue201
 t46:=underlying218
 a46:=isAgg218
 z46:=sizeOf218
 v46:=zeroValue218
 t51:=underlying332
 a51:=isAgg332
 z51:=sizeOf332
 v51:=zeroValue332
 t53:=underlying99
 a53:=isAgg99
 z53:=sizeOf99
 v53:=zeroValue99
 t171:=underlying350
 a171:=isAgg350
 z171:=sizeOf350
 v171:=zeroValue350
 t173:=underlying352
 a173:=isAgg352
 z173:=sizeOf352
 v173:=zeroValue352
 t212:=underlying362
 a212:=isAgg362
 z212:=sizeOf362
 v212:=zeroValue362
 t213:=underlying363
 a213:=isAgg363
 z213:=sizeOf363
 t232:=underlying367
 a232:=isAgg367
 z232:=sizeOf367
 v232:=zeroValue367
 t233:=underlying368
 a233:=isAgg368
 z233:=sizeOf368
 v233:=zeroValue368
 g17:=by kernel_rfl
 g18:=by kernel_rfl
 g19:=by kernel_rfl
 i0:=by kernel_rfl
 i2:=by kernel_rfl
 i3:=by kernel_rfl
 i4:=by kernel_rfl
 i5:=by kernel_rfl
 i9:=by kernel_rfl
 i20:=by kernel_rfl
 i37:=by kernel_rfl
 i46:=by kernel_rfl
 i51:=by kernel_rfl
 i53:=by kernel_rfl
 i171:=by kernel_rfl
 i173:=by kernel_rfl
 i212:=by kernel_rfl
 i232:=by kernel_rfl
 i233:=by kernel_rfl
 m17:=by kernel_rfl
 m18:=by kernel_rfl
 m19:=by kernel_rfl}
theorem QE:Yp prog 141 5 where
 call:=call141
 run_ B n i sv xs w h0 h1 hown hB hlim htab:=Go.Proofs.Any.strconv_AppendInt_10 ZF B n i h0 h1 sv xs w hown hB hlim htab
def AgL(i:Int):ByteArray:=⟨(Go.Lib.itoa i).toArray⟩
def Ea(q:Int):List Nat:=(Go.Lib.itoa q).map UInt8.toNat
theorem Zg(q:Int):I9 q=(Ea q).map fun(x:Nat)=>(x:Int):=by
 unfold I9 Ea;rw[YcG];rfl
def Mb(n:Nat)(l:List Nat):Nat:=l.foldl (fun n b=>10*n+(b-48)) n
theorem S8(u:Nat):(∀b∈(Go.Lib.decDigits u).map UInt8.toNat,48≤b∧b≤57)∧Mb 0 ((Go.Lib.decDigits u).map UInt8.toNat)=u:=by
 induction u using Nat.strongRecOn with
 | _ u ih=>
   rw[Go.Lib.decDigits];by_cases h:u<10
   ·rw[dif_pos h];have e:(UInt8.ofNat (48+u)).toNat=48+u:=by rw[UInt8.toNat_ofNat'];omega
    refine⟨fun b a=>?_,?_⟩
    ·simp only[YaV,Yc8,Y_,e]at a;omega
    ·simp only[YaV,Yc8,e,Mb,Yc1,Yc5];omega
   ·rw[dif_neg h];have⟨d,c⟩:=ih (u / 10) (by omega);have e:(UInt8.ofNat (48+u % 10)).toNat=48+u % 10:=by rw[UInt8.toNat_ofNat'];omega
    refine⟨fun b a=>?_,?_⟩
    ·rw[YcB,q_]at a;rcases a with a | a
     ·exact d b a
     ·simp only[YaV,Yc8,Y_,e]at a;omega
    ·unfold Mb at c ⊢;rw[YcB,Ybh,c];simp only[YaV,Yc8,e,Yc1,Yc5];omega
theorem MT{q:Int}(h:0≤q):Ea q=(Go.Lib.decDigits q.toNat).map UInt8.toNat:=by
 unfold Ea Go.Lib.itoa;rw[D_ (by omega)]
theorem HS{q:Int}(h:0≤q):∀b∈Ea q,48≤b∧b≤57:=by rw[MT h];exact(S8 _).1
theorem QX{q:Int}(h:0≤q):(Mb 0 (Ea q):Int)=q:=by rw[MT h,(S8 _).2];omega
theorem MR:∀(k u:Nat),u<10^(k+1)→(Go.Lib.decDigits u).length≤k+1
 | 0,u,h=>by
   rw[Go.Lib.decDigits,dif_pos (by simpa using h)];simp
 | k+1,u,h=>by
   rw[Go.Lib.decDigits];by_cases a:u<10
   ·rw[dif_pos a];simp
   ·rw[dif_neg a,J_];have:=MR k (u / 10) (by rw[Nat.div_lt_iff_lt_mul (by decide)];rw[Nat.pow_succ]at h;omega);simp only[b_,m_];omega
theorem QW{q:Int}(h:0≤q∧q<65536):(Ea q).length≤5:=by
 rw[MT h.1,Z_];exact MR 4 _ (by omega)
theorem Ab8:∀(l:List Nat) (n:Nat),(∀b∈l,48≤b)→n≤Mb n l
 | [],n,_=>I_ _
 | b::l,n,h=>by
   have a:=Ab8 l (10*n+(b-48)) fun x c=>h x (YbY _ c);unfold Mb at a ⊢;rw[Yc1];omega
theorem AeP{p r:List Nat}{q:Int}(h0:0≤q)(h:Ea q=p++r):(Mb 0 p:Int)≤q:=by
 have c:=HS h0;have a:=QX h0;rw[h]at c a;have d:=Ab8 r (Mb 0 p) fun b e=>(c b (Ycz _ e)).1;unfold Mb at a d ⊢;rw[Ybh]at a;omega
def Bq(l:List Int):List Nat:=l.flatMap fun q=>Ea q++[44]
theorem Oq(l:List Int)(q:Int):Bq (l++[q])=Bq l++Ea q++[44]:=by
 unfold Bq;rw[List.flatMap_append];simp
theorem ZO{l:List Int}(h:∀q∈l,0≤q∧q<65536):∀b∈Bq l,b<256:=by
 intro b a;have⟨q,c,a⟩:=List.mem_flatMap.1 a;rcases q_.1 a with a | a
 ·have:=HS (h q c).1 b a;omega
 ·rw[Y_]at a;omega
theorem JR:∀{l:List Int},(∀q∈l,0≤q∧q<65536)→(Bq l).length≤l.length*6
 | [],_=>t_ _
 | q::l,h=>by
   have c:=JR (l:=l) fun x a=>h x (YbY _ a);have d:=QW (h q (Yca ..));have b:Bq (q::l)=(Ea q++[44])++Bq l:=by unfold Bq;rw[Yc6]
   rw[b];simp only[J_,b_,m_];omega
def mst(s:List Int×Nat)(b:Nat):List Int×Nat:=if b=44 then(s.1++[(s.2:Int)],0)else(s.1,10*s.2+(b-48))
theorem Oo:∀(p:List Nat) (a:List Int) (n:Nat),(∀b∈p,48≤b∧b≤57)→p.foldl mst (a,n)=(a,Mb n p)
 | [],_,_,_=>rfl
 | b::p,a,n,h=>by
   have d:=h b (Yca ..);rw[Yc1,show mst (a,n) b=(a,10*n+(b-48)) by unfold mst;rw[D_ (by omega)],Oo p a _ fun x c=>h x (YbY _ c)];rfl
theorem Wt{q:Int}(h:0≤q)(a:List Int):(Ea q++[44]).foldl mst (a,0)=(a++[q],0):=by
 rw[Ybh,Oo _ _ _ (HS h)];show mst (a,Mb 0 (Ea q)) 44=_;unfold mst;rw[F_ rfl];simp only[QX h]
theorem Nl:∀(l:List Int) (a:List Int),(∀q∈l,0≤q)→(Bq l).foldl mst (a,0)=(a++l,0)
 | [],a,_=>by simp[Bq]
 | q::l,a,h=>by
   have b:Bq (q::l)=(Ea q++[44])++Bq l:=by unfold Bq;rw[Yc6]
   rw[b,Ybh,Wt (h q (Yca ..)),Nl l _ fun x c=>h x (YbY _ c)];simp
theorem ZP{l m:List Int}(b:∀q∈l,0≤q)(c:∀q∈m,0≤q)(h:Bq l=Bq m):l=m:=by
 have a:=Nl l [] b;rw[h,Nl m [] c]at a;simpa using a.symm
theorem Wu:∀(l:List Int) (a:List Int) (i:Nat),(∀q∈l,0≤q∧q<65536)→(((Bq l).take i).foldl mst (a,0)).2<65536∧∃k,k≤l.length∧(((Bq l).take i).foldl mst (a,0)).1=a++l.take k
 | [],a,i,_=>by simp[Bq]
 | q::l,a,i,h=>by
   have c:=h q (Yca ..);have d:Bq (q::l)=(Ea q++[44])++Bq l:=by unfold Bq;rw[Yc6]
   rw[d];by_cases f:i≤(Ea q).length
   ·have e:((Ea q++[44])++Bq l).take i=(Ea q).take i:=by
     rw[YaN,List.take_append_of_le_length f]
    rw[e,Oo _ _ _ fun b g=>HS c.1 b (List.mem_of_mem_take g)];have:=AeP c.1 (YcC i (Ea q)).symm;exact⟨by simp only;omega,0,t_ _,by simp⟩
   ·have e:((Ea q++[44])++Bq l).take i=(Ea q++[44])++(Bq l).take (i-(Ea q).length-1):=by
     rw[List.take_append,Yc2 (by simp only[J_,b_,m_];omega)];simp only[J_,b_,m_];rw[show i-((Ea q).length+(0+1))=i-(Ea q).length-1 by omega]
    rw[e,Ybh,Wt c.1];have⟨j,k,o,m⟩:=Wu l (a++[q]) (i-(Ea q).length-1) fun x n=>h x (YbY _ n);exact⟨j,k+1,by simp only[b_];omega,by rw[m];simp⟩
def nmB(l:List Int):ByteArray:=⟨((Bq l).map UInt8.ofNat).toArray⟩
theorem QP{l:List Nat}(h:∀x∈l,x<256):R_ ⟨(l.map UInt8.ofNat).toArray⟩=l:=by
 unfold R_;rw[YcG];refine(YcE fun x a=>?_).trans (List.map_id _);show(UInt8.ofNat x).toNat=x;rw[UInt8.toNat_ofNat'];exact Nat.mod_eq_of_lt (h x a)
theorem QO{l:List Int}(h:∀q∈l,0≤q∧q<65536):R_ (nmB l)=Bq l:=QP (ZO h)
theorem AdO{l m:List Int}(b:∀q∈l,0≤q∧q<65536)(c:∀q∈m,0≤q∧q<65536)(h:nmB l=nmB m):l=m:=by
 have:=congrArg R_ h;rw[QO b,QO c]at this;exact ZP (fun q a=>(b q a).1) (fun q a=>(c q a).1) this
theorem Tk{l:List Int}(h:∀q∈l,0≤q∧q<65536):(nmB l).size=(Bq l).length:=by
 rw[←MN,QO h]
section
variable{K:Type} [DecidableEq K]
def atF(most:Nat)(f:List K)(k:K):Option (List K×Nat):=match f.findIdx? (·=k)with
 | some i=>some (f,i)
 | none=>if f.length<most then some (f++[k],f.length)else none
def CQ(most:Nat)(step:K→Nat→K)(x:K)(s:Option (List K×List Nat))(b:Nat):Option (List K×List Nat):=
 s.bind fun p=>(atF most p.1 (step x b)).map fun r=>(r.1,p.2++[r.2])
def B8(most:Nat)(step:K→Nat→K)(bs:List Nat)(start:K):Nat→Option (List K×List (List Nat))
 | 0=>some ([start],[])
 | n+1=>(B8 most step bs start n).bind fun p=>match p.1[n]? with
   | none=>some p
   | some x=>(bs.foldl (CQ most step x) (some (p.1,[]))).map fun r=>(r.1,p.2++[r.2])
variable{most:Nat}{step:K→Nat→K}{bs:List Nat}{start:K}
theorem HG(x:K):∀l:List Nat,l.foldl (CQ most step x) none=none
 | []=>rfl
 | b::l=>by rw[Yc1];exact HG x l
theorem Sh{f f':List K}{k:K}{i:Nat}(h:atF most f k=some (f',i))(n:f.length≤most)(l:f.Nodup):f'[i]?=some k∧f'.length≤most∧f'.Nodup∧f <+: f':=by
 unfold atF at h;cases c:f.findIdx? (·=k)with
 | some j=>
   rw[c]at h;injection h with h
   injection h with h1 h2
   subst h1;subst h2;obtain⟨o,d,-⟩:=List.findIdx?_eq_some_iff_getElem.1 c;have d:f[j]=k:=by simpa using d
   exact⟨by rw[N' o,d],n,l,YcI _⟩
 | none=>
   rw[c]at h;simp only at h;split at h
   ·rename_i p;injection h with h
    injection h with h1 h2
    subst h1;subst h2;have g:k∉f:=fun q=>by
     have:=List.findIdx?_eq_none_iff.1 c k q;simp at this
    refine⟨by simp,by simp only[J_,b_,m_];omega,?_,List.prefix_append _ _⟩;rw[YcH];exact⟨l,by simp,fun a r b m=>by rw[Y_]at m;subst m;intro e;subst e;exact g r⟩
   ·cases h
omit [DecidableEq K]in
theorem ED{f f':List K}{i:Nat}{k:K}(h:f <+: f')(a:f[i]?=some k):f'[i]?=some k:=by
 obtain⟨t,rfl⟩:=h;rw[YaG (O_.1 a).1];exact a
structure N3(most:Nat)(step:K→Nat→K)(bs:List Nat)(start:K)(n:Nat)(f:List K)(rows:List (List Nat)):Prop where
 len:f.length≤most
 nd:f.Nodup
 zero:f[0]?=some start
 rl:rows.length=n
 cols:∀row∈rows,row.length=bs.length
 ok:∀(i k:Nat) (row:List Nat) (b t:Nat) (x:K),rows[i]?=some row→bs[k]?=some b→row[k]?=some t→f[i]?=some x→f[t]?=some (step x b)
theorem U6{f:List K}{x:K}(s:f.length≤most)(u:f.Nodup):∀(k:Nat),k≤bs.length→∀(f':List K) (row:List Nat),(bs.take k).foldl (CQ most step x) (some (f,[]))=some (f',row)→
  f'.length≤most∧f'.Nodup∧f <+: f'∧row.length=k∧∀(j b t:Nat),bs[j]?=some b→row[j]?=some t→f'[t]?=some (step x b):=by
 intro k
 induction k with
 | zero=>
   intro _ f' row h;simp only[Ybq,Yc5,AjR.injEq,Prod.mk.injEq]at h;obtain⟨rfl,rfl⟩:=h;exact⟨s,u,YcI _,rfl,fun j b t _ h=>by simp at h⟩
 | succ k v=>
   intro F f' row h;have⟨b,m⟩:=Ac (l:=bs) (k:=k) (by omega);rw[Af m,Ybh]at h;cases e:(bs.take k).foldl (CQ most step x) (some (f,[]))with
   | none=>rw[e]at h;cases h
   | some p=>
     have⟨n,w⟩:=p;have⟨y,z,A,o,B⟩:=v (by omega) n w e;rw[e]at h;simp only[Yc1,Yc5,CQ,YbP]at h;cases g:atF most n (step x b)with
     | none=>rw[g]at h;cases h
     | some r=>
       have⟨G,H⟩:=r;rw[g]at h;simp only[YcK,AjR.injEq,Prod.mk.injEq]at h;obtain⟨rfl,rfl⟩:=h;have⟨C,D,E,q⟩:=Sh g y z;refine⟨D,E,A.trans q,by simp[o],fun j c t d a=>?_⟩;by_cases I:j<k
       ·rw[YaG (by omega)]at a;exact ED q (B j c t d a)
       ·have i:=(O_.1 a).1;simp only[J_,b_,m_]at i;obtain rfl:j=k:=by omega
        rw[m]at d;injection d with d
        subst d;rw[YaE (by omega),o,Ycm]at a;simp only[YcA,AjR.injEq]at a;subst a;exact C
theorem Mo{f:List K}{x:K}(a:f.length≤most)(c:f.Nodup){f':List K}{row:List Nat}(h:bs.foldl (CQ most step x) (some (f,[]))=some (f',row)):
  f'.length≤most∧f'.Nodup∧f <+: f'∧row.length=bs.length∧∀(j b t:Nat),bs[j]?=some b→row[j]?=some t→f'[t]?=some (step x b):=
 U6 a c bs.length (I_ _) f' row (by rw[Yc0];exact h)
theorem Jt(z:1≤most):∀(n:Nat) (f:List K) (rows:List (List Nat)),B8 most step bs start n=some (f,rows)→(∀j,j<n→j<f.length)→N3 most step bs start n f rows
 | 0,f,rows,h,_=>by
   simp only[B8,AjR.injEq,Prod.mk.injEq]at h;obtain⟨rfl,rfl⟩:=h;exact⟨z,by simp,rfl,rfl,(fun row h=>by cases h),fun i k row b t x h=>by simp at h⟩
 | n+1,f,rows,h,hlt=>by
   simp only[B8]at h;cases s:B8 most step bs start n with
   | none=>rw[s]at h;cases h
   | some p=>
     have⟨o,d⟩:=p;rw[s]at h;simp only[YbP]at h;cases g:o[n]? with
     | none=>
       rw[g]at h;simp only[AjR.injEq,Prod.mk.injEq]at h;obtain⟨rfl,rfl⟩:=h;have:=hlt n (by omega);rw[List.getElem?_eq_none_iff]at g;omega
     | some x=>
       rw[g]at h;simp only at h;cases u:bs.foldl (CQ most step x) (some (o,[]))with
       | none=>rw[u]at h;cases h
       | some r=>
         have⟨G,row⟩:=r;rw[u]at h;simp only[YcK,AjR.injEq,Prod.mk.injEq]at h;obtain⟨rfl,rfl⟩:=h;have D:=(O_.1 g).1;have c:=Jt z n o d s fun j H=>by omega
         have⟨g1,g2,q,E,F⟩:=Mo c.len c.nd u;refine⟨g1,g2,ED q c.zero,by simp[c.rl],fun r a=>?_,fun i k r b t y e A B C=>?_⟩
         ·rcases q_.1 a with a | a
          ·exact c.cols r a
          ·rw[Y_]at a;subst a;exact E
         ·by_cases v:i<n
          ·rw[YaG (by rw[c.rl];exact v)]at e;have⟨I,m⟩:=Ac (l:=o) (k:=i) (by omega);have:=ED q m;rw[C]at this;injection this with this
           subst this;exact ED q (c.ok i k r b t y e A B m)
          ·have w:=(O_.1 e).1;simp only[J_,b_,m_,c.rl]at w;obtain rfl:i=n:=by omega
           rw[YaE (by rw[c.rl];exact I_ _),c.rl,Ycm]at e;simp only[YcA,AjR.injEq]at e;subst e;have:=ED q g;rw[C]at this;injection this with this
           subst this;exact F k b t A B
theorem OG{n:Nat}{f:List K}{rows:List (List Nat)}(h:B8 most step bs start n=some (f,rows))(c:f.length≤n):∀m,n≤m→B8 most step bs start m=some (f,rows):=by
 intro m d
 induction m with
 | zero=>obtain rfl:n=0:=by omega
         exact h
 | succ m a=>
   by_cases b:n=m+1
   ·subst b;exact h
   ·have:=a (by omega);simp only[B8,this,YbP];rw[YaL (by omega)]
theorem Vh{n:Nat}(h:B8 most step bs start n=none):∀m,n≤m→B8 most step bs start m=none:=by
 intro m c
 induction m with
 | zero=>obtain rfl:n=0:=by omega
         exact h
 | succ m a=>
   by_cases b:n=m+1
   ·subst b;exact h
   ·have:=a (by omega);simp only[B8,this,Option.bind_none]
def Fy(most:Nat)(step:K→Nat→K)(bs:List Nat)(start:K):Option (List K×List (List Nat)):=B8 most step bs start most
theorem L7{n:Nat}{f:List K}{rows:List (List Nat)}(h:B8 most step bs start n=some (f,rows))(a:f.length=n)(b:f.length≤most):Fy most step bs start=some (f,rows):=
 OG h (by omega) most (by omega)
theorem P9{n:Nat}(h:B8 most step bs start (n+1)=none)(a:n<most):Fy most step bs start=none:=Vh h most a
end
end Go.Proofs.YtfbghcpdinlmcaaGreatDoor
namespace Go.VC
section
variable{α:Type}{T:Ty α}{e te:x_}{nb:Nat}{vs:List v_}{xs:List (List α)}{B:Nat→Prop}{H0 H H1:Aa}{ps:List Pc}
theorem AeZ{P:w_}{j ty q by_ t f:Nat}{z:v_}{a:Option Addr}{n cap:Nat}{ds:List v_}{x:List α}{y:α}{K:v_→Aa→Prop}(st:B_ B H0 H ps)(i:Nat)(r:SlT P j e T.size by_ z)(o:ps[i]?=some (pT T e te nb vs xs))(p:vs[t]?=some (.slice a n cap))(s:xs[t]?=some x)
  (v:Be H q 0 ds) (w:T.rep none_ H ds y) (A:ds.all (·.oneCell')=true) (l:x.length+1≤34359738368) (hby:by_≤1024)
  (k:∀a' c H1,Mid T B H0 H H1 ps i e te nb vs xs t (.slice a' (x.length+1) c) (x++[y])→C_ (fun k=>k<H.size∧¬a_ (.slice a n cap) k) H H1→K (.slice a' (x.length+1) c) H1):BH P (Builtin.append_ #[j,j] ty [.slice a n cap,.slice (T_ q) 1 f].toArray) H K:=by
 have tab:=st.tab i o;have g:=tab.own t _ _ p s;refine Di (T:=T) (S:=none_) (lo:=nb+1) (ys:=[y]) r g tab.blk.lt (fun k C=>C.elim) v (Ty.reps_one w) rfl (fun u D=>Ybl.1 A u D) (by unfold maxLen;simp only[h_];omega) (by have:=Nat.mul_le_mul l hby;simp only[h_];omega) ?_;intro E H1 b d m h;obtain⟨a',c,rfl⟩:=b.hull;rw[J_,h_]at b h ⊢;exact k a' c H1 ⟨st,o,b,⟨_,p,d,h⟩,m⟩ d
theorem B_.rowNe(st:B_ B H0 H ps)(i:Nat)(b:ps[i]?=some (pT T e te nb vs xs)){t:Nat}{v:v_}{x:List α}(c:vs[t]?=some v)(d:xs[t]?=some x):¬a_ v nb:=fun h=>by
 have a:=(st.tab i b).own t _ _ c d;have:=(a.lt h).1;omega
end
end Go.VC
namespace Go.Proofs.YtfbghcpdinlmcaaGreatDoor
open Go.VC
section
variable{β:Type}
def grp(n:Nat)(key:Y'→Option (Nat×β))(l:List Y'):List (List β):=(Al1 n).map fun q=>l.filterMap fun e=>(key e).bind fun p=>if p.1=q then some p.2 else none
theorem D4(n:Nat)(a:Y'→Option (Nat×β))(l:List Y'):(grp n a l).length=n:=by simp[grp]
theorem HY{n q:Nat}(a:Y'→Option (Nat×β))(l:List Y')(h:q<n):(grp n a l)[q]?=some (l.filterMap fun e=>(a e).bind fun p=>if p.1=q then some p.2 else none):=by
 unfold grp;rw[o_,YaR h];rfl
theorem Ri(n:Nat)(a:Y'→Option (Nat×β)):grp n a []=AiJ n []:=by
 unfold grp;simp[List.map_const']
theorem Gl{n:Nat}{a:Y'→Option (Nat×β)}{l:List Y'}{e:Y'}(h:a e=none):grp n a (l++[e])=grp n a l:=by
 unfold grp;refine YcE fun q _=>?_;rw[YcD];simp[h]
theorem Oa{n q:Nat}{a:Y'→Option (Nat×β)}{l:List Y'}{e:Y'}{y:β}{row:List β}(h:a e=some (q,y))(c:(grp n a l)[q]?=some row):grp n a (l++[e])=(grp n a l).set q (row++[y]):=by
 have f:q<n:=by have:=(O_.1 c).1;rwa [D4]at this
 rw[HY a l f]at c;injection c with c
 apply YaJ;intro j;by_cases d:j<n
 ·rw[HY a _ d,YcD,List.getElem?_set,D4,HY a _ d];by_cases b:q=j
  ·subst b;rw[F_ rfl,F_ d,←c];simp[h]
  ·rw[D_ b];simp[h,b]
 ·rw[YaL (by rw[D4];omega),YaL (by rw[YaH,D4];omega)]
end
def Fs(a:N_):Nat:=if 0≤a.st∧a.st≤65536 then a.st.toNat else 0
theorem R5(a:N_):Fs a≤65536:=by unfold Fs;split<;>omega
theorem SN(a:N_)(q:Int):a.has q=(decide (0≤q)&&decide (q<(Fs a:Int))):=by
 rw[Bool.eq_iff_iff,N_.has_iff];unfold Fs;simp only[r_,Zzj];split<;>omega
def okE(a:N_)(e:Y'):Bool:=a.has e.fr&&a.has e.to
def keyS(a:N_)(e:Y'):Option (Nat×Int):=if okE a e&&e.sil then some (e.fr.toNat,e.to)else none
def K7(a:N_)(e:Y'):Option (Nat×Y'):=if okE a e&& !e.sil then some (e.fr.toNat,e)else none
def AhC(a:N_):List (List Int):=grp (Fs a) (keyS a) a.edges
def OU(a:N_):List (List Y'):=grp (Fs a) (K7 a) a.edges
abbrev tNt:x_:=172
def ntL(sv tv:v_)(n:Nat):List v_:=[sv,tv,A_ n]
def M6(S:Nat→Prop)(H:Aa)(v:v_)(a:N_):Prop:=∃nb sa sc ta tc,v= U_ nb∧S nb∧Be H nb 0 (ntL (.slice sa (Fs a) sc) (.slice ta (Fs a) tc) (Fs a))∧g_ (tSl u_) S H sa sc (AhC a)∧g_ (tSl tEd) S H ta tc (OU a)
theorem M6.frame{S:Nat→Prop}{H H':Aa}{v:v_}{a:N_}(h:M6 S H v a)(k:C_ S H H'):M6 S H' v a:=by
 have⟨nb,sa,sc,c,d,e,b,f,g,i⟩:=h;exact⟨nb,sa,sc,c,d,e,b,f.eq (k nb b),g.frame k,i.frame k⟩
theorem M6.mono{S S':Nat→Prop}{H:Aa}{v:v_}{a:N_}(h:M6 S H v a)(k:∀i,S i→S' i):M6 S' H v a:=by
 have⟨nb,sa,sc,b,c,d,e,f,g,j⟩:=h;exact⟨nb,sa,sc,b,c,d,k _ e,f,g.mono k,j.mono k⟩
theorem UO{H:Aa}{nb:Nat}{d e:v_}{a:N_}{q:Int}(h:Be H nb 0 (ntL d e (Fs a))):BM prog 88 #[U_ nb,A_ q] H (.bool (a.has q)):=by
 refine Ak.of_vc func88 rfl (call88 _) ?_;by_cases c:0≤q
 ·have b:decide ((0:Int)≤q)=true:=n_ c;(conv=>whnf);rw[b];refine fa Nb (G_ (v:=A_ (Fs a:Int)) E_ (h 2 _ rfl) trivial ?_);(conv=>whnf);exact⟨by rw[SN,b,Ya0],C_.refl _ _⟩
 ·have b:decide ((0:Int)≤q)=false:=j_ c;(conv=>whnf);rw[b];(conv=>whnf);exact⟨by rw[SN,b,Yaz],C_.refl _ _⟩
theorem nt_z:(prog.info? 172).bind (·.zero)=some (.agg #[.slice none 0 0,.slice none 0 0,A_ 0]):=rfl
theorem Ae5{S:Nat→Prop}{H:Aa}{v:v_}{a:N_}(hS:∀k,S k→k<H.size)(h:NfV S H v a):
  Ak prog 87 #[v] H fun r H'=>C_ (H_ H) H H'∧M6 (H_ H') H' r a:=by
 have hr:=h.1;have hl:=h.2.1;refine Ak.of_vc func87 rfl (call87 _) (R3 h fun ea ec ab h1=>?_);subst ab;intro p H1 hp ae ag ah;have st1:=(St.nil H).box hp ae ag ah;refine Ax underlying172 rfl _ nt_z (ntL (.slice none 0 0) (.slice none 0 0) 0) rfl (Ct (ntL (.slice none 0 0) (.slice none 0 0) 0) rfl ?_);intro nb H2 ai aj ak am;have I:=st1.box ai aj ak am;have Z:=R5 a;obtain⟨n,Q⟩:∃n,n=Fs a:=⟨_,rfl⟩;rw[←Q]at Z;have R:=I.blk 0 rfl;have w:∀c:Bool,c=(decide ((0:Int)≤a.st)&&decide (a.st≤65536))→(c=true→(n:Int)=a.st)∧(c=false→n=0):=by
  intro c hc;rw[hc,Q];unfold Fs;constructor
  ·intro h;simp only[r_,Zzj]at h;rw[F_ h];omega
  ·intro h;rw[D_ fun h2=>by simp[h2.1,h2.2]at h]
 (conv=>whnf);refine An.cut (α:=Unit) [] (fun _=>[]) (fun _ H3=>St H H3 [pB 76 p (nfL a (.slice ea a.edges.length ec)),pB tNt nb (ntL (.slice none 0 0) (.slice none 0 0) n)]) ?_ ?_
 ·refine fa E8 ?_;refine G_ (v:=A_ a.st) E_ (by rw[R.cell];rfl) trivial ?_;by_cases h0:0≤a.st
  ·have X:decide ((0:Int)≤a.st)=true:=n_ h0;(conv=>whnf);rw[X];refine fa E8 ?_;refine G_ (v:=A_ a.st) E_ (by rw[R.cell];rfl) trivial ?_;by_cases h6:a.st≤65536
   ·have d6:decide (a.st≤(65536:Int))=true:=n_ h6;have ao:(n:Int)=a.st:=(w true (by rw[X,d6];rfl)).1 rfl;(conv=>whnf);rw[d6];refine fa E8 ?_;refine G_ (v:=A_ a.st) E_ (by rw[R.cell];rfl) trivial ?_;refine fa Nb (Bh I 1 E_ rfl (show 2<3 by decide) rfl fun H3 J=>(⟨rfl,(),rfl,?_⟩));unfold ntL;rw[ao];exact J
   ·have d6:decide (a.st≤(65536:Int))=false:=j_ h6;obtain rfl:n=0:=(w false (by rw[X,d6];rfl)).2 rfl;(conv=>whnf);rw[d6];(conv=>whnf);exact⟨rfl,(),rfl,I⟩
  ·have X:decide ((0:Int)≤a.st)=false:=j_ h0;obtain rfl:n=0:=(w false (by rw[X];rfl)).2 rfl;(conv=>whnf);rw[X];(conv=>whnf);exact⟨rfl,(),rfl,I⟩
 ·rintro⟨⟩ H3 ap J;refine fa Nb ?_;refine lT (v:=A_ n) E_ ((J.blk 1 rfl).ce rfl) ?_;refine D3 EY rfl (by omega) (by omega) (by omega) (by omega) ?_;intro sb H4 aq ar a0 au;rw[U']at a0 ⊢;have aw:=J.tabNew u_ 3 aq ar a0 au;refine fa Na (Bh aw 1 M9 rfl (show 0<3 by decide) rfl fun H5 a1=>(fa Nb ?_));refine lT (v:=A_ n) E_ ((a1.blk 1 rfl).ce rfl) ?_;refine D3 TD rfl (by omega) (by omega) (by omega) (by omega) ?_;intro tb H6 ax ay a2 az;rw[U']at a2 ⊢;have b0:=a1.tabNew tEd 174 ax ay a2 az;refine fa KU (Bh b0 1 S6 rfl (show 1<3 by decide) rfl fun H7 a3=>?_);have b4:=a3.blk 0 rfl;refine fa ES ?_;refine G_ (v:=.slice ea a.edges.length ec) IW (by rw[b4.cell];rfl) trivial ?_;(conv=>whnf);refine A0.mk [40] (fun i:Nat=>[A_ i]) (fun i H8=>i≤a.edges.length∧∃vs vt,St H H8 [pB 76 p (nfL a (.slice ea a.edges.length ec)),pB tNt nb (ntL (.slice (T_ sb) n n) (.slice (T_ tb) n n) n),pT u_ 3 41 sb vs (grp n (keyS a) (a.edges.take i)),pT tEd 174 74 tb vt (grp n (K7 a) (a.edges.take i))]) (fun i _=>a.edges.length-i) ?_ ?_
  ·(conv=>whnf);refine⟨0,rfl,t_ _,AiJ n (.slice none 0 0),AiJ n (.slice none 0 0),?_⟩;rw[Ybq,Ri,Ri];exact a3
  ·rintro i H8 b5 ⟨hi,vs,vt,o⟩;refine AG.m2 (fun hz=>?_) (fun hz=>?_)
   ·have⟨e,he⟩:=Ac (l:=a.edges) (k:=i) (by omega);refine An.run (ixr (i:=i) Jx (h1.frame (o.old.mono hS)) he rfl ?_);rintro b6 o6 c6 bd b7 ⟨rfl,a4⟩;refine L_ (cs:=edL e) N6 b7 trivial (Am _ [A_ 0,A_ 0,.bool false,.int .u64 0,.int .u64 0,.int .u64 0,.int .u64 0] Kv rfl ?_);intro x H9 hx a5 a6 a7;have N:=o.box hx a5 a6 a7;refine AN (cs:=edL e) N 4 rfl rfl (I_ _) rfl fun H10 O=>?_;rw[Aw (show(edL e).length=7 from rfl)]at O;clear N a5 a6 a7;obtain⟨H9,rfl⟩:∃H9,H9=H10:=⟨_,rfl⟩;have K:=O;have hX:=K.blk 4 rfl;have u:Be H9 nb 0 (ntL (.slice (T_ sb) n n) (.slice (T_ tb) n n) (Fs a)):=by
     rw[←Q];exact(K.blk 1 rfl).cells fun j v L=>by rw[K_];exact L
    refine fa GN ?_;refine G_ (v:=A_ e.fr) E_ (by rw[hX.cell];rfl) trivial ?_;refine Ah (UO u) fun H14 P=>?_;have z:=K.call P;cases G:a.has e.fr with
    | false=>
      have k1:keyS a e=none:=by unfold keyS okE;rw[G,Yaz,Yaz];rfl
      have k2:K7 a e=none:=by unfold K7 okE;rw[G,Yaz,Yaz];rfl
      have g1:=Gl (n:=n) (l:=a.edges.take i) k1;have g2:=Gl (n:=n) (l:=a.edges.take i) k2;rw[←Af he]at g1 g2;(conv=>whnf);rw[P_ i (by omega)];refine⟨rfl,i+1,by simp,⟨by omega,vs,vt,?_⟩,by omega⟩;rw[g1,g2];exact z.pick [0,1,2,3] (by decide)
    | true=>
      refine fa JO ?_;refine lT (v:=A_ e.to) E_ ((z.blk 4 rfl).ce rfl) ?_;refine Ah (UO (u.eq (P nb (K.in_ 1 rfl rfl).2))) fun Hq a8=>?_;have d:=z.call a8;cases Y:a.has e.to with
      | false=>
        have k1:keyS a e=none:=by unfold keyS okE;rw[G,Y,Ycp,Yaz];rfl
        have k2:K7 a e=none:=by unfold K7 okE;rw[G,Y,Ycp,Yaz];rfl
        have g1:=Gl (n:=n) (l:=a.edges.take i) k1;have g2:=Gl (n:=n) (l:=a.edges.take i) k2;rw[←Af he]at g1 g2;(conv=>whnf);rw[P_ i (by omega)];refine⟨rfl,i+1,by simp,⟨by omega,vs,vt,?_⟩,by omega⟩;rw[g1,g2];exact d.pick [0,1,2,3] (by decide)
      | true=>
        have be:=N_.has_iff.1 G;have bf:0≤e.fr∧e.fr<(n:Int):=by
         have:=SN a e.fr;rw[G,←Q]at this;simpa using this.symm
        have bg:e.fr.toNat<n:=by omega
        refine fa VT ?_;refine lT (v:=.bool e.sil) ct4 ((d.blk 4 rfl).ce rfl) ?_;cases M:e.sil with
        | true=>
          (conv=>whnf);have⟨row,b⟩:=Ac (l:=grp n (keyS a) (a.edges.take i)) (k:=e.fr.toNat) (by rw[D4];omega);have b8:row.length≤i:=by
           rw[HY _ _ (show e.fr.toNat<n by omega)]at b;injection b with b
           rw[←b];exact Nat.le_trans (Yc9 _ _) (YcF _ _)
          obtain⟨ra,rc,m,-⟩:=d.row 2 rfl b;have T:=d.rowNe 2 rfl m b;have q:∀k,a_ (.slice ra row.length rc) k→(pT u_ 3 41 sb vs (grp n (keyS a) (a.edges.take i))).foot k:=fun k s=>.inr ⟨e.fr.toNat,_,m,s⟩;have d1:=d.apart2 (i:=1) (j:=2) rfl rfl (by decide);have d4:=d.apart2 (i:=4) (j:=2) rfl rfl (by decide);have qn:nb<Hq.size∧¬a_ (.slice ra row.length rc) nb:=⟨(d.in_ 1 rfl rfl).2,fun h=>d1 nb rfl (q nb h)⟩;have U:x<Hq.size∧¬a_ (.slice ra row.length rc) x:=⟨(d.in_ 4 rfl rfl).2,fun h=>d4 x rfl (q x h)⟩;have qt:sb<Hq.size∧¬a_ (.slice ra row.length rc) sb:=⟨(d.in_ 2 rfl (.inl rfl)).2,T⟩;have A:=d.blk 1 rfl;have t:=d.blk 4 rfl;refine Aq.heldZ (fun k=>k<Hq.size∧¬a_ (.slice ra row.length rc) k) [19] (sq [0,1,2,3,4,5,6,7,8,9,10,11,12,13,14,15] (.f 16 (.f 17 (sq [18] (.f 19 .e))))) rfl (by kernel_rfl) (fa Na ?_);refine G_ (v:=.slice (T_ sb) n n) M9 (by rw[A.cell];rfl) qn ?_;refine fa GN ?_;refine G_ (v:=A_ e.fr) E_ (by rw[t.cell];rfl) U ?_;refine fa Na ?_;refine G_ (v:=.slice (T_ sb) n n) M9 (by rw[A.cell];rfl) qn ?_;refine fa GN ?_;refine G_ (v:=A_ e.fr) E_ (by rw[t.cell];rfl) U ?_;refine ix EY (by omega) (by omega) (G_ FK (d.tcell 2 rfl m (by rw[K_,L'])) qt (fa JO ?_));refine G_ (v:=A_ e.to) E_ (by rw[t.cell];rfl) U ?_;refine Ay AU [A_ e.to] rfl rfl (by decide) (by decide) ?_;intro b9 H11 B a9 C g;have D:=d.skip B g;refine⟨g.mono fun k s=>by have:=s.1;omega,?_⟩;refine AeZ (ds:=[A_ e.to]) (y:=e.to) D 2 AU rfl m b (C.cells fun j v L=>by rw[K_];exact L) ⟨rfl,a4.2⟩ rfl (by omega) (by decide) fun wa wc H12 mid E=>?_;refine⟨(g.mono fun k s=>by have:=s.1;omega).trans (E.mono fun k s=>⟨by have:=s.1;omega,s.2⟩),?_⟩;refine ix EY (by omega) (by omega) (stT mid FK (by rw[K_,L']) fun H13 F=>?_);have V:keyS a e=some (e.fr.toNat,e.to):=by unfold keyS okE;rw[G,Y,M];rfl
          have W:K7 a e=none:=by unfold K7 okE;rw[G,Y,M];rfl
          have g1:=Oa V b;have g2:=Gl (n:=n) (l:=a.edges.take i) W;rw[←Af he]at g1 g2;(conv=>whnf);rw[P_ i (by omega)];refine⟨rfl,i+1,by simp,⟨by omega,vs.set e.fr.toNat (.slice wa (row.length+1) wc),vt,?_⟩,by omega⟩;rw[g1,g2];exact F.pick [0,1,2,3] (by decide)
        | false=>
          (conv=>whnf);have⟨row,b⟩:=Ac (l:=grp n (K7 a) (a.edges.take i)) (k:=e.fr.toNat) (by rw[D4];omega);have b8:row.length≤i:=by
           rw[HY _ _ (show e.fr.toNat<n by omega)]at b;injection b with b
           rw[←b];exact Nat.le_trans (Yc9 _ _) (YcF _ _)
          obtain⟨ra,rc,m,-⟩:=d.row 3 rfl b;have T:=d.rowNe 3 rfl m b;have q:∀k,a_ (.slice ra row.length rc) k→(pT tEd 174 74 tb vt (grp n (K7 a) (a.edges.take i))).foot k:=fun k s=>.inr ⟨e.fr.toNat,_,m,s⟩;have d1:=d.apart2 (i:=1) (j:=3) rfl rfl (by decide);have d4:=d.apart2 (i:=4) (j:=3) rfl rfl (by decide);have qn:nb<Hq.size∧¬a_ (.slice ra row.length rc) nb:=⟨(d.in_ 1 rfl rfl).2,fun h=>d1 nb rfl (q nb h)⟩;have U:x<Hq.size∧¬a_ (.slice ra row.length rc) x:=⟨(d.in_ 4 rfl rfl).2,fun h=>d4 x rfl (q x h)⟩;have qt:tb<Hq.size∧¬a_ (.slice ra row.length rc) tb:=⟨(d.in_ 3 rfl (.inl rfl)).2,T⟩;have A:=d.blk 1 rfl;have t:=d.blk 4 rfl;refine Aq.heldZ (fun k=>k<Hq.size∧¬a_ (.slice ra row.length rc) k) [18] (sq [0,1,2,3,4,5,6,7,8,9,10,11,12,13,14] (.f 15 (.f 16 (sq [17] (.f 18 .e))))) rfl (by kernel_rfl) (fa KU ?_);refine G_ (v:=.slice (T_ tb) n n) S6 (by rw[A.cell];rfl) qn ?_;refine fa GN ?_;refine G_ (v:=A_ e.fr) E_ (by rw[t.cell];rfl) U ?_;refine fa KU ?_;refine G_ (v:=.slice (T_ tb) n n) S6 (by rw[A.cell];rfl) qn ?_;refine fa GN ?_;refine G_ (v:=A_ e.fr) E_ (by rw[t.cell];rfl) U ?_;refine ix TD (by omega) (by omega) (G_ IW (d.tcell 3 rfl m (by rw[K_,L'])) qt ?_);refine L_ (cs:=edL e) N6 (t.cells fun j v L=>by rw[K_];exact L) U ?_;refine Ay Jx (edL e) rfl rfl (by decide) (by decide) ?_;intro b9 H11 B a9 C g;have D:=d.skip B g;refine⟨g.mono fun k s=>by have:=s.1;omega,?_⟩;refine AeZ (ds:=edL e) (y:=e) D 3 Jx rfl m b (C.cells fun j v L=>by rw[K_];exact L) ⟨rfl,a4⟩ (JL e) (by omega) (by decide) fun wa wc H12 mid E=>?_;refine⟨(g.mono fun k s=>by have:=s.1;omega).trans (E.mono fun k s=>⟨by have:=s.1;omega,s.2⟩),?_⟩;refine ix TD (by omega) (by omega) (stT mid IW (by rw[K_,L']) fun H13 F=>?_);have V:K7 a e=some (e.fr.toNat,e):=by unfold K7 okE;rw[G,Y,M];rfl
          have W:keyS a e=none:=by unfold keyS okE;rw[G,Y,M];rfl
          have g1:=Oa V b;have g2:=Gl (n:=n) (l:=a.edges.take i) W;rw[←Af he]at g1 g2;(conv=>whnf);rw[P_ i (by omega)];refine⟨rfl,i+1,by simp,⟨by omega,vs,vt.set e.fr.toNat (.slice wa (row.length+1) wc),?_⟩,by omega⟩;rw[g1,g2];exact F.pick [0,1,2,3] (by decide)
   ·obtain rfl:i=a.edges.length:=by omega
    rw[Yc0]at o;(conv=>whnf);refine⟨o.old,nb,some ⟨sb,0,none⟩,n,some ⟨tb,0,none⟩,n,rfl,(o.in_ 1 rfl rfl).2,?_,?_,?_⟩
    ·rw[←Q];exact(o.blk 1 rfl).cells fun j v L=>by rw[K_];exact L
    ·have:=o.tview 2 rfl (by rw[D4];unfold maxLen;omega);unfold AhC;rw[←Q];rw[D4]at this;exact this
    ·have:=o.tview 3 rfl (by rw[D4];unfold maxLen;omega);unfold OU;rw[←Q];rw[D4]at this;exact this
theorem Py{S:Nat→Prop}{H:Aa}:∀xs:List Bool,AQ.reps S H (xs.map Value.bool) xs
 | []=>rfl
 | x::xs=>⟨[.bool x],xs.map Value.bool,rfl,rfl,Py xs⟩
abbrev tI:Ty Int:=GB .i64
abbrev J9:Ty (List Int):=tSl tI
theorem AeD(ca na fa:Option Addr)(cc nc fc G:Nat)(cells:List (BitVec 256))(next:List (List Int))(S:Nat→Prop)(H:Aa)(hS:∀k,S k→k<H.size)
  (hc:g_ Cp S H ca cc cells) (hn:g_ J9 S H na nc next) (a8:G≤9223372036854775807):
  BM prog 115 #[.slice ca cells.length cc,.slice na next.length nc,.slice fa G fc] H (.bool (Bk cells next G)):=by
 have lc:=hc.le;have ln:=hn.le;unfold maxLen at lc ln;refine Ak.of_vc func115 rfl (call115 _) (Am (Bt 0) (Ad 0) rfl rfl ?_);intro p H1 hp a9 P Q;(conv=>whnf);refine A0.mk [16] (fun k:Nat=>[A_ k]) (fun k H2=>k≤cells.length∧C_ (H_ H) H H2∧p<H2.size∧∃a,DV 0#256 (cells.take k)=some a∧Q_ H2 p 101 (Ad a)) (fun k _=>cells.length-k) ?_ ?_
 ·(conv=>whnf);exact⟨0,rfl,by omega,Q.mono (fun k s=>by unfold H_ at s;omega),by omega,0,rfl,P⟩
 ·rintro k H2 a6 ⟨s,B,R,a,g,J⟩;(conv=>whnf);refine AG.m2 (fun h=>?_) (fun h=>?_)
  ·have⟨c,C⟩:=Ac (l:=cells) (k:=k) (by omega);refine ixr C0 (hc.frame (B.mono hS)) C rfl ?_;rintro b o cs T i rfl;refine L_ (cs:=Ad c) AT i trivial (Am (Bt 0) (Ad 0) rfl rfl ?_);intro q H3 N ab U K;refine stN rfl U (show 0+4≤4 by decide) rfl ?_;intro H4 V L ae;have y:Q_ H4 q 101 (Ad c):=V;have z:Q_ H4 p 101 (Ad a):=(J.agr K (show p<q by omega)).agr L (show p≠q by omega);refine L_ (cs:=Ad a) AT (z.cells (fun j v u=>by simpa using u)) trivial (L_ (cs:=Ad c) AT (y.cells (fun j v u=>by simpa using u)) trivial (Ah (UL a c H4) ?_));intro H5 d;refine Cz Ch (Bt 0) rfl (Ad 0) rfl (Nr (a &&& c) 0#256 ?_);have hA:C_ (H_ H) H H5:=(B.trans ((K.mono (fun k s=>by unfold H_ at s;omega)).trans (L.mono (fun k s=>by unfold H_ at s;omega)))).trans (d.mono (fun k s=>by unfold H_ at*;omega));by_cases O:a &&& c=0#256
   ·rw[show decide (a &&& c=0#256)=true by simpa using O];have D:=z.agr d (show p<H4.size by omega);have M:=y.agr d (show q<H4.size by omega);refine L_ (cs:=Ad a) AT (D.cells (fun j v u=>by simpa using u)) trivial (L_ (cs:=Ad c) AT (M.cells (fun j v u=>by simpa using u)) trivial (Ah (FY a c H5) ?_));intro H6 E;refine stN rfl (D.agr E D.lt) (show 0+4≤4 by decide) rfl ?_;intro H7 W X ag;(conv=>whnf);rw[P_ k (by omega)];have ah:=Bv E;have ai:=Bv d;refine⟨rfl,k+1,by simp,⟨by omega,?_,by omega,a ||| c,?_,W⟩,by omega⟩
    ·exact(hA.trans (E.mono (fun k s=>by unfold H_ at*;omega))).trans (X.mono (fun k s=>by unfold H_ at s;omega))
    ·rw[Af C,Mj g,F_ O]
   ·rw[show decide (a &&& c=0#256)=false by simpa using O];(conv=>whnf);refine⟨?_,hA⟩;have:DV 0#256 cells=none:=by
     rw[←YcC (k+1) cells,Kd,Af C,Mj g,D_ O]<;>rfl
    simp[Bk,this]
  ·have Y:k=cells.length:=by omega
   subst Y;rw[Yc0]at g;(conv=>whnf);refine Aq.quiet (H_ H2) rfl (by kernel_rfl) ?_;have f:∀{H':Aa},C_ (H_ H2) H2 H'→C_ (fun k=>k<H.size) H H':=fun h=>B.trans (h.mono (fun k s=>by unfold H_ at*;omega));refine L_ (cs:=Ad a) AT (J.cells (fun j v u=>by simpa using u)) R (Aj6 (fun H' _=>F5 0 255 (by decide) (by decide) H') (Nr a (AC 0 255) ?_));rw[It];refine AG.mk (fun I=>?_) (fun I=>?_)<;>simp only[Yax,Bool.not_eq_false',Zzj,Zzi]at I
   ·(conv=>whnf);intro H5 d;(conv=>whnf);exact⟨by
     have e:(a==Al7 256)=false:=beq_eq_false_iff_ne.2 I;rw[Bk,g];simp only[e,Yaz],f d⟩
   refine AG.m2 (fun Z=>?_) (fun Z=>?_)
   ·(conv=>whnf);intro H5 d;(conv=>whnf);exact⟨by simp[Bk,g,show¬1≤next.length by omega],f d⟩
   refine AG.m2 (fun h3=>?_) (fun h3=>?_)
   ·(conv=>whnf);intro H5 d;(conv=>whnf);exact⟨by simp[Bk,g,show¬next.length≤65536 by omega],f d⟩
   (conv=>whnf);intro H5 d;refine AG.mk (fun h4=>?_) (fun h4=>?_)<;>simp only[bne_iff_ne,ne_eq,bne_eq_false_iff_eq]at h4
   ·(conv=>whnf);exact⟨by simp[Bk,g,show¬next.length=G by omega],f d⟩
   have a0:next.length=G:=by omega
   have w:Bk cells next G=next.all (GV next.length cells.length):=by
    have e:(a==Al7 256)=true:=beq_iff_eq.2 I;rw[Bk,g];simp only[e,n_ (show 1≤next.length by omega),n_ (show next.length≤65536 by omega),beq_iff_eq.2 a0,Bool.and_self,Ya0]
   rw[w];have F:∀{k:Nat} {row:List Int},next[k]?=some row→GV next.length cells.length row=false→next.all (GV next.length cells.length)=false:=by
    intro k row I Z;rw[Yc7];exact⟨row,c_ I,by simp[Z]⟩
   have a1:=hn.frame ((f d).mono hS);(conv=>whnf);refine A0.mk [51] (fun k:Nat=>[A_ k]) (fun k H'=>H'=H5∧k≤next.length∧(next.take k).all (GV next.length cells.length)=true) (fun k _=>next.length-k) ?_ ?_
   ·(conv=>whnf);exact⟨0,rfl,rfl,by omega,rfl⟩
   ·rintro k H6 a2 ⟨rfl,aj,n⟩;(conv=>whnf);refine AG.m2 (fun h=>?_) (fun h=>?_)
    ·have⟨row,m⟩:=Ac (l:=next) (k:=k) (by omega);refine ixr EY a1 m rfl ?_;rintro b o cs T i ⟨ra,rc,rfl,hr⟩;have lr:=hr.le;unfold maxLen at lr;refine lT FK i.one ?_;refine AG.mk (fun h5=>?_) (fun h5=>?_)<;>simp only[bne_iff_ne,ne_eq,bne_eq_false_iff_eq]at h5
     ·(conv=>whnf);exact⟨by rw[F m (by simp[GV];intro h;omega)],f d⟩
     (conv=>whnf);refine A0.mk [62] (fun j:Nat=>[A_ j]) (fun j H'=>H'=H6∧j≤row.length∧(row.take j).all (fun q=>decide (0≤q)&&decide (q<(next.length:Int)))=true) (fun j _=>row.length-j) ?_ ?_
     ·(conv=>whnf);exact⟨0,rfl,rfl,by omega,rfl⟩
     ·rintro j H7 a3 ⟨rfl,hj,r⟩;(conv=>whnf);refine AG.m2 (fun h=>?_) (fun h=>?_)
      ·have⟨q,N⟩:=Ac (l:=row) (k:=j) (by omega);have A:¬(0≤q∧q<(next.length:Int))→GV next.length cells.length row=false:=by
        intro hb;have:(row.all fun q=>decide (0≤q)&&decide (q<(next.length:Int)))=false:=by
         rw[Yc7];exact⟨q,c_ N,by simpa using hb⟩
        simp only[GV,this,Ycp]
       refine ixr AU hr N rfl ?_;rintro b2 o2 ak a7 t ⟨rfl,am⟩;refine lT E_ t.one ?_;refine AG.m2 (fun h6=>?_) (fun h6=>?_)
       ·(conv=>whnf);exact⟨by rw[F m (A (by omega))],f d⟩
       refine AG.m2 (fun h7=>?_) (fun h7=>?_)
       ·(conv=>whnf);exact⟨by rw[F m (A (by omega))],f d⟩
       (conv=>whnf);rw[P_ j (by omega)];refine⟨rfl,j+1,by simp,⟨rfl,by omega,?_⟩,by omega⟩;rw[Af N,Ych,r];simp;omega
      ·have a4:j=row.length:=by omega
       subst a4;rw[Yc0]at r;(conv=>whnf);rw[P_ k (by omega)];refine⟨rfl,k+1,by simp,⟨rfl,by omega,?_⟩,by omega⟩;rw[Af m,Ych,n];simp only[List.all_cons,List.all_nil,Bool.and_true,Ya0,GV,r,beq_iff_eq];omega
    ·have a5:k=next.length:=by omega
     subst a5;rw[Yc0]at n;(conv=>whnf);exact⟨by rw[n],f d⟩
theorem AbP(na:Option Addr)(nc c d m:Nat)(next:List (List Int))(S:Nat→Prop)(H:Aa)(r:g_ J9 S H na nc next)(A:∀row∈next,row.length=m)(I:c<m)(J:d<m)(s:m≤9223372036854775807):
  BM prog 163 #[.slice na next.length nc,A_ c,A_ d] H (.bool (EO next c d)):=by
 have B:=r.le;unfold maxLen at B;refine Ak.of_vc func163 rfl (call163 _) ?_;refine AG.mk (fun h=>?_) (fun h=>?_)<;>simp only[beq_iff_eq,beq_eq_false_iff_ne,Int.natCast_inj,ne_eq]at h
 ·(conv=>whnf);exact⟨by simp[EO,h],C_.refl _ _⟩
 have j:(c==d)=false:=by simpa using h
 (conv=>whnf);refine A0.mk [14] (fun k:Nat=>[A_ k]) (fun k H'=>H'=H∧k≤next.length∧(next.take k).all (fun row=>row[c]?==row[d]?)=true) (fun k _=>next.length-k) ?_ ?_
 ·(conv=>whnf);exact⟨0,rfl,rfl,by omega,rfl⟩
 ·rintro k H1 t ⟨rfl,K,e⟩;refine AG.m2 (fun h=>?_) (fun h=>?_)
  ·have⟨row,a⟩:=Ac (l:=next) (k:=k) (by omega);have u:=A row (c_ a);refine ixr EY r a rfl ?_;rintro b o L C i ⟨ra,rc,rfl,v⟩;refine G_ FK i.one trivial (Aq.lex rfl (by kernel_rfl) ?_);have⟨x,n⟩:=Ac (l:=row) (k:=c) (by omega);have⟨y,p⟩:=Ac (l:=row) (k:=d) (by omega);refine ixr AU v n rfl ?_;rintro M N D w f ⟨rfl,E⟩;refine G_ E_ f.one trivial (ixr AU v p rfl ?_);rintro O P F z g ⟨rfl,G⟩;refine lT E_ g.one ?_;refine AG.mk (fun h=>?_) (fun h=>?_)<;>simp only[bne_iff_ne,ne_eq,bne_eq_false_iff_eq]at h
   ·(conv=>whnf);refine⟨?_,C_.refl _ _⟩;have:(next.all fun row=>row[c]?==row[d]?)=false:=by
     rw[Yc7];exact⟨row,c_ a,by simp[n,p,h]⟩
    simp only[EO,j,this,Bool.or_false]
   ·(conv=>whnf);rw[P_ k (by omega)];refine⟨rfl,k+1,by simp,⟨rfl,by omega,?_⟩,by omega⟩;rw[Af a,Ych,e];simp[n,p,h]
  ·have q:k=next.length:=by omega
   subst q;rw[Yc0]at e;(conv=>whnf);exact⟨by simp only[EO,j,e,Bool.false_or],C_.refl _ _⟩
end Go.Proofs.YtfbghcpdinlmcaaGreatDoor
