/- An act of the law's on the program's store. -/
import Derived.Test.YtmgmfnimaafkdaaGreatDoorVO
namespace Go.Proofs.YtmgmfnimaafkdaaGreatDoor
set_option maxRecDepth 100000
set_option maxHeartbeats 0
open Go.RowKit Go.Maps
open Tryz
section
open Go.Shelf Go.Sort
def LY(p v:Value):Sem Unit:=Instr.storeAt 241 p v
theorem M6(p v:Value):Instr.storeAt 241 p v=LY p v:=rfl
variable {cs:Array Value} {g:Nat} {w:World}
theorem Fz{v:Array Value}(hk:Qh w g 241 cs)(hs:cs.size=2)(hv:v.size=2)(h1:v.all (·.oneCell')=true):(LY (.pointer (some ⟨g,0,none⟩)) (.agg v)).run prog w=.ok () (w.setRow g v):=by
 have:=run_storeVar_row (P:=prog) w g 241 241 cs v hk (by rw[hv];exact Wu) (by omega) h1;simp only[LY,Instr.storeAt,Instr.sureAddr,Sem.run_bind,Sem.run_pure,Result.andThen_ok,this]
theorem Fu(x:V4)(l:List V4):(l.foldl (KK x) ([],false)).1.length≤2*l.length:=by
 have:∀(l:List V4)(q:List V4 × Bool),(l.foldl (KK x) q).1.length≤q.1.length+2*l.length:=by
  intro l
  induction l with
  |nil=>intro q;simp
  |cons a l ih=>
   intro q;rw[List.foldl_cons,List.length_cons];have h1:=ih (KK x q a);have h2:(KK x q a).1.length≤q.1.length+2:=by
    unfold KK;split<;>simp
   omega
 simpa using this l ([],false)
theorem Nq{x y:V4}:∀{l:List V4},y∈ZM x l→y=x∨y∈l
 |[],h=>by unfold ZM at h;rw[List.mem_singleton]at h;exact .inl h
 |z::l,h=>by
  unfold ZM at h;split at h
  ·rcases List.mem_cons.1 h with h|h
   ·exact .inl h
   exact .inr h
  rcases List.mem_cons.1 h with h|h
  ·exact .inr (by rw[h];simp)
  rcases Nq h with h|h
  ·exact .inl h
  exact .inr (by simp[h])
theorem Mt(x:V4):∀l:List V4,(ZM x l).length=l.length+1
 |[]=>rfl
 |z::l=>by
  unfold ZM;split
  ·rfl
  rw[List.length_cons,Mt x l,List.length_cons]
theorem Du(r:QH)(h:r.VB=r.ep):({ r with VB:=r.ep,QA:=r.QA }:QH)=r:=by
 cases r;simp only at h;subst h;rfl
theorem Lg(base M lo:Nat)(F:List Bool)(n:Nat):∃er at' ln F',(∀w w' e,Zm w w' base M lo F n e→e=.returned (.tuple #[.agg #[.int .i64 (at':Nat),.int .i64 (ln:Nat)],.int .i64 (er:Nat)])∧Kr w' M lo F'∧Qd base [236] w w')∧((er=5∧F'=F∧Yb F n=none)∨(er=0∧∃a,Yb F n=some a∧at'=lo+a∧ln=n∧F'=Vo F a false n)):=by
 cases ht:Yb F n with
 |none=>
  refine⟨5,0,0,F,fun w w' e h=> ?_,.inl ⟨rfl,rfl,rfl⟩⟩;unfold Zm at h;rw[ht]at h;exact h
 |some a=>
  refine⟨0,lo+a,n,Vo F a false n,fun w w' e h=> ?_,.inr ⟨rfl,a,rfl,rfl,rfl,rfl⟩⟩;unfold Zm at h;rw[ht]at h;exact h
section
attribute [local go_sem ↓] VC VF M6
variable {F:List Bool} {base lo:Nat} {r:QH}
theorem FU{m:JM}(h:JN w r m)(hF:Kr w m.M lo F)(ok:Ya r)(lk:XV r)(wk:U4 r lo F)(hbM:base≤m.M)(hbw:base≤w.heap.size)(hnS:r.Qc.length≤100000)(hep:r.ep<1099511627776)(hpu:r.QA<1048575)(hsz:19≤r.size∧r.size≤4096)(n:Qj)(hn:ZX n.1∧ZX n.2)(b:List UInt8)(A:Option Addr)(c:Nat)(aR:Kb w A b)(hbl:b.length≤4194304):
  Calls prog 78 #[.agg (Qr r m),QZ n,.slice A b.length c] w fun e w'=>Zd w w' base lo m (Il lo r F n b) e:=by
 obtain⟨n1,n2⟩:=n;obtain⟨w1,U⟩:=eX (((w.alloc (.cells (Qr r m) 39)).alloc (.cells #[.int .i64 n1,.int .i64 n2] 53)).alloc (.cells Ji 39));have HX:Qb (Qh w1 w.heap.size 39 (Qr r m)):=Qa (by rw[U];exact((Qh.new _ _ _).alloc _).alloc _);have HN:Qb (Qh w1 (w.heap.size+1) 53 #[.int .i64 n1,.int .i64 n2]):=Qa (by rw[U];exact(Qh.Qz (by simp)).alloc _);have HG:Qb (Qh w1 (w.heap.size+1+1) 39 Ji):=Qa (by rw[U];exact Qh.Qz (by simp));have HB:Qb (Below w.heap.size w w1):=by
  rw[U];exact((bR.alloc nR _).alloc (by simp) _).alloc (by simp;omega) _
 have HS:=Qa h;have dT:=Qa hF;have aN:=Qa ok;have b9:=Qa lk;have I:=Qa wk;have eC:=Qa aR;have a3:=Qa (show ∀wy,Below w.heap.size w wy→Calls prog 32 #[.agg (Qr r m),.agg #[.int .i64 n1,.int .i64 n2]] wy fun e w'=>e=.returned (.tuple #[.agg (((Xx r (n1,n2)).map GK).getD W5),.bool (Xx r (n1,n2)).isSome])∧Below wy.heap.size wy w' from fun wy hy=>UZ (h.below hy) (n1,n2) (by have:=ok.nS;omega));have aA:=Qa (fun nn wy=>IK nn wy);have em:=Qa (show Il lo r F (n1,n2) b=Il lo r F (n1,n2) b from rfl);obtain⟨q,hq⟩:=eX (Il lo r F (n1,n2) b);rw[←hq];have HQ:=Qa (show q=if Qs n1=false∨Qs n2=false∨b.length<1∨1048576<b.length then(1,r,F)
 else if(Xx r (n1,n2)).isSome then(7,r,F)
 else match Yb F (Qf r.size b.length)with
  |none=>(5,r,F)
  |some a=>match QE { XT r with Qc:=G3 ⟨(n1,n2),b,lo+a,(XT r).VB*1048576+(XT r).QA⟩ r.Qc } (XT r) (Xs ⟨(n1,n2),b,lo+a,(XT r).VB*1048576+(XT r).QA⟩)with
   |(0,r2)=>(0,r2,Vo F a false (Qf r.size b.length))
   |(e,r2)=>(e,r2,VJ (Vo F a false (Qf r.size b.length)) a (Qf r.size b.length))from hq)
 obtain⟨k,hk⟩:=eX b.length;rw[←hk];rw[←hk]at hbl HQ;have HK:=Qa hk;clear h hF ok lk wk hq aR hk em;unfold QZ;go_enter func78,ntmps78;go_upto_region 1 with fail;rw[←U];clear U;have dW:=HB.o.size;obtain⟨ra,aO⟩:=eX (Qr r m);rw[←aO]at HX a3;have bx:=Qa aO;have T:Qb (ra.size=12∧ra.all (·.oneCell')=true):=Qa (by rw[aO];exact⟨rfl,QX r m⟩);obtain⟨X,hX⟩:=eX w.heap.size;obtain⟨Nb,cC⟩:=eX (w.heap.size+1);obtain⟨G,hG⟩:=eX (w.heap.size+1+1);rw[←hG,←cC,←hX,←aO];rw[←hX]at HX;rw[←cC]at HN;rw[←hG]at HG;have eY:w.heap.size≤X:=by omega
 have f1:w.heap.size≤G:=by omega
 have bp:G≠X:=by omega
 have dX:Nb≠X:=by omega
 clear hX hG aO cC;have HI:Qb ((prog.info? 39).map (·.size)=some ra.size):=Qa (by rw[T.o.1];exact Jy)
 have Y:=Qa (show ∀(wz:World)(er:Nat),Below w.heap.size w wz→q=(er,r,F)→Zd w (wz.setRow G ra) base lo m q (.returned (.tuple #[.agg ra,.int .i64 er])) from fun wz er hb hq=>by
  have a9:Below w.heap.size w (wz.setRow G ra):=hb.trans (Qg (Qm _ _ _) hb.size (gB (by omega)));rw[hq];exact⟨m,by rw[bx.o],HS.o.below a9,rfl,Yk.same rfl,dT.o.below a9,Qd.Qe a9 hbw⟩)
 have y0:w1.cell? ⟨Nb,0,none⟩=some (.int .i64 n1):=HN.o.cell 0;have y1:w1.cell? ⟨Nb,1,none⟩=some (.int .i64 n2):=HN.o.cell 1;have yl:=HN.o.lt;obtain⟨bad,hbad⟩:∃bad,bad=decide (Qs n1=false∨Qs n2=false∨k<1∨1048576<k):=⟨_,rfl⟩;have aq:=Qa hbad;clear hbad;go_cut [37] (fun v wx=>v=.bool bad∧wx=w1)
 case first=>
  have R:=aq.o;cases h1:Qs n1 with
  |false=>
   have:bad=true:=by rw[R];simp[h1]
   clear R;subst this;go_wp2_with (go_at_call 136;refine(aA.o _ _).mono ?_;rintro en w' ⟨rfl,rfl⟩);go_meet;exact⟨rfl,rfl⟩
  |true=>
   cases h2:Qs n2 with
   |false=>
    have:bad=true:=by rw[R];simp[h2]
    clear R;subst this;go_wp2_with (go_at_call 136;refine(aA.o _ _).mono ?_;rintro en w' ⟨rfl,rfl⟩);go_meet;exact⟨rfl,rfl⟩
   |true=>
    by_cases h3:k<1
    ·have:bad=true:=by rw[R];simp[h3]
     clear R;subst this;have eQ:(k:Int)<1:=by omega
     go_wp2_with (go_at_call 136;refine(aA.o _ _).mono ?_;rintro en w' ⟨rfl,rfl⟩);go_meet;exact⟨rfl,rfl⟩
    have eQ:¬(k:Int)<1:=by omega
    by_cases h4:1048576<k
    ·have:bad=true:=by rw[R];simp[h4]
     clear R;subst this;have eu:(k:Int)>1048576:=by omega
     go_wp2_with (go_at_call 136;refine(aA.o _ _).mono ?_;rintro en w' ⟨rfl,rfl⟩);go_meet;exact⟨rfl,rfl⟩
    have:bad=false:=by rw[R];simp[h1,h2];omega
    clear R;subst this;have eu:¬(k:Int)>1048576:=by omega
    go_wp2_with (go_at_call 136;refine(aA.o _ _).mono ?_;rintro en w' ⟨rfl,rfl⟩);go_meet;exact⟨by first|rfl|(simp;omega),rfl⟩
 obtain⟨rfl,rfl⟩:=hcut;have l0:=QG HX.o T.o.1;cases bad with
 |true=>
  have hq:q=(1,r,F):=by rw[HQ.o,if_pos (of_decide_eq_true aq.o.symm)]
  have zs:=QY HG.o rfl T.o.1 T.o.2;have al:=Qa (Y.o _ 1 HB.o hq);clear Y hq;go_wp2_with fail;refine bodyPost_ret (v:=.tuple #[.agg ra,.int .i64 1]) (Ql results78 _ _ G 39 _ (0,0) _ rfl (Qp HG.o _) underlying39 rfl HI.o) rfl ?_;exact al.o
 |false=>
  have d8:=of_decide_eq_false aq.o.symm;have hq:=HQ.o;rw[if_neg d8]at hq;have aE:=Qa hq;have eZ:1≤k∧k≤1048576:=by omega
  have a0:Qs n1=true:=by cases hh:Qs n1<;>simp_all
  have e4:Qs n2=true:=by cases hh:Qs n2<;>simp_all
  obtain⟨k1,rfl,dq⟩:=VE a0;obtain⟨k2,rfl,dE⟩:=VE e4;clear hq HQ aq d8 a0 e4 aA;have aC:=Qa (a3.o _ HB.o);cases hg:Xx r ((k1:Int),(k2:Int))with
  |some x=>
   rw[hg]at aC aE;have hq:q=(7,r,F):=by rw[aE.o,if_pos Option.isSome_some]
   obtain⟨⟨v1,v2⟩,t,xa,xm⟩:=x;have bF:Qb ((prog.info? 69).map (·.size)=some (#[.int .i64 v1,.int .i64 v2,.string ⟨t.toArray⟩,.int .i64 xa,.int .i64 xm]:Array Value).size):=Vp;have eL:Qb ((#[.int .i64 v1,.int .i64 v2,.string ⟨t.toArray⟩,.int .i64 xa,.int .i64 xm]:Array Value).all (·.oneCell')=true):=Qa (by simp[Value.oneCell']);have a5:=Qa (show Calls prog 32 #[.agg ra,.agg #[.int .i64 k1,.int .i64 k2]] wc fun e w'=>e=.returned (.tuple #[.agg #[.int .i64 v1,.int .i64 v2,.string ⟨t.toArray⟩,.int .i64 xa,.int .i64 xm],.bool true])∧Below wc.heap.size wc w' from aC.o);have al:=Qa (fun wz hb=>Y.o wz 7 hb hq);clear hg aC a3 Y hq aE
   go_upto_region 4 with(first
    |(go_at_call 32;refine a5.o.mono ?_;rintro en w2 ⟨rfl,hb⟩;(have aJ:=Qa (HB.o.trans (hb.mono dW)));(have bu:=Qa (HX.o.below hb HX.o.lt));(have bw:=Qa (HG.o.below hb HG.o.lt));clear hb)
    |(refine wpList_store_row rfl 69 _ _ rfl w2.heap.size #[.int .i64 v1,.int .i64 v2,.string ⟨t.toArray⟩,.int .i64 xa,.int .i64 xm] rfl rfl 69 _ (Qh.new w2 69 _) bF.o rfl eL.o ?_;rw[World.setRow_alloc_new]))
   have ad:=Qa (aJ.o.alloc aJ.o.size (.cells #[.int .i64 v1,.int .i64 v2,.string ⟨t.toArray⟩,.int .i64 xa,.int .i64 xm] 69));have br:=Qa (bu.o.alloc (.cells #[.int .i64 v1,.int .i64 v2,.string ⟨t.toArray⟩,.int .i64 xa,.int .i64 xm] 69));have aG:=Qa (bw.o.alloc (.cells #[.int .i64 v1,.int .i64 v2,.string ⟨t.toArray⟩,.int .i64 xa,.int .i64 xm] 69));clear l0 y0 y1 yl;generalize w2.alloc (.cells #[.int .i64 v1,.int .i64 v2,.string ⟨t.toArray⟩,.int .i64 xa,.int .i64 xm] 69)=w3 at*
   have l3:=QG br.o T.o.1;have zs:=QY aG.o rfl T.o.1 T.o.2;go_wp2_with fail;refine bodyPost_ret (v:=.tuple #[.agg ra,.int .i64 7]) (Ql results78 _ _ G 39 _ (0,0) _ rfl (Qp aG.o _) underlying39 rfl HI.o) rfl ?_;exact al.o w3 ad.o
  |none=>
   rw[hg]at aC aE;have hq:=aE.o;rw[if_neg (by simp)]at hq;have e6:=Qa hq;have bF:Qb ((prog.info? 69).map (·.size)=some (#[.int .i64 0,.int .i64 0,.string ⟨#[]⟩,.int .i64 0,.int .i64 0]:Array Value).size):=Vp;have a5:=Qa (show Calls prog 32 #[.agg ra,.agg #[.int .i64 k1,.int .i64 k2]] wc fun e w'=>e=.returned (.tuple #[.agg #[.int .i64 0,.int .i64 0,.string ⟨#[]⟩,.int .i64 0,.int .i64 0],.bool false])∧Below wc.heap.size wc w' from aC.o);clear hg aC a3 hq aE
   go_upto_region 6 with(first
    |(go_at_call 32;refine a5.o.mono ?_;rintro en w2 ⟨rfl,hb⟩;(have aJ:=Qa (HB.o.trans (hb.mono dW)));(have bu:=Qa (HX.o.below hb HX.o.lt));(have dR:=Qa (HN.o.below hb HN.o.lt));(have bw:=Qa (HG.o.below hb HG.o.lt));clear hb)
    |(refine wpList_store_row rfl 69 _ _ rfl w2.heap.size #[.int .i64 0,.int .i64 0,.string ⟨#[]⟩,.int .i64 0,.int .i64 0] rfl rfl 69 _ (Qh.new w2 69 _) bF.o rfl (by simp[Value.oneCell']) ?_;rw[World.setRow_alloc_new]))
   have ad:=Qa (aJ.o.alloc aJ.o.size (.cells #[.int .i64 0,.int .i64 0,.string ⟨#[]⟩,.int .i64 0,.int .i64 0] 69));have br:=Qa (bu.o.alloc (.cells #[.int .i64 0,.int .i64 0,.string ⟨#[]⟩,.int .i64 0,.int .i64 0] 69));have c8:=Qa (dR.o.alloc (.cells #[.int .i64 0,.int .i64 0,.string ⟨#[]⟩,.int .i64 0,.int .i64 0] 69));have aG:=Qa (bw.o.alloc (.cells #[.int .i64 0,.int .i64 0,.string ⟨#[]⟩,.int .i64 0,.int .i64 0] 69));clear l0 y0 y1 yl bu dR bw aJ HX HN HG HB a5 bF;generalize w2.alloc (.cells #[.int .i64 0,.int .i64 0,.string ⟨#[]⟩,.int .i64 0,.int .i64 0] 69)=w3 at*
   obtain⟨NN,az⟩:=eX (Qf r.size k);have dl:1≤NN:=by rw[az];exact JQ hsz.1 hsz.2 (by omega)
   have d1:=JE (s:=r.size) (n:=k);rw[←az]at d1;have dG:Qb (NN≤1073741826):=Qa (by omega);have cj:=e6.o;rw[←az]at cj;have cg:=Qa cj;have dS:=Qa (show ∀wy,Calls prog 67 #[.int .i64 r.size,.int .i64 k] wy fun e w'=>e=.returned (.int .i64 (NN:Nat))∧wy=w' from fun wy=>by rw[az];exact V8 r.size k (by have:=I.o.sz;omega) (by omega) wy);obtain⟨er,ax,ln,F',hT,cX⟩:=Lg base m.M lo F NN;have HT:=Qa hT;have dA:=Qa cX;have ai:=ad.o.size
   have bf:=Qa (show ∀wy,Below w3.heap.size w3 wy→Calls prog 137 #[.pointer (some ⟨m.M,0,none⟩),.int .i64 NN] wy fun e w'=>e=.returned (.tuple #[.agg #[.int .i64 (ax:Nat),.int .i64 (ln:Nat)],.int .i64 (er:Nat)])∧Kr w' m.M lo F'∧Qd base [236] wy w' from fun wy hy=>
    (Fh (base:=base) (dT.o.below (ad.o.trans (hy.mono ai))) NN I.o.fl I.o.lo' dl (by omega) hbM (Nat.le_trans hbw (ad.o.trans (hy.mono ai)).size)).mono fun e w' ho=>HT.o _ _ _ ho)
   have cY:Qb (Qd base [236] w w3):=Qd.Qe ad.o hbw;have cl:=br.o;rw[bx.o]at cl;have N:=Qa (show ∀wy,Qh wy X 39 (Qr r m)→wy.cell? ⟨X,9,none⟩=some (.pointer (some ⟨m.M,0,none⟩))∧wy.cell? ⟨X,0,none⟩=some (.int .i64 r.size) from fun wy hy=>⟨hy.cell 9,hy.cell 0⟩);have Q:=Qa cl;have SK:=Qa (show ∀wy,Below w3.heap.size w3 wy→wy.cell? ⟨X,9,none⟩=some (.pointer (some ⟨m.M,0,none⟩))∧wy.cell? ⟨X,0,none⟩=some (.int .i64 r.size) from fun wy hy=>N.o _ (Q.o.below hy Q.o.lt));have S0:=Qa (SK.o _ bR.drew);have BZ:Qb (Below w3.heap.size w3 (w3.alloc (.cells #[.int .i64 0,.int .i64 0] 241)).drew):=(bR.alloc nR _).drew
   have av:=Qa (show ∀w4 E,Qd base [236] w3 w4→w3.heap.size≤E→Qh w4 E 241 #[.int .i64 0,.int .i64 0]→Kr w4 m.M lo F'→(LY (.pointer (some ⟨E,0,none⟩)) (.agg #[.int .i64 (ax:Nat),.int .i64 (ln:Nat)])).run prog w4=.ok () (w4.setRow E #[.int .i64 (ax:Nat),.int .i64 (ln:Nat)])∧Qh (w4.setRow E #[.int .i64 (ax:Nat),.int .i64 (ln:Nat)]) E 241 #[.int .i64 (ax:Nat),.int .i64 (ln:Nat)]∧Kr (w4.setRow E #[.int .i64 (ax:Nat),.int .i64 (ln:Nat)]) m.M lo F'∧Qd base [236] w3 (w4.setRow E #[.int .i64 (ax:Nat),.int .i64 (ln:Nat)])∧((w4.setRow E #[.int .i64 (ax:Nat),.int .i64 (ln:Nat)]).cell? ⟨X,9,none⟩=some (.pointer (some ⟨m.M,0,none⟩))∧(w4.setRow E #[.int .i64 (ax:Nat),.int .i64 (ln:Nat)]).cell? ⟨X,0,none⟩=some (.int .i64 r.size)) from fun w4 E hk hE hb hm=>
    ⟨Fz hb rfl rfl (by simp[Value.oneCell']),Qp hb _,hm.keeps (Q5 (ts:=[241]) hb (by decide) _) (by decide) (by decide),hk.fresh (Qm w4 E _) (gB (by omega)) (Nat.le_trans hbw ai),N.o _ ((Q.o.keeps hk (by decide)).keeps (Q5 (ts:=[241]) hb (by decide) _) (by decide))⟩)
   clear az dl d1 cj hT cX e6 cl;go_cut [10,11] (fun v10 v11 wx=>∃E,v10=.pointer (some ⟨E,0,none⟩)∧v11=.int .i64 (er:Nat)∧w3.heap.size≤E∧Qh wx E 241 #[.int .i64 (ax:Nat),.int .i64 (ln:Nat)]∧Kr wx m.M lo F'∧Qd base [236] w3 wx)
   case first=>
    go_region_held3 (fun wy=>wy.cell? ⟨X,9,none⟩=some (.pointer (some ⟨m.M,0,none⟩))∧wy.cell? ⟨X,0,none⟩=some (.int .i64 r.size))
     (first|exact S0.o|exact J.o.2.2.2.2|exact S4.o|exact S5.o|exact SK.o _ BZ.o|exact SK.o _ (bR.drew.alloc nR _))
     (first
      |(go_at_call 67;refine(dS.o _).mono ?_;rintro en w' ⟨rfl,rfl⟩)
      |(go_at_call 137;refine(bf.o (w3.alloc (.cells #[.int .i64 0,.int .i64 0] 241)).drew BZ.o).mono ?_;rintro en w4 ⟨rfl,hm,hk⟩;(have P:Qb (Qd base [236] w3 w4):=(Qd.Qe BZ.o (Nat.le_trans hbw ai)).trans hk);(have J:=Qa (av.o w4 w3.heap.size P.o nR (((Qh.new w3 241 #[.int .i64 0,.int .i64 0]).drew).keeps hk (by decide)) hm));(have zs:=J.o.1);(have S4:=Qa (N.o _ (Q.o.keeps P.o (by decide))));(have a5:Qb (w3.heap.size≤w3.heap.size):=nR);clear hm hk)
      |(go_at_call 137;refine(bf.o w3.drew bR.drew).mono ?_;rintro en w4 ⟨rfl,hm,hk⟩;(have P:Qb (Qd base [236] w3 w4):=(Qd.Qe ((Below.refl w3.heap.size w3).drew) (Nat.le_trans hbw ai)).trans hk);(have BA:=Qa ((Below.refl w4.heap.size w4).alloc nR (.cells #[.int .i64 0,.int .i64 0] 241)));(have dp:Qb (Qd base [236] w3 (w4.alloc (.cells #[.int .i64 0,.int .i64 0] 241))):=P.o.trans (Qd.Qe BA.o (Nat.le_trans hbw (Nat.le_trans ai P.o.below.size))));(have J:=Qa (av.o (w4.alloc (.cells #[.int .i64 0,.int .i64 0] 241)) w4.heap.size dp.o P.o.below.size (Qh.new _ _ _) (hm.below BA.o)));(have zs:=J.o.1);(have S4:=Qa (N.o _ (Q.o.keeps P.o (by decide))));(have S5:=Qa (N.o _ (Q.o.keeps dp.o (by decide))));(have a5:Qb (w3.heap.size≤w4.heap.size):=P.o.below.size);clear hm hk)
      |(go_at_call 137;refine(bf.o (w3.drew.alloc (.cells #[.int .i64 0,.int .i64 0] 241)) (bR.drew.alloc nR _)).mono ?_;rintro en w4 ⟨rfl,hm,hk⟩;(have P:Qb (Qd base [236] w3 w4):=(Qd.Qe ((Below.refl w3.heap.size w3).drew.alloc nR _) (Nat.le_trans hbw ai)).trans hk);(have J:=Qa (av.o w4 w3.heap.size P.o nR ((Qh.new w3.drew 241 #[.int .i64 0,.int .i64 0]).keeps hk (by decide)) hm));(have zs:=J.o.1);(have S4:=Qa (N.o _ (Q.o.keeps P.o (by decide))));(have a5:Qb (w3.heap.size≤w3.heap.size):=nR);clear hm hk))
    all_goals
     go_wp2_with fail;go_meet;exact⟨_,rfl,rfl,a5.o,J.o.2.1,J.o.2.2.1,J.o.2.2.2.1⟩
   obtain⟨E,rfl,rfl,eV,hE,hM,hK⟩:=hcut;have d0:=Qa hE;have cr:=Qa hM;have bj:=Qa (cY.o.trans hK);have l:=Qa (Q.o.keeps hK (by decide));have dm:=Qa (c8.o.keeps hK (by decide));have aD:=Qa (aG.o.keeps hK (by decide));have c2:=Qa ((HS.o.below ad.o).keeps hK (by decide));have dZ:w3.heap.size≤wc.heap.size:=hK.below.size;have ba:X≠E:=by have:=Q.o.lt;omega
   have f6:Nb≠E:=by have:=c8.o.lt;omega
   have f3:G≠E:=by have:=aG.o.lt;omega
   clear hE hM hK bf dS HT av N SK S0 BZ Q br c8 aG ad cY;rcases dA.o with⟨e5,eF,et⟩|⟨e0,a,et,eax,eln,eF⟩
   ·subst e5 eF;have hq:q=(5,r,F'):=by rw[cg.o,et]
    have eK:Qb (Qh wc X 39 ra):=Qa (by rw[bx.o];exact l.o);have l4:=QG eK.o T.o.1;have zs:=QY aD.o rfl T.o.1 T.o.2
    have al:Qb (Zd w (wc.setRow G ra) base lo m q (.returned (.tuple #[.agg ra,.int .i64 5]))):=Qa (by
     rw[hq];exact⟨m,by rw[bx.o];rfl,c2.o.keeps (Q5 (ts:=[39]) aD.o (by decide) _) (by decide),rfl,Yk.same rfl,cr.o.keeps (Q5 (ts:=[39]) aD.o (by decide) _) (by decide) (by decide),bj.o.fresh (Qm wc G ra) (gB (by omega)) hbw⟩)
    clear hq Y et;go_wp2_with fail;refine bodyPost_ret (v:=.tuple #[.agg ra,.int .i64 5]) (Ql results78 _ _ G 39 _ (0,0) _ rfl (Qp aD.o _) underlying39 rfl HI.o) rfl ?_;exact al.o
   subst e0 eax eln eF;have ca:=cg.o;rw[et]at ca;have db:=Qa ca;have dV:a<F.length:=by unfold Yb at et;exact List.mem_range.1 (List.mem_of_find?_eq_some et)
   have bC:=Qa dV;clear dV;clear Y dA ca cg et;obtain⟨NN,az⟩:=eX ln;have dJ:wc.cell? ⟨X,10,none⟩=some (.int .i64 r.VB):=l.o.cell 10;have x8:wc.cell? ⟨X,8,none⟩=some (.int .i64 r.ep):=l.o.cell 8;have bA:wc.cell? ⟨X,11,none⟩=some (.int .i64 r.QA):=l.o.cell 11;have dU:=l.o.free 10;have bL:=l.o.free 11;have xl:=l.o.lt;go_upto_region 9 with fail;go_upto_if 66 with fail;obtain⟨p0,hp0⟩:∃p0:Nat,p0=(if r.VB=r.ep then r.QA else 0):=⟨_,rfl⟩;have cF:=Qa hp0;have f8:p0≤1048575:=by rw[hp0];split<;>omega
   clear hp0;go_cut [66] (fun v wx=>(∃b,v=.bool b)∧Qh wx X 39 (Qr { r with VB:=r.ep,QA:=p0 } m)∧Qh wx E 241 #[.int .i64 ((lo+a:Nat):Int),.int .i64 (ln:Nat)]∧Qh wx Nb 53 #[.int .i64 k1,.int .i64 k2]∧Qh wx G 39 Ji∧Kr wx m.M lo (Vo F a false ln)∧JN wx r m∧Qd base [236] w wx∧w3.heap.size≤wx.heap.size)
   case first=>
    have bN:=Qa (show ∀(wz:World),Qh wz X 39 (Qr { r with VB:=r.ep,QA:=p0 } m)→(∀g t cs,Qh wc g t cs→g≠X→Qh wz g t cs)→Qd 0 [39] wc wz→Qd base [236] w wz→(Qh wz X 39 (Qr { r with VB:=r.ep,QA:=p0 } m)∧Qh wz E 241 #[.int .i64 ((lo+a:Nat):Int),.int .i64 (ln:Nat)]∧Qh wz Nb 53 #[.int .i64 k1,.int .i64 k2]∧Qh wz G 39 Ji∧Kr wz m.M lo (Vo F a false ln)∧JN wz r m∧Qd base [236] w wz∧w3.heap.size≤wz.heap.size) from fun wz hb hf hk hk2=>
     ⟨hb,hf _ _ _ d0.o (fun e=>ba e.symm),hf _ _ _ dm.o dX,hf _ _ _ aD.o bp,cr.o.keeps hk (by decide) (by decide),c2.o.keeps hk (by decide),hk2,Nat.le_trans dZ hk.below.size⟩)
    by_cases hee:r.VB=r.ep
    ·have cA:=Qa (bN.o wc (by rw[cF.o,if_pos hee,Du r hee];exact l.o) (fun _ _ _ h _=>h) (Qd.refl _ _ _) bj.o);have eR:((r.VB:Int)==(r.ep:Int))=true:=by rw[hee];simp
     have eT:((r.VB:Int) != (r.ep:Int))=false:=by rw[hee];simp
     clear hee dJ x8 bA dU bL;go_wp2_with fail;go_meet;exact⟨⟨_,rfl⟩,cA.o⟩
    have f7:¬(r.VB:Int)=r.ep:=by omega
    have c3:=l.o.set 10 (.int .i64 r.ep);have dj:=c3.set 11 (.int .i64 0);have dB:Qd 0 [39] wc (wc.setCell ⟨X,10,none⟩ (.int .i64 r.ep)):=(Qd.refl 0 [39] wc).set l.o (Nat.zero_le _) (by simp) _;have dL:Qd 0 [39] (wc.setCell ⟨X,10,none⟩ (.int .i64 r.ep)) ((wc.setCell ⟨X,10,none⟩ (.int .i64 r.ep)).setCell ⟨X,11,none⟩ (.int .i64 0)):=(Qd.refl 0 [39] _).set c3 (Nat.zero_le _) (by simp) _;have cA:=Qa (bN.o ((wc.setCell ⟨X,10,none⟩ (.int .i64 r.ep)).setCell ⟨X,11,none⟩ (.int .i64 0)) (by rw[cF.o,if_neg hee];show Qh _ X 39 (#[.int .i64 r.size,.slice m.AN r.notes.length m.cN,.slice m.AS r.Qc.length m.cS,.slice m.AM r.marks.length m.cM,.slice m.AL r.Qo.length m.cL,.int .i64 m.Qk,.int .i64 r.half,.int .i64 r.size,.int .i64 r.ep,.pointer (some ⟨m.M,0,none⟩),.int .i64 r.ep,.int .i64 (0:Nat)]:Array Value);simpa using dj) (fun g t cs h hg=>(h.Yq (o:=10) hg _).Yq (o:=11) hg _) (dB.trans dL) ((bj.o.fresh (Zc wc X 10 _) (gB (by omega)) hbw).fresh (Zc _ X 11 _) (gB (by omega)) hbw));clear c3 dj dB dL;go_wp2_with fail;go_meet;exact⟨⟨_,rfl⟩,cA.o⟩
   obtain⟨⟨bb,rfl⟩,cV,du,dg,dy,dn,d9,dK,e8⟩:=hcut;have ac:=Qa cV;have J:=Qa du;have aF:=Qa dg;have ah:=Qa dy;have bv:=Qa dn;have ds:=Qa d9;have aL:=Qa dK;clear dJ x8 bA dU bL xl cV du dg dy dn d9 dK l dm aD c2 d0 cr bj dZ;have bA:wc.cell? ⟨X,11,none⟩=some (.int .i64 p0):=ac.o.cell 11;have bL:=ac.o.free 11;have xl:=ac.o.lt;have q1:IntKind.i64.wrap ((p0:Int)+1)=(p0:Int)+1:=by rw[IntKind.wrap_i64];omega
   go_upto_region 12 with fail;have bt:XT r={ r with VB:=r.ep,QA:=p0+1 }:=by unfold XT;rw[←cF.o]
   obtain⟨rb,aP⟩:=eX (XT r);have ez:=Qa aP
   have K:Qb (Qh (wc.setCell ⟨X,11,none⟩ (.int .i64 ((p0:Int)+1))) X 39 (Qr rb m)):=Qa (by
    have:=ac.o.set 11 (.int .i64 ((p0:Int)+1));rw[aP,bt];show Qh _ X 39 (#[.int .i64 r.size,.slice m.AN r.notes.length m.cN,.slice m.AS r.Qc.length m.cS,.slice m.AM r.marks.length m.cM,.slice m.AL r.Qo.length m.cL,.int .i64 m.Qk,.int .i64 r.half,.int .i64 r.size,.int .i64 r.ep,.pointer (some ⟨m.M,0,none⟩),.int .i64 r.ep,.int .i64 ((p0+1:Nat):Int)]:Array Value);simpa using this)
   have kk:Qd 0 [39] wc (wc.setCell ⟨X,11,none⟩ (.int .i64 ((p0:Int)+1))):=(Qd.refl 0 [39] wc).set ac.o (Nat.zero_le _) (by simp) _;have ak:=Qa (J.o.Yq (o:=11) (fun e=>ba e.symm) (.int .i64 ((p0:Int)+1)));have ch:=Qa (aF.o.Yq (o:=11) dX (.int .i64 ((p0:Int)+1)));have a6:=Qa (ah.o.Yq (o:=11) bp (.int .i64 ((p0:Int)+1)));have aW:=Qa (bv.o.keeps kk (by decide) (by decide));have ab:=Qa (ds.o.keeps kk (by decide));have af:=Qa (aL.o.fresh (Zc wc X 11 (.int .i64 ((p0:Int)+1))) (gB (by omega)) hbw);have da:w3.heap.size≤(wc.setCell ⟨X,11,none⟩ (.int .i64 ((p0:Int)+1))).heap.size:=Nat.le_trans e8 kk.below.size;have d:Qb (rb.VB=r.ep∧rb.QA=p0+1∧rb.Qc=r.Qc∧rb.size=r.size∧rb.half=r.half∧rb.ep=r.ep∧rb.Qo=r.Qo∧rb.notes=r.notes∧rb.marks=r.marks):=Qa (by rw[aP,bt];exact⟨rfl,rfl,rfl,rfl,rfl,rfl,rfl,rfl,rfl⟩)
   have dI:Qb (JN (wc.setCell ⟨X,11,none⟩ (.int .i64 ((p0:Int)+1))) rb m):=Qa (by
    rw[aP,bt];exact⟨ab.o.notes,ab.o.Qc,ab.o.marks,ab.o.Qo,ab.o.row,ab.o.OM,ab.o.Tk⟩)
   clear bA bL xl ac J aF ah bv ds aL kk bt aP ab;generalize wc.setCell ⟨X,11,none⟩ (.int .i64 ((p0:Int)+1))=w6 at*
   have cH:=db.o;rw[←ez.o]at cH;have dQ:=Qa cH;clear cH db;have cv:=af.o.below.size;obtain⟨S,ao⟩:=eX (Qr rb m);have bc:Qb (S.size=12∧S.all (·.oneCell')=true):=Qa (by rw[ao];exact⟨rfl,QX rb m⟩);have b2:=Qa K.o;rw[←ao]at K;have dF:=Qa ao;clear ao;have l6:=QG K.o bc.o.1;have eI:(LN (.pointer (some ⟨w6.heap.size,0,none⟩)) (.agg S)).run prog (w6.alloc (.cells Ji 39))=.ok () (w6.alloc (.cells S 39)):=by
    have:=QY (v:=S) (Qh.new w6 39 Ji) rfl bc.o.1 bc.o.2;rwa [World.setRow_alloc_new]at this
   go_upto_region 13 with fail;have BA:=Qa ((Below.refl w6.heap.size w6).alloc nR (.cells S 39));have b5:=Qa (Qh.new w6 39 S);have ay:=Qa (b2.o.below BA.o b2.o.lt);have b7:=Qa (ak.o.below BA.o ak.o.lt);have aH:=Qa (ch.o.below BA.o ch.o.lt);have cu:=Qa (a6.o.below BA.o a6.o.lt);have cU:=Qa (aW.o.below BA.o);have e7:=Qa (dI.o.below BA.o);have bk:=Qa (af.o.trans (Qd.Qe BA.o (Nat.le_trans hbw cv)));obtain⟨W,hW⟩:=eX w6.heap.size;rw[←hW]at b5 ⊢;have eB:W≠X:=by have:=K.o.lt;omega
   have f4:W≠G:=by have:=a6.o.lt;omega
   clear l6 eI K b2 ak ch a6 aW dI af BA hW da;generalize w6.alloc (.cells S 39)=w7 at*
   have eM:=bk.o.below.size;have dC:=Qa (OB w7 A c b (eC.o.keeps bk.o (by decide)) (by rw[←HK.o];omega));have bK:=dC.o;rw[←HK.o]at bK;unfold Qw at bK;obtain⟨tb,htb⟩:∃tb:ByteArray,(⟨b.toArray⟩:ByteArray)=tb:=⟨_,rfl⟩;rw[htb]at bK;have d5:=Qa htb;have ed:w7.cell? ⟨X,10,none⟩=some (.int .i64 r.ep):=by have:=ay.o.cell 10;rw[←d.o.1];exact this
   have eA:w7.cell? ⟨X,11,none⟩=some (.int .i64 ((p0+1:Nat):Int)):=by have:=ay.o.cell 11;rw[←d.o.2.1];exact this
   have e0:w7.cell? ⟨E,0,none⟩=some (.int .i64 ((lo+a:Nat):Int)):=b7.o.cell 0;have y0:w7.cell? ⟨Nb,0,none⟩=some (.int .i64 k1):=aH.o.cell 0;have y1:w7.cell? ⟨Nb,1,none⟩=some (.int .i64 k2):=aH.o.cell 1;have xl:=ay.o.lt;have el:=b7.o.lt;have yl:=aH.o.lt;obtain⟨mk,eJ⟩:=eX (r.ep*1048576+(p0+1));clear htb;go_upto_region 14 with fail;have d7:((lo:Int)+(a:Int))=((lo+a:Nat):Int):=by omega
   have dD:((r.ep:Int)*1048576+((p0:Int)+1))=((r.ep*1048576+(p0+1):Nat):Int):=by omega
   rw[d7,dD];obtain⟨x,hx⟩:∃x:V4,x=⟨((k1:Int),(k2:Int)),b,lo+a,r.ep*1048576+(p0+1)⟩:=⟨_,rfl⟩;have cR:JJ x=[.int .i64 k1,.int .i64 k2,.string tb,.int .i64 ((lo+a:Nat):Int),.int .i64 ((r.ep*1048576+(p0+1):Nat):Int)]:=by rw[hx,←d5.o];rfl
   obtain⟨Sx,c6⟩:=eX w7.heap.size;rw[←c6];have B:=Qa (Qh.new w7 69 #[.int .i64 k1,.int .i64 k2,.string tb,.int .i64 ((lo+a:Nat):Int),.int .i64 ((r.ep*1048576+(p0+1):Nat):Int)]);rw[←c6]at B;have BA:=Qa ((Below.refl w7.heap.size w7).alloc nR (.cells #[.int .i64 k1,.int .i64 k2,.string tb,.int .i64 ((lo+a:Nat):Int),.int .i64 ((r.ep*1048576+(p0+1):Nat):Int)] 69));have aZ:=Qa (ay.o.below BA.o ay.o.lt);have c0:=Qa (b5.o.below BA.o b5.o.lt);have cw:=Qa (b7.o.below BA.o b7.o.lt);have bZ:=Qa (aH.o.below BA.o aH.o.lt);have cq:=Qa (cu.o.below BA.o cu.o.lt);have df:=Qa (cU.o.below BA.o);have cx:=Qa (e7.o.below BA.o);have cf:=Qa (bk.o.trans (Qd.Qe BA.o (Nat.le_trans hbw eM)));have eN:Sx≠X:=by omega
   have f0:Sx≠W:=by have:=b5.o.lt;omega
   have ag:=Qa (And.intro hx cR);obtain⟨nS,an⟩:=eX r.Qc.length;rw[←an]at hnS;have bg:=Qa an;have x2:(w7.alloc (.cells #[.int .i64 k1,.int .i64 k2,.string tb,.int .i64 ((lo+a:Nat):Int),.int .i64 ((r.ep*1048576+(p0+1):Nat):Int)] 69)).cell? ⟨X,2,none⟩=some (.slice m.AS rb.Qc.length m.cS):=aZ.o.cell 2;rw[d.o.2.2.1,←an]at x2;have eb:=aZ.o.lt;clear ed eA e0 y0 y1 xl el yl BA hx cR c6 an bK dC ay b5 b7 aH cu cU e7 bk d7 dD eJ;generalize w7.alloc (.cells #[.int .i64 k1,.int .i64 k2,.string tb,.int .i64 ((lo+a:Nat):Int),.int .i64 ((r.ep*1048576+(p0+1):Nat):Int)] 69)=w8 at*
   have eH:=cf.o.below.size;obtain⟨bh,ar,bi,bI,bE⟩:=info_parts EO;have cn:∀C:Array Value,C.size=5→Qb ((prog.info? 69).map (·.size)=some C.size):=fun C hC=>by
    show(prog.info? 69).map (·.size)=some C.size;rw[hC];exact Vp
   have dt:=Qa (fun nn mm wy=>GG nn mm wy);unfold QZ at dt;go_wp2_with fail;go_loopw [14,15,92] (fun out p i wr=>∃j:Nat,j≤nS∧i=.int .i64 (j:Nat)∧p=.bool ((r.Qc.take j).foldl (KK x) ([],false)).2∧Zj w8 wr ((r.Qc.take j).foldl (KK x) ([],false)).1 out∧Below w8.heap.size w8 wr) (fun _ _ i _=>nS-(intOf i).toNat)
   case atStart=>exact⟨0,Nat.zero_le _,rfl,rfl,⟨World.ownsRow_nil _ _ _ _,nR⟩,bR⟩
   obtain⟨j,hj,rfl,rfl,hL,aM⟩:=hrel;have HL:=Qa hL;have aw:=Qa aM;have e1:=aM.size;obtain⟨O,cO,rfl,b8⟩:=Jg hL.own;have bD:=Qa (bZ.o.below aM bZ.o.lt);have cp:=Qa (cx.o.below aM);have Z:=Fu x (r.Qc.take j);rw[List.length_take,←bg.o]at Z;clear hL aM x2 eb;by_cases hjl:j<nS
   ·have e3:(j:Int)<nS:=by omega
    have f5:(0:Int)≤j:=by omega
    have cz:j<r.Qc.length:=by rw[←bg.o];exact hjl
    obtain⟨bq,o2,hA,a7,ap⟩:=(V1 (f:=JJ) (k:=5) (fun _=>rfl) (by decide) cp.o.Qc.1).2 j (by rw[d.o.2.2.1];exact cz);have ee:=Qa (Um (KK x) ([],false) r.Qc j cz);have cZ:rb.Qc[j]'(by rw[d.o.2.2.1];exact cz)=r.Qc[j]:=by simp[d.o.2.2.1]
    rw[cZ]at ap;rw[hA];generalize (r.Qc.take j).foldl (KK x) ([],false)=st at*
    obtain⟨o,p⟩:=st;generalize hyy:r.Qc[j]=y at*
    obtain⟨⟨v1,v2⟩,t,ya,ym⟩:=y;simp only at HL Z b8;obtain⟨no,aa⟩:=eX o.length;rw[←aa]at Z b8 ⊢;have z:=Qa aa;obtain⟨yb,hyb⟩:∃yb:ByteArray,(⟨t.toArray⟩:ByteArray)=yb:=⟨_,rfl⟩;have aS:JJ ⟨(v1,v2),t,ya,ym⟩=[.int .i64 v1,.int .i64 v2,.string yb,.int .i64 ya,.int .i64 ym]:=by rw[←hyb];rfl
    rw[aS]at ap;have bT:=Qa aS;have bU:Qb (wr.rangeAt bq (o2+j*5) [.int .i64 v1,.int .i64 v2,.string yb,.int .i64 ya,.int .i64 ym]):=Qa ap;have cQ:Qb ((prog.info? 69).map (·.size)=some ([.int .i64 v1,.int .i64 v2,.string yb,.int .i64 ya,.int .i64 ym]:List Value).length):=Vp;have cb:=cn #[.int .i64 v1,.int .i64 v2,.string yb,.int .i64 ya,.int .i64 ym] rfl;have ev:Qb ((#[.int .i64 v1,.int .i64 v2,.string yb,.int .i64 ya,.int .i64 ym]:Array Value).all (·.oneCell')=true):=Qa (by simp[Value.oneCell']);clear aa ap a7 aS hyb cZ hyy
    go_upto_region 19 with first
     |(refine wpList_load_mid rfl 69 _ rfl bq (o2+j*5) rfl [.int .i64 v1,.int .i64 v2,.string yb,.int .i64 ya,.int .i64 ym] _ bU.o underlying69 rfl cQ.o ?_)
     |(refine wpList_store_row rfl 69 _ _ rfl wr.heap.size #[.int .i64 v1,.int .i64 v2,.string yb,.int .i64 ya,.int .i64 ym] rfl rfl 69 _ (Qh.new wr 69 _) cb.o rfl ev.o ?_;rw[World.setRow_alloc_new])
    try go_frame
    have BA:=Qa ((Below.refl wr.heap.size wr).alloc nR (.cells #[.int .i64 v1,.int .i64 v2,.string yb,.int .i64 ya,.int .i64 ym] 69));have HZ:=Qa (Qh.new wr 69 #[.int .i64 v1,.int .i64 v2,.string yb,.int .i64 ya,.int .i64 ym]);have ex:Qb (Zj w8 (wr.alloc (.cells #[.int .i64 v1,.int .i64 v2,.string yb,.int .i64 ya,.int .i64 ym] 69)) o (.slice O no cO)):=Qa (by rw[z.o];exact HL.o.keep (Qd.Qe (base:=0) BA.o (Nat.zero_le _)));have cc:=Qa (aw.o.trans (BA.o.mono e1));have aF:=Qa (bD.o.below BA.o bD.o.lt);have eP:Qb ((Value.slice O no cO).ownBlock≠some wr.heap.size):=Qa (fun e=>by have:=(HL.o.own.lt _ (by rw[←z.o];exact e)).2;omega);clear bU cQ HL aw bD cp BA;generalize wr.alloc (.cells #[.int .i64 v1,.int .i64 v2,.string yb,.int .i64 ya,.int .i64 ym] 69)=wz at*
    generalize wr.heap.size=g at*
    have z0:wz.cell? ⟨g,0,none⟩=some (.int .i64 v1):=HZ.o.cell 0;have z1:wz.cell? ⟨g,1,none⟩=some (.int .i64 v2):=HZ.o.cell 1;have y0:wz.cell? ⟨Nb,0,none⟩=some (.int .i64 k1):=aF.o.cell 0;have y1:wz.cell? ⟨Nb,1,none⟩=some (.int .i64 k2):=aF.o.cell 1;have zl:=HZ.o.lt;have yl:=aF.o.lt;have dN:=cc.o.size;obtain⟨lt,ck⟩:=eX (Wq ((k1:Int),(k2:Int)) (v1,v2));have ej:=Qa (show Calls prog 138 #[.agg #[.int .i64 k1,.int .i64 k2],.agg #[.int .i64 v1,.int .i64 v2]] wz fun e w'=>e=.returned (.bool lt)∧Below wz.heap.size wz w' from by rw[ck];exact dt.o ((k1:Int),(k2:Int)) (v1,v2) wz);have ey:=Qa ck;clear ck;go_cut [92,103]from 92 to 112 (fun i v wx=>i=.int .i64 (j:Nat)∧v=.bool (!p&&lt)∧Below wz.heap.size wz wx)
    case first=>
     cases p with
     |true=>
      go_wp2_with fail
      all_goals
       go_meet;exact⟨rfl,rfl,bR⟩
     |false=>
      go_wp2_with (go_at_call 138;refine ej.o.mono ?_;rintro en wa ⟨rfl,hb⟩;(have a2:=Qa hb);clear hb)
      all_goals
       go_meet;exact⟨rfl,by simp,a2.o⟩
    obtain⟨rfl,rfl,V⟩:=hcut;have f9:=Qa V;have dH:=Qa (HZ.o.below V HZ.o.lt);have l:=Qa ((B.o.below cc.o B.o.lt).below V (Nat.lt_of_lt_of_le B.o.lt dN));have bn:Qb (Zj w8 wc o (.slice O no cO)):=Qa (ex.o.keep (Qd.Qe (base:=0) V (Nat.zero_le _)));have a1:=Qa (cc.o.trans (V.mono dN));have bQ:=a1.o.size;have cD:Qb (∀u∈([.int .i64 k1,.int .i64 k2,.string tb,.int .i64 ((lo+a:Nat):Int),.int .i64 ((r.ep*1048576+(p0+1):Nat):Int)]:List Value),u.oneCell'=true):=Qa (by simp[Value.oneCell']);have dr:Qb (∀u∈([.int .i64 v1,.int .i64 v2,.string yb,.int .i64 ya,.int .i64 ym]:List Value),u.oneCell'=true):=Qa (by simp[Value.oneCell']);have c1:=cn #[.int .i64 k1,.int .i64 k2,.string tb,.int .i64 ((lo+a:Nat):Int),.int .i64 ((r.ep*1048576+(p0+1):Nat):Int)] rfl;clear z0 z1 y0 y1 zl yl V
    have a4:Qb ((r.Qc.take (j+1)).foldl (KK x) ([],false)=if(!p&&lt)=true then(o++[x]++[⟨(v1,v2),t,ya,ym⟩],true)else(o++[⟨(v1,v2),t,ya,ym⟩],p)):=Qa (by
     rw[ee.o,ey.o];unfold KK;have eg:x.n=((k1:Int),(k2:Int)):=by rw[ag.o.1]
     rw[eg];cases p<;>simp)
    obtain⟨cd,ce⟩:=eX ((!p&&lt));rw[←ce];rw[←ce]at a4;clear ce;cases cd with
    |false=>
     have eE:Qb ((wc.alloc (.cells #[.int .i64 v1,.int .i64 v2,.string yb,.int .i64 ya,.int .i64 ym] 69)).ownsRow w8.heap.size 69 5 (.slice O no cO) no (o.flatMap JJ)):=Qa (by have:=bn.o.own;rw[←z.o]at this;exact Qu this _);have eO:=Qa (Kq (Sl.Ja (sz:=5) (n:=1) (Qh.new wc 69 ([.int .i64 v1,.int .i64 v2,.string yb,.int .i64 ya,.int .i64 ym]:List Value).toArray) rfl))
     have eo:=Qa (show ∀A4 c4 w4,w4.ownsRow w8.heap.size 69 5 (.slice A4 (no+1) c4) (no+1) (o.flatMap JJ++[.int .i64 v1,.int .i64 v2,.string yb,.int .i64 ya,.int .i64 ym])→(wc.alloc (.cells #[.int .i64 v1,.int .i64 v2,.string yb,.int .i64 ya,.int .i64 ym] 69)).grownBy w4 (Value.slice O no cO).ownBlock→Zj w8 w4 (o++[⟨(v1,v2),t,ya,ym⟩]) (.slice A4 (no+1) c4)∧Below w8.heap.size w8 w4 from fun A4 c4 w4 h1 h2=>by
      have h0:=bn.o;rw[z.o]at h0 h1 h2 ⊢;rw[←bT.o]at h1;exact⟨h0.push h1 h2,(a1.o.alloc bQ _).trans (Qg h2 (by simp;omega) (fun k hk=>(h0.own.lt k hk).1))⟩)
     go_wp2_with (first
      |(refine wpList_load_row rfl 69 _ rfl g rfl 69 #[.int .i64 v1,.int .i64 v2,.string yb,.int .i64 ya,.int .i64 ym] (0,0) _ dH.o underlying69 rfl cb.o ?_)
      |(at_builtin;refine Qv _ rfl _ _ 32 rfl w8.heap.size 69 bh _ 5 48 U2 ar bi bI bE rfl (by decide) (.slice O no cO) no (o.flatMap JJ) rfl eE.o (some ⟨wc.heap.size,0,none⟩) 1 1 _ [.int .i64 v1,.int .i64 v2,.string yb,.int .i64 ya,.int .i64 ym] rfl eO.o dr.o (by unfold maxLen;omega) (by omega) (by simp;omega) ?_;intro A4 c4 w4 hown4 hgr4 hnc4 _;(have H:=Qa (eo.o A4 c4 w4 hown4 hgr4));clear hown4 hgr4))
     go_roundw
     case rel=>exact⟨j+1,by omega,by simp,by rw[a4.o];rfl,by rw[a4.o];exact H.o.1,H.o.2⟩
     case measure=>simp[intOf];omega
    |true=>
     have aT:Qb ((wc.alloc (.cells #[.int .i64 k1,.int .i64 k2,.string tb,.int .i64 ((lo+a:Nat):Int),.int .i64 ((r.ep*1048576+(p0+1):Nat):Int)] 69)).ownsRow w8.heap.size 69 5 (.slice O no cO) no (o.flatMap JJ)):=Qa (by have:=bn.o.own;rw[←z.o]at this;exact Qu this _);have aU:=Qa (Kq (Sl.Ja (sz:=5) (n:=1) (Qh.new wc 69 ([.int .i64 k1,.int .i64 k2,.string tb,.int .i64 ((lo+a:Nat):Int),.int .i64 ((r.ep*1048576+(p0+1):Nat):Int)]:List Value).toArray) rfl))
     have co:=Qa (show ∀A4 c4 w4,w4.ownsRow w8.heap.size 69 5 (.slice A4 (no+1) c4) (no+1) (o.flatMap JJ++[.int .i64 k1,.int .i64 k2,.string tb,.int .i64 ((lo+a:Nat):Int),.int .i64 ((r.ep*1048576+(p0+1):Nat):Int)])→(wc.alloc (.cells #[.int .i64 k1,.int .i64 k2,.string tb,.int .i64 ((lo+a:Nat):Int),.int .i64 ((r.ep*1048576+(p0+1):Nat):Int)] 69)).grownBy w4 (Value.slice O no cO).ownBlock→Zj w8 w4 (o++[x]) (.slice A4 (no+1) c4)∧Below w8.heap.size w8 w4 from fun A4 c4 w4 h1 h2=>by
      have h0:=bn.o;rw[z.o]at h0 h1 h2 ⊢;rw[←ag.o.2]at h1;exact⟨h0.push h1 h2,(a1.o.alloc bQ _).trans (Qg h2 (by simp;omega) (fun k hk=>(h0.own.lt k hk).1))⟩)
     have eG:=Qa (show ∀A4 c4 w4 A5 c5 w5,Zj w8 w4 (o++[x]) (.slice A4 (no+1) c4)∧Below w8.heap.size w8 w4→w5.ownsRow w8.heap.size 69 5 (.slice A5 (no+1+1) c5) (no+1+1) ((o++[x]).flatMap JJ++[.int .i64 v1,.int .i64 v2,.string yb,.int .i64 ya,.int .i64 ym])→(w4.alloc (.cells #[.int .i64 v1,.int .i64 v2,.string yb,.int .i64 ya,.int .i64 ym] 69)).grownBy w5 (Value.slice A4 (no+1) c4).ownBlock→Zj w8 w5 (o++[x]++[⟨(v1,v2),t,ya,ym⟩]) (.slice A5 (no+1+1) c5)∧Below w8.heap.size w8 w5 from fun A4 c4 w4 A5 c5 w5 h0 h1 h2=>by
      have e:no+1=(o++[x]).length:=by rw[List.length_append,z.o];rfl
      rw[e]at h0 h1 h2 ⊢;rw[←bT.o]at h1;exact⟨h0.1.push h1 h2,(h0.2.alloc h0.2.size _).trans (Qg h2 (by have:=h0.2.size;simp;omega) (fun k hk=>(h0.1.own.lt k hk).1))⟩)
     have aI:=Qa (show ∀A4 c4 w4,Zj w8 w4 (o++[x]) (.slice A4 (no+1) c4)→w4.ownsRow w8.heap.size 69 5 (.slice A4 (no+1) c4) (no+1) ((o++[x]).flatMap JJ) from fun A4 c4 w4 h0=>by
      have e:(o++[x]).length=no+1:=by rw[List.length_append,z.o];rfl
      have:=h0.own;rw[e]at this;exact this)
     go_wp2_with (first
      |((fail_if_success (have:=H));refine wpList_load_row rfl 69 _ rfl Sx rfl 69 #[.int .i64 k1,.int .i64 k2,.string tb,.int .i64 ((lo+a:Nat):Int),.int .i64 ((r.ep*1048576+(p0+1):Nat):Int)] (0,0) _ l.o underlying69 rfl c1.o ?_)
      |((fail_if_success (have:=H));at_builtin;refine Qv _ rfl _ _ 32 rfl w8.heap.size 69 bh _ 5 48 U2 ar bi bI bE rfl (by decide) (.slice O no cO) no (o.flatMap JJ) rfl aT.o (some ⟨wc.heap.size,0,none⟩) 1 1 _ [.int .i64 k1,.int .i64 k2,.string tb,.int .i64 ((lo+a:Nat):Int),.int .i64 ((r.ep*1048576+(p0+1):Nat):Int)] rfl aU.o cD.o (by unfold maxLen;omega) (by omega) (by simp;omega) ?_;intro A4 c4 w4 hown4 hgr4 hnc4 _;(have H:=Qa (co.o A4 c4 w4 hown4 hgr4));(have eD:=Qa ((dH.o.alloc (.cells #[.int .i64 k1,.int .i64 k2,.string tb,.int .i64 ((lo+a:Nat):Int),.int .i64 ((r.ep*1048576+(p0+1):Nat):Int)] 69)).grown hgr4 eP.o));(have eW:=H.o.2.size);(have cP:Qb ((w4.alloc (.cells #[.int .i64 v1,.int .i64 v2,.string yb,.int .i64 ya,.int .i64 ym] 69)).ownsRow w8.heap.size 69 5 (.slice A4 (no+1) c4) (no+1) ((o++[x]).flatMap JJ)):=Qa (Qu (aI.o A4 c4 w4 H.o.1) _));(have d4:=Qa (Kq (Sl.Ja (sz:=5) (n:=1) (Qh.new w4 69 ([.int .i64 v1,.int .i64 v2,.string yb,.int .i64 ya,.int .i64 ym]:List Value).toArray) rfl)));clear hown4 hgr4)
      |((have:=H);refine wpList_load_row rfl 69 _ rfl g rfl 69 #[.int .i64 v1,.int .i64 v2,.string yb,.int .i64 ya,.int .i64 ym] (0,0) _ eD.o underlying69 rfl cb.o ?_)
      |((have:=H);at_builtin;refine Qv _ rfl _ _ 32 rfl w8.heap.size 69 bh _ 5 48 U2 ar bi bI bE rfl (by decide) (.slice A4 (no+1) c4) (no+1) ((o++[x]).flatMap JJ) rfl cP.o (some ⟨w4.heap.size,0,none⟩) 1 1 _ [.int .i64 v1,.int .i64 v2,.string yb,.int .i64 ya,.int .i64 ym] rfl d4.o dr.o (by unfold maxLen;omega) (by omega) (by simp;omega) ?_;intro A5 c5 w5 hown5 hgr5 hnc5 _;(have bO:=Qa (eG.o A4 c4 w4 A5 c5 w5 H.o hown5 hgr5));clear hown5 hgr5))
     go_roundw
     case rel=>exact⟨j+1,by omega,by simp,by rw[a4.o];rfl,by rw[a4.o];exact bO.o.1,bO.o.2⟩
     case measure=>simp[intOf];omega
   have es:j=nS:=by omega
   subst es;have e3:¬(j:Int)<j:=by omega
   have ht:r.Qc.take j=r.Qc:=List.take_of_length_le (by rw[←bg.o];exact nR);rw[ht]at HL Z b8 ⊢;have aB:=Qa (show G3 x r.Qc=if(r.Qc.foldl (KK x) ([],false)).2=true then(r.Qc.foldl (KK x) ([],false)).1 else(r.Qc.foldl (KK x) ([],false)).1++[x] from rfl);generalize r.Qc.foldl (KK x) ([],false)=st at*
   obtain⟨o,p⟩:=st;simp only at HL Z b8 aB;obtain⟨no,aa⟩:=eX o.length;rw[←aa]at Z b8 ⊢;have z:=Qa aa;have aI:Qb (Zj w8 wr o (.slice O no cO)):=Qa (by rw[aa];exact HL.o);obtain⟨L,aV⟩:=eX (G3 x r.Qc);rw[←aV]at aB;have aY:=Qa aV;have fa:L.length≤no+1:=by
    rw[aB.o];split
    ·omega
    rw[List.length_append,List.length_singleton];omega
   have l:=Qa (B.o.below aw.o B.o.lt);clear aa HL ht aV bD cp;go_upto_region 24 with fail;go_upto_if 114 with fail;go_cut [14] (fun out wx=>∃A c,out=.slice A L.length c∧Zj w8 wx L (.slice A L.length c)∧Below w8.heap.size w8 wx)
   case first=>
    cases p with
    |true=>
     have a8:=Qa (show L=o from by rw[aB.o];rfl);go_wp2_with fail;go_meet;exact⟨O,cO,by rw[a8.o,z.o],by rw[a8.o,←z.o];exact aI.o,aw.o⟩
    |false=>
     have a8:=Qa (show L=o++[x] from by rw[aB.o];rfl);have cD:Qb (∀u∈([.int .i64 k1,.int .i64 k2,.string tb,.int .i64 ((lo+a:Nat):Int),.int .i64 ((r.ep*1048576+(p0+1):Nat):Int)]:List Value),u.oneCell'=true):=Qa (by simp[Value.oneCell']);have c1:=cn #[.int .i64 k1,.int .i64 k2,.string tb,.int .i64 ((lo+a:Nat):Int),.int .i64 ((r.ep*1048576+(p0+1):Nat):Int)] rfl;have aT:Qb ((wr.alloc (.cells #[.int .i64 k1,.int .i64 k2,.string tb,.int .i64 ((lo+a:Nat):Int),.int .i64 ((r.ep*1048576+(p0+1):Nat):Int)] 69)).ownsRow w8.heap.size 69 5 (.slice O no cO) no (o.flatMap JJ)):=Qa (by have:=aI.o.own;rw[←z.o]at this;exact Qu this _);have aU:=Qa (Kq (Sl.Ja (sz:=5) (n:=1) (Qh.new wr 69 ([.int .i64 k1,.int .i64 k2,.string tb,.int .i64 ((lo+a:Nat):Int),.int .i64 ((r.ep*1048576+(p0+1):Nat):Int)]:List Value).toArray) rfl))
     have co:=Qa (show ∀A4 c4 w4,w4.ownsRow w8.heap.size 69 5 (.slice A4 (no+1) c4) (no+1) (o.flatMap JJ++[.int .i64 k1,.int .i64 k2,.string tb,.int .i64 ((lo+a:Nat):Int),.int .i64 ((r.ep*1048576+(p0+1):Nat):Int)])→(wr.alloc (.cells #[.int .i64 k1,.int .i64 k2,.string tb,.int .i64 ((lo+a:Nat):Int),.int .i64 ((r.ep*1048576+(p0+1):Nat):Int)] 69)).grownBy w4 (Value.slice O no cO).ownBlock→Zj w8 w4 (o++[x]) (.slice A4 (no+1) c4)∧Below w8.heap.size w8 w4 from fun A4 c4 w4 h1 h2=>by
      have h0:=aI.o;rw[z.o]at h0 h1 h2 ⊢;rw[←ag.o.2]at h1;exact⟨h0.push h1 h2,(aw.o.alloc e1 _).trans (Qg h2 (by simp;omega) (fun k hk=>(h0.own.lt k hk).1))⟩)
     go_wp2_with (first
      |(refine wpList_load_row rfl 69 _ rfl Sx rfl 69 #[.int .i64 k1,.int .i64 k2,.string tb,.int .i64 ((lo+a:Nat):Int),.int .i64 ((r.ep*1048576+(p0+1):Nat):Int)] (0,0) _ l.o underlying69 rfl c1.o ?_)
      |(at_builtin;refine Qv _ rfl _ _ 32 rfl w8.heap.size 69 bh _ 5 48 U2 ar bi bI bE rfl (by decide) (.slice O no cO) no (o.flatMap JJ) rfl aT.o (some ⟨wr.heap.size,0,none⟩) 1 1 _ [.int .i64 k1,.int .i64 k2,.string tb,.int .i64 ((lo+a:Nat):Int),.int .i64 ((r.ep*1048576+(p0+1):Nat):Int)] rfl aU.o cD.o (by unfold maxLen;omega) (by omega) (by simp;omega) ?_;intro A4 c4 w4 hown4 hgr4 hnc4 _;(have H:=Qa (co.o A4 c4 w4 hown4 hgr4));clear hown4 hgr4))
     go_meet;have e:(o++[x]).length=no+1:=by rw[List.length_append,z.o];rfl
     exact⟨A4,c4,by rw[a8.o,e],by rw[a8.o,e];exact H.o.1,H.o.2⟩
   obtain⟨A9,c9,rfl,bY,a9⟩:=hcut;obtain⟨nl,cm⟩:=eX L.length;rw[←cm]at bY ⊢;have ci:=Qa cm;have d2:=Qa bY;have a2:=Qa a9;have fb:=a9.size;have D:=Qa (aZ.o.below a9 aZ.o.lt);have eh:wc.cell? ⟨X,2,none⟩=some (.slice m.AS rb.Qc.length m.cS):=D.o.cell 2;have ei:=D.o.free 2;have ct:=D.o.lt;clear cm bY a9 aI z aB aw;obtain⟨r1,a0⟩:∃r1,r1={ rb with Qc:=L }:=⟨_,rfl⟩;obtain⟨m1,hm1⟩:∃m1,m1={ m with AS:=A9,cS:=c9 }:=⟨_,rfl⟩;have K:Qb (Qh (wc.setCell ⟨X,2,none⟩ (.slice A9 nl c9)) X 39 (Qr r1 m1)):=by
    have:=D.o.set 2 (.slice A9 nl c9);rw[a0,hm1];show Qh _ X 39 (#[.int .i64 rb.size,.slice m.AN rb.notes.length m.cN,.slice A9 L.length c9,.slice m.AM rb.marks.length m.cM,.slice m.AL rb.Qo.length m.cL,.int .i64 m.Qk,.int .i64 rb.half,.int .i64 rb.size,.int .i64 rb.ep,.pointer (some ⟨m.M,0,none⟩),.int .i64 rb.VB,.int .i64 rb.QA]:Array Value);rw[←ci.o];simpa using this
   have k6:Qd 0 [39] wc (wc.setCell ⟨X,2,none⟩ (.slice A9 nl c9)):=(Qd.refl 0 [39] wc).set D.o (Nat.zero_le _) (by simp) _;have cy:=Qa ((c0.o.below a2.o c0.o.lt).Yq (o:=2) eB (.slice A9 nl c9));have ak:=Qa ((cw.o.below a2.o cw.o.lt).Yq (o:=2) (fun e=>ba e.symm) (.slice A9 nl c9));have a6:=Qa ((cq.o.below a2.o cq.o.lt).Yq (o:=2) bp (.slice A9 nl c9));have bm:=Qa ((B.o.below a2.o B.o.lt).Yq (o:=2) eN (.slice A9 nl c9));have aW:=Qa ((df.o.below a2.o).keeps k6 (by decide) (by decide));have b3:=Qa ((cx.o.below a2.o).keeps k6 (by decide));have af:=Qa ((cf.o.trans (Qd.Qe a2.o (Nat.le_trans hbw eH))).fresh (Zc wc X 2 (.slice A9 nl c9)) (gB (by omega)) hbw)
   have e2:Qb (JN (wc.setCell ⟨X,2,none⟩ (.slice A9 nl c9)) r1 m1):=Qa (by
    have h6:=b3.o;rw[a0,hm1];refine⟨h6.notes, ?_,h6.marks,h6.Qo,h6.row,h6.OM,h6.Tk⟩;have bM:=d2.o.own;rw[←ci.o]at bM;have:=(Sl.Jl bM).keeps k6 (by decide);show Sl _ 69 5 A9 L.length _;rw[←ci.o];exact this)
   have bW:Qb (Ya r1):=Qa (by
    obtain⟨v1,v2,v3,v4,v5,v6,v7,v8,v9⟩:=d.o;rw[a0];refine⟨by show ∀x∈rb.notes,_;rw[v8];exact aN.o.notes,fun y hy=> ?_,by show ∀x∈rb.marks,_;rw[v9];exact aN.o.marks,by show rb.notes.length≤_;rw[v8];exact aN.o.nN, ?_,by show rb.marks.length≤_;rw[v9];exact aN.o.nM⟩
    ·have hy:y∈L:=hy;rw[aY.o,SZ]at hy;rcases Nq hy with hy|hy
     ·rw[hy,ag.o.1];have h1:=bC.o;have h2:=I.o.fl;have h3:=I.o.lo';have h4:=HK.o;exact⟨WL dq,WL dE,by simp only;omega,by simp only;omega,by simp only;omega⟩
     exact aN.o.Qc y hy
    show L.length≤_;rw[aY.o,SZ,Mt,←bg.o];omega)
   have bV:Qb (XV r1):=Qa (by
    obtain⟨v1,v2,v3,v4,v5,v6,v7,v8,v9⟩:=d.o;rw[a0];exact⟨by show rb.half<_;rw[v5];exact b9.o.h,by show rb.size<_;rw[v4];exact b9.o.s,by show rb.ep<_;rw[v6];exact b9.o.e,by show rb.Qo.length≤_;rw[v7];exact b9.o.n⟩)
   have bJ:Qb (m1.M=m.M∧m1.AM=m.AM):=Qa (by rw[hm1];exact⟨rfl,rfl⟩);have cG:=dQ.o;have cW:(⟨((k1:Int),(k2:Int)),b,lo+a,rb.VB*1048576+rb.QA⟩:V4)=x:=by rw[ag.o.1,d.o.1,d.o.2.1]
   rw[cW,←aY.o,←a0]at cG;have dw:=Qa cG;clear cG cW a0 hm1 dQ k6 D c0 cw bZ cq df cx cf aZ B d2;go_upto_region 27 with fail;clear eh ei ct;have cv:=af.o.below.size;generalize wc.setCell ⟨X,2,none⟩ (.slice A9 nl c9)=w9 at*
   obtain⟨bG,au⟩:=eX (Qr r1 m1);rw[←au]at K;have dk:Qb (bG.size=12∧bG.all (·.oneCell')=true):=Qa (by rw[au];exact⟨rfl,QX r1 m1⟩);have cK:=Qa au;obtain⟨bs,bo⟩:=eX ((Xs x).2);have de:Xs x=(83,bs):=by rw[bo];rfl
   have ea:k=b.length:=HK.o;obtain⟨iv,hiv⟩:∃iv:Int,iv=((lo+a:Nat):Int):=⟨_,rfl⟩;obtain⟨jv,hjv⟩:∃jv:Int,jv=((r.ep*1048576+(p0+1):Nat):Int):=⟨_,rfl⟩;have dx:=Qa hiv;have d3:=Qa hjv;clear hiv hjv
   have dP:=Qa (show ∀wy,Calls prog 140 #[.agg #[.int .i64 k1,.int .i64 k2,.string tb,.int .i64 iv,.int .i64 jv]] wy fun e w'=>Kz wy w' (83,bs) e from fun wy=>by
    have h1:=bC.o;have h2:=I.o.fl;have h3:=I.o.lo';have:=IZ (w:=wy) k1 k2 (lo+a) (r.ep*1048576+(p0+1)) b (by omega) (by omega) (by omega) (by omega) (by omega);unfold Qw at this;rw[d5.o]at this;rw[bo,ag.o.1,dx.o,d3.o];exact this)
   have bS:bs.length≤1000000:=by
    have h1:=bC.o;have h2:=I.o.fl;have h3:=I.o.lo'
    have:=KX [((k1:Nat):Int),(k2:Nat),((lo+a:Nat):Int),(b.length:Nat),((r.ep*1048576+(p0+1):Nat):Int)] (by
     intro y hy;simp only[List.mem_cons,List.not_mem_nil,or_false]at hy;rcases hy with rfl|rfl|rfl|rfl|rfl<;>omega)
    rw[bo,ag.o.1];show(Qi [((k1:Nat):Int),(k2:Nat),((lo+a:Nat):Int),(b.length:Nat),((r.ep*1048576+(p0+1):Nat):Int)]).length≤_;simp only[List.length_cons,List.length_nil]at this;omega
   have bH:=dw.o;rw[de]at bH;obtain⟨bl,a7⟩:=eX bs.length;have bz:Qb (bl=bs.length∧bl≤1000000):=Qa ⟨a7,by rw[a7];exact bS⟩
   have cE:=Qa (show ∀wy A c,Below w9.heap.size w9 wy→Kb wy A bs→bl≤c→Calls prog 139 #[.agg bG,.agg S,.agg #[.int .u8 83,.slice A bl c]] wy fun e w'=>XH wy w' m1 m (QE r1 rb (83,bs)) e from fun wy A c hy hb hc=>by
    rw[cK.o,dF.o,bz.o.1];exact V7 (e2.o.below hy) (b3.o.below hy) bJ.o.1.symm bW.o bV.o 83 bs A c hb (by rw[←bz.o.1];exact hc) (by decide) (by have:=bz.o;omega))
   obtain⟨ql,dh⟩:=eX (QE r1 rb (83,bs));rw[←dh]at cE bH;have cB:=Qa bH;clear au bo de bS a7 bH dw ea dh
   have SK:=Qa (show ∀wy,Below w9.heap.size w9 wy→(VQ (.pointer (some ⟨X,0,none⟩))).run prog wy=.ok (.agg bG) wy∧(VQ (.pointer (some ⟨W,0,none⟩))).run prog wy=.ok (.agg S) wy∧wy.cell? ⟨Sx,0,none⟩=some (.int .i64 k1)∧wy.cell? ⟨Sx,1,none⟩=some (.int .i64 k2)∧wy.cell? ⟨Sx,2,none⟩=some (.string tb)∧wy.cell? ⟨Sx,3,none⟩=some (.int .i64 iv)∧wy.cell? ⟨Sx,4,none⟩=some (.int .i64 jv) from fun wy hy=>by
    have aQ:=bm.o.below hy bm.o.lt;exact⟨QG (K.o.below hy K.o.lt) dk.o.1,QG (cy.o.below hy cy.o.lt) bc.o.1,aQ.cell 0,aQ.cell 1,aQ.cell 2,by rw[dx.o];exact aQ.cell 3,by rw[d3.o];exact aQ.cell 4⟩)
   have S0:=Qa (SK.o _ bR.drew);have eU:=bm.o.lt;go_cut [11] (fun v wx=>v=.int .i64 (ql.1:Nat)∧∃m8,Qh wx X 39 (Qr ql.2 m8)∧JN wx ql.2 m8∧m8.M=m.M∧m8.AM=m.AM∧Kr wx m.M lo (Vo F a false ln)∧Qh wx E 241 #[.int .i64 ((lo+a:Nat):Int),.int .i64 (ln:Nat)]∧Qh wx G 39 Ji∧Qd base [236] w wx)
   case first=>
    obtain⟨s1,s2,s3,s4,s5,s6,s7⟩:=S0.o
    go_region_law
     (first
      |(go_simp;go_at_call 140;refine(dP.o _).mono ?_;rintro en w7 ⟨⟨A7,c7,rfl,aR,d6⟩,hb⟩;(have bB:Qb (Below w9.heap.size w9 w7):=bR.drew.trans hb);(have dY:=Qa aR);(have cJ:=Qa d6);(have ek:bs.length=bl:=bz.o.1.symm);(rw[ek]at cJ);(try simp only[ek]);(obtain⟨t1,t2,t3,t4,t5,t6,t7⟩:=SK.o _ bB.o);clear aR hb d6 ek)
      |(go_simp;go_at_call 139;refine(cE.o w7 A7 c7 bB.o dY.o cJ.o).mono ?_;rintro en dz ⟨m8,rfl,cT,b0,aX,dc⟩;(have a1:Qb (Below w9.heap.size w9 dz):=bB.o.trans (dc.mono bB.o.size));(have b4:=Qa (K.o.below a1.o K.o.lt));(have f2:=QY b4.o dk.o.1 (JK ql.2 m8) (QX ql.2 m8));(have b6:=Qa (And.intro cT (And.intro b0 aX)));clear cT b0 aX dc))
    all_goals
     go_wp2_with fail;go_meet;have kr:=Q5 (ts:=[39]) b4.o (by decide) (Qr ql.2 m8);refine⟨rfl,m8,Qp b4.o _,b6.o.1.keeps kr (by decide),b6.o.2.1.trans bJ.o.1, ?_,(aW.o.below a1.o).keeps kr (by decide) (by decide),(ak.o.below a1.o ak.o.lt).Km (fun e=>ba e.symm) _,(a6.o.below a1.o a6.o.lt).Km bp _,(af.o.trans (Qd.Qe a1.o (Nat.le_trans hbw cv))).fresh (Qm dz X (Qr ql.2 m8)) (gB (by omega)) hbw⟩;rcases b6.o.2.2 with e|e
     ·exact e.trans bJ.o.2
     exact e
   obtain⟨rfl,m8,hX,hS,b0,aX,hM,hE,hG,hK⟩:=hcut;have D:=Qa hX;have cI:=Qa hS;have dv:=Qa hM;have al:=Qa hE;have b1:=Qa hG;have dO:=Qa hK;have aK:=Qa (And.intro b0 aX);have dd:=hK.below.size;clear hX hS hM hE hG hK b0 aX SK S0 cE dP K cy ak a6 bm aW b3 af e2 bW bV bJ;obtain⟨q1,r9⟩:=ql;simp only at D cI cB ⊢;obtain⟨aj,am⟩:=eX (Qr r9 m8);have e9:wc.cell? ⟨X,9,none⟩=some (.pointer (some ⟨m.M,0,none⟩)):=by
    have:wc.cell? ⟨X,9,none⟩=some (.pointer (some ⟨m8.M,0,none⟩)):=D.o.cell 9;rw[this,aK.o.1]
   rw[←am]at D;have ae:Qb (aj.size=12∧aj.all (·.oneCell')=true):=Qa (by rw[am];exact⟨rfl,QX r9 m8⟩);have bP:=Qa am;have di:Qb ((prog.info? 39).map (·.size)=some aj.size):=Qa (by rw[ae.o.1];exact Jy);have ct:=D.o.lt;clear am;by_cases hq1:q1=0
   ·subst hq1;have l9:=QG D.o ae.o.1;have zs:=QY b1.o rfl ae.o.1 ae.o.2;go_wp2_with fail;refine bodyPost_ret (v:=.tuple #[.agg aj,.int .i64 0]) (Ql results78 _ _ G 39 _ (0,0) _ rfl (Qp b1.o _) underlying39 rfl di.o) rfl ?_;rw[cB.o];exact⟨m8,by(rw[bP.o];try rfl),cI.o.keeps (Q5 (ts:=[39]) b1.o (by decide) _) (by decide),aK.o.1,Yk.same aK.o.2,dv.o.keeps (Q5 (ts:=[39]) b1.o (by decide) _) (by decide) (by decide),dO.o.fresh (Qm wc G aj) (gB (by omega)) hbw⟩
   have eS:((q1:Int)==0)=false:=by simp;omega
   have ew:Qb ((prog.info? 241).map (·.size)=some (#[.int .i64 ((lo+a:Nat):Int),.int .i64 (ln:Nat)]:Array Value).size):=Wu;have ef:=Qa (T0 (base:=base) dv.o a ln (by rw[KP];exact I.o.fl) I.o.lo' (by have:=bC.o;have:=I.o.fl;omega) dG.o hbM (Nat.le_trans hbw dd))
   go_upto_region 30 with(first
    |(refine wpList_load_row rfl 241 _ rfl E rfl 241 #[.int .i64 ((lo+a:Nat):Int),.int .i64 (ln:Nat)] (0,0) _ al.o underlying241 rfl ew.o ?_)
    |(go_at_call 141;refine ef.o.mono ?_;rintro en w5 ⟨⟨er,rfl⟩,dM,bd⟩;(have bv:=Qa dM);(have aL:=Qa bd);(have ac:=Qa (D.o.keeps bd (by decide)));(have ah:=Qa (b1.o.keeps bd (by decide)));clear dM bd))
   have l9:=QG ac.o ae.o.1;have zs:=QY ah.o rfl ae.o.1 ae.o.2;clear e9 ct;go_wp2_with fail;refine bodyPost_ret (v:=.tuple #[.agg aj,.int .i64 (q1:Nat)]) (Ql results78 _ _ G 39 _ (0,0) _ rfl (Qp ah.o _) underlying39 rfl di.o) rfl ?_;have ec:q=(q1,r9,VJ (Vo F a false ln) a ln):=by
    rw[cB.o]
    all_goals (cases q1 with
    |zero=>exact absurd rfl hq1
    |succ q1=>rfl)
   rw[ec];exact⟨m8,by rw[bP.o],(cI.o.keeps aL.o (by decide)).keeps (Q5 (ts:=[39]) ah.o (by decide) _) (by decide),aK.o.1,Yk.same aK.o.2,bv.o.keeps (Q5 (ts:=[39]) ah.o (by decide) _) (by decide) (by decide),(dO.o.trans aL.o).fresh (Qm w5 G aj) (gB (by omega)) hbw⟩
end
end
theorem Rx(w:World)(A:Option Addr)(c:Nat):(convert 43 9 (.slice A 0 c)).run prog w=.ok (.string ⟨#[]⟩) w:=by
 rw[run_convert_bytes_string w 43 9 5 A 0 c VI underlying5 underlying9];cases A with
 |none=>simp[Conv.bytesToString,Sem.run_pure];rfl
 |some a=>exact run_bytesToString (P:=prog) w a 0 c [] (by simp[loadCells,loadCellsFrom,Sem.run_pure])
theorem Kj(w:World)(A:Option Addr)(c:Nat)(t:List UInt8)(h:Kb w A t):(convert 43 9 (.slice A t.length c)).run prog w=.ok (.string ⟨t.toArray⟩) w:=by
 rcases Nat.eq_zero_or_pos t.length with h0|h0
 ·have:t=[]:=List.eq_nil_of_length_eq_zero h0;subst this;exact Rx w A c
 exact OB w A c t h h0
section
open Go.Shelf Go.Sort
variable {s:QM}
theorem XA.LZ(ok:XA s){v:Int}{t:List UInt8}(hv:Qs v=true)(ht:t.length≤3000):MF { s with notes:=KM v t s.notes }:=by
 have h:=ok.l;refine⟨h.Vn,h.num,UC h.VL,fun x hx=> ?_,h.Xk,h.nS, ?_,h.nM⟩
 ·rcases Yr hx with rfl|hx
  ·exact⟨hv,ht⟩
  exact h.Xv x hx
 have:=ok.nN;have:=Y2 (k:=v) (v:=t) s.notes;show(KM v t s.notes).length≤_;omega
variable {Sb base:Nat} {m:KY} {w:World}
theorem Ec(h:QO w base Sb s m)(ok:XA s)(v:Int)(t:List UInt8):
  Calls prog 75 #[.pointer (some ⟨Sb,0,none⟩),.int .i64 v,Qw t] w fun e w'=>Xy w w' base Sb m (KC s v t) e:=by
 have HH:=Qa h;have HK:=Qa ok;have L:=h.lt;have aj:=h.blk.lt;have W:(⟨t.toArray⟩:ByteArray).size=t.length:=by simp[ByteArray.size]
 have HX:=Qa (show Qh ((w.alloc (.cells #[.pointer (some ⟨Sb,0,none⟩)] 28)).alloc (.cells #[.int .i64 v] 2)) w.heap.size 28 #[.pointer (some ⟨Sb,0,none⟩)] from (Qh.new _ _ _).alloc _);have HY:=Qa (show Qh ((w.alloc (.cells #[.pointer (some ⟨Sb,0,none⟩)] 28)).alloc (.cells #[.int .i64 v] 2)) (w.heap.size+1) 2 #[.int .i64 v] from Qh.Qz (by simp));have b:Qb (Below w.heap.size w ((w.alloc (.cells #[.pointer (some ⟨Sb,0,none⟩)] 28)).alloc (.cells #[.int .i64 v] 2))):=(bR.alloc nR _).alloc (by simp) _;obtain⟨q,hq⟩:=eX (KC s v t);rw[←hq];have HQ:=Qa hq;have R1:=Qa (fun wy=>show Calls prog 104 #[.int .i64 v] wy fun e w'=>e=.returned (.bool (Qs v))∧wy=w' from KR v wy);clear h ok hq;unfold Qw;go_enter func75,ntmps75;go_upto_region 1 with fail;generalize (w.alloc (.cells #[.pointer (some ⟨Sb,0,none⟩)] 28)).alloc (.cells #[.int .i64 v] 2)=w1 at*
 have a2:=b.o.size;have c0:w1.cell? ⟨w.heap.size,0,none⟩=some (.pointer (some ⟨Sb,0,none⟩)):=HX.o.cell 0;have c1:w1.cell? ⟨w.heap.size+1,0,none⟩=some (.int .i64 v):=HY.o.cell 0;have xl:=HX.o.lt;have yl:=HY.o.lt;by_cases hv:Qs v=true
 case neg=>
  have U:Qs v=false:=by simpa using hv
  rw[U]at R1;have f:q=(1,s):=by rw[HQ.o];unfold KC;rw[if_pos (.inl U)]
  subst f;go_wp2_with (go_at_call 104;refine(R1.o _).mono ?_;rintro en w' ⟨rfl,rfl⟩);go_ret;exact⟨rfl,m,HH.o.below b.o,Qt.Qe b.o L⟩
 rw[hv]at R1;by_cases ht:3000<t.length
 ·have f:q=(1,s):=by rw[HQ.o];unfold KC;rw[if_pos (.inr ht)]
  subst f;have aa:(t.length:Int)>3000:=by omega
  go_wp2_with (go_at_call 104;refine(R1.o _).mono ?_;rintro en w' ⟨rfl,rfl⟩);go_ret;exact⟨rfl,m,HH.o.below b.o,Qt.Qe b.o L⟩
 have aa:¬((t.length:Int)>3000):=by omega
 have f:q=match Qy { s with notes:=KM v t s.notes } s (78,Qi [v]++32::t)with
   |(0,s1)=>Vr s1
   |(e,s1)=>(e,s1):=by rw[HQ.o];unfold KC;rw[if_neg (by rintro(e|e);(· rw[hv]at e;cases e);exact ht e)];rfl
 have K:=Q8 hv;go_upto_region 5 with(go_at_call 104;refine(R1.o _).mono ?_;rintro en w' ⟨rfl,rfl⟩);clear c0 c1 R1;obtain⟨X,hX⟩:=eX w.heap.size;obtain⟨Y,hY⟩:=eX (w.heap.size+1);rw[←hY]at HY yl;rw[←hX]at HX xl;rw[←hY,←hX];clear hX hY;have ae:base≤w1.heap.size:=by omega
 have H1:=Qa (HH.o.below b.o);obtain⟨was,j⟩:=eX ((QC s.notes v).getD []);obtain⟨th,F⟩:=eX ((QC s.notes v).isSome)
 have SK:=Qa (show ∀wy,Below w1.heap.size w1 wy→wy.cell? ⟨X,0,none⟩=some (.pointer (some ⟨Sb,0,none⟩))∧wy.cell? ⟨Sb,4,none⟩=some (.map (some m.Nb))∧wy.cell? ⟨Y,0,none⟩=some (.int .i64 v)∧(Instr.lookup 124 (.map (some m.Nb)) (.int .i64 v) true).run prog wy=.ok (.tuple #[.string ⟨was.toArray⟩,.bool th]) wy from fun wy hy=>by
  refine⟨(HX.o.below hy HX.o.lt).cell 0,(H1.o.below hy).blk.cell 4,(HY.o.below hy HY.o.lt).cell 0, ?_⟩;have:=(H1.o.below hy).OG.look_ok (x:=v) K;rw[j,F];exact this)
 have S0:=Qa (SK.o _ bR.drew);have P:=Qa j;have ab:=Qa F;clear j F;go_cut [7,8] (fun v7 v8 wx=>∃k7 k8,v7=.pointer (some ⟨k7,0,none⟩)∧v8=.pointer (some ⟨k8,0,none⟩)∧Qh wx k7 9 #[.string ⟨was.toArray⟩]∧Qh wx k8 4 #[.bool th]∧Below w1.heap.size w1 wx)
 case first=>
  go_region_held3 (fun wy=>wy.cell? ⟨X,0,none⟩=some (.pointer (some ⟨Sb,0,none⟩))∧wy.cell? ⟨Sb,4,none⟩=some (.map (some m.Nb))∧wy.cell? ⟨Y,0,none⟩=some (.int .i64 v)∧(Instr.lookup 124 (.map (some m.Nb)) (.int .i64 v) true).run prog wy=.ok (.tuple #[.string ⟨was.toArray⟩,.bool th]) wy)
   (first|exact S0.o|(refine SK.o _ ?_;repeat' (first|exact bR|refine Below.drew ?_|refine Below.alloc ?_ (by simp) _|refine Jo ?_ (by simp) _)))
   (fail)
  all_goals
   go_wp2_with fail;go_meet;refine⟨_,_,rfl,rfl, ?_, ?_, ?_⟩
   (repeat' (first|exact Qh.new _ _ _|exact Qh.Qz (by simp)|refine Qh.drew ?_|refine Qh.alloc ?_ _))
   (repeat' (first|exact Qh.new _ _ _|exact Qh.Qz (by simp)|refine Qh.drew ?_|refine Qh.alloc ?_ _))
   (repeat' (first|exact bR|refine Below.drew ?_|refine Below.alloc ?_ (by simp) _))
 obtain⟨k7,k8,rfl,rfl,h7,h8,g⟩:=hcut
 obtain⟨w9,n,Q,T,a,a6⟩:=((H1.o.below g).below bR.drew).Lz v K t (KM v t s.notes) (fun y=>OE v t y s.notes) (UC HK.o.VL) (fun x hx=>by
  rcases Yr hx with rfl|hx
  ·exact⟨hv,by show t.length≤3000;omega⟩
  exact HK.o.Xv x hx) (by have:=HK.o.nN;omega)
 replace n:(Instr.mapUpdate 124 (.map (some m.Nb)) (.int .i64 v) (.string ⟨t.toArray⟩)).run prog wc.drew=.ok () w9:=n;have u:=HX.o.below g HX.o.lt;have p:=HY.o.below g HY.o.lt;have z:=H1.o.below g;have S6:=Qa (show wc.drew.cell? ⟨X,0,none⟩=some (.pointer (some ⟨Sb,0,none⟩))∧wc.drew.cell? ⟨Sb,4,none⟩=some (.map (some m.Nb))∧wc.drew.cell? ⟨Y,0,none⟩=some (.int .i64 v) from ⟨u.drew.cell 0,z.blk.drew.cell 4,p.drew.cell 0⟩);have S9:=Qa (show w9.cell? ⟨X,0,none⟩=some (.pointer (some ⟨Sb,0,none⟩))∧w9.cell? ⟨Sb,4,none⟩=some (.map (some m.Nb))∧w9.cell? ⟨Y,0,none⟩=some (.int .i64 v) from ⟨(u.drew.keeps a (by decide)).cell 0,(z.blk.drew.keeps a (by decide)).cell 4,(p.drew.keeps a (by decide)).cell 0⟩)
 have H9:=Qa (show QO w9 base Sb { s with notes:=KM v t s.notes } m∧Qt base m m w w9∧Qh w9 X 28 #[.pointer (some ⟨Sb,0,none⟩)]∧Qh w9 Y 2 #[.int .i64 v]∧Qh w9 k7 9 #[.string ⟨was.toArray⟩]∧Qh w9 k8 4 #[.bool th]from
  ⟨Q,(Qt.Qe (m:=m) (b.o.trans ((g.mono a2).trans (bR.drew.mono (Nat.le_trans a2 g.size)))) L).trans T,u.drew.keeps a (by decide),p.drew.keeps a (by decide),h7.drew.keeps a (by decide),h8.drew.keeps a (by decide)⟩)
 have ai:=z.blk.lt;have aq:=u.lt;have ap:=p.lt;clear h7 h8 g Q T a a6 u p z S0 SK H1 HX HY b;go_upto_region 6 with fail;go_cut [7] (fun v7 wx=>v7=.pointer (some ⟨k7,0,none⟩)∧wx=w9)
 case first=>
  go_region_held3 (fun wy=>wy.cell? ⟨X,0,none⟩=some (.pointer (some ⟨Sb,0,none⟩))∧wy.cell? ⟨Sb,4,none⟩=some (.map (some m.Nb))∧wy.cell? ⟨Y,0,none⟩=some (.int .i64 v))
   (first|exact S6.o|exact S9.o)
   (fail)
  all_goals
   go_wp2_with fail;go_meet;exact⟨rfl,rfl⟩
 obtain⟨rfl,rfl⟩:=hcut;have ac:=H9.o.1.lt;have ag:=H9.o.1.blk.lt;have ah:=H9.o.2.2.1.lt;have af:=H9.o.2.2.2.1.lt;have I: -9223372036854775808≤v∧v≤9223372036854775807:=by
  have:=hv;unfold Qs at this;simp only[Bool.and_eq_true,decide_eq_true_eq]at this;omega
 have G:=KX [v] (by simpa using I);obtain⟨z0,q0⟩:∃z0:ByteArray,Qw (Qi [v])=.string z0:=⟨_,rfl⟩;obtain⟨tb,qt⟩:∃tb:ByteArray,tb=⟨t.toArray⟩:=⟨_,rfl⟩;obtain⟨z1,q1⟩:∃z1:ByteArray,z0++⟨#[32]⟩=z1:=⟨_,rfl⟩;obtain⟨z2,q2⟩:∃z2:ByteArray,z1++tb=z2:=⟨_,rfl⟩;have r:z0=⟨(Qi [v]).toArray⟩:=by unfold Qw at q0;injection q0 with q0;exact q0.symm
 have D:Value.string z2=Qw (Qi [v]++32::t):=by
  rw[←q2,←q1,r,qt];unfold Qw;congr 1;apply ByteArray.ext;simp
 have s0:z0.size≤22:=by rw[r];simpa [ByteArray.size]using G
 have st:tb.size≤3000:=by rw[qt,W];omega
 have s1:z1.size=z0.size+1:=by rw[←q1,ByteArray.size_append];rfl
 have b1:¬(9223372036854775807<z0.size+1):=by omega
 have b2:¬(9223372036854775807<z1.size+tb.size):=by omega
 have O:=Qa (show ∀wy,Below wc.heap.size wc wy→Calls prog 123 #[.slice (some ⟨wy.heap.size,0,none⟩) 1 1] (wy.alloc (.cells #[.int .i64 v] 2)) fun e w'=>e=.returned (.string z0)∧Below wy.heap.size wy w' from fun wy hy=>by
  have h1:Below wy.heap.size wy (wy.alloc (.cells #[.int .i64 v] 2)):=bR.alloc nR _;have:=XC (w:=wy.alloc (.cells #[.int .i64 v] 2)) [v] (some ⟨wy.heap.size,0,none⟩) 1 (Sl.Ja (Qh.new wy 2 _) rfl).1 (by simp) (by simpa using I) ((H9.o.1.below hy).Rn.tb.below h1);rw[q0]at this;exact this.mono fun e w' ⟨he,hb⟩=>⟨he,h1.trans (hb.mono h1.size)⟩)
 have H:=Qa (show ∀wy,Calls prog 71 #[.int .u8 78,.string z2] wy fun e w'=>Kz wy w' (78,Qi [v]++32::t) e from fun wy=>by
  have:=VA (w:=wy) 78 (Qi [v]++32::t);rw[←D]at this;exact this)
 have R:(Qi [v]++32::t).length<1099511627776:=by
  simp only[List.length_append,List.length_cons,List.length_nil]at G ⊢;omega
 have B:=Qa (show ∀wy A c,Below wc.heap.size wc wy→Kb wy A (Qi [v]++32::t)→(Qi [v]++32::t).length≤c→Calls prog 70 #[.pointer (some ⟨Sb,0,none⟩),.agg #[.int .u8 78,.slice A (Qi [v]++32::t).length c],.func (.func 132) #[] #[.pointer (some ⟨k8,0,none⟩),.pointer (some ⟨k7,0,none⟩),.pointer (some ⟨X,0,none⟩),.pointer (some ⟨Y,0,none⟩)]] wy fun e w'=>e=.returned (.int .i64 (Qy { s with notes:=KM v t s.notes } s (78,Qi [v]++32::t)).1)∧∃m',QO w' base Sb (Qy { s with notes:=KM v t s.notes } s (78,Qi [v]++32::t)).2 m'∧Qt base m m' w w'∧Qh w' X 28 #[.pointer (some ⟨Sb,0,none⟩)]∧Qh w' Y 2 #[.int .i64 v] from fun wy A c hy hby hc=>by
  have hh:=H9.o.1.below hy;have a7:=HK.o.LZ (t:=t) hv (by omega);have hx:=H9.o.2.2.1.below hy H9.o.2.2.1.lt;have J:=H9.o.2.2.2.1.below hy H9.o.2.2.2.1.lt;have hz:=H9.o.2.2.2.2.1.below hy H9.o.2.2.2.2.1.lt;have a5:=H9.o.2.2.2.2.2.below hy H9.o.2.2.2.2.2.lt;have S:=H9.o.2.1.trans (Qt.Qe (m:=m) hy ac);have an:=HK.o.nN;have ao:=HK.o.nS;have al:=HK.o.nM;have am:=Y2 (k:=v) (v:=t) s.notes
  have:=Xz hh a7 (by have:=HK.o.wt;show s.d.waits.length≤_;omega) (by have:=HK.o.ep;show s.log.epoch+2<_;omega) HK.o.at' HK.o.D8 (78,Qi [v]++32::t) (by show 78<256;decide) R A c hby hc
   (by rw[Vd,List.length_append,List.length_append,List.length_map,List.length_map,List.length_map];show(KM v t s.notes).length+s.Qc.length+s.marks.length≤_;omega)
   132 #[.pointer (some ⟨k8,0,none⟩),.pointer (some ⟨k7,0,none⟩),.pointer (some ⟨X,0,none⟩),.pointer (some ⟨Y,0,none⟩)] (fun _ _=>rfl)
   (fun w'=>∃m',QO w' base Sb (Qy { s with notes:=KM v t s.notes } s (78,Qi [v]++32::t)).2 m'∧Qt base m m' w w'∧Qh w' X 28 #[.pointer (some ⟨Sb,0,none⟩)]∧Qh w' Y 2 #[.int .i64 v])
   (fun w' d l hd hk hs=>by
    rw[XF hd];exact⟨m,hs,S.trans (Qt.of hk (by simp)),hx.keeps hk (by decide),J.keeps hk (by decide)⟩)
   (fun wz e d l hd he hk hs=>by
    rw[XE hd he];refine(PW (s:={ s with d:=d,log:=l }) (t:=t) (was:=was) (there:=th) hs K (a5.keeps hk (by decide)) (hz.keeps hk (by decide)) (hx.keeps hk (by decide)) (J.keeps hk (by decide)) ?_ HK.o.VL HK.o.Xv (by show s.notes.length<_;omega)).mono ?_
    ·show QC s.notes v=if th=true then some was else none
     rw[ab.o,P.o];cases QC s.notes v<;>rfl
    rintro en w' ⟨h1,h2,h3,h4⟩;exact⟨h1,m,h2,(S.trans (Qt.of hk (by simp))).trans h3,(hx.keeps hk (by decide)).keeps h4 (by decide),(J.keeps hk (by decide)).keeps h4 (by decide)⟩)
  rw[←V5 (was:=s)]at this;exact this)
 have i:=Qa (show ∀wy,Below wc.heap.size wc wy→wy.cell? ⟨X,0,none⟩=some (.pointer (some ⟨Sb,0,none⟩))∧wy.cell? ⟨Y,0,none⟩=some (.int .i64 v) from fun wy hy=>⟨(H9.o.2.2.1.below hy H9.o.2.2.1.lt).cell 0,(H9.o.2.2.2.1.below hy H9.o.2.2.2.1.lt).cell 0⟩);have S1:=Qa (i.o _ bR.drew);have QT:=Qa qt;clear r D qt G W s0 st s1 R I n S6 S9;obtain⟨lg,hlg⟩:∃lg,lg=Qy { s with notes:=KM v t s.notes } s (78,Qi [v]++32::t):=⟨_,rfl⟩;rw[←hlg]at f B;clear hlg HQ;generalize Qi [v]++32::t=bs at*
 obtain⟨er,s6⟩:=lg;have HQ:=Qa f;clear f;rw[←QT.o];go_upto_region 7 with fail;go_cut [9] (fun v9 wx=>v9=.int .i64 er∧∃m',QO wx base Sb s6 m'∧Qt base m m' w wx∧Qh wx X 28 #[.pointer (some ⟨Sb,0,none⟩)])
 case first=>
  go_region_held3 (fun wy=>wy.cell? ⟨X,0,none⟩=some (.pointer (some ⟨Sb,0,none⟩))∧wy.cell? ⟨Y,0,none⟩=some (.int .i64 v))
   (first|exact S1.o|exact S7.o|exact i.o _ M.o|exact i.o _ C.o|(refine i.o _ ?_;repeat' (first|exact bR|exact M.o|exact C.o|refine Below.drew ?_|refine Below.alloc ?_ (by simp) _)))
   (first
    |(go_at_call 123;refine(O.o _ bR.drew).mono ?_;rintro en w3 ⟨rfl,V⟩;(have C:Qb (Below wc.heap.size wc w3):=bR.drew.trans V);clear V)
    |(go_at_call 71;refine(H.o _).mono ?_;rintro en w4 ⟨⟨A4,c4,rfl,Z,a4⟩,a0⟩;(have a8:=Qa Z);(have a9:=Qa a4);(have M:Qb (Below wc.heap.size wc w4):=C.o.trans (a0.mono C.o.size));clear Z a4 a0)
    |(go_at_call 70;refine(B.o _ _ _ M.o a8.o a9.o).mono ?_;rintro en w7 ⟨rfl,m7,h7,a1,x7,y7⟩;(have H7:Qb (∃m',QO w7 base Sb s6 m'∧Qt base m m' w w7∧Qh w7 X 28 #[.pointer (some ⟨Sb,0,none⟩)]):=⟨m7,h7,a1,x7⟩);(have S7:=Qa (And.intro (x7.cell 0) (y7.cell 0)));clear h7 a1 x7 y7))
  all_goals
   go_wp2_with fail;go_meet;exact⟨rfl,H7.o⟩
 obtain⟨rfl,m7,h7,E,x7⟩:=hcut;have H7:=Qa h7;have K7:=Qa E;by_cases he:er=0
 ·subst he;have N:q=((Q4 s6.d).1,{ s6 with d:=(Q4 s6.d).2 }):=HQ.o;subst N;have x0:wc.cell? ⟨X,0,none⟩=some (.pointer (some ⟨Sb,0,none⟩)):=x7.cell 0;have x2:wc.cell? ⟨Sb,2,none⟩=some (.pointer (some ⟨m7.Lb,0,none⟩)):=h7.blk.cell 2;have xl:=x7.lt;have sl:=h7.blk.lt;have ad:=Qa (IA h7.log h7.Ul);have hz:=XW s6.d;clear h7 E x7 B H O i S1;go_wp2_with (go_at_call 73;refine ad.o.mono ?_;rintro en w8 ⟨rfl,hd,hk⟩;(have HD:=Qa hd);(have a3:=Qa hk);clear hd hk);go_ret;have k5:=a3.o.mono nR (ts':=[121,165,167,216,137]) (by simp);exact⟨rfl,m7,H7.o.YG k5 HD.o (H7.o.log.keeps a3.o (by decide) (by decide) (by decide)) hz,K7.o.trans (Qt.of k5 (by simp))⟩
 have ak:((er:Int) != 0)=true:=by simp;omega
 have N:q=(er,s6):=by
  rw[HQ.o];cases er with
  |zero=>exact absurd rfl he
  |succ e=>rfl
 subst N;clear he h7 E x7 B H O i S1;go_wp2_with fail;go_ret;exact⟨rfl,m7,H7.o,K7.o⟩
end
variable {Sb:Nat} {w:World}
theorem Pr{R:Nat→World→Prop}(v n:Int)(sz b:Nat)(hsz:sz<65536)
  (hcall:∀wy,Below w.heap.size w wy→Calls prog 74 #[.pointer (some ⟨Sb,0,none⟩),.agg #[.int .i64 v,.int .i64 n]] wy fun e w'=>∃r:Nat,e=.returned (.int .i64 r)∧R r w'):
  Calls prog 20 #[.pointer (some ⟨Sb,0,none⟩),.agg (Jw 1 v n sz b)] w fun e w'=>∃r:Nat,e=.returned (.int .i64 r)∧R r w':=by
 have HX:=Qa (Qh.new w 55 (Jw 1 v n sz b));have a:Qb (Below w.heap.size w (w.alloc (.cells (Jw 1 v n sz b) 55))):=bR.alloc nR _;have a0:=Qa (fun wy=>Jq 1 v n sz b hsz wy);have c:=Qa (fun wy=>Kn v n wy);have f:=Qa hcall;clear hcall;go_enter func20,ntmps20;go_upto_region 1 with fail;generalize w.alloc (.cells (Jw 1 v n sz b) 55)=w1 at*
 have d:=a.o.size
 have SK:=Qa (show ∀wy,Below w1.heap.size w1 wy→wy.cell? ⟨w.heap.size,0,none⟩=some (.int .i64 1)∧wy.cell? ⟨w.heap.size,1,none⟩=some (.int .i64 v)∧wy.cell? ⟨w.heap.size,2,none⟩=some (.int .i64 n)∧wy.cell? ⟨w.heap.size,3,none⟩=some (.int .u16 sz)∧wy.cell? ⟨w.heap.size,4,none⟩=some (.int .u8 b) from fun wy hy=>by
  have hx:=HX.o.below hy HX.o.lt;exact⟨hx.cell 0,hx.cell 1,hx.cell 2,hx.cell 3,hx.cell 4⟩)
 have S0:=Qa (SK.o _ bR.drew);obtain⟨c0,c1,c2,c3,c4⟩:=SK.o _ bR;have xl:=HX.o.lt;clear HX
 go_wp2_with (first
  |(go_at_call 31;refine(c.o _).mono ?_;rintro en w4 ⟨rfl,hb⟩;(have g:=Qa hb);clear hb)
  |(go_at_call 74;refine(f.o _ (a.o.trans (g.o.mono d))).mono ?_;rintro en w5 ⟨er,rfl,hr⟩;(have h:=Qa hr);clear hr))
 go_ret;exact⟨er,rfl,h.o⟩
theorem PN{R:Nat→World→Prop}(v n:Int)(sz b:Nat)(hsz:sz<65536)
  (hcall:∀wy,Below w.heap.size w wy→Calls prog 75 #[.pointer (some ⟨Sb,0,none⟩),.int .i64 v,Qw (QU sz b)] wy fun e w'=>∃r:Nat,e=.returned (.int .i64 r)∧R r w'):
  Calls prog 20 #[.pointer (some ⟨Sb,0,none⟩),.agg (Jw 2 v n sz b)] w fun e w'=>∃r:Nat,e=.returned (.int .i64 r)∧R r w':=by
 have HX:=Qa (Qh.new w 55 (Jw 2 v n sz b));have d:Qb (Below w.heap.size w (w.alloc (.cells (Jw 2 v n sz b) 55))):=bR.alloc nR _;have g:=Qa (fun wy=>Jq 2 v n sz b hsz wy);have a0:=Qa (fun wy=>Kn v n wy);have i:=Qa hcall;clear hcall;go_enter func20,ntmps20;go_upto_region 1 with fail;generalize w.alloc (.cells (Jw 2 v n sz b) 55)=w1 at*
 have f:=d.o.size
 have SK:=Qa (show ∀wy,Below w1.heap.size w1 wy→wy.cell? ⟨w.heap.size,0,none⟩=some (.int .i64 2)∧wy.cell? ⟨w.heap.size,1,none⟩=some (.int .i64 v)∧wy.cell? ⟨w.heap.size,2,none⟩=some (.int .i64 n)∧wy.cell? ⟨w.heap.size,3,none⟩=some (.int .u16 sz)∧wy.cell? ⟨w.heap.size,4,none⟩=some (.int .u8 b) from fun wy hy=>by
  have hx:=HX.o.below hy HX.o.lt;exact⟨hx.cell 0,hx.cell 1,hx.cell 2,hx.cell 3,hx.cell 4⟩)
 have S0:=Qa (SK.o _ bR.drew);obtain⟨c0,c1,c2,c3,c4⟩:=SK.o _ bR;have xl:=HX.o.lt;clear HX;go_upto_region 7 with fail;clear c0 c1 c2 c3 c4;obtain⟨f0,f1,f2,f3,f4⟩:=S0.o
 go_region_law (first
   |(go_at_call 38;refine(g.o _).mono ?_;rintro en w3 ⟨A,c,rfl,hy,_,hb⟩;(have a:Qb (Below w1.heap.size w1 w3):=bR.drew.trans hb);(have j:=Kj w3 A c _ hy);(obtain⟨d0,d1,d2,d3,d4⟩:=SK.o _ a.o);clear hb hy)
   |(go_simp;go_at_call 38;refine(g.o _).mono ?_;rintro en w3 ⟨A,c,rfl,hy,_,hb⟩;(have a:Qb (Below w1.heap.size w1 w3):=bR.drew.trans hb);(have j:=Kj w3 A c _ hy);(obtain⟨d0,d1,d2,d3,d4⟩:=SK.o _ a.o);clear hb hy)
   |(go_at_call 75;refine(i.o _ (d.o.trans (a.o.mono f))).mono ?_;rintro en w5 ⟨er,rfl,hr⟩;(have h:=Qa hr);clear hr)
   |(go_simp;go_at_call 75;refine(i.o _ (d.o.trans (a.o.mono f))).mono ?_;rintro en w5 ⟨er,rfl,hr⟩;(have h:=Qa hr);clear hr))
 all_goals
  go_wp2_with fail;go_ret;exact⟨er,rfl,h.o⟩
theorem Pt{R:Nat→World→Prop}(v n:Int)(sz b:Nat)(hsz:sz<65536)
  (hcall:∀wy,Below w.heap.size w wy→Calls prog 18 #[.pointer (some ⟨Sb,0,none⟩),Qw (QU sz b)] wy fun e w'=>∃r:Nat,e=.returned (.int .i64 r)∧R r w'):
  Calls prog 20 #[.pointer (some ⟨Sb,0,none⟩),.agg (Jw 3 v n sz b)] w fun e w'=>∃r:Nat,e=.returned (.int .i64 r)∧R r w':=by
 have HX:=Qa (Qh.new w 55 (Jw 3 v n sz b));have a:Qb (Below w.heap.size w (w.alloc (.cells (Jw 3 v n sz b) 55))):=bR.alloc nR _;have g:=Qa (fun wy=>Jq 3 v n sz b hsz wy);have a0:=Qa (fun wy=>Kn v n wy);have f:=Qa hcall;clear hcall;go_enter func20,ntmps20;go_upto_region 1 with fail;generalize w.alloc (.cells (Jw 3 v n sz b) 55)=w1 at*
 have d:=a.o.size
 have SK:=Qa (show ∀wy,Below w1.heap.size w1 wy→wy.cell? ⟨w.heap.size,0,none⟩=some (.int .i64 3)∧wy.cell? ⟨w.heap.size,1,none⟩=some (.int .i64 v)∧wy.cell? ⟨w.heap.size,2,none⟩=some (.int .i64 n)∧wy.cell? ⟨w.heap.size,3,none⟩=some (.int .u16 sz)∧wy.cell? ⟨w.heap.size,4,none⟩=some (.int .u8 b) from fun wy hy=>by
  have hx:=HX.o.below hy HX.o.lt;exact⟨hx.cell 0,hx.cell 1,hx.cell 2,hx.cell 3,hx.cell 4⟩)
 have S0:=Qa (SK.o _ bR.drew);obtain⟨c0,c1,c2,c3,c4⟩:=SK.o _ bR;have xl:=HX.o.lt;clear HX
 go_wp2_with (first
  |(go_at_call 38;refine(g.o _).mono ?_;rintro en w3 ⟨A,c,rfl,hy,_,hb⟩;(have h:=Qa hb);(have a1:=Kj w3 A c _ hy);clear hb hy)
  |(go_at_call 18;refine(f.o _ (a.o.trans (h.o.mono d))).mono ?_;rintro en w5 ⟨er,rfl,hr⟩;(have i:=Qa hr);clear hr))
 go_ret;exact⟨er,rfl,i.o⟩
theorem Rr{R:Nat→World→Prop}(v n:Int)(sz b:Nat)(hsz:sz<65536)
  (hcall:∀wy,Below w.heap.size w wy→Calls prog 76 #[.pointer (some ⟨Sb,0,none⟩),.int .i64 v] wy fun e w'=>∃r:Nat,e=.returned (.int .i64 r)∧R r w'):
  Calls prog 20 #[.pointer (some ⟨Sb,0,none⟩),.agg (Jw 4 v n sz b)] w fun e w'=>∃r:Nat,e=.returned (.int .i64 r)∧R r w':=by
 have HX:=Qa (Qh.new w 55 (Jw 4 v n sz b));have a:Qb (Below w.heap.size w (w.alloc (.cells (Jw 4 v n sz b) 55))):=bR.alloc nR _;have a2:=Qa (fun wy=>Jq 4 v n sz b hsz wy);have a0:=Qa (fun wy=>Kn v n wy);have c:=Qa hcall;clear hcall;go_enter func20,ntmps20;go_upto_region 1 with fail;generalize w.alloc (.cells (Jw 4 v n sz b) 55)=w1 at*
 have a1:=a.o.size
 have SK:=Qa (show ∀wy,Below w1.heap.size w1 wy→wy.cell? ⟨w.heap.size,0,none⟩=some (.int .i64 4)∧wy.cell? ⟨w.heap.size,1,none⟩=some (.int .i64 v)∧wy.cell? ⟨w.heap.size,2,none⟩=some (.int .i64 n)∧wy.cell? ⟨w.heap.size,3,none⟩=some (.int .u16 sz)∧wy.cell? ⟨w.heap.size,4,none⟩=some (.int .u8 b) from fun wy hy=>by
  have hx:=HX.o.below hy HX.o.lt;exact⟨hx.cell 0,hx.cell 1,hx.cell 2,hx.cell 3,hx.cell 4⟩)
 have S0:=Qa (SK.o _ bR.drew);obtain⟨c0,c1,c2,c3,c4⟩:=SK.o _ bR;have xl:=HX.o.lt;clear HX;go_wp2_with (go_at_call 76;refine(c.o _ a.o).mono ?_;rintro en w5 ⟨er,rfl,hr⟩;(have d:=Qa hr);clear hr);go_ret;exact⟨er,rfl,d.o⟩
theorem PF{R:Nat→World→Prop}(v n:Int)(sz b:Nat)(hsz:sz<65536)
  (hcall:∀wy,Below w.heap.size w wy→Calls prog 77 #[.pointer (some ⟨Sb,0,none⟩),.int .i64 (((sz%8:Nat):Int)-1)] wy fun e w'=>∃r:Nat,e=.returned (.int .i64 r)∧R r w'):
  Calls prog 20 #[.pointer (some ⟨Sb,0,none⟩),.agg (Jw 5 v n sz b)] w fun e w'=>∃r:Nat,e=.returned (.int .i64 r)∧R r w':=by
 have HX:=Qa (Qh.new w 55 (Jw 5 v n sz b));have a:Qb (Below w.heap.size w (w.alloc (.cells (Jw 5 v n sz b) 55))):=bR.alloc nR _;have a2:=Qa (fun wy=>Jq 5 v n sz b hsz wy);have a0:=Qa (fun wy=>Kn v n wy);have c:=Qa hcall;clear hcall;go_enter func20,ntmps20;go_upto_region 1 with fail;generalize w.alloc (.cells (Jw 5 v n sz b) 55)=w1 at*
 have a1:=a.o.size
 have SK:=Qa (show ∀wy,Below w1.heap.size w1 wy→wy.cell? ⟨w.heap.size,0,none⟩=some (.int .i64 5)∧wy.cell? ⟨w.heap.size,1,none⟩=some (.int .i64 v)∧wy.cell? ⟨w.heap.size,2,none⟩=some (.int .i64 n)∧wy.cell? ⟨w.heap.size,3,none⟩=some (.int .u16 sz)∧wy.cell? ⟨w.heap.size,4,none⟩=some (.int .u8 b) from fun wy hy=>by
  have hx:=HX.o.below hy HX.o.lt;exact⟨hx.cell 0,hx.cell 1,hx.cell 2,hx.cell 3,hx.cell 4⟩)
 have S0:=Qa (SK.o _ bR.drew);obtain⟨c0,c1,c2,c3,c4⟩:=SK.o _ bR;have xl:=HX.o.lt;clear HX;have q1:IntKind.i64.wrap (((sz%8:Nat):Int)-1)=((sz%8:Nat):Int)-1:=by rw[IntKind.wrap_i64];omega
 go_wp2_with (go_at_call 77;refine(c.o _ a.o).mono ?_;rintro en w5 ⟨er,rfl,hr⟩;(have d:=Qa hr);clear hr);go_ret;exact⟨er,rfl,d.o⟩
theorem Pu{R:Nat→World→Prop}(k v n:Int)(sz b:Nat)(hsz:sz<65536)(hk:k<0∨5<k)
  (hcall:∀wy,Below w.heap.size w wy→Calls prog 54 #[.pointer (some ⟨Sb,0,none⟩)] wy fun e w'=>∃r:Nat,e=.returned (.int .i64 r)∧R r w'):
  Calls prog 20 #[.pointer (some ⟨Sb,0,none⟩),.agg (Jw k v n sz b)] w fun e w'=>∃r:Nat,e=.returned (.int .i64 r)∧R r w':=by
 have HX:=Qa (Qh.new w 55 (Jw k v n sz b));have a:Qb (Below w.heap.size w (w.alloc (.cells (Jw k v n sz b) 55))):=bR.alloc nR _;have a2:=Qa (fun wy=>Jq k v n sz b hsz wy);have a0:=Qa (fun wy=>Kn v n wy);have c:=Qa hcall;clear hcall;have k0:¬(k=0):=by omega
 have k1:¬(k=1):=by omega
 have k2:¬(k=2):=by omega
 have k3:¬(k=3):=by omega
 have k4:¬(k=4):=by omega
 have k5:¬(k=5):=by omega
 clear hk;go_enter func20,ntmps20;go_upto_region 1 with fail;generalize w.alloc (.cells (Jw k v n sz b) 55)=w1 at*
 have a1:=a.o.size
 have SK:=Qa (show ∀wy,Below w1.heap.size w1 wy→wy.cell? ⟨w.heap.size,0,none⟩=some (.int .i64 k)∧wy.cell? ⟨w.heap.size,1,none⟩=some (.int .i64 v)∧wy.cell? ⟨w.heap.size,2,none⟩=some (.int .i64 n)∧wy.cell? ⟨w.heap.size,3,none⟩=some (.int .u16 sz)∧wy.cell? ⟨w.heap.size,4,none⟩=some (.int .u8 b) from fun wy hy=>by
  have hx:=HX.o.below hy HX.o.lt;exact⟨hx.cell 0,hx.cell 1,hx.cell 2,hx.cell 3,hx.cell 4⟩)
 have S0:=Qa (SK.o _ bR.drew);obtain⟨c0,c1,c2,c3,c4⟩:=SK.o _ bR;have xl:=HX.o.lt;clear HX;go_wp2_with (go_at_call 54;refine(c.o _ a.o).mono ?_;rintro en w5 ⟨er,rfl,hr⟩;(have d:=Qa hr);clear hr);go_ret;exact⟨er,rfl,d.o⟩
def ZJ(s:QM)(k v n:Int)(sz b:Nat)(gone:List (Qj × Qx)):Nat × QM:=
 if k=0 then Q6 s (v,n) (QU sz b)
 else if k=1 then KB s (v,n)
 else if k=2 then KC s v (QU sz b)
 else if k=3 then KO s (QU sz b)
 else if k=4 then JX s v gone
 else if k=5 then KT s (((sz%8:Nat):Int)-1)
 else Vr s
def Ii(s:QM)(v:Int)(gone:List (Qj × Qx)):Prop:=(∀y∈gone,y∈QS s v)∧((JX s v gone).1=0→SK.Keys (QC (QS s v)) (gone.map (·.1)))
variable {base:Nat} {m:KY} {w' wy:World}
theorem Xy.from{r:Nat × QM}{e:Ending}(h:Xy wy w' base Sb m r e)(hb:Below w.heap.size w wy)(hl:base≤w.heap.size):∃er:Nat,e=.returned (.int .i64 er)∧(er=r.1∧∃m',QO w' base Sb r.2 m'∧Qt base m m' w w'):=by
 obtain⟨h1,m',h2,h3⟩:=h;exact⟨r.1,h1,rfl,m',h2,(Qt.Qe (m:=m) hb hl).trans h3⟩
variable {E lo:Nat} {s:QM} {ts:List (Qj × List UInt8)}
theorem FO(h:QO w base Sb s m)(ha:JH s lo E ts)(hok:XA s)(hE:E+4<549755813888)(hK:s.d.waits.length≤824633720832)(hp:s.QA<1048575)
  (k v n:Int)(hv:ZX v)(hn:ZX n)(sz b:Nat)(hsz:sz<65536):
  Calls prog 20 #[.pointer (some ⟨Sb,0,none⟩),.agg (Jw k v n sz b)] w fun e w'=>∃gone,Ii s v gone∧Xy w w' base Sb m (ZJ s k v n sz b gone) e:=by
 have hl:=h.lt;have g0:Ii s v (QS s v):=⟨fun _ h=>h,fun _=>JO (List.Pairwise.filter _ hok.Vn) (fun x hx=>hok.num x (List.mem_filter.1 hx).1)⟩;have a:∀{e w'} {r:Nat × QM} {gone},ZJ s k v n sz b gone=r→Ii s v gone→(∃er:Nat,e=.returned (.int .i64 er)∧(er=r.1∧∃m',QO w' base Sb r.2 m'∧Qt base m m' w w'))→∃gone,Ii s v gone∧Xy w w' base Sb m (ZJ s k v n sz b gone) e:=by
  rintro e w' r gone rfl hg ⟨er,rfl,rfl,m',h2,h3⟩;exact⟨gone,hg,rfl,m',h2,h3⟩
 by_cases k0:k=0
 ·subst k0;refine(NG h ha hok hE hK hp v n sz b hsz).mono ?_;rintro e w' ⟨h1,h2,h3⟩;exact⟨_,g0,h1,m,h2,h3⟩
 by_cases k1:k=1
 ·subst k1;refine(Pr (R:=fun er w'=>er=(KB s (v,n)).1∧∃m',QO w' base Sb (KB s (v,n)).2 m'∧Qt base m m' w w') v n sz b hsz ?_).mono ?_
  ·intro wy hy;exact(Ep (h.below hy) hok (v,n) ⟨hv,hn⟩).mono fun e w' ho=>ho.from hy hl
  exact fun e w' ho=>a (by unfold ZJ;simp) g0 ho
 by_cases k2:k=2
 ·subst k2;refine(PN (R:=fun er w'=>er=(KC s v (QU sz b)).1∧∃m',QO w' base Sb (KC s v (QU sz b)).2 m'∧Qt base m m' w w') v n sz b hsz ?_).mono ?_
  ·intro wy hy;exact(Ec (h.below hy) hok v (QU sz b)).mono fun e w' ho=>ho.from hy hl
  exact fun e w' ho=>a (by unfold ZJ;simp) g0 ho
 by_cases k3:k=3
 ·subst k3;refine(Pt (R:=fun er w'=>er=(KO s (QU sz b)).1∧∃m',QO w' base Sb (KO s (QU sz b)).2 m'∧Qt base m m' w w') v n sz b hsz ?_).mono ?_
  ·intro wy hy;exact(Ej (h.below hy) hok (QU sz b)).mono fun e w' ho=>ho.from hy hl
  exact fun e w' ho=>a (by unfold ZJ;simp) g0 ho
 by_cases k4:k=4
 ·subst k4;refine(Rr (R:=fun er w'=>∃gone,Ii s v gone∧er=(JX s v gone).1∧∃m',QO w' base Sb (JX s v gone).2 m'∧Qt base m m' w w') v n sz b hsz ?_).mono ?_
  ·intro wy hy;refine(Nx (h.below hy) hok v hv).mono ?_;rintro e w' ⟨gone,g1,g2,ho⟩;obtain⟨er,h1,h2⟩:=ho.from hy hl;exact⟨er,h1,gone,⟨g1,g2⟩,h2⟩
  rintro e w' ⟨er,h1,gone,hg,h2⟩;exact a (gone:=gone) (by unfold ZJ;simp) hg ⟨er,h1,h2⟩
 by_cases k5:k=5
 ·subst k5;refine(PF (R:=fun er w'=>er=(KT s (((sz%8:Nat):Int)-1)).1∧∃m',QO w' base Sb (KT s (((sz%8:Nat):Int)-1)).2 m'∧Qt base m m' w w') v n sz b hsz ?_).mono ?_
  ·intro wy hy;exact(ER (h.below hy) hok _ (by omega)).mono fun e w' ho=>ho.from hy hl
  exact fun e w' ho=>a (by unfold ZJ;simp) g0 ho
 refine(Pu (R:=fun er w'=>er=(Vr s).1∧∃m',QO w' base Sb (Vr s).2 m'∧Qt base m m' w w') k v n sz b hsz (by omega) ?_).mono ?_
 ·intro wy hy;refine(OV (h.below hy)).mono ?_;rintro e w' ⟨h1,h2,h3⟩;exact⟨_,h1,rfl,m,h2,(Qt.Qe (m:=m) hy hl).trans (Qt.of h3 (by simp))⟩
 exact fun e w' ho=>a (by unfold ZJ;rw[if_neg k0,if_neg k1,if_neg k2,if_neg k3,if_neg k4,if_neg k5]) g0 ho
end Go.Proofs.YtmgmfnimaafkdaaGreatDoor
