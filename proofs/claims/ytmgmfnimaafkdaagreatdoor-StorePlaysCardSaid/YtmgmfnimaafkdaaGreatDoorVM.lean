/- The document's map of sectors: in, all, turn. -/
import Derived.Test.YtmgmfnimaafkdaaGreatDoorVL
namespace Go.Proofs.YtmgmfnimaafkdaaGreatDoor
set_option maxRecDepth 100000
set_option maxHeartbeats 0
open Go.RowKit Go.Maps Go.Shelf Go.Sort
open Tryz
structure QW (s:QM) (lo K:Nat) (ts:List (Qj × List UInt8)) (r:QH) (F:List Bool):Prop where
 all:JH s lo (2+2*K) ts
 V9:CM s r
 mp:RC s.map F
 Xv:r.Qc.map (fun x=>(x.n,x.b))=ts
 room:Zz s
 pu:s.QA≤K
 nt:s.notes.length≤K
 mr:s.marks.length≤K
 Yp:ts.length≤K
 rc:s.log.Qo.length≤4*K
 wt:s.d.waits.length≤8589934592+K*12884967424
 Bt:VH s.d=[]
variable {F:List Bool} {K lo:Nat} {r:QH} {s:QM} {ts:List (Qj × List UInt8)}
theorem QW.waits(h:QW s lo K ts r F)(hK:K≤60):s.d.waits.length≤824633720832:=by
 have:=h.wt;omega
theorem QW.ok(h:QW s lo K ts r F)(hK:K≤60):XA s:=
 h.all.ok (by omega) (h.waits hK) (by rw[h.all.side.len];have:=h.Yp;omega) (by have:=h.nt;omega) (by have:=h.mr;omega)
variable {s':QM}
theorem QW.step{ts':List (Qj × List UInt8)}{r':QH}{F':List Bool}(h:QW s lo K ts r F)(ha:JH s' lo (2+2*K+2) ts')(hr:Q2 (KG (2+2*K+2)) 12884967424 s.d s'.d)(hs:CM s' r')(hm:RC s'.map F')(ht:r'.Qc.map (fun x=>(x.n,x.b))=ts')(hw:Zz s')
  (h1:s'.QA≤K+1)(h2:s'.notes.length≤K+1)(h3:s'.marks.length≤K+1)(h4:ts'.length≤K+1)(h5:s'.log.Qo.length≤4*(K+1)):QW s' lo (K+1) ts' r' F':=by
 have e2:2+2*(K+1)=2+2*K+2:=by omega
 refine⟨by rw[e2];exact ha,hs,hm,ht,hw,h1,h2,h3,h4,h5, ?_, ?_⟩
 ·have:=hr.like.2;have:=h.wt;omega
 have:=IQ hr;rw[h.Bt]at this;exact List.length_eq_zero_iff.1 (by simpa using this)
theorem QW.idle(h:QW s lo K ts r F):QW s lo (K+1) ts r F:=
 h.step (h.all.le (by omega)) (Q2.refl _) h.V9 h.mp h.Xv h.room (Nat.le_succ_of_le h.pu) (Nat.le_succ_of_le h.nt) (Nat.le_succ_of_le h.mr) (Nat.le_succ_of_le h.Yp) (by have:=h.rc;omega)
theorem QW.Qo(h:QW s lo K ts r F):(Qn s).length≤3*K:=by
 rw[Kw,h.all.side.len];have:=h.nt;have:=h.mr;have:=h.Yp;omega
variable {r1:QH} {s1:QM} {y:QN}
theorem QW.change{x:QN}(h:QW s lo K ts r F)(hK:K≤60)(hd:s1.d=s.d)(hl:s1.log=s.log)(hm:s1.map=s.map)(hs:s1.Qc=s.Qc)(hp:s1.QA=s.QA)(he:s1.epoch=s.epoch)
  (hL1:r1.size=r.size∧r1.half=r.half∧r1.ep=r.ep∧r1.Qo=r.Qo∧r1.VB=r.VB∧r1.QA=r.QA)(hr1:r1.Qc=r.Qc)(hrn:r1.notes=s1.notes)(hrm:r1.marks=s1.marks)
  (ht:∀x∈s1.notes,Qs x.1=true∧x.2.length≤3000)(hn:Yx s1.notes)(hk:∀x∈s1.marks,x.length≤3000)(hx:x.2.length≤4000)(hy:y.2.length=x.2.length)(hnl:s1.notes.length≤K+1)(hml:s1.marks.length≤K+1)
  (hroom:Zz (Qy s1 s x).2)(hrsl:(QE r1 r y).2.Qc=r.Qc)(fl:Bool):
  let q:=match Qy s1 s x with
   |(0,s2)=>if fl then Vr s2 else(0,s2)
   |(e,s2)=>(e,s2)
  q.1=(QE r1 r y).1∧QW q.2 lo (K+1) ts (QE r1 r y).2 F:=by
 obtain⟨d',l',a,hr,a1,a2⟩:=MV h.all (by omega) hd hl hm hs hp he ht hn hk hx;have c:∀x∈s1.Qc,Kf x:=by rw[hs];exact h.all.U6
 have a0:(Qn s1).length≤3*K+2:=by
  rw[Kw,hs,h.all.side.len];have:=h.Yp;omega
 have a7:=h.rc;obtain⟨g1,g2,g3⟩:=IY (x:=x) (y:=y) (r1:=r1) h.all h.V9 hd hl hp he hL1 ⟨hrn,by rw[hs,hr1];exact h.V9.d.Qc,hrm⟩ hx hy (VW ht hk c) (by omega) (by omega);have a6:=h.nt;have a5:=h.mr;have a8:=h.pu;have a4:=h.Yp;rcases a with a|a
 ·rw[a]at g1 g2 g3 hroom ⊢;simp only at g1 g2 g3 hroom ⊢;cases fl with
  |false=>
   refine⟨g1,h.step (a1.le (by omega)) ((hr.mono fun b hb=>hb.le (by omega)).le (by omega)) g2 (by show RC s1.map F;rw[hm];exact h.mp) (by rw[hrsl];exact h.Xv) hroom (by show s1.QA≤_;omega) hnl hml (by omega) (by show l'.Qo.length≤_;omega)⟩
  |true=>
   obtain⟨d2,hf,r2,a3⟩:=a1.KH;simp only at hf r2 a3;obtain⟨s3,s4,s5⟩:=Sr a1 g2;have es:Vr { s1 with d:=d',log:=l' }=(0,{ s1 with d:=d2,log:=l' }):=by unfold Vr;simp only;rw[hf]
   rw[es]at s3 s4 s5;rw[if_pos rfl,es];refine⟨g1,h.step (a3.le (by omega)) (((hr.mono fun b hb=>hb.le (by omega)).trans (r2.mono fun b hb=>hb.le (by omega)) (by omega))) s4 (by show RC s1.map F;rw[hm];exact h.mp) (by rw[hrsl];exact h.Xv) (hroom.DC d2) (by show s1.QA≤_;omega) hnl hml (by omega) (by show l'.Qo.length≤_;omega)⟩
 rw[a]at g1 g2 g3 hroom ⊢;simp only at g1 g2 g3 hroom ⊢;refine⟨g1,h.step (a2.le (by omega)) ((hr.mono fun b hb=>hb.le (by omega)).le (by omega)) g2 h.mp (by rw[hrsl];exact h.Xv) hroom (by show s.QA≤_;omega) (by show s.notes.length≤_;omega) (by show s.marks.length≤_;omega) (by omega) (by show l'.Qo.length≤_;omega)⟩
theorem Xm(h:r1.Qc=r.Qc):(QE r1 r y).2.Qc=r.Qc:=by
 unfold QE;have e1:(YP r1 y).2.Qc=r1.Qc:=by unfold YP;split<;>first|rfl|(split<;>rfl)
 have e2:(Vq r1).2.Qc=r1.Qc:=by unfold Vq XU;split<;>first|rfl|(split<;>rfl)
 split
 ·rename_i r2 heq;rw[heq]at e1;exact e1.trans h
 split
 ·rename_i r2 heq;rw[heq]at e2;exact e2.trans h
 rfl
theorem QW.note(h:QW s lo K ts r F)(hK:K≤60)(v:Int)(t:List UInt8):(KC s v t).1=(Xp r v t).1∧QW (KC s v t).2 lo (K+1) ts (Xp r v t).2 F:=by
 by_cases hc:Qs v=false∨3000<t.length
 ·unfold KC Xp;rw[if_pos hc,if_pos hc];exact⟨rfl,h.idle⟩
 have hv:Qs v=true:=by cases hh:Qs v<;>simp_all
 have c:t.length≤3000:=by omega
 have hw:=Uk hv;have e:YI v t r.notes=KM v t s.notes:=by rw[h.V9.d.notes,Ge h.all.VL]
 have hp:=Y2 (k:=v) (v:=t) s.notes;have a1:=h.nt;have b:(Qi [v]++32::t).length≤4000:=by simp only[List.length_append,List.length_cons];omega
 have a:Zz (Qy { s with notes:=KM v t s.notes } s (78,Qi [v]++32::t)).2:=by
  refine Xh (lo:=lo) h.all.log rfl b (VW (fun x hx=> ?_) h.all.Xk h.all.U6) h.room ?_ ?_
  ·rcases Yr hx with rfl|hx
   ·exact⟨hv,c⟩
   exact h.all.Xv x hx
  ·rw[Vv,Vv];have:=IP (ZS s.log) v t s.notes;show((KM v t s.notes).map (ZS s.log)).sum+_+_≤_+ZS s.log (v,t);simp only;omega
  rw[Kw,Kw];simp only;omega
 have a0:=h.mr
 have:=h.change (s1:={ s with notes:=KM v t s.notes }) (r1:={ r with notes:=YI v t r.notes }) (x:=(78,Qi [v]++32::t)) (y:=(78,Qi [v]++32::t)) hK rfl rfl rfl rfl rfl rfl ⟨rfl,rfl,rfl,rfl,rfl,rfl⟩ rfl e h.V9.d.marks (fun x hx=>by
  rcases Yr hx with rfl|hx
  ·exact⟨hv,c⟩
  exact h.all.Xv x hx) (UC h.all.VL) h.all.Xk b rfl (by simp only;omega) (by simp only;omega) a (Xm rfl) true
 unfold KC Xp;rw[if_neg hc,if_neg hc];simp only[if_pos]at this;exact this
theorem QW.mark(h:QW s lo K ts r F)(hK:K≤60)(t:List UInt8):(KO s t).1=(Xn r t).1∧QW (KO s t).2 lo (K+1) ts (Xn r t).2 F:=by
 by_cases hc:3000<t.length
 ·unfold KO Xn;rw[if_pos hc,if_pos hc];exact⟨rfl,h.idle⟩
 have a:∀x∈s.marks++[t],x.length≤3000:=fun x hx=>by
  rcases List.mem_append.1 hx with hx|hx
  ·exact h.all.Xk x hx
  rw[List.mem_singleton]at hx;subst hx;omega
 have a1:=h.mr;have a0:=h.nt;have b:Zz (Qy { s with marks:=s.marks++[t] } s (77,t)).2:=by
  refine Xh (lo:=lo) h.all.log rfl (by simp only;omega) (VW h.all.Xv a h.all.U6) h.room ?_ ?_
  ·rw[Vv,Vv];show _+_+((s.marks++[t]).map (Y3 s.log)).sum≤_+Y3 s.log t;rw[List.map_append,List.sum_append];simp;omega
  rw[Kw,Kw];simp;omega
 have:=h.change (s1:={ s with marks:=s.marks++[t] }) (r1:={ r with marks:=r.marks++[t] }) (x:=(77,t)) (y:=(77,t)) hK rfl rfl rfl rfl rfl rfl ⟨rfl,rfl,rfl,rfl,rfl,rfl⟩ rfl h.V9.d.notes (by show r.marks++[t]=s.marks++[t];rw[h.V9.d.marks]) h.all.Xv h.all.VL a (by simp only;omega) rfl (by simp only;omega) (by simp;omega) b (Xm rfl) true;unfold KO Xn;rw[if_neg hc,if_neg hc];simp only[if_pos]at this;exact this
theorem Uv{was:QH}{was':QH}{q:QH}(h:QE r was y=(0,q)):QE r was' y=(0,q):=by
 unfold QE at h ⊢;split at h
 ·exact h
 split at h
 ·exact h
 rename_i e r2 hne heq;simp only[Prod.mk.injEq]at h;exact absurd h.1 hne
theorem Si(k:Nat)(h:k<10):(Qi [(k:Int)]).length=1:=by
 rw[Oh,WX h];rfl
theorem QW.trim(h:QW s lo K ts r F)(hK:K≤60)(keep:Int)(hk:keep<10):(KT s keep).1=(Uw r keep).1∧QW (KT s keep).2 lo (K+1) ts (Uw r keep).2 F:=by
 by_cases hc:keep<0
 ·unfold KT Uw;rw[if_pos hc,if_pos hc];exact⟨rfl,h.idle⟩
 obtain⟨k,rfl⟩:∃k:Nat,keep=k:=⟨keep.toNat,by omega⟩;have f:=h.V9.d.marks;obtain⟨j,hj⟩:=eX (s.marks.length-min k s.marks.length);have hT:Jn r k={ r with marks:=s.marks.drop j }:=by
  unfold Jn;rw[f];by_cases g:(k:Int)<s.marks.length
  ·rw[if_pos g];have e:s.marks.length-(k:Int).toNat=j:=by rw[hj];omega
   rw[e]
  rw[if_neg g];have e:j=0:=by rw[hj];omega
  rw[e,List.drop_zero,←f]
 have a2:(s.marks.drop j).length≤s.marks.length:=by rw[List.length_drop];omega
 have b:∀x∈s.marks.drop j,x.length≤3000:=fun x hx=>h.all.Xk x (List.mem_of_mem_drop hx)
 have a3:=h.mr;have a4:=h.nt;have a6:=h.all.Qo;have l1:(Qi [((min k s.marks.length:Nat):Int)]).length=1:=Si _ (by omega);have l2:(Qi [(k:Int)]).length=1:=Si _ (by omega);have i:∀r∈Qn { s with marks:=s.marks.drop j },r.2.length≤4000:=VW h.all.Xv b h.all.U6;have a7:Yt { s with marks:=s.marks.drop j }≤Yt s:=by
  rw[Vv,Vv];have e:(s.marks.map (Y3 s.log)).sum=((s.marks.take j).map (Y3 s.log)).sum+((s.marks.drop j).map (Y3 s.log)).sum:=by
   rw[←List.sum_append,←List.map_append,List.take_append_drop]
  simp only;omega
 have a5:(Qn { s with marks:=s.marks.drop j }).length≤(Qn s).length:=by
  rw[Kw,Kw];simp only;omega
 have a1:=h.room.sec;have a0:=h.room.cnt;have c:Zz (Qy { s with marks:=s.marks.drop j } s (84,Qi [((min k s.marks.length:Nat):Int)])).2:=Xh (lo:=lo) h.all.log rfl (by simp only;omega) i h.room (by simp only;omega) (by omega);have a:(Qy { s with marks:=s.marks.drop j } s (84,Qi [((min k s.marks.length:Nat):Int)])).1=0:=UJ (lo:=lo) h.all.log (by simp only;omega) i (by show s.log.begin s.log.use+1+Yt { s with marks:=s.marks.drop j }≤s.log.at';omega) (by omega);have:=h.change (s1:={ s with marks:=s.marks.drop j }) (r1:=Jn r k) (x:=(84,Qi [((min k s.marks.length:Nat):Int)])) (y:=(84,Qi [(k:Int)])) hK rfl rfl rfl rfl rfl rfl (by rw[hT];exact⟨rfl,rfl,rfl,rfl,rfl,rfl⟩) (by rw[hT]) (by rw[hT];exact h.V9.d.notes) (by rw[hT]) h.all.Xv h.all.VL b (by simp only;omega) (by simp only;omega) (by simp only;omega) (by simp only;omega) c (Xm (by rw[hT])) false;unfold KT Uw;rw[if_neg hc,if_neg hc];simp only;have ek:(k:Int).toNat=k:=by omega
 rw[ek,←hj];generalize Qy { s with marks:=s.marks.drop j } s (84,Qi [((min k s.marks.length:Nat):Int)])=q at*
 obtain⟨e,s2⟩:=q;simp only at a;subst a;simp only at this;obtain⟨t1,t2⟩:=this
 have ez:QE (Jn r k) (Jn r k) (84,Qi [(k:Int)])=QE (Jn r k) r (84,Qi [(k:Int)]):=Uv (was:=r) (q:=(QE (Jn r k) r (84,Qi [(k:Int)])).2) (by
  rw[←Prod.eta (QE (Jn r k) r (84,Qi [(k:Int)]))];simp only[Prod.mk.injEq,and_true];simpa using t1.symm) |>.trans (by
  rw[←Prod.eta (QE (Jn r k) r (84,Qi [(k:Int)]))];simp only[Prod.mk.injEq,and_true];simpa using t1)
 rw[ez];exact⟨t1,t2⟩
def KK(x:V4)(q:List V4 × Bool)(y:V4):List V4 × Bool:=if q.2=false∧Wq x.n y.n=true then(q.1++[x]++[y],true)else(q.1++[y],q.2)
def G3(x:V4)(l:List V4):List V4:=if(l.foldl (KK x) ([],false)).2=true then(l.foldl (KK x) ([],false)).1 else(l.foldl (KK x) ([],false)).1++[x]
def ZM(x:V4):List V4→List V4
 |[]=>[x]
 |y::l=>if Wq x.n y.n=true then x::y::l else y::ZM x l
theorem TF(x:V4):∀(l o:List V4),l.foldl (KK x) (o,true)=(o++l,true)
 |[],o=>by simp
 |a::l,o=>by
  rw[List.foldl_cons];have:KK x (o,true) a=(o++[a],true):=by unfold KK;rw[if_neg (by simp)]
  rw[this,TF x l];simp
theorem NR(x:V4):∀(l o:List V4),(if(l.foldl (KK x) (o,false)).2=true then(l.foldl (KK x) (o,false)).1 else(l.foldl (KK x) (o,false)).1++[x])=o++ZM x l
 |[],o=>by simp[ZM]
 |a::l,o=>by
  rw[List.foldl_cons];unfold ZM;by_cases g:Wq x.n a.n=true
  ·have:KK x (o,false) a=(o++[x]++[a],true):=by unfold KK;rw[if_pos ⟨rfl,g⟩]
   rw[this,TF x l,if_pos g];simp
  have:KK x (o,false) a=(o++[a],false):=by unfold KK;rw[if_neg (fun h=>g h.2)]
  rw[this,NR x l,if_neg g];simp
theorem SZ(x:V4)(l:List V4):G3 x l=ZM x l:=by
 have:=NR x l [];unfold G3;rw[this];simp
theorem T9{α:Type}(k:Qj)(v:α)(a:Qj)(x:α)(l:List (Qj × α)):JL k v ((a,x)::l)=if Wq k a then(k,v)::(a,x)::l else if a=k then(k,v)::l else(a,x)::JL k v l:=by rw[JL]
theorem EL{R:Qj × Qx→V4→Prop}(hR:∀a b,R a b→a.1=b.n){l:List (Qj × Qx)}{m:List V4}(h:V3 R l m){x:V4}{v:Qx}(hx:R (x.n,v) x)(hn:x.n∉l.map (·.1)):V3 R (JL x.n v l) (ZM x m):=by
 induction h with
 |nil=>exact .cons hx .nil
 |cons hab ht ih=>
  rename_i a b l m;obtain⟨a1,a2⟩:=a;have hb:=hR _ _ hab;simp only at hb;rw[List.map_cons,List.mem_cons,not_or]at hn;rw[T9];unfold ZM;rw[←hb];by_cases g:Wq x.n a1=true
  ·rw[if_pos g,if_pos g];exact .cons hx (.cons hab ht)
  rw[if_neg g,if_neg (fun e=>hn.1 e.symm),if_neg g];exact .cons hab (ih hn.2)
theorem LR{x:V4}:∀{m:List V4},x.n∉m.map (·.n)→(ZM x m).map (fun x=>(x.n,x.b))=JL x.n x.b (m.map fun x=>(x.n,x.b))
 |[],_=>rfl
 |y::m,hn=>by
  rw[List.map_cons,List.mem_cons,not_or]at hn;rw[List.map_cons,T9];unfold ZM;by_cases g:Wq x.n y.n=true
  ·rw[if_pos g,if_pos g];rfl
  rw[if_neg g,if_neg g,if_neg (fun e=>hn.1 e.symm),List.map_cons,LR hn.2]
def Xx(r:QH)(n:Qj):Option V4:=r.Qc.find? fun x=>decide (x.n=n)
def XT(r:QH):QH:={ r with VB:=r.ep,QA:=(if r.VB=r.ep then r.QA else 0)+1 }
def Il(lo:Nat)(r:QH)(F:List Bool)(n:Qj)(b:List UInt8):Nat × QH × List Bool:=
 if Qs n.1=false∨Qs n.2=false∨b.length<1∨1048576<b.length then(1,r,F)
 else if(Xx r n).isSome then(7,r,F)
 else match Yb F (Qf r.size b.length)with
  |none=>(5,r,F)
  |some a=>match QE { XT r with Qc:=G3 ⟨n,b,lo+a,(XT r).VB*1048576+(XT r).QA⟩ r.Qc } (XT r) (Xs ⟨n,b,lo+a,(XT r).VB*1048576+(XT r).QA⟩)with
   |(0,r2)=>(0,r2,Vo F a false (Qf r.size b.length))
   |(e,r2)=>(e,r2,VJ (Vo F a false (Qf r.size b.length)) a (Qf r.size b.length))
theorem V3.map_eq{α β γ:Type}{R:α→β→Prop}{f:α→γ}{g:β→γ}{l:List α}{m:List β}(h:V3 R l m)(hR:∀a b,R a b→f a=g b):l.map f=m.map g:=by
 induction h with
 |nil=>rfl
 |cons hab _ ih=>rw[List.map_cons,List.map_cons,hR _ _ hab,ih]
theorem PV.names(h:PV s r):s.Qc.map (·.1)=r.Qc.map (·.n):=h.Qc.map_eq fun _ _ g=>g.1
theorem PV.get(h:PV s r)(n:Qj):(Xx r n).isSome=(QC s.Qc n).isSome:=by
 have e1:(Xx r n).isSome=true↔n∈r.Qc.map (·.n):=by
  unfold Xx;rw[List.find?_isSome,List.mem_map];simp
 have e2:=KD (l:=s.Qc) (x:=n);rw[h.names]at e2;exact Bool.eq_iff_iff.2 (e1.trans e2.symm)
theorem Df(hp:s.QA<1048575):YD s=(0,((s.log.epoch*1048576+((if s.epoch=s.log.epoch then s.QA else 0)+1):Nat):Int),{ s with epoch:=s.log.epoch,QA:=(if s.epoch=s.log.epoch then s.QA else 0)+1 }):=by
 unfold YD;simp only;rw[if_neg (by omega)];by_cases hq:s.epoch=s.log.epoch
 ·rw[if_neg (by simpa using hq),if_pos hq];simp only[Prod.mk.injEq,true_and];refine⟨by omega, ?_⟩;rw[←hq]
 rw[if_pos hq,if_neg hq];simp only[Prod.mk.injEq,true_and];refine⟨by omega, ?_⟩
 first
  |trivial
  |rfl
theorem QW.put(h:QW s lo K ts r F)(hK:K≤60)(n:Qj)(b:List UInt8):
  (Q6 s n b).1=(Il lo r F n b).1∧∃ts',QW (Q6 s n b).2 lo (K+1) ts' (Il lo r F n b).2.1 (Il lo r F n b).2.2:=by
 by_cases hn:Qs n.1=false∨Qs n.2=false∨b.length<1∨1048576<b.length
 ·unfold Il;rw[ZD hn,if_pos hn];exact⟨rfl,ts,h.idle⟩
 have r1:Qs n.1=true:=by cases hh:Qs n.1<;>simp_all
 have r2:Qs n.2=true:=by cases hh:Qs n.2<;>simp_all
 have b1:1≤b.length:=by omega
 have b2:b.length≤1048576:=by omega
 have i:=h.V9.d.get n;have z:r.size=s.d.size:=h.V9.l.size.trans h.all.log.sz;have a8:=h.pu;have a0:=h.Yp;have a3:=h.nt;have a4:=h.mr;have a7:=h.rc;have a6:=h.all.Yp;cases hg:QC s.Qc n with
 |some x=>
  unfold Il;rw[Yu r1 r2 b1 b2 hg,if_neg hn,i,hg,if_pos Option.isSome_some];exact⟨rfl,ts,h.idle⟩
 |none=>
  rw[hg]at i;have w:1≤Qf s.d.size b.length:=JQ h.all.log.s1 h.all.log.s2 (by omega);rcases GC h.all.map h.mp w with⟨t1,t2⟩|⟨a,m',t1,t2,hm',hs',ha1,ha2,hfk⟩
  ·unfold Il;rw[YK r1 r2 b1 b2 hg t2 (by decide),if_neg hn,i,if_neg (by simp),z,t1];exact⟨rfl,ts,h.idle⟩
  obtain⟨p,hpd⟩:∃p,p=(if s.epoch=s.log.epoch then s.QA else 0)+1:=⟨_,rfl⟩;have a5:p≤s.QA+1:=by rw[hpd];split<;>omega
  obtain⟨mark,A⟩:=eX (s.log.epoch*1048576+p);have e1:=Df (s:={ s with map:=m' }) (by show s.QA<_;omega);simp only at e1;rw[←hpd,←A]at e1;obtain⟨d2,E,L⟩:=Xi (d:=s.d) (at':=lo+a) (kind:=83) (mark:=mark) (b:=b) h.all.log.s1 (by decide) h.all.log.on w ha2;have hq:Q6 s n b=Ri { s with map:=m',epoch:=s.log.epoch,QA:=p } n b (lo+a) (Qf s.d.size b.length) mark d2:=by
   unfold Q6;rw[if_neg hn,Yf,hg,if_neg (by simp),t2];simp only;rw[e1];simp only[Int.toNat_natCast];rw[E];rfl
  have u:XT r={ r with VB:=s.log.epoch,QA:=p }:=by
   unfold XT;rw[h.V9.l.ep,h.V9.e.VB,h.V9.e.QA,←hpd]
  have C:Il lo r F n b=match QE { r with VB:=s.log.epoch,QA:=p,Qc:=ZM ⟨n,b,lo+a,mark⟩ r.Qc } { r with VB:=s.log.epoch,QA:=p } (Xs ⟨n,b,lo+a,mark⟩)with
    |(0,r2)=>(0,r2,Vo F a false (Qf s.d.size b.length))
    |(e,r2)=>(e,r2,VJ (Vo F a false (Qf s.d.size b.length)) a (Qf s.d.size b.length)):=by
   unfold Il;rw[if_neg hn,i,if_neg (by simp),z,t1,u];simp only;rw[←A,SZ,←z]
  have a2:=h.all.ep;have q:Kf (n,(⟨((lo+a:Nat):Int),Qf s.d.size b.length,b.length,(mark:Int)⟩:Qx)):=⟨r1,r2,by simp only;omega,b2,by simp only;omega,by simp only;omega⟩;have B:∀x∈JL n (⟨((lo+a:Nat):Int),Qf s.d.size b.length,b.length,(mark:Int)⟩:Qx) s.Qc,Kf x:=fun x hx=>by
   rcases VR hx with rfl|hx
   ·exact q
   exact h.all.U6 x hx
  have o:n∉s.Qc.map (·.1):=fun hh=>by
   have:=KD (l:=s.Qc) (x:=n) |>.2 hh
   rw[hg]at this;cases this
  have c:=F8 h.all (by omega) (by omega) h.room n b;obtain⟨e,s',j,hr,t⟩:=Pa h.all (by omega) n b
  have m:PV { s with map:=m',epoch:=s.log.epoch,QA:=p,d:=d2,Qc:=JL n (⟨((lo+a:Nat):Int),Qf s.d.size b.length,b.length,(mark:Int)⟩:Qx) s.Qc } { r with VB:=s.log.epoch,QA:=p,Qc:=ZM ⟨n,b,lo+a,mark⟩ r.Qc }:=
   ⟨h.V9.d.notes,EL (fun _ _ g=>g.1) h.V9.d.Qc (x:=⟨n,b,lo+a,mark⟩) ⟨rfl,rfl,rfl,rfl⟩ o,h.V9.d.marks⟩
  have a1:(Qn { s with map:=m',epoch:=s.log.epoch,QA:=p,d:=d2,Qc:=JL n (⟨((lo+a:Nat):Int),Qf s.d.size b.length,b.length,(mark:Int)⟩:Qx) s.Qc }).length≤3*K+1:=by
   rw[Kw];have h1:=Zl (k:=n) (v:=(⟨((lo+a:Nat):Int),Qf s.d.size b.length,b.length,(mark:Int)⟩:Qx)) s.Qc;have h2:=h.all.side.len;show s.notes.length+(JL _ _ s.Qc).length+s.marks.length≤_;omega
  have D:=Mq (s:={ s with map:=m',epoch:=s.log.epoch,QA:=p,d:=d2,Qc:=JL n (⟨((lo+a:Nat):Int),Qf s.d.size b.length,b.length,(mark:Int)⟩:Qx) s.Qc }) (r:={ r with VB:=s.log.epoch,QA:=p,Qc:=ZM ⟨n,b,lo+a,mark⟩ r.Qc }) (x:=Ka n ⟨((lo+a:Nat):Int),Qf s.d.size b.length,b.length,(mark:Int)⟩) (y:=Xs ⟨n,b,lo+a,mark⟩)
   (h.all.log.like L) ⟨h.V9.l.size,h.V9.l.half,h.V9.l.ep,h.V9.l.lens,h.V9.l.Bb⟩ m.Qo (Zp q) rfl (VW h.all.Xv h.all.Xk B) (by show s.log.Qo.length<_;omega) (by omega)
  rw[C];have f:Q6 s n b=Qy { s with map:=m',epoch:=s.log.epoch,QA:=p,d:=d2,Qc:=JL n (⟨((lo+a:Nat):Int),Qf s.d.size b.length,b.length,(mark:Int)⟩:Qx) s.Qc } { s with map:=(JF m' (lo+a) (Qf s.d.size b.length)).2,epoch:=s.log.epoch,QA:=p,d:=d2 } (Ka n ⟨((lo+a:Nat):Int),Qf s.d.size b.length,b.length,(mark:Int)⟩):=by
   rw[hq];rfl
  rw[Ym]at f;rcases D with⟨d',l',r',g1,g2,g3,⟨rs,e5,rfl⟩,g5⟩|⟨g1,g2⟩
  ·rw[g1]at f;rw[g2];simp only at f;rw[f]at j c ⊢;simp only[Prod.mk.injEq]at j;obtain⟨rfl,rfl⟩:=j;rcases t with⟨he,_⟩|⟨_,_,ha⟩
   ·exact absurd rfl he
   refine⟨rfl,JL n b ts,h.step ha hr ⟨g3,⟨m.notes,m.Qc,m.marks⟩,⟨rfl,rfl⟩⟩ hs' ?_ c (by show p≤_;omega) (by show s.notes.length≤_;omega) (by show s.marks.length≤_;omega) ?_ ?_⟩
   ·show(ZM ⟨n,b,lo+a,mark⟩ r.Qc).map _=_;rw[LR (by rw[←h.V9.d.names];exact o),h.Xv]
   ·have:=Zl (k:=n) (v:=b) ts;omega
   show l'.Qo.length≤_;have:{ s with map:=m',epoch:=s.log.epoch,QA:=p,d:=d2,Qc:=JL n (⟨((lo+a:Nat):Int),Qf s.d.size b.length,b.length,(mark:Int)⟩:Qx) s.Qc }.log.Qo.length=s.log.Qo.length:=rfl;omega
  rw[g1]at f;rw[g2];simp only at f;rw[f]at j c ⊢;simp only[Prod.mk.injEq]at j;obtain⟨rfl,rfl⟩:=j;have G:=Ts hm' hs' w (by rw[KP];exact ha1) fun k k1 k2 hk=>((hfk k).1 hk).2 ⟨k1,k2⟩
  rcases t with⟨_,ha⟩|⟨he,_⟩
  ·refine⟨rfl,ts,h.step ha hr ⟨⟨h.V9.l.size,h.V9.l.half,h.V9.l.ep,h.V9.l.lens,h.V9.l.Bb⟩,⟨h.V9.d.notes,h.V9.d.Qc,h.V9.d.marks⟩,⟨rfl,rfl⟩⟩ G.2.2.1 h.Xv c (by show p≤_;omega) (by show s.notes.length≤_;omega) (by show s.marks.length≤_;omega) (by omega) (by show s.log.Qo.length≤_;omega)⟩
  cases he
theorem GG(a b:Qj)(w:World):Calls prog 138 #[QZ a,QZ b] w fun e w'=>e=.returned (.bool (Wq a b))∧Below w.heap.size w w':=by
 obtain⟨a1,a2⟩:=a;obtain⟨b1,b2⟩:=b;unfold QZ;have HX:=Qa (show Qh ((w.alloc (.cells #[.int .i64 a1,.int .i64 a2] 53)).alloc (.cells #[.int .i64 b1,.int .i64 b2] 53)) w.heap.size 53 #[.int .i64 a1,.int .i64 a2] from (Qh.new _ _ _).alloc _);have HY:=Qa (show Qh ((w.alloc (.cells #[.int .i64 a1,.int .i64 a2] 53)).alloc (.cells #[.int .i64 b1,.int .i64 b2] 53)) (w.heap.size+1) 53 #[.int .i64 b1,.int .i64 b2] from Qh.Qz (by simp));have HB:Qb (Below w.heap.size w ((w.alloc (.cells #[.int .i64 a1,.int .i64 a2] 53)).alloc (.cells #[.int .i64 b1,.int .i64 b2] 53))):=(bR.alloc nR _).alloc (by simp) _;have c:Wq (a1,a2) (b1,b2)=(decide (a1<b1)||(decide (a1=b1)&&decide (a2<b2))):=by
  unfold Wq;simp only;cases h:(a1==b1)<;>simp_all
 rw[c];clear c;go_enter func138,ntmps138;go_upto_region 1 with fail;generalize (w.alloc (.cells #[.int .i64 a1,.int .i64 a2] 53)).alloc (.cells #[.int .i64 b1,.int .i64 b2] 53)=w1 at*
 have x0:w1.cell? ⟨w.heap.size,0,none⟩=some (.int .i64 a1):=HX.o.cell 0;have x1:w1.cell? ⟨w.heap.size,1,none⟩=some (.int .i64 a2):=HX.o.cell 1;have y0:w1.cell? ⟨w.heap.size+1,0,none⟩=some (.int .i64 b1):=HY.o.cell 0;have y1:w1.cell? ⟨w.heap.size+1,1,none⟩=some (.int .i64 b2):=HY.o.cell 1;have xl:=HX.o.lt;have yl:=HY.o.lt;by_cases h1:a1<b1
 ·go_wp2_with fail;go_ret;exact⟨by simp[h1],HB.o⟩
 by_cases h2:a1=b1
 ·subst h2;by_cases h3:a2<b2
  ·go_wp2_with fail;go_ret;exact⟨by simp,HB.o⟩
  go_wp2_with fail;go_ret;exact⟨by simp[h3],HB.o⟩
 go_wp2_with fail;go_ret;exact⟨by simp[h1],HB.o⟩
def GK(x:V4):Array Value:=#[.int .i64 x.n.1,.int .i64 x.n.2,Qw x.b,.int .i64 x.at',.int .i64 x.mark]
def W5:Array Value:=#[.int .i64 0,.int .i64 0,.string ⟨#[]⟩,.int .i64 0,.int .i64 0]
theorem Gw{n:Qj}(k:Nat)(hk:k<r.Qc.length)(h:∀j (hj:j<r.Qc.length),j<k→r.Qc[j].n≠n)(he:r.Qc[k].n=n):Xx r n=some r.Qc[k]:=by
 unfold Xx;generalize r.Qc=l at*
 induction l generalizing k with
 |nil=>simp at hk
 |cons a l ih=>
  rw[List.find?_cons];cases k with
  |zero=>
   rw[List.getElem_cons_zero]at he ⊢;rw[decide_eq_true he]
  |succ k=>
   have h0:=h 0 (by simp) (by omega);rw[List.getElem_cons_zero]at h0;rw[decide_eq_false h0];rw[List.getElem_cons_succ]at he ⊢;exact ih k (by simpa using hk) (fun j hj hjk=>by have:=h (j+1) (by simpa using hj) (by omega);simpa using this) he
theorem GX{n:Qj}(h:∀j (hj:j<r.Qc.length),r.Qc[j].n≠n):Xx r n=none:=by
 unfold Xx;rw[List.find?_eq_none];intro x hx;obtain⟨j,hj,rfl⟩:=List.getElem_of_mem hx;simpa using h j hj
variable {w:World}
theorem UZ{m:JM}(h:JN w r m)(n:Qj)(hl:r.Qc.length≤1000000):
  Calls prog 32 #[.agg (Qr r m),QZ n] w fun e w'=>e=.returned (.tuple #[.agg (((Xx r n).map GK).getD W5),.bool (Xx r n).isSome])∧Below w.heap.size w w':=by
 obtain⟨n1,n2⟩:=n;have HX:=Qa (show Qh (((w.alloc (.cells (Qr r m) 39)).alloc (.cells #[.int .i64 n1,.int .i64 n2] 53)).alloc (.cells #[.int .i64 0,.int .i64 0,.string ⟨#[]⟩,.int .i64 0,.int .i64 0] 69)) w.heap.size 39 (Qr r m) from ((Qh.new _ _ _).alloc _).alloc _);have HY:=Qa (show Qh (((w.alloc (.cells (Qr r m) 39)).alloc (.cells #[.int .i64 n1,.int .i64 n2] 53)).alloc (.cells #[.int .i64 0,.int .i64 0,.string ⟨#[]⟩,.int .i64 0,.int .i64 0] 69)) (w.heap.size+1) 53 #[.int .i64 n1,.int .i64 n2] from (Qh.Qz (by simp)).alloc _);have HG:=Qa (show Qh (((w.alloc (.cells (Qr r m) 39)).alloc (.cells #[.int .i64 n1,.int .i64 n2] 53)).alloc (.cells #[.int .i64 0,.int .i64 0,.string ⟨#[]⟩,.int .i64 0,.int .i64 0] 69)) (w.heap.size+1+1) 69 W5 from Qh.Qz (by simp));have q:Qb (Below w.heap.size w (((w.alloc (.cells (Qr r m) 39)).alloc (.cells #[.int .i64 n1,.int .i64 n2] 53)).alloc (.cells #[.int .i64 0,.int .i64 0,.string ⟨#[]⟩,.int .i64 0,.int .i64 0] 69))):=((bR.alloc nR _).alloc (by simp) _).alloc (by simp;omega) _;obtain⟨nS,s⟩:=eX r.Qc.length;rw[←s]at hl;have N1:=Qa (V1 (f:=JJ) (k:=5) (fun _=>rfl) (by decide) h.Qc.1).2;have G:=Qa s;have HI:∀C:Array Value,C.size=5→Qb ((prog.info? 69).map (·.size)=some C.size):=fun C hC=>by
  show(prog.info? 69).map (·.size)=some C.size;rw[hC];exact Vp
 have E:∀wy,Qh wy w.heap.size 39 (Qr r m)→wy.cell? ⟨w.heap.size,2,none⟩=some (.slice m.AS nS m.cS):=fun wy hy=>by rw[s];exact hy.cell 2
 have Q:=Qa E;clear h s E;unfold QZ;generalize Qr r m=ra at*
 go_enter func32,ntmps32;go_upto_region 1 with fail;generalize ((w.alloc (.cells ra 39)).alloc (.cells #[.int .i64 n1,.int .i64 n2] 53)).alloc (.cells #[.int .i64 0,.int .i64 0,.string ⟨#[]⟩,.int .i64 0,.int .i64 0] 69)=w1 at*
 have l:=q.o.size;have W:=Q.o _ HX.o;have xl:=HX.o.lt;go_wp2_with fail;go_loopw [11] (fun i wr=>∃k:Nat,k≤nS∧i=.int .i64 (k:Nat)∧(∀j (hj:j<r.Qc.length),j<k→r.Qc[j].n≠(n1,n2))∧Below w1.heap.size w1 wr) (fun i _=>nS-(intOf i).toNat)
 case atStart=>exact⟨0,Nat.zero_le _,rfl,fun j _ hj=>by omega,bR⟩
 obtain⟨k,hk,rfl,A,a⟩:=hrel;have d:=Qa A;have y:=Qa a;have S:=a.size;have c:=Qa (HG.o.below a HG.o.lt);have M:=Qa (HY.o.below a HY.o.lt);have a1:=c.o.lt;have HB:=Qa (q.o.trans (a.mono l));clear A a W xl;by_cases hkl:k<nS
 ·have O:(k:Int)<nS:=by omega
  have a0:(0:Int)≤k:=by omega
  have P:k<r.Qc.length:=by rw[←G.o];exact hkl
  obtain⟨b,o,hA,N,I⟩:=N1.o k P;have HT:=Qa (Gw (n:=(n1,n2)) k P d.o)
  have z:=Qa (show r.Qc[k].n≠(n1,n2)→∀j (hj:j<r.Qc.length),j<k+1→r.Qc[j].n≠(n1,n2) from fun h j hj hjk=>by
   rcases Nat.lt_succ_iff_lt_or_eq.1 hjk with h1|h1
   ·exact d.o j hj h1
   subst h1;exact h)
  rw[hA];generalize r.Qc[k]=x at*
  obtain⟨⟨v1,v2⟩,t,at',mk⟩:=x;simp only at HT z;have H:Qb (wr.rangeAt b (o+k*5) [.int .i64 v1,.int .i64 v2,.string ⟨t.toArray⟩,.int .i64 at',.int .i64 mk]):=Qa (fun i v hv=>(HB.o.cell (p:=⟨b,o+k*5+i,none⟩) N).trans (I i v hv));have J:Qb ((prog.info? 69).map (·.size)=some ([.int .i64 v1,.int .i64 v2,.string ⟨t.toArray⟩,.int .i64 at',.int .i64 mk]:List Value).length):=Vp;have u:=HI #[.int .i64 v1,.int .i64 v2,.string ⟨t.toArray⟩,.int .i64 at',.int .i64 mk] rfl;have K:Qb ((#[.int .i64 v1,.int .i64 v2,.string ⟨t.toArray⟩,.int .i64 at',.int .i64 mk]:Array Value).all (·.oneCell')=true):=Qa (by simp[Value.oneCell']);clear I N
  go_upto_region 4 with first
   |(refine wpList_load_mid rfl 69 _ rfl b (o+k*5) rfl [.int .i64 v1,.int .i64 v2,.string ⟨t.toArray⟩,.int .i64 at',.int .i64 mk] _ H.o underlying69 rfl J.o ?_)
   |(refine wpList_store_row rfl 69 _ _ rfl wr.heap.size #[.int .i64 v1,.int .i64 v2,.string ⟨t.toArray⟩,.int .i64 at',.int .i64 mk] rfl rfl 69 _ (Qh.new wr 69 _) u.o rfl K.o ?_;rw[World.setRow_alloc_new])
  try go_frame
  have HZ:=Qa (Qh.new wr 69 #[.int .i64 v1,.int .i64 v2,.string ⟨t.toArray⟩,.int .i64 at',.int .i64 mk]);have B:=Qa (y.o.alloc S (.cells #[.int .i64 v1,.int .i64 v2,.string ⟨t.toArray⟩,.int .i64 at',.int .i64 mk] 69));have F:=Qa (c.o.alloc (.cells #[.int .i64 v1,.int .i64 v2,.string ⟨t.toArray⟩,.int .i64 at',.int .i64 mk] 69));have D:=Qa (M.o.alloc (.cells #[.int .i64 v1,.int .i64 v2,.string ⟨t.toArray⟩,.int .i64 at',.int .i64 mk] 69));clear H J y c M HB;generalize wr.alloc (.cells #[.int .i64 v1,.int .i64 v2,.string ⟨t.toArray⟩,.int .i64 at',.int .i64 mk] 69)=wz at*
  generalize wr.heap.size=g at*
  have z0:wz.cell? ⟨g,0,none⟩=some (.int .i64 v1):=HZ.o.cell 0;have z1:wz.cell? ⟨g,1,none⟩=some (.int .i64 v2):=HZ.o.cell 1;have y0:wz.cell? ⟨w.heap.size+1,0,none⟩=some (.int .i64 n1):=D.o.cell 0;have y1:wz.cell? ⟨w.heap.size+1,1,none⟩=some (.int .i64 n2):=D.o.cell 1;have zl:=HZ.o.lt;have yl:=D.o.lt;by_cases he:v1=n1∧v2=n2
  ·have U:=Qa (HT.o (by rw[he.1,he.2]));obtain⟨rfl,rfl⟩:=he;clear HT z
   go_wp2_with (first
    |(refine wpList_load_row rfl 69 _ rfl g rfl 69 #[.int .i64 v1,.int .i64 v2,.string ⟨t.toArray⟩,.int .i64 at',.int .i64 mk] (0,0) _ HZ.o underlying69 rfl u.o ?_)
    |(refine wpList_store_row rfl 69 _ _ rfl (w.heap.size+1+1) #[.int .i64 v1,.int .i64 v2,.string ⟨t.toArray⟩,.int .i64 at',.int .i64 mk] rfl rfl 69 W5 F.o u.o rfl K.o ?_))
   refine bodyPost_ret (v:=.tuple #[.agg #[.int .i64 v1,.int .i64 v2,.string ⟨t.toArray⟩,.int .i64 at',.int .i64 mk],.bool true]) (Ql results32 _ _ (w.heap.size+1+1) 69 _ (0,0) _ rfl (Qp F.o _) underlying69 rfl u.o) rfl ?_;exact⟨by rw[U.o];rfl,q.o.trans ((B.o.mono l).trans (Qg (Qm _ _ _) (Nat.le_trans l B.o.size) (gB (by omega))))⟩
  have T:=Qa (z.o (fun e=>he (by simpa using e)));clear HT z;go_wp2_with fail
  all_goals
   go_roundw
   case rel=>exact⟨k+1,by omega,by simp,T.o,B.o⟩
   case measure=>simp[intOf];omega
 have V:k=nS:=by omega
 subst V;have O:¬(k:Int)<k:=by omega
 have HN:=Qa (GX (n:=(n1,n2)) (r:=r) fun j hj=>d.o j hj (by rw[G.o];exact hj));have L:=HI W5 rfl;have R:Qb (W5.all (·.oneCell')=true):=Qa (by simp[W5,Value.oneCell']);go_wp2_with (refine wpList_store_row rfl 69 _ _ rfl (w.heap.size+1+1) W5 rfl rfl 69 W5 c.o L.o rfl R.o ?_);refine bodyPost_ret (v:=.tuple #[.agg W5,.bool false]) (Ql results32 _ _ (w.heap.size+1+1) 69 _ (0,0) _ rfl (Qp c.o _) underlying69 rfl L.o) rfl ?_;exact⟨by rw[HN.o];rfl,q.o.trans ((y.o.mono l).trans (Qg (Qm _ _ _) (Nat.le_trans l y.o.size) (gB (by omega))))⟩
variable {A:Option Addr} {B n:Nat}
theorem Gj{l:List (List UInt8)}(h:Rd w B 1 A n (l.map Qw))(i:Nat)(hi:i<l.length)(hn:n=l.length):∃b o,A=some ⟨b,o,none⟩∧b<B∧w.cell? ⟨b,o+i,none⟩=some (Qw l[i]):=by
 obtain⟨bb,oo,hA,a,c⟩:=h.2 (by omega);refine⟨bb,oo,hA,a, ?_⟩;have:=c i (by simpa using hi);rw[this];simp
theorem Fg(l:List (List UInt8))(A1 A2:Option Addr)(c1 c2:Nat)(h1:Sl w 9 1 A1 l.length (l.map Qw))(h2:Sl w 9 1 A2 l.length (l.map Qw))(hl:l.length≤100001):
  Calls prog 28 #[.slice A1 l.length c1,.slice A2 l.length c2] w fun e w'=>e=.returned (.bool true)∧Below w.heap.size w w':=by
 have H1:=Qa h1;have H2:=Qa h2;have a:Qb (Below w.heap.size w w):=bR;clear h1 h2;go_enter func28,ntmps28;go_wp2_with fail;go_loopw [13] (fun i wr=>∃j:Nat,j≤l.length∧i=.int .i64 (j:Nat)∧Below w.heap.size w wr) (fun i _=>l.length-(intOf i).toNat)
 case atStart=>exact⟨0,Nat.zero_le _,rfl,a.o⟩
 obtain⟨j,hj,rfl,hb⟩:=hrel;have HB:=Qa hb;clear hb a;by_cases hlt:j<l.length
 ·obtain⟨b1,o1,rfl,c,q0⟩:=Gj (H1.o.below HB.o).1 j hlt rfl;obtain⟨b2,o2,rfl,b,q2⟩:=Gj (H2.o.below HB.o).1 j hlt rfl;unfold Qw at q0 q2;generalize (⟨l[j].toArray⟩:ByteArray)=x at*
  have j1:(j:Int)<(l.length:Int):=by omega
  have j2:(0:Int)≤(j:Int):=by omega
  go_upto_region 6 with fail
  go_quiet (fail)
  generalize hw1:World.drewN wr _=w1;have d:Qb (Below w.heap.size w w1):=by rw[←hw1];exact QK HB.o _
  clear hw1 q0 q2 c b;go_wp2_with fail;go_roundw
  case rel=>exact⟨j+1,by omega,by go_num,d.o⟩
  case measure=>simp[intOf];omega
 obtain rfl:j=l.length:=by omega
 go_wp2_with fail;go_ret;exact⟨rfl,HB.o⟩
theorem En:prog.underlying 170=some (.slice 53):=by kernel_rfl
theorem Cl:(prog.info? 53).map (fun i=>(i.zero,i.size,i.bytes))=some (some (.agg #[.int .i64 0,.int .i64 0]),2,16):=by kernel_rfl
theorem Lt{m:JM}(h:JN w r m)(hl:r.Qc.length≤1000000):
  Calls prog 84 #[.agg (Qr r m)] w fun e w'=>∃A c,e=.returned (.slice A r.Qc.length c)∧w'.ownsRow w.heap.size 53 2 (.slice A r.Qc.length c) r.Qc.length (QV (r.Qc.map (·.n)))∧Below w.heap.size w w':=by
 obtain⟨J,D,P,L,S⟩:=info_parts Cl;have HX:=Qa (Qh.new w 39 (Qr r m));have K:Qb (Below w.heap.size w (w.alloc (.cells (Qr r m) 39))):=bR.alloc nR _;obtain⟨nS,d⟩:=eX r.Qc.length;rw[←d]at hl ⊢;have N1:=Qa (V1 (f:=JJ) (k:=5) (fun _=>rfl) (by decide) h.Qc.1).2;have B:=Qa d;have X:(w.alloc (.cells (Qr r m) 39)).cell? ⟨w.heap.size,2,none⟩=some (.slice m.AS nS m.cS):=by rw[d];exact HX.o.cell 2
 have xl:=HX.o.lt;clear h d HX;generalize Qr r m=ra at*
 go_enter func84,ntmps84;go_wp2_with fail;generalize w.alloc (.cells ra 39)=w1 at*
 go_loopw [3,9] (fun out i wr=>∃k:Nat,k≤nS∧i=.int .i64 (k:Nat)∧wr.ownsRow w.heap.size 53 2 out k (QV ((r.Qc.take k).map (·.n)))∧Below w.heap.size w wr) (fun _ i _=>nS-(intOf i).toNat)
 case atStart=>exact⟨0,Nat.zero_le _,rfl,World.ownsRow_nil _ _ _ _,K.o⟩
 obtain⟨k,hk,rfl,a,s⟩:=hrel;have j:=Qa s;have N:=s.size;obtain⟨O,cO,rfl,a1⟩:=Jg a;have HO:=Qa a;clear a s X xl;by_cases hkl:k<nS
 ·have H:(k:Int)<nS:=by omega
  have a0:(0:Int)≤k:=by omega
  have I:k<r.Qc.length:=by rw[←B.o];exact hkl
  obtain⟨b,o,hA,G,C⟩:=N1.o k I;have F:=Qa (show (r.Qc.take (k+1)).map (·.n)=(r.Qc.take k).map (·.n)++[r.Qc[k].n] from by rw[List.take_succ_eq_append_getElem I,List.map_append];rfl);rw[hA];generalize (r.Qc.take k).map (·.n)=ns at*
  generalize r.Qc[k]=x at*
  obtain⟨⟨v1,v2⟩,t,at',mk⟩:=x;simp only at F;have z:Qb (wr.rangeAt b (o+k*5) [.int .i64 v1,.int .i64 v2,.string ⟨t.toArray⟩,.int .i64 at',.int .i64 mk]):=Qa (fun i v hv=>(j.o.cell (p:=⟨b,o+k*5+i,none⟩) G).trans (C i v hv));have E:Qb ((prog.info? 69).map (·.size)=some ([.int .i64 v1,.int .i64 v2,.string ⟨t.toArray⟩,.int .i64 at',.int .i64 mk]:List Value).length):=Vp;have R:Qb ((prog.info? 69).map (·.size)=some (#[.int .i64 v1,.int .i64 v2,.string ⟨t.toArray⟩,.int .i64 at',.int .i64 mk]:Array Value).size):=Vp;have T:Qb ((#[.int .i64 v1,.int .i64 v2,.string ⟨t.toArray⟩,.int .i64 at',.int .i64 mk]:Array Value).all (·.oneCell')=true):=Qa (by simp[Value.oneCell']);clear C G
  go_upto_region 5 with first
   |(refine wpList_load_mid rfl 69 _ rfl b (o+k*5) rfl [.int .i64 v1,.int .i64 v2,.string ⟨t.toArray⟩,.int .i64 at',.int .i64 mk] _ z.o underlying69 rfl E.o ?_)
   |(refine wpList_store_row rfl 69 _ _ rfl wr.heap.size #[.int .i64 v1,.int .i64 v2,.string ⟨t.toArray⟩,.int .i64 at',.int .i64 mk] rfl rfl 69 _ (Qh.new wr 69 _) R.o rfl T.o ?_;rw[World.setRow_alloc_new])
  try go_frame
  have HZ:=Qa (Qh.new wr 69 #[.int .i64 v1,.int .i64 v2,.string ⟨t.toArray⟩,.int .i64 at',.int .i64 mk]);have l:=Qa (j.o.alloc N (.cells #[.int .i64 v1,.int .i64 v2,.string ⟨t.toArray⟩,.int .i64 at',.int .i64 mk] 69));have y:=Qa (Qu HO.o (.cells #[.int .i64 v1,.int .i64 v2,.string ⟨t.toArray⟩,.int .i64 at',.int .i64 mk] 69));clear z E j HO;generalize wr.alloc (.cells #[.int .i64 v1,.int .i64 v2,.string ⟨t.toArray⟩,.int .i64 at',.int .i64 mk] 69)=wz at*
  generalize wr.heap.size=g at*
  have z0:wz.cell? ⟨g,0,none⟩=some (.int .i64 v1):=HZ.o.cell 0;have z1:wz.cell? ⟨g,1,none⟩=some (.int .i64 v2):=HZ.o.cell 1;have zl:=HZ.o.lt;have a2:=l.o.size;have V:=Qa (Qu y.o (.cells #[.int .i64 v1,.int .i64 v2] 53));have U:=Qa (Kq (Sl.Ja (sz:=2) (n:=1) (Qh.new wz 53 [.int .i64 v1,.int .i64 v2].toArray) rfl));have Q:=Qa (show ∀u∈([.int .i64 v1,.int .i64 v2]:List Value),u.oneCell'=true from by simp[Value.oneCell']);go_wp2_with (at_builtin;refine Qv _ rfl _ _ 170 rfl w.heap.size 53 J _ 2 16 En D P L S rfl (by decide) (.slice O k cO) k (QV ns) rfl V.o (some ⟨wz.heap.size,0,none⟩) 1 1 _ [.int .i64 v1,.int .i64 v2] rfl U.o Q.o (by unfold maxLen;omega) (by omega) (by simp;omega) ?_;intro A4 c4 w4 hown4 hgr4 hnc4 _;(have q:=Qa hown4);(have M:Qb (Below w.heap.size w w4):=Qa ((l.o.alloc l.o.size _).trans (Qg hgr4 (by simp;omega) (fun k hk=>(y.o.lt k hk).1))));clear hown4 hgr4);go_roundw
  case rel=>exact⟨k+1,by omega,by simp,by rw[F.o,ZK];exact q.o,M.o⟩
  case measure=>simp[intOf];omega
 have W:k=nS:=by omega
 subst W;have H:¬(k:Int)<k:=by omega
 have ht:r.Qc.take k=r.Qc:=List.take_of_length_le (by rw[←B.o];exact nR);rw[ht]at HO;go_wp2_with fail;go_ret;exact⟨O,cO,rfl,HO.o,j.o⟩
theorem Tp{m:JM}(h:JN w r m)(hl:r.notes.length≤1000000):
  Calls prog 85 #[.agg (Qr r m)] w fun e w'=>∃A c,e=.returned (.slice A r.notes.length c)∧w'.ownsRow w.heap.size 2 1 (.slice A r.notes.length c) r.notes.length (J8 (r.notes.map (·.1)))∧Below w.heap.size w w':=by
 obtain⟨i2,U,M,J,Q⟩:=info_parts D7;have HX:=Qa (Qh.new w 39 (Qr r m));have I:Qb (Below w.heap.size w (w.alloc (.cells (Qr r m) 39))):=bR.alloc nR _;obtain⟨nS,d⟩:=eX r.notes.length;rw[←d]at hl ⊢;have N1:=Qa (V1 (f:=JG) (k:=2) (fun _=>rfl) (by decide) h.notes.1).2;have B:=Qa d;have V:(w.alloc (.cells (Qr r m) 39)).cell? ⟨w.heap.size,1,none⟩=some (.slice m.AN nS m.cN):=by rw[d];exact HX.o.cell 1
 have xl:=HX.o.lt;clear h d HX;generalize Qr r m=ra at*
 go_enter func85,ntmps85;go_wp2_with fail;generalize w.alloc (.cells ra 39)=w1 at*
 go_loopw [3,9] (fun out i wr=>∃k:Nat,k≤nS∧i=.int .i64 (k:Nat)∧wr.ownsRow w.heap.size 2 1 out k (J8 ((r.notes.take k).map (·.1)))∧Below w.heap.size w wr) (fun _ i _=>nS-(intOf i).toNat)
 case atStart=>exact⟨0,Nat.zero_le _,rfl,World.ownsRow_nil _ _ _ _,I.o⟩
 obtain⟨k,hk,rfl,a,s⟩:=hrel;have j:=Qa s;have L:=s.size;obtain⟨O,cO,rfl,a1⟩:=Jg a;have HO:=Qa a;clear a s V xl;by_cases hkl:k<nS
 ·have G:(k:Int)<nS:=by omega
  have a0:(0:Int)≤k:=by omega
  have H:k<r.notes.length:=by rw[←B.o];exact hkl
  obtain⟨b,o,hA,F,C⟩:=N1.o k H;have E:=Qa (show (r.notes.take (k+1)).map (·.1)=(r.notes.take k).map (·.1)++[r.notes[k].1] from by rw[List.take_succ_eq_append_getElem H,List.map_append];rfl);rw[hA];generalize (r.notes.take k).map (·.1)=ns at*
  generalize r.notes[k]=x at*
  obtain⟨v1,t⟩:=x;simp only at E;have z:Qb (wr.rangeAt b (o+k*2) [.int .i64 v1,.string ⟨t.toArray⟩]):=Qa (fun i v hv=>(j.o.cell (p:=⟨b,o+k*2+i,none⟩) F).trans (C i v hv));have D:Qb ((prog.info? 67).map (·.size)=some ([.int .i64 v1,.string ⟨t.toArray⟩]:List Value).length):=YL;have P:Qb ((prog.info? 67).map (·.size)=some (#[.int .i64 v1,.string ⟨t.toArray⟩]:Array Value).size):=YL;clear C F
  go_upto_region 5 with first
   |(refine wpList_load_mid rfl 67 _ rfl b (o+k*2) rfl [.int .i64 v1,.string ⟨t.toArray⟩] _ z.o underlying67 rfl D.o ?_)
   |(refine wpList_store_row rfl 67 _ _ rfl wr.heap.size #[.int .i64 v1,.string ⟨t.toArray⟩] rfl rfl 67 _ (Qh.new wr 67 _) P.o rfl (by simp[Value.oneCell']) ?_;rw[World.setRow_alloc_new])
  try go_frame
  have HZ:=Qa (Qh.new wr 67 #[.int .i64 v1,.string ⟨t.toArray⟩]);have l:=Qa (j.o.alloc L (.cells #[.int .i64 v1,.string ⟨t.toArray⟩] 67));have y:=Qa (Qu HO.o (.cells #[.int .i64 v1,.string ⟨t.toArray⟩] 67));clear z D j HO;generalize wr.alloc (.cells #[.int .i64 v1,.string ⟨t.toArray⟩] 67)=wz at*
  generalize wr.heap.size=g at*
  have z0:wz.cell? ⟨g,0,none⟩=some (.int .i64 v1):=HZ.o.cell 0;have zl:=HZ.o.lt;have a2:=l.o.size;have S:=Qa (Qu y.o (.cells #[.int .i64 v1] 2));have R:=Qa (Kq (Sl.Ja (sz:=1) (n:=1) (Qh.new wz 2 [.int .i64 v1].toArray) rfl));have N:=Qa (show ∀u∈([.int .i64 v1]:List Value),u.oneCell'=true from by simp[Value.oneCell']);go_wp2_with (at_builtin;refine Qv _ rfl _ _ 83 rfl w.heap.size 2 i2 _ 1 8 SV U M J Q rfl (by decide) (.slice O k cO) k (J8 ns) rfl S.o (some ⟨wz.heap.size,0,none⟩) 1 1 _ [.int .i64 v1] rfl R.o N.o (by unfold maxLen;omega) (by omega) (by simp;omega) ?_;intro A4 c4 w4 hown4 hgr4 hnc4 _;(have q:=Qa hown4);(have K:Qb (Below w.heap.size w w4):=Qa ((l.o.alloc l.o.size _).trans (Qg hgr4 (by simp;omega) (fun k hk=>(y.o.lt k hk).1))));clear hown4 hgr4);go_roundw
  case rel=>exact⟨k+1,by omega,by simp,by rw[E.o];unfold J8;rw[List.map_append];exact q.o,K.o⟩
  case measure=>simp[intOf];omega
 have T:k=nS:=by omega
 subst T;have G:¬(k:Int)<k:=by omega
 have ht:r.notes.take k=r.notes:=List.take_of_length_le (by rw[←B.o];exact nR);rw[ht]at HO;go_wp2_with fail;go_ret;exact⟨O,cO,rfl,HO.o,j.o⟩
def Lv(r:QH):Nat:=(r.Qc.map fun x=>x.b.length).sum
theorem Le{m:JM}(h:JN w r m)(hl:r.Qc.length≤100001)(hb:∀x∈r.Qc,x.b.length≤1048576):
  Calls prog 86 #[.agg (Qr r m)] w fun e w'=>e=.returned (.int .i64 (Lv r:Nat))∧Below w.heap.size w w':=by
 have HX:=Qa (Qh.new w 39 (Qr r m));have D:Qb (Below w.heap.size w (w.alloc (.cells (Qr r m) 39))):=bR.alloc nR _;obtain⟨nS,a⟩:=eX r.Qc.length;rw[←a]at hl;have N1:=Qa (V1 (f:=JJ) (k:=5) (fun _=>rfl) (by decide) h.Qc.1).2;have n:=Qa a;have B:=Qa hb;have K:(w.alloc (.cells (Qr r m) 39)).cell? ⟨w.heap.size,2,none⟩=some (.slice m.AS nS m.cS):=by rw[a];exact HX.o.cell 2
 have xl:=HX.o.lt
 have I:=Qa (show ∀k,k≤r.Qc.length→((r.Qc.take k).map fun x=>x.b.length).sum≤k*1048576 from fun k hk=>by
  induction k with
  |zero=>simp
  |succ k ih=>
   rw[List.take_succ_eq_append_getElem (by omega),List.map_append,List.sum_append];have:=ih (by omega);have:=hb _ (List.getElem_mem (by omega:k<r.Qc.length));have e:([r.Qc[k]].map fun x=>x.b.length).sum=r.Qc[k].b.length:=by simp
   omega)
 clear h a HX hb;generalize Qr r m=ra at*
 go_enter func86,ntmps86;go_wp2_with fail;generalize w.alloc (.cells ra 39)=w1 at*
 go_loopw [3,9] (fun out i wr=>∃k:Nat,k≤nS∧i=.int .i64 (k:Nat)∧out=.int .i64 (((r.Qc.take k).map fun x=>x.b.length).sum:Nat)∧Below w.heap.size w wr) (fun _ i _=>nS-(intOf i).toNat)
 case atStart=>exact⟨0,Nat.zero_le _,rfl,rfl,D.o⟩
 obtain⟨k,hk,rfl,rfl,d⟩:=hrel;have c:=Qa d;have E:=d.size;clear d K xl;by_cases hkl:k<nS
 ·have A:(k:Int)<nS:=by omega
  have a0:(0:Int)≤k:=by omega
  have j:k<r.Qc.length:=by rw[←n.o];exact hkl
  obtain⟨b,o,hA,z,q⟩:=N1.o k j;have y:=Qa (show ((r.Qc.take (k+1)).map fun x=>x.b.length).sum=((r.Qc.take k).map fun x=>x.b.length).sum+r.Qc[k].b.length from by rw[List.take_succ_eq_append_getElem j,List.map_append,List.sum_append];simp);have a2:=I.o k (by omega);have H:=B.o _ (List.getElem_mem j);rw[hA];generalize ((r.Qc.take k).map fun x=>x.b.length).sum=T at*
  generalize r.Qc[k]=x at*
  obtain⟨⟨v1,v2⟩,t,at',mk⟩:=x;simp only at y H;have l:Qb (wr.rangeAt b (o+k*5) [.int .i64 v1,.int .i64 v2,.string ⟨t.toArray⟩,.int .i64 at',.int .i64 mk]):=Qa (fun i v hv=>(c.o.cell (p:=⟨b,o+k*5+i,none⟩) z).trans (q i v hv));have a1:(⟨t.toArray⟩:ByteArray).size=t.length:=by simp[ByteArray.size]
  generalize (⟨t.toArray⟩:ByteArray)=tb at*
  have u:Qb ((prog.info? 69).map (·.size)=some ([.int .i64 v1,.int .i64 v2,.string tb,.int .i64 at',.int .i64 mk]:List Value).length):=Vp;have F:Qb ((prog.info? 69).map (·.size)=some (#[.int .i64 v1,.int .i64 v2,.string tb,.int .i64 at',.int .i64 mk]:Array Value).size):=Vp;have G:Qb ((#[.int .i64 v1,.int .i64 v2,.string tb,.int .i64 at',.int .i64 mk]:Array Value).all (·.oneCell')=true):=Qa (by simp[Value.oneCell']);clear q z
  go_upto_region 5 with first
   |(refine wpList_load_mid rfl 69 _ rfl b (o+k*5) rfl [.int .i64 v1,.int .i64 v2,.string tb,.int .i64 at',.int .i64 mk] _ l.o underlying69 rfl u.o ?_)
   |(refine wpList_store_row rfl 69 _ _ rfl wr.heap.size #[.int .i64 v1,.int .i64 v2,.string tb,.int .i64 at',.int .i64 mk] rfl rfl 69 _ (Qh.new wr 69 _) F.o rfl G.o ?_;rw[World.setRow_alloc_new])
  try go_frame
  have HZ:=Qa (Qh.new wr 69 #[.int .i64 v1,.int .i64 v2,.string tb,.int .i64 at',.int .i64 mk]);have C:=Qa (c.o.alloc E (.cells #[.int .i64 v1,.int .i64 v2,.string tb,.int .i64 at',.int .i64 mk] 69));clear l u c;generalize wr.alloc (.cells #[.int .i64 v1,.int .i64 v2,.string tb,.int .i64 at',.int .i64 mk] 69)=wz at*
  generalize wr.heap.size=g at*
  have z2:wz.cell? ⟨g,2,none⟩=some (.string tb):=HZ.o.cell 2;have zl:=HZ.o.lt;have q1:IntKind.i64.wrap ((T:Int)+(t.length:Int))=((T+t.length:Nat):Int):=by rw[IntKind.wrap_i64];omega
  go_wp2_with fail;go_roundw
  case rel=>exact⟨k+1,by omega,by simp,by rw[y.o];first|rfl|simp,C.o⟩
  case measure=>simp[intOf];omega
 have J:k=nS:=by omega
 subst J;have A:¬(k:Int)<k:=by omega
 have ht:r.Qc.take k=r.Qc:=List.take_of_length_le (by rw[←n.o];exact nR);rw[ht];have s:((r.Qc.map fun x=>x.b.length).sum:Nat)=Lv r:=rfl;obtain⟨T,hT⟩:=eX (Lv r);rw[s,←hT];have HT:=Qa hT;clear hT s;go_wp2_with fail;go_ret;exact⟨by rw[←HT.o];rfl,c.o⟩
def TN(w w':World)(m:JM)(q:Nat × QH)(e:Ending):Prop:=
 ∃A c L la,e=.returned (.tuple #[.agg (Qr q.2 (m.log A c L la)),.int .i64 q.1])∧JN w' q.2 (m.log A c L la)∧Below w.heap.size w w'
theorem Lh(r:QH)(K:List QN):(XU r K).2={ r with Qo:=(XU r K).2.Qo,ep:=(XU r K).2.ep }∧((XU r K).1≠0→(XU r K).2=r):=by
 unfold XU;split
 ·exact⟨rfl,fun _=>rfl⟩
 split
 ·exact⟨rfl,fun _=>rfl⟩
 exact⟨rfl,fun h=>absurd rfl h⟩
theorem E3(r:QH)(K:List QN):(XU r K).1≤5:=by
 unfold XU;split
 ·simp
 split<;>simp
theorem PK(r:QH):(Q3 r).length=r.notes.length+r.Qc.length+r.marks.length:=by unfold Q3;simp;omega
variable {cs:Array Value} {g:Nat} {t:TypeId}
theorem Q5{ts:List TypeId}(h:Qh w g t cs)(ht:t∈ts)(v:Array Value):Qd 0 ts w (w.setRow g v):=
 Qd.JY (Qm _ _ _) (Nat.zero_le _) fun k hk=>⟨Nat.zero_le _,fun t' ht'=>by injection hk with hk;subst hk;rw[h.ty]at ht';injection ht' with ht';rw[←ht'];exact ht⟩
theorem Ij{g:Nat}{t:TypeId}{ts:List TypeId}(ht:t∈ts):∀(vs:List Value) (o:Nat) {w:World} {cs:Array Value},Qh w g t cs→Qd 0 ts w (w.setCells g o vs)
 |[],_,_,_,_=>Qd.refl _ _ _
 |v::vs,o,w,_,h=>((Qd.refl 0 ts w).set h (Nat.zero_le _) ht v (o:=o)).trans (Ij ht vs (o+1) (h.set o v))
section
attribute [local go_sem ↓] Ib
theorem Nv{m:JM}(h:JN w r m)(ok:Ya r)(lk:XV r):
  Calls prog 69 #[.agg (Qr r m)] w fun e w'=>TN w w' m (Vq r) e:=by
 have HX:Qb (Qh ((w.alloc (.cells (Qr r m) 39)).alloc (.cells Ji 39)) w.heap.size 39 (Qr r m)):=(Qh.new _ _ _).alloc _;have HG:Qb (Qh ((w.alloc (.cells (Qr r m) 39)).alloc (.cells Ji 39)) (w.heap.size+1) 39 Ji):=Qh.Qz (by simp);have HB:Qb (Below w.heap.size w ((w.alloc (.cells (Qr r m) 39)).alloc (.cells Ji 39))):=(bR.alloc nR _).alloc (by simp) _;have HS:=Qa h;have X:=PK r;have a4:=ok.nN;have a5:=ok.nS;have Y:=ok.nM;have z:=Qa (show ∀wy,Below w.heap.size w wy→Calls prog 128 #[.agg (Qr r m)] wy fun e w'=>∃L A c,e=.returned (.slice A (Q3 r).length c)∧Yy wy w' (Q3 r) (Q3 r).length L (.slice A (Q3 r).length c) from fun wy hy=>PJ (h.below hy) ok);obtain⟨q,hq⟩:=eX (XU r (Q3 r));have R:Vq r=q:=hq.symm;rw[R]
 have p:=Qa (show ∀wy (L:List Kx) (A:Option Addr) (c:Nat),Below w.heap.size w wy→L.map (·.1)=Q3 r→L.length=(Q3 r).length→Sl wy 247 2 A (Q3 r).length (QI L)→Yj wy L→Calls prog 127 #[.agg (J1 r m),.slice A (Q3 r).length c] wy fun e w'=>Pc wy w' m q e from fun wy L A c hy h1 h2 h3 h4=>by
  have:=SI (h.below hy) lk L A (Q3 r).length c h2.symm h3 h4 (by omega);rw[h1,←hq]at this;exact this)
 have s:=Qa (Lh r (Q3 r));rw[←hq]at s;clear h R hq X a4 a5 Y
 have Q:∀wy,Qh wy w.heap.size 39 (Qr r m)→wy.cell? ⟨w.heap.size,0,none⟩=some (.int .i64 r.size)∧wy.cell? ⟨w.heap.size,1,none⟩=some (.slice m.AN r.notes.length m.cN)∧wy.cell? ⟨w.heap.size,2,none⟩=some (.slice m.AS r.Qc.length m.cS)∧wy.cell? ⟨w.heap.size,3,none⟩=some (.slice m.AM r.marks.length m.cM)∧wy.cell? ⟨w.heap.size,4,none⟩=some (.slice m.AL r.Qo.length m.cL)∧wy.cell? ⟨w.heap.size,5,none⟩=some (.int .i64 m.Qk)∧wy.cell? ⟨w.heap.size,6,none⟩=some (.int .i64 r.half)∧wy.cell? ⟨w.heap.size,7,none⟩=some (.int .i64 r.size)∧wy.cell? ⟨w.heap.size,8,none⟩=some (.int .i64 r.ep)∧wy.cell? ⟨w.heap.size,9,none⟩=some (.pointer (some ⟨m.M,0,none⟩))∧wy.cell? ⟨w.heap.size,10,none⟩=some (.int .i64 r.VB)∧wy.cell? ⟨w.heap.size,11,none⟩=some (.int .i64 r.QA):=fun wy hx=>
  ⟨hx.cell 0,hx.cell 1,hx.cell 2,hx.cell 3,hx.cell 4,hx.cell 5,hx.cell 6,hx.cell 7,hx.cell 8,hx.cell 9,hx.cell 10,hx.cell 11⟩
 go_enter func69,ntmps69;go_upto_region 1 with fail;generalize (w.alloc (.cells (Qr r m) 39)).alloc (.cells Ji 39)=w1 at*
 have j:=HB.o.size;obtain⟨n,hn⟩:=eX ((Q3 r).length);rw[←hn]at z p;generalize Q3 r=rs at*
 have F:=Qa (Nat.le_of_eq hn.symm);clear hn;obtain⟨er,r'⟩:=q;simp only at p s;have SK:=Qa (show ∀wy,Below w1.heap.size w1 wy→_ from fun wy hy=>Q wy (HX.o.below hy HX.o.lt));have S0:=Qa (SK.o _ bR.drew);have BZ:Qb (Below w1.heap.size w1 (w1.alloc (.cells (QL none 0 0 0 0) 36)).drew):=(bR.alloc nR _).drew;have HZ:=Qa ((Qh.new w1 36 (QL none 0 0 0 0)).drew);have T:w1.heap.size≤(w1.alloc (.cells (QL none 0 0 0 0) 36)).drew.heap.size:=BZ.o.size
 have HE:=Qa (show ∀(w4:World)(g:Nat)(A:Option Addr)(c:Nat)(L:List Kx)(la:Int),Below w1.heap.size w1 w4→w1.heap.size≤g→Qh w4 g 36 (QL none 0 0 0 0)→JN w4 r' (m.log A c L la)→
   Below w1.heap.size w1 (w4.setRow g (J1 r' (m.log A c L la)))∧Qh (w4.setRow g (J1 r' (m.log A c L la))) g 36 (J1 r' (m.log A c L la))∧JN (w4.setRow g (J1 r' (m.log A c L la))) r' (m.log A c L la)∧(Fa (.pointer (some ⟨g,0,none⟩)) (.agg (J1 r' (m.log A c L la)))).run prog w4=.ok () (w4.setRow g (J1 r' (m.log A c L la)))from fun w4 g A c L la hb hg hk hs=>
  ⟨hb.trans (Qg (Qm _ _ _) hb.size (gB (by omega))),Qp hk _,hs.keeps (Qd.JY (base:=0) (ts:=[36]) (Qm _ _ _) (Nat.zero_le _) fun k hk'=>⟨Nat.zero_le _,fun t ht=>by injection hk' with hk';subst hk';rw[hk.ty]at ht;injection ht with ht;simp[←ht]⟩) (by decide),Oa (v:=J1 r' (m.log A c L la)) hk rfl rfl (by simp[Value.oneCell'])⟩)
 clear Q;go_cut [4,5] (fun v4 v5 wx=>∃A c L la g,v4=.pointer (some ⟨g,0,none⟩)∧v5=.int .i64 er∧w1.heap.size≤g∧Below w1.heap.size w1 wx∧Qh wx g 36 (J1 r' (m.log A c L la))∧JN wx r' (m.log A c L la))
 case first=>
  go_region_held3 (fun wy=>wy.cell? ⟨w.heap.size,0,none⟩=some (.int .i64 r.size)∧wy.cell? ⟨w.heap.size,1,none⟩=some (.slice m.AN r.notes.length m.cN)∧wy.cell? ⟨w.heap.size,2,none⟩=some (.slice m.AS r.Qc.length m.cS)∧wy.cell? ⟨w.heap.size,3,none⟩=some (.slice m.AM r.marks.length m.cM)∧wy.cell? ⟨w.heap.size,4,none⟩=some (.slice m.AL r.Qo.length m.cL)∧wy.cell? ⟨w.heap.size,5,none⟩=some (.int .i64 m.Qk)∧wy.cell? ⟨w.heap.size,6,none⟩=some (.int .i64 r.half)∧wy.cell? ⟨w.heap.size,7,none⟩=some (.int .i64 r.size)∧wy.cell? ⟨w.heap.size,8,none⟩=some (.int .i64 r.ep)∧wy.cell? ⟨w.heap.size,9,none⟩=some (.pointer (some ⟨m.M,0,none⟩))∧wy.cell? ⟨w.heap.size,10,none⟩=some (.int .i64 r.VB)∧wy.cell? ⟨w.heap.size,11,none⟩=some (.int .i64 r.QA))
   (first|exact S0.o|exact S5.o|exact SK.o _ l.o|exact SK.o _ I.o|exact SK.o _ C.o|exact SK.o _ d.o|exact SK.o _ BZ.o|exact SK.o _ (bR.drew.alloc nR _))
   (first
    |(go_at_call 128;refine(z.o _ (HB.o.trans (BZ.o.mono j))).mono ?_;rintro en w3 ⟨L3,A3,c3,rfl,hr⟩;(have b:=Qa hr);(have d:Qb (Below w1.heap.size w1 w3):=BZ.o.trans (hr.below.mono T));(have U:=Qa (HZ.o.below hr.below HZ.o.lt));clear hr)
    |(go_at_call 128;refine(z.o _ (HB.o.trans ((bR.drew).mono j))).mono ?_;rintro en w3 ⟨L3,A3,c3,rfl,hr⟩;(have b:=Qa hr);(have d:Qb (Below w1.heap.size w1 w3):=bR.drew.trans hr.below);(have S:=d.o.size);(have C:Qb (Below w1.heap.size w1 (w3.alloc (.cells (QL none 0 0 0 0) 36))):=d.o.alloc d.o.size _);(have E:Qb (Qh (w3.alloc (.cells (QL none 0 0 0 0) 36)) w3.heap.size 36 (QL none 0 0 0 0)):=Qh.new _ _ _);clear hr)
    |(go_at_call 127;refine(p.o w3 L3 A3 c3 (HB.o.trans (d.o.mono j)) (by rw[b.o.rcs];exact List.take_of_length_le F.o) b.o.len (Sl.Jl b.o.own) b.o.OM).mono ?_;rintro en w4 ⟨A4,c4,L4,a,rfl,hs,hb⟩;(have l:Qb (Below w1.heap.size w1 w4):=d.o.trans (hb.mono d.o.size));(have N:=Qa (U.o.below hb U.o.lt));(have f:=Qa (HE.o w4 w1.heap.size A4 c4 L4 a l.o nR N.o hs));(have zs:=f.o.2.2.2);(have S5:=Qa (SK.o _ f.o.1));(have H:Qb (w1.heap.size≤w1.heap.size):=nR);clear hb hs)
    |(go_at_call 127;refine(p.o (w3.alloc (.cells (QL none 0 0 0 0) 36)) L3 A3 c3 (HB.o.trans (C.o.mono j)) (by rw[b.o.rcs];exact List.take_of_length_le F.o) b.o.len ((Sl.Jl b.o.own).below (bR.alloc nR _)) (b.o.OM.below (bR.alloc nR _))).mono ?_;rintro en w4 ⟨A4,c4,L4,a,rfl,hs,hb⟩;(have l:Qb (Below w1.heap.size w1 w4):=C.o.trans (hb.mono C.o.size));(have N:=Qa (E.o.below hb E.o.lt));(have f:=Qa (HE.o w4 w3.heap.size A4 c4 L4 a l.o S N.o hs));(have zs:=f.o.2.2.2);(have S5:=Qa (SK.o _ f.o.1));(have H:Qb (w1.heap.size≤w3.heap.size):=S);clear hb hs)
    |(go_at_call 127;refine(p.o w3 L3 A3 c3 (HB.o.trans (d.o.mono j)) (by rw[b.o.rcs];exact List.take_of_length_le F.o) b.o.len (Sl.Jl b.o.own) b.o.OM).mono ?_;rintro en w4 ⟨A4,c4,L4,a,rfl,hs,hb⟩;(have I:Qb (Below w1.heap.size w1 w4):=d.o.trans (hb.mono d.o.size));(have O:=I.o.size);(have l:Qb (Below w1.heap.size w1 (w4.alloc (.cells (QL none 0 0 0 0) 36))):=I.o.alloc O _);(have f:=Qa (HE.o (w4.alloc (.cells (QL none 0 0 0 0) 36)) w4.heap.size A4 c4 L4 a l.o O (Qh.new _ _ _) (hs.below (bR.alloc nR _))));(have zs:=f.o.2.2.2);(have S5:=Qa (SK.o _ f.o.1));(have H:Qb (w1.heap.size≤w4.heap.size):=O);clear hb hs))
  all_goals
   go_wp2_with fail;go_meet;exact⟨A4,c4,L4,a,_,rfl,rfl,H.o,f.o.1,f.o.2.1,f.o.2.2.1⟩
 obtain⟨A4,c4,L4,a,g,rfl,rfl,a8,D,i,K⟩:=hcut;have x:=Qa (HX.o.below D HX.o.lt);have y:=Qa (HG.o.below D HG.o.lt);have u:=Qa (HB.o.trans (D.mono j));have G:=Qa K;have a1:w.heap.size+1≠w.heap.size:=by omega
 clear D SK S0 BZ HZ T HE z p HX HG HB;by_cases he:er=0
 ·subst he;obtain⟨rc,e2,rfl⟩:∃rc e2,r'={ r with Qo:=rc,ep:=e2 }:=⟨_,_,s.o.1⟩;obtain⟨nr,B⟩:=eX rc.length;have a6:=Qa B;have i:Qh wc g 36 #[.slice A4 nr c4,.int .i64 a,.int .i64 r.half,.int .i64 r.size,.int .i64 e2]:=by rw[B];exact i
  have x0:wc.cell? ⟨g,0,none⟩=some (.slice A4 nr c4):=i.cell 0;have x1:wc.cell? ⟨g,1,none⟩=some (.int .i64 a):=i.cell 1;have x2:wc.cell? ⟨g,2,none⟩=some (.int .i64 r.half):=i.cell 2;have x3:wc.cell? ⟨g,3,none⟩=some (.int .i64 r.size):=i.cell 3;have x4:wc.cell? ⟨g,4,none⟩=some (.int .i64 e2):=i.cell 4;have xl:=i.lt;have zs:=ZF wc w.heap.size 4 #[.slice A4 nr c4,.int .i64 a,.int .i64 r.half,.int .i64 r.size,.int .i64 e2] (x.o.there 4 5 (by simp)) rfl (by simp[Value.oneCell']);have P:Qr { r with Qo:=rc,ep:=e2 } (m.log A4 c4 L4 a)=#[.int .i64 r.size,.slice m.AN r.notes.length m.cN,.slice m.AS r.Qc.length m.cS,.slice m.AM r.marks.length m.cM,.slice A4 nr c4,.int .i64 a,.int .i64 r.half,.int .i64 r.size,.int .i64 e2,.pointer (some ⟨m.M,0,none⟩),.int .i64 r.VB,.int .i64 r.QA]:=by rw[B]
  have Z:=Qa P;have a2:Qb (Qh (wc.setCells w.heap.size 4 [.slice A4 nr c4,.int .i64 a,.int .i64 r.half,.int .i64 r.size,.int .i64 e2]) w.heap.size 39 #[.int .i64 r.size,.slice m.AN r.notes.length m.cN,.slice m.AS r.Qc.length m.cS,.slice m.AM r.marks.length m.cM,.slice A4 nr c4,.int .i64 a,.int .i64 r.half,.int .i64 r.size,.int .i64 e2,.pointer (some ⟨m.M,0,none⟩),.int .i64 r.VB,.int .i64 r.QA]):=by
   have:=x.o.sets [.slice A4 nr c4,.int .i64 a,.int .i64 r.half,.int .i64 r.size,.int .i64 e2] 4;show Qh _ _ _ _;simpa [Er]using this
  have J:=Qa (Qh.DK a1 [.slice A4 nr c4,.int .i64 a,.int .i64 r.half,.int .i64 r.size,.int .i64 e2] wc 4 y.o);have V:=Qa (Zo nR [.slice A4 nr c4,.int .i64 a,.int .i64 r.half,.int .i64 r.size,.int .i64 e2] w wc 4 u.o);have a0:Qb (JN (wc.setCells w.heap.size 4 [.slice A4 nr c4,.int .i64 a,.int .i64 r.half,.int .i64 r.size,.int .i64 e2]) { r with Qo:=rc,ep:=e2 } (m.log A4 c4 L4 a)):=Qa (G.o.keeps (Ij (ts:=[39]) (by decide) _ _ x.o) (by decide));clear i K B P;go_upto_region 5 with fail;have HI:Qb ((prog.info? 39).map (·.size)=some (#[.int .i64 r.size,.slice m.AN r.notes.length m.cN,.slice m.AS r.Qc.length m.cS,.slice m.AM r.marks.length m.cM,.slice A4 nr c4,.int .i64 a,.int .i64 r.half,.int .i64 r.size,.int .i64 e2,.pointer (some ⟨m.M,0,none⟩),.int .i64 r.VB,.int .i64 r.QA]:Array Value).size):=Jy;have H1:Qb ((#[.int .i64 r.size,.slice m.AN r.notes.length m.cN,.slice m.AS r.Qc.length m.cS,.slice m.AM r.marks.length m.cM,.slice A4 nr c4,.int .i64 a,.int .i64 r.half,.int .i64 r.size,.int .i64 e2,.pointer (some ⟨m.M,0,none⟩),.int .i64 r.VB,.int .i64 r.QA]:Array Value).all (·.oneCell')=true):=Qa (by simp[Value.oneCell']);clear zs x0 x1 x2 x3 x4 xl x y u G;generalize wc.setCells w.heap.size 4 [.slice A4 nr c4,.int .i64 a,.int .i64 r.half,.int .i64 r.size,.int .i64 e2]=w6 at*
  go_wp2_with (first
   |(refine wpList_load_row rfl 39 _ rfl w.heap.size rfl 39 #[.int .i64 r.size,.slice m.AN r.notes.length m.cN,.slice m.AS r.Qc.length m.cS,.slice m.AM r.marks.length m.cM,.slice A4 nr c4,.int .i64 a,.int .i64 r.half,.int .i64 r.size,.int .i64 e2,.pointer (some ⟨m.M,0,none⟩),.int .i64 r.VB,.int .i64 r.QA] (0,0) _ a2.o underlying39 rfl HI.o ?_)
   |(refine wpList_store_row rfl 39 _ _ rfl (w.heap.size+1) #[.int .i64 r.size,.slice m.AN r.notes.length m.cN,.slice m.AS r.Qc.length m.cS,.slice m.AM r.marks.length m.cM,.slice A4 nr c4,.int .i64 a,.int .i64 r.half,.int .i64 r.size,.int .i64 e2,.pointer (some ⟨m.M,0,none⟩),.int .i64 r.VB,.int .i64 r.QA] rfl rfl 39 Ji J.o HI.o rfl H1.o ?_))
  refine bodyPost_ret (v:=.tuple #[.agg #[.int .i64 r.size,.slice m.AN r.notes.length m.cN,.slice m.AS r.Qc.length m.cS,.slice m.AM r.marks.length m.cM,.slice A4 nr c4,.int .i64 a,.int .i64 r.half,.int .i64 r.size,.int .i64 e2,.pointer (some ⟨m.M,0,none⟩),.int .i64 r.VB,.int .i64 r.QA],.int .i64 0]) (Ql results69 _ _ (w.heap.size+1) 39 _ (0,0) _ rfl (Qp J.o _) underlying39 rfl HI.o) rfl ?_;refine⟨A4,c4,L4,a,by rw[Z.o];rfl, ?_,V.o.trans (Qg (Qm _ _ _) V.o.size (gB (by omega)))⟩;exact a0.o.keeps (Q5 (ts:=[39]) J.o (by decide) _) (by decide)
 have W:r'=r:=s.o.2 he;subst W;have a7:((er:Int)==0)=false:=by simp;omega
 have HI:Qb ((prog.info? 39).map (·.size)=some (Qr r' m).size):=Jy;have H1:Qb ((Qr r' m).all (·.oneCell')=true):=Qa (by simp[Value.oneCell']);have a3:=Qa (HS.o.below u.o);clear s G K i
 go_wp2_with (first
  |(refine wpList_load_row rfl 39 _ rfl w.heap.size rfl 39 (Qr r' m) (0,0) _ x.o underlying39 rfl HI.o ?_)
  |(refine wpList_store_row rfl 39 _ _ rfl (w.heap.size+1) (Qr r' m) rfl rfl 39 Ji y.o HI.o rfl H1.o ?_))
 refine bodyPost_ret (v:=.tuple #[.agg (Qr r' m),.int .i64 er]) (Ql results69 _ _ (w.heap.size+1) 39 _ (0,0) _ rfl (Qp y.o _) underlying39 rfl HI.o) rfl ?_;refine⟨m.AL,m.cL,m.L,m.Qk,rfl, ?_,u.o.trans (Qg (Qm _ _ _) u.o.size (gB (by omega)))⟩;exact a3.o.keeps (Q5 (ts:=[39]) y.o (by decide) _) (by decide)
end
def XH(w w':World)(m m0:JM)(q:Nat × QH)(e:Ending):Prop:=
 ∃m',e=.returned (.tuple #[.agg (Qr q.2 m'),.int .i64 q.1])∧JN w' q.2 m'∧m'.M=m.M∧(m'.AM=m.AM∨m'.AM=m0.AM)∧Below w.heap.size w w'
theorem FB(r:QH)(x:QN):(YP r x).2={ r with Qo:=(YP r x).2.Qo }∧(YP r x).1≤5:=by
 unfold YP;split
 ·exact⟨rfl,by simp⟩
 split
 ·exact⟨rfl,by simp⟩
 exact⟨rfl,by simp⟩
variable {r0:QH}
theorem My{x:QN}(h:(YP r x).1=0):QE r r0 x=(0,(YP r x).2):=by
 unfold QE;generalize YP r x=q at*
 obtain⟨e,r1⟩:=q;simp only at h;subst h;rfl
theorem Pn{x:QN}(h:(YP r x).1≠0):QE r r0 x=if(Vq r).1=0 then(0,(Vq r).2)else((Vq r).1,r0):=by
 unfold QE;generalize YP r x=q at*
 obtain⟨e,r1⟩:=q;generalize Vq r=p at*
 obtain⟨e2,r2⟩:=p;cases e with
 |zero=>exact absurd rfl h
 |succ e=>cases e2<;>simp
variable {X:Nat}
theorem Qh.Km(h:Qh w g t cs)(hne:g≠X)(v:Array Value):Qh (w.setRow X v) g t cs:=
 h.grown (Qm w X v) (fun e=>hne (by injection e with e;exact e.symm))
section
attribute [local go_sem ↓] Ib
theorem V7{m m0:JM}(h:JN w r m)(h0:JN w r0 m0)(hM:m0.M=m.M)(ok:Ya r)(lk:XV r)(kd:Nat)(bs:List UInt8)(Ar:Option Addr)(cr:Nat)(hby:Kb w Ar bs)(hc:bs.length≤cr)(hkd:kd<256)(hbl:bs.length<1099511627776):
  Calls prog 139 #[.agg (Qr r m),.agg (Qr r0 m0),.agg #[.int .u8 kd,.slice Ar bs.length cr]] w fun e w'=>XH w w' m m0 (QE r r0 (kd,bs)) e:=by
 obtain⟨b,hb⟩:=eX bs.length;have HA:=Qa (show ∀wy,Below w.heap.size w wy→Calls prog 178 #[.agg (J1 r m),.agg #[.int .u8 kd,.slice Ar b cr]] wy fun e w'=>Pc wy w' m (YP r (kd,bs)) e from fun wy hy=>by rw[hb];exact NL (h.below hy) lk kd bs Ar cr (hby.keeps (Qd.Qe (base:=0) (ts:=[]) hy (Nat.zero_le _)) (by simp)) hc hkd hbl);have HT:=Qa (show ∀wy,Below w.heap.size w wy→Calls prog 69 #[.agg (Qr r m)] wy fun e w'=>TN wy w' m (Vq r) e from fun wy hy=>Nv (h.below hy) ok lk);rw[←hb];obtain⟨w1,f⟩:=eX ((((w.alloc (.cells (Qr r m) 39)).alloc (.cells (Qr r0 m0) 39)).alloc (.cells #[.int .u8 kd,.slice Ar b cr] 247)).alloc (.cells Ji 39));have HX:Qb (Qh w1 w.heap.size 39 (Qr r m)):=Qa (by rw[f];exact(((Qh.new _ _ _).alloc _).alloc _).alloc _);have HY:Qb (Qh w1 (w.heap.size+1) 39 (Qr r0 m0)):=Qa (by rw[f];exact((Qh.Qz (by simp)).alloc _).alloc _);have HZ:Qb (Qh w1 (w.heap.size+1+1) 247 #[.int .u8 kd,.slice Ar b cr]):=Qa (by rw[f];exact(Qh.Qz (by simp)).alloc _);have HG:Qb (Qh w1 (w.heap.size+1+1+1) 39 Ji):=Qa (by rw[f];exact Qh.Qz (by simp));have HB:Qb (Below w.heap.size w w1):=by
  rw[f];exact(((bR.alloc nR _).alloc (by simp) _).alloc (by simp;omega) _).alloc (by simp;omega) _
 have HS:=Qa h;have a3:=Qa h0;have HM:=Qa hM;have H:=Qa (FB r (kd,bs));have D:=Qa (fun h=>My (r:=r) (r0:=r0) (x:=(kd,bs)) h);have B:=Qa (fun h=>Pn (r:=r) (r0:=r0) (x:=(kd,bs)) h);have P:=Qa (E3 r (Q3 r));have a2:XU r (Q3 r)=Vq r:=rfl;rw[a2]at P;generalize QE r r0 (kd,bs)=ql at*
 generalize YP r (kd,bs)=qa at*
 generalize Vq r=qt at*
 obtain⟨ea,ra⟩:=qa;obtain⟨et,rt⟩:=qt;simp only at HA H D B P;clear h h0 hM hb a2 hby;go_enter func139,ntmps139;go_upto_region 1 with fail;rw[←f];clear f;obtain⟨X,hX⟩:=eX w.heap.size;obtain⟨Y,hY⟩:=eX (w.heap.size+1);obtain⟨Z,hZ⟩:=eX (w.heap.size+1+1);obtain⟨G,hG⟩:=eX (w.heap.size+1+1+1);rw[←hG,←hZ,←hY,←hX];rw[←hX]at HX;rw[←hY]at HY;rw[←hZ]at HZ;rw[←hG]at HG;have a7:w.heap.size≤X:=by omega
 have ad:w.heap.size≤G:=by omega
 have a1:G≠X:=by omega
 have a5:Y≠X:=by omega
 have T:=HB.o.size;have k:∀r':QH,∀m':JM,Qb ((prog.info? 39).map (·.size)=some (Qr r' m').size):=fun r' m'=>Jy
 have I:∀r':QH,∀m':JM,Qb ((Qr r' m').all (·.oneCell')=true):=fun r' m'=>Qa (by simp[Value.oneCell'])
 clear hX hY hZ hG
 have S:=Qa (show ∀(w2:World) A c L la,(Fa (.pointer (some ⟨w2.heap.size,0,none⟩)) (.agg (J1 ra (m.log A c L la)))).run prog (w2.alloc (.cells (QL none 0 0 0 0) 36))=.ok () (w2.alloc (.cells (J1 ra (m.log A c L la)) 36)) from fun w2 A c L la=>by
  have:=Oa (v:=J1 ra (m.log A c L la)) (Qh.new w2 36 (QL none 0 0 0 0)) rfl rfl (by simp[Value.oneCell']);rwa [World.setRow_alloc_new]at this)
 have x4:w1.cell? ⟨X,4,none⟩=some (.slice m.AL r.Qo.length m.cL):=HX.o.cell 4;have x5:w1.cell? ⟨X,5,none⟩=some (.int .i64 m.Qk):=HX.o.cell 5;have x6:w1.cell? ⟨X,6,none⟩=some (.int .i64 r.half):=HX.o.cell 6;have x7:w1.cell? ⟨X,7,none⟩=some (.int .i64 r.size):=HX.o.cell 7;have x8:w1.cell? ⟨X,8,none⟩=some (.int .i64 r.ep):=HX.o.cell 8;have y0:w1.cell? ⟨Z,0,none⟩=some (.int .u8 kd):=HZ.o.cell 0;have y1:w1.cell? ⟨Z,1,none⟩=some (.slice Ar b cr):=HZ.o.cell 1;have xl:=HX.o.lt;have zl:=HZ.o.lt
 go_upto_region 2 with(first
  |(go_at_call 178;refine(HA.o w1 HB.o).mono ?_;rintro en w2 ⟨A2,c2,L2,a,rfl,Q,p⟩;(have J:=Qa (Q.below (bR.alloc nR (.cells (J1 ra (m.log A2 c2 L2 a)) 36))));(have s:=Qa ((HB.o.trans (p.mono T)).alloc (Nat.le_trans T p.size) (.cells (J1 ra (m.log A2 c2 L2 a)) 36)));(have j:=Qa ((HX.o.below p HX.o.lt).alloc (.cells (J1 ra (m.log A2 c2 L2 a)) 36)));(have C:=Qa ((HY.o.below p HY.o.lt).alloc (.cells (J1 ra (m.log A2 c2 L2 a)) 36)));(have u:=Qa ((HG.o.below p HG.o.lt).alloc (.cells (J1 ra (m.log A2 c2 L2 a)) 36)));(have K:=Qa (Qh.new w2 36 (J1 ra (m.log A2 c2 L2 a))));(have ab:=p.size);(have a9:=S.o w2 A2 c2 L2 a);clear Q p))
 clear x4 x5 x6 x7 x8 y0 y1 xl zl HX HY HZ HG HB S a9;obtain⟨ac,rfl⟩:∃ac,ra={ r with Qo:=ac }:=⟨_,H.o.1⟩;obtain⟨nr,t⟩:=eX ac.length;have a4:=Qa t;generalize z:w2.alloc (.cells (J1 { r with Qo:=ac } (m.log A2 c2 L2 a)) 36)=w3 at*
 obtain⟨g,hg⟩:=eX w2.heap.size;rw[←hg]at K;rw[←hg];clear hg z;by_cases he:ea=0
 ·subst he;have q:=D.o rfl;subst q;have n:Qh w3 g 36 #[.slice A2 nr c2,.int .i64 a,.int .i64 r.half,.int .i64 r.size,.int .i64 r.ep]:=by rw[t];exact K.o
  have x0:w3.cell? ⟨g,0,none⟩=some (.slice A2 nr c2):=n.cell 0;have x1:w3.cell? ⟨g,1,none⟩=some (.int .i64 a):=n.cell 1;have x2:w3.cell? ⟨g,2,none⟩=some (.int .i64 r.half):=n.cell 2;have x3:w3.cell? ⟨g,3,none⟩=some (.int .i64 r.size):=n.cell 3;have x4:w3.cell? ⟨g,4,none⟩=some (.int .i64 r.ep):=n.cell 4;have xl:=n.lt;have zs:=ZF w3 X 4 #[.slice A2 nr c2,.int .i64 a,.int .i64 r.half,.int .i64 r.size,.int .i64 r.ep] (j.o.there 4 5 (by simp)) rfl (by simp[Value.oneCell']);have a6:Qb (Qr { r with Qo:=ac } (m.log A2 c2 L2 a)=#[.int .i64 r.size,.slice m.AN r.notes.length m.cN,.slice m.AS r.Qc.length m.cS,.slice m.AM r.marks.length m.cM,.slice A2 nr c2,.int .i64 a,.int .i64 r.half,.int .i64 r.size,.int .i64 r.ep,.pointer (some ⟨m.M,0,none⟩),.int .i64 r.VB,.int .i64 r.QA]):=by show _=_;rw[t]
  have O:Qb (Qh (w3.setCells X 4 [.slice A2 nr c2,.int .i64 a,.int .i64 r.half,.int .i64 r.size,.int .i64 r.ep]) X 39 #[.int .i64 r.size,.slice m.AN r.notes.length m.cN,.slice m.AS r.Qc.length m.cS,.slice m.AM r.marks.length m.cM,.slice A2 nr c2,.int .i64 a,.int .i64 r.half,.int .i64 r.size,.int .i64 r.ep,.pointer (some ⟨m.M,0,none⟩),.int .i64 r.VB,.int .i64 r.QA]):=by
   have:=j.o.sets [.slice A2 nr c2,.int .i64 a,.int .i64 r.half,.int .i64 r.size,.int .i64 r.ep] 4;show Qh _ _ _ _;simpa [Er]using this
  have i:=Qa (Qh.DK a1 [.slice A2 nr c2,.int .i64 a,.int .i64 r.half,.int .i64 r.size,.int .i64 r.ep] w3 4 u.o);have l:=Qa (Zo a7 [.slice A2 nr c2,.int .i64 a,.int .i64 r.half,.int .i64 r.size,.int .i64 r.ep] w w3 4 s.o);have N:Qb (JN (w3.setCells X 4 [.slice A2 nr c2,.int .i64 a,.int .i64 r.half,.int .i64 r.size,.int .i64 r.ep]) { r with Qo:=ac } (m.log A2 c2 L2 a)):=Qa (J.o.keeps (Ij (ts:=[39]) (by decide) _ _ j.o) (by decide));clear n t HA HT D B;go_upto_region 4 with fail;have HI:Qb ((prog.info? 39).map (·.size)=some (#[.int .i64 r.size,.slice m.AN r.notes.length m.cN,.slice m.AS r.Qc.length m.cS,.slice m.AM r.marks.length m.cM,.slice A2 nr c2,.int .i64 a,.int .i64 r.half,.int .i64 r.size,.int .i64 r.ep,.pointer (some ⟨m.M,0,none⟩),.int .i64 r.VB,.int .i64 r.QA]:Array Value).size):=Jy;have H1:Qb ((#[.int .i64 r.size,.slice m.AN r.notes.length m.cN,.slice m.AS r.Qc.length m.cS,.slice m.AM r.marks.length m.cM,.slice A2 nr c2,.int .i64 a,.int .i64 r.half,.int .i64 r.size,.int .i64 r.ep,.pointer (some ⟨m.M,0,none⟩),.int .i64 r.VB,.int .i64 r.QA]:Array Value).all (·.oneCell')=true):=Qa (by simp[Value.oneCell']);clear zs x0 x1 x2 x3 x4 xl j u s C J;generalize w3.setCells X 4 [.slice A2 nr c2,.int .i64 a,.int .i64 r.half,.int .i64 r.size,.int .i64 r.ep]=w6 at*
  go_wp2_with (first
   |(refine wpList_load_row rfl 39 _ rfl X rfl 39 #[.int .i64 r.size,.slice m.AN r.notes.length m.cN,.slice m.AS r.Qc.length m.cS,.slice m.AM r.marks.length m.cM,.slice A2 nr c2,.int .i64 a,.int .i64 r.half,.int .i64 r.size,.int .i64 r.ep,.pointer (some ⟨m.M,0,none⟩),.int .i64 r.VB,.int .i64 r.QA] (0,0) _ O.o underlying39 rfl HI.o ?_)
   |(refine wpList_store_row rfl 39 _ _ rfl G #[.int .i64 r.size,.slice m.AN r.notes.length m.cN,.slice m.AS r.Qc.length m.cS,.slice m.AM r.marks.length m.cM,.slice A2 nr c2,.int .i64 a,.int .i64 r.half,.int .i64 r.size,.int .i64 r.ep,.pointer (some ⟨m.M,0,none⟩),.int .i64 r.VB,.int .i64 r.QA] rfl rfl 39 Ji i.o HI.o rfl H1.o ?_))
  refine bodyPost_ret (v:=.tuple #[.agg #[.int .i64 r.size,.slice m.AN r.notes.length m.cN,.slice m.AS r.Qc.length m.cS,.slice m.AM r.marks.length m.cM,.slice A2 nr c2,.int .i64 a,.int .i64 r.half,.int .i64 r.size,.int .i64 r.ep,.pointer (some ⟨m.M,0,none⟩),.int .i64 r.VB,.int .i64 r.QA],.int .i64 0]) (Ql results139 _ _ G 39 _ (0,0) _ rfl (Qp i.o _) underlying39 rfl HI.o) rfl ?_;exact⟨m.log A2 c2 L2 a,by rw[a6.o];rfl,N.o.keeps (Q5 (ts:=[39]) i.o (by decide) _) (by decide),rfl,.inl rfl,l.o.trans (Qg (Qm _ _ _) l.o.size (gB (by omega)))⟩
 have q:=B.o he;have ae:((ea:Int)==0)=false:=by simp;omega
 have z:=s.o.size;clear J K a4 t D B HA H
 go_upto_region 6 with(first
  |(refine wpList_load_row rfl 39 _ rfl X rfl 39 (Qr r m) (0,0) _ j.o underlying39 rfl (k r m).o ?_)
  |(go_at_call 69;refine(HT.o w3 s.o).mono ?_;rintro en w4 ⟨A4,c4,L4,d,rfl,a0,y⟩;(have U:=Qa a0);(have F:=Qa (s.o.trans (y.mono z)));(have E:=Qa (j.o.below y j.o.lt));(have W:=Qa (C.o.below y C.o.lt));(have V:=Qa (u.o.below y u.o.lt));clear a0 y)
  |(refine wpList_store_row rfl 39 _ _ rfl X (Qr rt (m.log A4 c4 L4 d)) rfl rfl 39 (Qr r m) E.o (k rt (m.log A4 c4 L4 d)).o rfl (I rt (m.log A4 c4 L4 d)).o ?_))
 have O:=Qa (Qp E.o (Qr rt (m.log A4 c4 L4 d)));have i:=Qa (Qh.Km V.o a1 (Qr rt (m.log A4 c4 L4 d)));have a8:=Qa (Qh.Km W.o a5 (Qr rt (m.log A4 c4 L4 d)));have l:=Qa (F.o.trans (Qg (Qm w4 X (Qr rt (m.log A4 c4 L4 d))) F.o.size (gB (by omega))));have N:=Qa (U.o.keeps (Q5 (ts:=[39]) E.o (by decide) (Qr rt (m.log A4 c4 L4 d))) (by decide));have R:=Qa (a3.o.below l.o);clear j u C s E W V F U HT z;generalize w4.setRow X (Qr rt (m.log A4 c4 L4 d))=w6 at*
 by_cases het:et=0
 ·rw[if_pos het]at q;subst het q
  go_wp2_with (first
   |(refine wpList_load_row rfl 39 _ rfl X rfl 39 (Qr rt (m.log A4 c4 L4 d)) (0,0) _ O.o underlying39 rfl (k rt (m.log A4 c4 L4 d)).o ?_)
   |(refine wpList_store_row rfl 39 _ _ rfl G (Qr rt (m.log A4 c4 L4 d)) rfl rfl 39 Ji i.o (k rt (m.log A4 c4 L4 d)).o rfl (I rt (m.log A4 c4 L4 d)).o ?_))
  refine bodyPost_ret (v:=.tuple #[.agg (Qr rt (m.log A4 c4 L4 d)),.int .i64 0]) (Ql results139 _ _ G 39 _ (0,0) _ rfl (Qp i.o _) underlying39 rfl (k rt (m.log A4 c4 L4 d)).o) rfl ?_;exact⟨m.log A4 c4 L4 d,rfl,N.o.keeps (Q5 (ts:=[39]) i.o (by decide) _) (by decide),rfl,.inl rfl,l.o.trans (Qg (Qm _ _ _) l.o.size (gB (by omega)))⟩
 rw[if_neg het]at q;subst q;have aa:((et:Int)==0)=false:=by simp;omega
 go_wp2_with (first
  |(refine wpList_load_row rfl 39 _ rfl Y rfl 39 (Qr r0 m0) (0,0) _ a8.o underlying39 rfl (k r0 m0).o ?_)
  |(refine wpList_store_row rfl 39 _ _ rfl G (Qr r0 m0) rfl rfl 39 Ji i.o (k r0 m0).o rfl (I r0 m0).o ?_))
 refine bodyPost_ret (v:=.tuple #[.agg (Qr r0 m0),.int .i64 et]) (Ql results139 _ _ G 39 _ (0,0) _ rfl (Qp i.o _) underlying39 rfl (k r0 m0).o) rfl ?_;exact⟨m0,rfl,R.o.keeps (Q5 (ts:=[39]) i.o (by decide) _) (by decide),HM.o,.inr rfl,l.o.trans (Qg (Qm _ _ _) l.o.size (gB (by omega)))⟩
end
structure Kr (w:World) (M lo:Nat) (F:List Bool):Prop where
 ex:∃A c,Qh w M 236 #[.int .i64 lo,.slice A F.length c]∧Sl w 4 1 A F.length (F.map Value.bool)
variable {M base:Nat} {w':World}
theorem Kr.keeps{ts:List TypeId}(h:Kr w M lo F)(k:Qd base ts w w')(h1:(236:TypeId)∉ts)(h2:(4:TypeId)∉ts):Kr w' M lo F:=by
 obtain⟨A,c,hb,hs⟩:=h.ex;exact⟨A,c,hb.keeps k h1,hs.keeps k h2⟩
theorem Kr.below(h:Kr w M lo F)(k:Below w.heap.size w w'):Kr w' M lo F:=h.keeps (ts:=[]) (Qd.Qe (base:=0) k (Nat.zero_le _)) (by simp) (by simp)
theorem Dp{l:List Bool}(h:Rd w B 1 A n (l.map Value.bool))(i:Nat)(hi:i<l.length)(hn:n=l.length):∃b o,A=some ⟨b,o,none⟩∧b<B∧w.cell? ⟨b,o+i,none⟩=some (.bool (l.getD i false)):=by
 obtain⟨bb,oo,hA,a,c⟩:=h.2 (by omega);refine⟨bb,oo,hA,a, ?_⟩;have:=c i (by simpa using hi);rw[this];simp[List.getD_eq_getElem?_getD,hi]
theorem L9(h:Kr w M lo F)(a n:Nat)(hl:F.length≤65536)(hlo:lo≤65536)(ha:a≤4194304)(hn:n≤1073741826):
  Calls prog 175 #[.pointer (some ⟨M,0,none⟩),.agg #[.int .i64 ((lo+a:Nat):Int),.int .i64 n]] w fun e w'=>e=.returned (.bool (Vj F a n))∧Below w.heap.size w w':=by
 obtain⟨A,c,hM,hs⟩:=h.ex;obtain⟨s,hse⟩:∃s:Nat,s=lo+a:=⟨_,rfl⟩;rw[←hse];obtain⟨N,hN⟩:=eX F.length;have f:Vj F a n=(decide (1≤n)&&decide (a<N)&&decide (n≤N-a)):=by unfold Vj;rw[hN]
 rw[f];rw[←hN]at hM hl;have HX:=Qa (Qh.new w 241 #[.int .i64 s,.int .i64 n]);have HB:Qb (Below w.heap.size w (w.alloc (.cells #[.int .i64 s,.int .i64 n] 241))):=bR.alloc nR _;have g:=Qa (hM.alloc (.cells #[.int .i64 s,.int .i64 n] 241));have q1:IntKind.i64.wrap ((lo:Int)+(N:Int))=((lo+N:Nat):Int):=by rw[IntKind.wrap_i64];omega
 have q2:IntKind.i64.wrap (((lo+N:Nat):Int)-(s:Int))=((lo+N:Nat):Int)-(s:Int):=by rw[IntKind.wrap_i64];omega
 obtain⟨T,hT⟩:=eX (lo+N);rw[←hT]at q1 q2;have b:=Qa hse;have d:=Qa hT;clear h hs hM f hN hse hT;go_enter func175,ntmps175;go_upto_region 1 with fail;generalize w.alloc (.cells #[.int .i64 s,.int .i64 n] 241)=w1 at*
 have x0:w1.cell? ⟨w.heap.size,0,none⟩=some (.int .i64 s):=HX.o.cell 0;have x1:w1.cell? ⟨w.heap.size,1,none⟩=some (.int .i64 n):=HX.o.cell 1;have m0:w1.cell? ⟨M,0,none⟩=some (.int .i64 lo):=g.o.cell 0;have m1:w1.cell? ⟨M,1,none⟩=some (.slice A N c):=g.o.cell 1;have xl:=HX.o.lt;have ml:=g.o.lt;have c2:(s:Int)≥lo:=by have:=b.o;omega
 by_cases h1:1≤n
 ·have c1:(n:Int)≥1:=by omega
  by_cases h2:a<N
  ·have c3:(s:Int)<T:=by have:=b.o;have:=d.o;omega
   by_cases h3:n≤N-a
   ·have c4:(n:Int)≤(T:Int)-s:=by have:=b.o;have:=d.o;omega
    go_quiet (fail)
    all_goals
     go_wp2_with fail;go_ret;exact⟨by simp[h1,h2,h3],QK HB.o _⟩
   have c4:¬(n:Int)≤(T:Int)-s:=by have:=b.o;have:=d.o;omega
   go_quiet (fail)
   all_goals
    go_wp2_with fail;go_ret;exact⟨rfl,QK HB.o _⟩
  have c3:¬(s:Int)<T:=by have:=b.o;have:=d.o;omega
  go_quiet (fail)
  all_goals
   go_wp2_with fail;go_ret;exact⟨rfl,QK HB.o _⟩
 have c1:¬(n:Int)≥1:=by omega
 go_quiet (fail)
 all_goals
  go_wp2_with fail;go_ret;exact⟨rfl,QK HB.o _⟩
theorem NJ(h:Kr w M lo F)(a n:Nat)(v:Bool)(hl:F.length≤65536)(hf:a+n≤F.length):
  Calls prog 176 #[.pointer (some ⟨M,0,none⟩),.agg #[.int .i64 ((lo+a:Nat):Int),.int .i64 n],.bool v] w fun e w'=>e=.returned (.bool (YM F a n v))∧Below w.heap.size w w':=by
 obtain⟨A,c,hM,hs⟩:=h.ex;obtain⟨s,hse⟩:∃s:Nat,s=lo+a:=⟨_,rfl⟩;rw[←hse];have q:=Qa (Od (v:=v) hf);obtain⟨N,hN⟩:=eX F.length;rw[←hN]at hM hl hf hs;have HX:=Qa (Qh.new w 241 #[.int .i64 s,.int .i64 n]);have HB:Qb (Below w.heap.size w (w.alloc (.cells #[.int .i64 s,.int .i64 n] 241))):=bR.alloc nR _;have B:=Qa (hM.alloc (.cells #[.int .i64 s,.int .i64 n] 241));have H:=Qa (hs.below (bR.alloc nR (.cells #[.int .i64 s,.int .i64 n] 241)));have q1:IntKind.i64.wrap ((s:Int)-(lo:Int))=(a:Int):=by rw[IntKind.wrap_i64];omega
 have C:=Qa hN;clear h hs hM hN hse;go_enter func176,ntmps176;go_upto_region 2 with fail;generalize w.alloc (.cells #[.int .i64 s,.int .i64 n] 241)=w1 at*
 have m:=HB.o.size;go_loopw [7] (fun i wr=>∃k:Nat,k≤n∧i=.int .i64 (k:Nat)∧(∀j,a≤j→j<a+k→F.getD j false=v)∧Below w1.heap.size w1 wr) (fun i _=>n-(intOf i).toNat)
 case atStart=>exact⟨0,Nat.zero_le _,rfl,fun j h1 h2=>by omega,bR⟩
 obtain⟨k,hk,rfl,l,f⟩:=hrel;have d:=Qa l;have u:=Qa f;have a0:=f.size;have x:=Qa (HX.o.below f HX.o.lt);have t:=Qa (B.o.below f B.o.lt);have x0:wr.cell? ⟨w.heap.size,0,none⟩=some (.int .i64 s):=x.o.cell 0;have x1:wr.cell? ⟨w.heap.size,1,none⟩=some (.int .i64 n):=x.o.cell 1;have m0:wr.cell? ⟨M,0,none⟩=some (.int .i64 lo):=t.o.cell 0;have m1:wr.cell? ⟨M,1,none⟩=some (.slice A N c):=t.o.cell 1;have xl:=x.o.lt;have ml:=t.o.lt;clear l f;by_cases hkl:k<n
 ·have G:(k:Int)<n:=by omega
  obtain⟨b,o,hA,a1,y⟩:=Dp (H.o.below u.o).1 (a+k) (by have:=C.o;omega) C.o;have q2:IntKind.i64.wrap ((a:Int)+(k:Int))=((a+k:Nat):Int):=by rw[IntKind.wrap_i64];omega
  obtain⟨j,hj⟩:=eX (a+k);rw[←hj]at y q2;have j1:(j:Int)<(N:Int):=by omega
  have j0:(0:Int)≤j:=by omega
  rw[hA]at m1;have HJ:=Qa hj;clear hA hj;obtain⟨bv,r⟩:=eX (F.getD j false);rw[←r]at y;have p:=Qa r;clear r;go_upto_region 4 with fail
  go_quiet (fail)
  generalize hw1':World.drewN wr _=w2;have g:Qb (Below w1.heap.size w1 w2):=by rw[←hw1'];exact QK u.o _
  clear hw1' x0 x1 m0 m1 y xl ml
  have E:=Qa (show bv=v→∀i,a≤i→i<a+(k+1)→F.getD i false=v from fun hbe i h1 h2=>by
   by_cases h3:i<a+k
   ·exact d.o i h1 h3
   have:i=j:=by have:=HJ.o;omega
   rw[this,←p.o];exact hbe)
  have z:=Qa (show bv≠v→YM F a n v=false from fun hbe=>by
   cases hx:YM F a n v with
   |false=>rfl
   |true=>
    have:=q.o.1 hx j (by have:=HJ.o;omega) (by have:=HJ.o;omega);rw[←p.o]at this;exact absurd this hbe)
  clear p q d;cases bv<;>cases v
  case false.false=>
   go_wp2_with fail;go_roundw
   case rel=>exact⟨k+1,by omega,by simp,E.o rfl,g.o⟩
   case measure=>simp[intOf];omega
  case true.true=>
   go_wp2_with fail;go_roundw
   case rel=>exact⟨k+1,by omega,by simp,E.o rfl,g.o⟩
   case measure=>simp[intOf];omega
  case false.true=>
   go_wp2_with fail;go_ret;exact⟨by rw[z.o (by simp)];rfl,HB.o.trans (g.o.mono m)⟩
  case true.false=>
   go_wp2_with fail;go_ret;exact⟨by rw[z.o (by simp)];rfl,HB.o.trans (g.o.mono m)⟩
 have I:k=n:=by omega
 subst I;have G:¬(k:Int)<k:=by omega
 have D:=Qa (q.o.2 fun i h1 h2=>d.o i h1 h2);go_wp2_with fail;go_ret;exact⟨by rw[D.o];rfl,HB.o.trans (u.o.mono m)⟩
end Go.Proofs.YtmgmfnimaafkdaaGreatDoor
