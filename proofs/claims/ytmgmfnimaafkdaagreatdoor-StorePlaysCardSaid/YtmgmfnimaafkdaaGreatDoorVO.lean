/- A version of the document's forgotten. -/
import Derived.Test.YtmgmfnimaafkdaaGreatDoorVN
namespace Go.Proofs.YtmgmfnimaafkdaaGreatDoor
set_option maxRecDepth 100000
set_option maxHeartbeats 0
open Go.RowKit Go.Maps Go.Shelf Go.Sort
open Tryz
theorem U2:prog.underlying 32=some (.slice 69):=by kernel_rfl
theorem EO:(prog.info? 69).map (fun i=>(i.zero,i.size,i.bytes))=some (some (.agg #[.int .i64 0,.int .i64 0,.string ⟨#[]⟩,.int .i64 0,.int .i64 0]),5,48):=by kernel_rfl
structure Zj (w wr:World) (o:List V4) (out:Value):Prop where
 own:wr.ownsRow w.heap.size 69 5 out o.length (o.flatMap JJ)
 low:w.heap.size≤wr.heap.size
variable {base:Nat} {out:Value} {w w' wr:World}
theorem Zj.keep{o:List V4}(h:Zj w wr o out)(hk:Qd base [236] wr w'):Zj w w' o out:=⟨QF h.own hk (by decide),Nat.le_trans h.low hk.below.size⟩
variable {A4:Option Addr} {c4:Nat} {w4:World}
theorem Zj.push{o:List V4}{x:V4}{ob:Obj}(h:Zj w wr o out)(hown:w4.ownsRow w.heap.size 69 5 (.slice A4 (o.length+1) c4) (o.length+1) (o.flatMap JJ++JJ x))(hgr:(wr.alloc ob).grownBy w4 out.ownBlock):Zj w w4 (o++[x]) (.slice A4 (o.length+1) c4):=by
 refine⟨?_,Nat.le_trans h.low (Nat.le_trans (by simp) (Nat.le_of_lt_succ (Nat.lt_succ_of_le hgr.size)))⟩;rw[List.length_append,List.length_singleton,List.flatMap_append];simpa using hown
def pW(n:Qj)(all:Bool)(x:V4):Bool:=decide (x.n=n)||(all&&decide (x.n.1=n.1))
structure U4 (r:QH) (lo:Nat) (F:List Bool):Prop where
 fl:F.length≤65536
 lo':lo≤65536
 at':∀x∈r.Qc,lo≤x.at'∧x.at'≤4194304∧x.b.length≤1048576
 sz:r.size<2^40
 nS:r.Qc.length≤100001
theorem FD(F:List Bool)(a n:Nat):(VJ F a n).length=F.length:=by
 unfold VJ;split
 ·exact KP _ _ _ _
 rfl
theorem Su(lo size:Nat)(p:V4→Bool):∀(l:List V4)(F:List Bool),(Vy lo size p l F).length=F.length
 |[],_=>rfl
 |x::l,F=>by
  show(Vy lo size p l (if p x=true then VJ F (x.at'-lo) (Qf size x.b.length)else F)).length=_;rw[Su lo size p l];split
  ·exact FD _ _ _
  rfl
theorem Zc(w:World)(X o:Nat)(u:Value):w.grownBy (w.setCell ⟨X,o,none⟩ u) (some X):=⟨rfl,rfl,rfl,by simp,fun k _ hk=>heap_setCell_other w ⟨X,o,none⟩ k u (fun e=>hk (by simp[e]))⟩
theorem Qd.CG{ts:List TypeId}{a a' b:World}{row:Option Nat}(h:Qd base ts w a)(ha:Below a.heap.size a a')(hg:a'.grownBy b row)(hr:∀k,row=some k→w.heap.size≤k)(hb:base≤w.heap.size):Qd base ts w b:=
 (h.trans (Qd.Qe ha (Nat.le_trans hb h.below.size))).fresh hg hr hb
def Pe(w w':World)(base lo:Nat)(r:QH)(m:JM)(F:List Bool)(p:V4→Bool)(e:Ending):Prop:=
 ∃m',e=.returned (.agg (Qr { r with Qc:=r.Qc.filter fun x=> !p x } m'))∧JN w' { r with Qc:=r.Qc.filter fun x=> !p x } m'∧m'.M=m.M∧m'.AM=m.AM∧Kr w' m.M lo (Vy lo r.size p r.Qc F)∧Qd base [236] w w'
variable {F:List Bool} {lo:Nat} {r:QH}
theorem UO{m:JM}(h:JN w r m)(hF:Kr w m.M lo F)(ok:U4 r lo F)(hbM:base≤m.M)(hbw:base≤w.heap.size)(n:Qj)(all:Bool):
  Calls prog 142 #[.agg (Qr r m),QZ n,.bool all] w fun e w'=>Pe w w' base lo r m F (pW n all) e:=by
 obtain⟨aA,a9,aC,aI,aE⟩:=info_parts EO;obtain⟨n1,n2⟩:=n;obtain⟨w1,a⟩:=eX (((w.alloc (.cells (Qr r m) 39)).alloc (.cells #[.int .i64 n1,.int .i64 n2] 53)).alloc (.cells Ji 39));have HX:Qb (Qh w1 w.heap.size 39 (Qr r m)):=Qa (by rw[a];exact((Qh.new _ _ _).alloc _).alloc _);have HN:Qb (Qh w1 (w.heap.size+1) 53 #[.int .i64 n1,.int .i64 n2]):=Qa (by rw[a];exact(Qh.Qz (by simp)).alloc _);have HG:Qb (Qh w1 (w.heap.size+1+1) 39 Ji):=Qa (by rw[a];exact Qh.Qz (by simp));have HB:Qb (Below w.heap.size w w1):=by
  rw[a];exact((bR.alloc nR _).alloc (by simp) _).alloc (by simp;omega) _
 have HS:=Qa h;have aF:=Qa hF;have P:=Qa ok;obtain⟨nS,S⟩:=eX r.Qc.length;have aB:=ok.nS;rw[←S]at aB;have ag:=Qa S;have l:=Qa (show ∀wy g,Qh wy g 39 (Qr r m)→wy.cell? ⟨g,2,none⟩=some (.slice m.AS nS m.cS)∧wy.cell? ⟨g,9,none⟩=some (.pointer (some ⟨m.M,0,none⟩))∧wy.cell? ⟨g,0,none⟩=some (.int .i64 r.size) from fun wy g hy=>by rw[S];exact⟨hy.cell 2,hy.cell 9,hy.cell 0⟩);clear h hF ok S;unfold QZ;go_enter func142,ntmps142;go_upto_region 1 with fail;rw[←a];clear a;have R:=HB.o.size;obtain⟨ra,c⟩:=eX (Qr r m);rw[←c]at HX l;have ar:=Qa c;obtain⟨X,hX⟩:=eX w.heap.size;obtain⟨Nb,a1⟩:=eX (w.heap.size+1);obtain⟨G,hG⟩:=eX (w.heap.size+1+1);rw[←hG,←a1,←hX,←c];rw[←hX]at HX;rw[←a1]at HN;rw[←hG]at HG;have aQ:w.heap.size≤X:=by omega
 have aR:w.heap.size≤G:=by omega
 have aN:G≠X:=by omega
 clear hX hG c a1;obtain⟨x2,_,_⟩:=l.o _ _ HX.o;have xl:=HX.o.lt;have ap:Qb (Qd base [236] w w1):=Qd.Qe HB.o hbw;go_wp2_with fail;go_loopw [7,13] (fun out i wr=>∃j:Nat,j≤nS∧i=.int .i64 (j:Nat)∧Zj w1 wr ((r.Qc.take j).filter fun x=> !pW (n1,n2) all x) out∧Kr wr m.M lo (Vy lo r.size (pW (n1,n2) all) (r.Qc.take j) F)∧Qd base [236] w1 wr) (fun _ i _=>nS-(intOf i).toNat)
 case atStart=>exact⟨0,Nat.zero_le _,rfl,⟨World.ownsRow_nil _ _ _ _,nR⟩,aF.o.below HB.o,Qd.refl _ _ _⟩
 obtain⟨j,hj,rfl,hL,hM,hK⟩:=hrel;have HL:=Qa hL;have HM:=Qa hM;have HK:=Qa hK;have aJ:=hL.low;obtain⟨O,cO,rfl,aL⟩:=Jg hL.own;have y:=Qa (HX.o.keeps hK (by decide));have a0:=Qa (HN.o.keeps hK (by decide));have J:=Qa (HG.o.keeps hK (by decide));have Q:=Qa ((HS.o.below HB.o).keeps hK (by decide));have ad:((r.Qc.take j).filter fun x=> !pW (n1,n2) all x).length≤j:=Nat.le_trans (List.length_filter_le _ _) (by rw[List.length_take];omega);clear hL hM hK x2 xl;by_cases hjl:j<nS
 ·have ak:(j:Int)<nS:=by omega
  have aP:(0:Int)≤j:=by omega
  have K:j<r.Qc.length:=by rw[←ag.o];exact hjl
  obtain⟨b,o2,hA,aq,c⟩:=(V1 (f:=JJ) (k:=5) (fun _=>rfl) (by decide) Q.o.Qc.1).2 j K;obtain⟨ae,a7,ab⟩:=P.o.at' _ (List.getElem_mem K);have ac:=Qa (show (r.Qc.take (j+1)).filter (fun x=> !pW (n1,n2) all x)=(r.Qc.take j).filter (fun x=> !pW (n1,n2) all x)++[r.Qc[j]].filter (fun x=> !pW (n1,n2) all x) from by rw[List.take_succ_eq_append_getElem K,List.filter_append]);have D:=Qa (show Vy lo r.size (pW (n1,n2) all) (r.Qc.take (j+1)) F=if pW (n1,n2) all r.Qc[j]=true then VJ (Vy lo r.size (pW (n1,n2) all) (r.Qc.take j) F) (r.Qc[j].at'-lo) (Qf r.size r.Qc[j].b.length)else Vy lo r.size (pW (n1,n2) all) (r.Qc.take j) F from Um _ _ _ _ K);have az:=Su lo r.size (pW (n1,n2) all) (r.Qc.take j) F;rw[hA];generalize Vy lo r.size (pW (n1,n2) all) (r.Qc.take j) F=Fj at*
  generalize (r.Qc.take j).filter (fun x=> !pW (n1,n2) all x)=o at*
  generalize r.Qc[j]=x at*
  obtain⟨⟨v1,v2⟩,t,at',mk⟩:=x;simp only at ae a7 ab D;obtain⟨no,z⟩:=eX o.length;rw[←z]at ad aL ⊢;have A:=Qa z;have a2:(⟨t.toArray⟩:ByteArray).size=t.length:=by simp[ByteArray.size]
  have B:JJ ⟨(v1,v2),t,at',mk⟩=[.int .i64 v1,.int .i64 v2,.string ⟨t.toArray⟩,.int .i64 at',.int .i64 mk]:=rfl;rw[B]at c;obtain⟨tb,htb⟩:∃tb:ByteArray,(⟨t.toArray⟩:ByteArray)=tb:=⟨_,rfl⟩;rw[htb]at a2 c B;have a8:=Qa B;have V:Qb (wr.rangeAt b (o2+j*5) [.int .i64 v1,.int .i64 v2,.string tb,.int .i64 at',.int .i64 mk]):=Qa c;clear z c aq htb B;have a3:Qb ((prog.info? 69).map (·.size)=some ([.int .i64 v1,.int .i64 v2,.string tb,.int .i64 at',.int .i64 mk]:List Value).length):=Vp;have aa:Qb ((prog.info? 69).map (·.size)=some (#[.int .i64 v1,.int .i64 v2,.string tb,.int .i64 at',.int .i64 mk]:Array Value).size):=Vp;have an:Qb ((#[.int .i64 v1,.int .i64 v2,.string tb,.int .i64 at',.int .i64 mk]:Array Value).all (·.oneCell')=true):=Qa (by simp[Value.oneCell'])
  go_upto_region 5 with first
   |(refine wpList_load_mid rfl 69 _ rfl b (o2+j*5) rfl [.int .i64 v1,.int .i64 v2,.string tb,.int .i64 at',.int .i64 mk] _ V.o underlying69 rfl a3.o ?_)
   |(refine wpList_store_row rfl 69 _ _ rfl wr.heap.size #[.int .i64 v1,.int .i64 v2,.string tb,.int .i64 at',.int .i64 mk] rfl rfl 69 _ (Qh.new wr 69 _) aa.o rfl an.o ?_;rw[World.setRow_alloc_new])
  try go_frame
  have BA:=Qa (show Below wr.heap.size wr (wr.alloc (.cells #[.int .i64 v1,.int .i64 v2,.string tb,.int .i64 at',.int .i64 mk] 69)) from bR.alloc nR _);have HZ:=Qa (Qh.new wr 69 #[.int .i64 v1,.int .i64 v2,.string tb,.int .i64 at',.int .i64 mk]);have I:Qb (Zj w1 (wr.alloc (.cells #[.int .i64 v1,.int .i64 v2,.string tb,.int .i64 at',.int .i64 mk] 69)) o (.slice O no cO)):=Qa (by rw[A.o];exact HL.o.keep (Qd.Qe (base:=0) BA.o (Nat.zero_le _)));have a5:=Qa (HM.o.below BA.o);have a6:=Qa (HK.o.trans (Qd.Qe (base:=base) (ts:=[236]) BA.o (Nat.le_trans hbw (Nat.le_trans R aJ))));have q:=Qa (y.o.alloc (.cells #[.int .i64 v1,.int .i64 v2,.string tb,.int .i64 at',.int .i64 mk] 69));have W:=Qa (a0.o.alloc (.cells #[.int .i64 v1,.int .i64 v2,.string tb,.int .i64 at',.int .i64 mk] 69));have aO:=Qa (J.o.alloc (.cells #[.int .i64 v1,.int .i64 v2,.string tb,.int .i64 at',.int .i64 mk] 69));clear V a3 HL HM HK y a0 J Q BA;generalize wr.alloc (.cells #[.int .i64 v1,.int .i64 v2,.string tb,.int .i64 at',.int .i64 mk] 69)=wz at*
  generalize wr.heap.size=g at*
  have z0:wz.cell? ⟨g,0,none⟩=some (.int .i64 v1):=HZ.o.cell 0;have z1:wz.cell? ⟨g,1,none⟩=some (.int .i64 v2):=HZ.o.cell 1;have y0:wz.cell? ⟨Nb,0,none⟩=some (.int .i64 n1):=W.o.cell 0;have y1:wz.cell? ⟨Nb,1,none⟩=some (.int .i64 n2):=W.o.cell 1;have zl:=HZ.o.lt;have yl:=W.o.lt;have Z:=I.o.low;obtain⟨p,hp⟩:=eX (pW (n1,n2) all ⟨(v1,v2),t,at',mk⟩);rw[←hp]at D
  have U:Qb ((r.Qc.take (j+1)).filter (fun x=> !pW (n1,n2) all x)=o++if p=true then[]else[⟨(v1,v2),t,at',mk⟩]):=Qa (by
   rw[ac.o];congr 1;rw[List.filter_cons,List.filter_nil,←hp];cases p<;>rfl)
  have HP:=Qa hp;clear hp ac;go_cut [13,31]from 13 to 48 (fun i v wx=>i=.int .i64 (j:Nat)∧v=.bool p∧wx=wz)
  case first=>
   have d:=HP.o;unfold pW at d;by_cases h1:v1=n1
   ·by_cases h2:v2=n2
    ·have:p=true:=by rw[d];simp[h1,h2]
     clear d;subst this;subst h1 h2;go_wp2_with fail
     all_goals
      go_meet;exact⟨rfl,by first|rfl|simp[h1],rfl⟩
    cases all with
    |true=>
     have:p=true:=by rw[d];simp[h1]
     clear d;subst this;subst h1;go_wp2_with fail
     all_goals
      go_meet;exact⟨rfl,by first|rfl|simp[h1],rfl⟩
    |false=>
     have:p=false:=by rw[d];simp[h2]
     clear d;subst this;subst h1;go_wp2_with fail
     all_goals
      go_meet;exact⟨rfl,by first|rfl|simp[h1],rfl⟩
   have:p=false:=by rw[d];simp[h1]
   clear d;subst this;cases all with
   |true=>
    go_wp2_with fail
    all_goals
     go_meet;exact⟨rfl,by first|rfl|simp[h1],rfl⟩
   |false=>
    go_wp2_with fail
    all_goals
     go_meet;exact⟨rfl,by first|rfl|simp[h1],rfl⟩
  obtain⟨rfl,rfl,rfl⟩:=hcut;cases p with
  |true=>
   obtain⟨_,x9,x0⟩:=l.o _ _ q.o;have aD:=Qa (show ∀wy,Below wc.heap.size wc wy→wy.cell? ⟨X,9,none⟩=some (.pointer (some ⟨m.M,0,none⟩))∧wy.cell? ⟨X,0,none⟩=some (.int .i64 r.size)∧wy.cell? ⟨g,3,none⟩=some (.int .i64 at')∧wy.cell? ⟨g,2,none⟩=some (.string tb) from fun wy hy=>⟨(l.o _ _ (q.o.below hy q.o.lt)).2.1,(l.o _ _ (q.o.below hy q.o.lt)).2.2,(HZ.o.below hy HZ.o.lt).cell 3,(HZ.o.below hy HZ.o.lt).cell 2⟩);have S0:=Qa (aD.o _ bR.drew);have al:=JE (s:=r.size) (n:=t.length);have ah:=Qa (fun wy=>V8 r.size t.length (by have:=P.o.sz;omega) (by omega) wy);obtain⟨L,hL⟩:=eX t.length;rw[←hL]at a2 ah D al;generalize Qf r.size L=N at*
   have ay:=Qa (show ∀wy,Below wc.heap.size wc wy→Calls prog 141 #[.pointer (some ⟨m.M,0,none⟩),.agg #[.int .i64 at',.int .i64 N]] wy fun e w'=>(∃er,e=.returned (.int .i64 er))∧Kr w' m.M lo (VJ Fj (at'-lo) N)∧Qd base [236] wy w' from fun wy hy=>by
    have:=T0 (base:=base) (a5.o.below hy) (at'-lo) N (by rw[az];exact P.o.fl) P.o.lo' (by omega) (by omega) hbM (Nat.le_trans hbw (Nat.le_trans R (Nat.le_trans Z hy.size)));have e:lo+(at'-lo)=at':=by omega
    rw[e]at this;exact this)
   clear hL ae a7 ab al x9 x0 z0 z1 y0 y1 zl yl;have xl:=q.o.lt;have zl:=HZ.o.lt;go_upto_region 6 with fail
   go_region_held3 (fun wy=>wy.cell? ⟨X,9,none⟩=some (.pointer (some ⟨m.M,0,none⟩))∧wy.cell? ⟨X,0,none⟩=some (.int .i64 r.size)∧wy.cell? ⟨g,3,none⟩=some (.int .i64 at')∧wy.cell? ⟨g,2,none⟩=some (.string tb))
    (first|exact S0.o|exact S9.o)
    (first
     |(go_at_call 67;refine(ah.o _).mono ?_;rintro en w' ⟨rfl,rfl⟩)
     |(go_at_call 141;refine(ay.o _ bR.drew).mono ?_;rintro en w4 ⟨⟨er,rfl⟩,aj,ai⟩;(have aw:=Qa aj);(have C:=Qa ((Qd.Qe (base:=base) (ts:=[236]) bR.drew (Nat.le_trans hbw (Nat.le_trans R Z))).trans ai));(have S9:=Qa (show w4.cell? ⟨X,9,none⟩=some (.pointer (some ⟨m.M,0,none⟩))∧w4.cell? ⟨X,0,none⟩=some (.int .i64 r.size)∧w4.cell? ⟨g,3,none⟩=some (.int .i64 at')∧w4.cell? ⟨g,2,none⟩=some (.string tb) from ⟨(l.o _ _ (q.o.keeps C.o (by decide))).2.1,(l.o _ _ (q.o.keeps C.o (by decide))).2.2,(HZ.o.keeps C.o (by decide)).cell 3,(HZ.o.keeps C.o (by decide)).cell 2⟩));clear aj ai))
   all_goals
    go_wp2_with fail;go_roundw
    case rel=>exact⟨j+1,by omega,by simp,by rw[U.o];simpa [A.o]using I.o.keep C.o,by rw[D.o];exact aw.o,a6.o.trans C.o⟩
    case measure=>simp[intOf];omega
  |false=>
   have ax:Qb (∀u∈([.int .i64 v1,.int .i64 v2,.string tb,.int .i64 at',.int .i64 mk]:List Value),u.oneCell'=true):=Qa (by simp[Value.oneCell']);have av:Qb ((wc.alloc (.cells #[.int .i64 v1,.int .i64 v2,.string tb,.int .i64 at',.int .i64 mk] 69)).ownsRow w1.heap.size 69 5 (.slice O no cO) no (o.flatMap JJ)):=Qa (by have:=I.o.own;rw[←A.o]at this;exact Qu this _);have aK:=Qa (Kq (Sl.Ja (sz:=5) (n:=1) (Qh.new wc 69 ([.int .i64 v1,.int .i64 v2,.string tb,.int .i64 at',.int .i64 mk]:List Value).toArray) rfl))
   have aG:=Qa (show ∀A4 c4 w4,w4.ownsRow w1.heap.size 69 5 (.slice A4 (no+1) c4) (no+1) (o.flatMap JJ++[.int .i64 v1,.int .i64 v2,.string tb,.int .i64 at',.int .i64 mk])→(wc.alloc (.cells #[.int .i64 v1,.int .i64 v2,.string tb,.int .i64 at',.int .i64 mk] 69)).grownBy w4 (Value.slice O no cO).ownBlock→Zj w1 w4 (o++[⟨(v1,v2),t,at',mk⟩]) (.slice A4 (no+1) c4)∧Kr w4 m.M lo Fj∧Qd base [236] w1 w4 from fun A4 c4 w4 h1 h2=>by
    have h0:=I.o;rw[A.o]at h0 h1 h2 ⊢;rw[←a8.o]at h1;have kp:Qd w1.heap.size [69] wc w4:=(Qd.Qe (base:=w1.heap.size) (ts:=[69]) (bR.alloc nR _) Z).trans (Q7 (Qu h0.own _) h2 (by simp;omega));exact⟨h0.push h1 h2,a5.o.keeps kp (by decide) (by decide),a6.o.CG (bR.alloc nR _) h2 (fun k hk=>(h0.own.lt k hk).1) (Nat.le_trans hbw R)⟩)
   go_wp2_with (first
    |(refine wpList_load_row rfl 69 _ rfl g rfl 69 #[.int .i64 v1,.int .i64 v2,.string tb,.int .i64 at',.int .i64 mk] (0,0) _ HZ.o underlying69 rfl aa.o ?_)
    |(at_builtin;refine Qv _ rfl _ _ 32 rfl w1.heap.size 69 aA _ 5 48 U2 a9 aC aI aE rfl (by decide) (.slice O no cO) no (o.flatMap JJ) rfl av.o (some ⟨wc.heap.size,0,none⟩) 1 1 _ [.int .i64 v1,.int .i64 v2,.string tb,.int .i64 at',.int .i64 mk] rfl aK.o ax.o (by unfold maxLen;omega) (by omega) (by simp;omega) ?_;intro A4 c4 w4 hown4 hgr4 hnc4 _;(have Y:=Qa (aG.o A4 c4 w4 hown4 hgr4));clear hown4 hgr4))
   go_roundw
   case rel=>exact⟨j+1,by omega,by simp,by rw[U.o];exact Y.o.1,by rw[D.o];exact Y.o.2.1,Y.o.2.2⟩
   case measure=>simp[intOf];omega
 have aH:j=nS:=by omega
 subst aH;have ak:¬(j:Int)<j:=by omega
 have ht:r.Qc.take j=r.Qc:=List.take_of_length_le (by rw[←ag.o];exact nR);rw[ht]at HL HM;obtain⟨fs,H⟩:=eX (r.Qc.filter fun x=> !pW (n1,n2) all x);rw[ht,←H];rw[←H]at HL;have af:=Qa H;obtain⟨no,z⟩:=eX fs.length;rw[←z];have A:=Qa z;have x2:=(l.o _ _ y.o).1;have f2:=y.o.free 2;have xl:=y.o.lt;have a4:Qb (Qr { r with Qc:=fs } { m with AS:=O,cS:=cO }=#[.int .i64 r.size,.slice m.AN r.notes.length m.cN,.slice O no cO,.slice m.AM r.marks.length m.cM,.slice m.AL r.Qo.length m.cL,.int .i64 m.Qk,.int .i64 r.half,.int .i64 r.size,.int .i64 r.ep,.pointer (some ⟨m.M,0,none⟩),.int .i64 r.VB,.int .i64 r.QA]):=Qa (by rw[z]);have aM:Qb (Qh (wr.setCell ⟨X,2,none⟩ (.slice O no cO)) X 39 #[.int .i64 r.size,.slice m.AN r.notes.length m.cN,.slice O no cO,.slice m.AM r.marks.length m.cM,.slice m.AL r.Qo.length m.cL,.int .i64 m.Qk,.int .i64 r.half,.int .i64 r.size,.int .i64 r.ep,.pointer (some ⟨m.M,0,none⟩),.int .i64 r.VB,.int .i64 r.QA]):=by
  have:=y.o.set 2 (.slice O no cO);rw[ar.o]at this;show Qh _ _ _ _;simpa using this
 have E:=Qa (J.o.Yq (o:=2) aN (.slice O no cO));have k6:Qd 0 [39] wr (wr.setCell ⟨X,2,none⟩ (.slice O no cO)):=(Qd.refl 0 [39] wr).set y.o (Nat.zero_le _) (by simp) _
 have au:Qb (JN (wr.setCell ⟨X,2,none⟩ (.slice O no cO)) { r with Qc:=fs } { m with AS:=O,cS:=cO }):=Qa (by
  have h6:=Q.o.keeps k6 (by decide);refine⟨h6.notes, ?_,h6.marks,h6.Qo,h6.row,h6.OM,h6.Tk⟩;have T:=HL.o.own;rw[←A.o]at T;have:=(Sl.Jl T).keeps k6 (by decide);show Sl _ 69 5 O fs.length _;rw[←A.o];exact this)
 have am:=Qa (HM.o.keeps k6 (by decide) (by decide));have ao:Qb (Qd base [236] w (wr.setCell ⟨X,2,none⟩ (.slice O no cO))):=Qa ((ap.o.trans HK.o).fresh (Zc wr X 2 (.slice O no cO)) (gB (by omega)) hbw);have HI:Qb ((prog.info? 39).map (·.size)=some (#[.int .i64 r.size,.slice m.AN r.notes.length m.cN,.slice O no cO,.slice m.AM r.marks.length m.cM,.slice m.AL r.Qo.length m.cL,.int .i64 m.Qk,.int .i64 r.half,.int .i64 r.size,.int .i64 r.ep,.pointer (some ⟨m.M,0,none⟩),.int .i64 r.VB,.int .i64 r.QA]:Array Value).size):=Jy;have H1:Qb ((#[.int .i64 r.size,.slice m.AN r.notes.length m.cN,.slice O no cO,.slice m.AM r.marks.length m.cM,.slice m.AL r.Qo.length m.cL,.int .i64 m.Qk,.int .i64 r.half,.int .i64 r.size,.int .i64 r.ep,.pointer (some ⟨m.M,0,none⟩),.int .i64 r.VB,.int .i64 r.QA]:Array Value).all (·.oneCell')=true):=Qa (by simp[Value.oneCell']);clear z H;go_upto_region 10 with fail;clear x2 f2 xl y J Q a0 HL HM HK HX HG HB HN k6;generalize wr.setCell ⟨X,2,none⟩ (.slice O no cO)=w6 at*
 go_wp2_with (first
  |(refine wpList_load_row rfl 39 _ rfl X rfl 39 #[.int .i64 r.size,.slice m.AN r.notes.length m.cN,.slice O no cO,.slice m.AM r.marks.length m.cM,.slice m.AL r.Qo.length m.cL,.int .i64 m.Qk,.int .i64 r.half,.int .i64 r.size,.int .i64 r.ep,.pointer (some ⟨m.M,0,none⟩),.int .i64 r.VB,.int .i64 r.QA] (0,0) _ aM.o underlying39 rfl HI.o ?_)
  |(refine wpList_store_row rfl 39 _ _ rfl G #[.int .i64 r.size,.slice m.AN r.notes.length m.cN,.slice O no cO,.slice m.AM r.marks.length m.cM,.slice m.AL r.Qo.length m.cL,.int .i64 m.Qk,.int .i64 r.half,.int .i64 r.size,.int .i64 r.ep,.pointer (some ⟨m.M,0,none⟩),.int .i64 r.VB,.int .i64 r.QA] rfl rfl 39 Ji E.o HI.o rfl H1.o ?_))
 refine bodyPost_ret (v:=.agg #[.int .i64 r.size,.slice m.AN r.notes.length m.cN,.slice O no cO,.slice m.AM r.marks.length m.cM,.slice m.AL r.Qo.length m.cL,.int .i64 m.Qk,.int .i64 r.half,.int .i64 r.size,.int .i64 r.ep,.pointer (some ⟨m.M,0,none⟩),.int .i64 r.VB,.int .i64 r.QA]) (results_cell_row results142 _ _ G 39 _ (0,0) _ rfl (Qp E.o _) underlying39 rfl HI.o) rfl ?_;refine⟨{ m with AS:=O,cS:=cO },by rw[←af.o,a4.o],by rw[←af.o];exact au.o.keeps (Q5 (ts:=[39]) E.o (by decide) _) (by decide),rfl,rfl,am.o.keeps (Q5 (ts:=[39]) E.o (by decide) _) (by decide) (by decide),ao.o.fresh (Qm w6 G #[.int .i64 r.size,.slice m.AN r.notes.length m.cN,.slice O no cO,.slice m.AM r.marks.length m.cM,.slice m.AL r.Qo.length m.cL,.int .i64 m.Qk,.int .i64 r.half,.int .i64 r.size,.int .i64 r.ep,.pointer (some ⟨m.M,0,none⟩),.int .i64 r.VB,.int .i64 r.QA]) (gB (by omega)) hbw⟩
def Zd(w w':World)(base lo:Nat)(m:JM)(q:Nat × QH × List Bool)(e:Ending):Prop:=
 ∃m',e=.returned (.tuple #[.agg (Qr q.2.1 m'),.int .i64 q.1])∧JN w' q.2.1 m'∧m'.M=m.M∧Yk w w' m m'∧Kr w' m.M lo q.2.2∧Qd base [236] w w'
theorem G8.toM{m:JM}{q:Nat × QH}{e:Ending}(h:G8 w w' m q e)(hF:Kr w m.M lo F)(hbw:base≤w.heap.size):Zd w w' base lo m (q.1,q.2,F) e:=by
 obtain⟨m',h1,h2,h3,h4,h5⟩:=h;exact⟨m',h1,h2,h3,h4,hF.below h5,Qd.Qe h5 hbw⟩
theorem Cr(a b:Int):Qi [a,b]=Lib.itoa a++[32]++Lib.itoa b:=by
 unfold Qi;simp[Lib.join]
theorem UX{n:Qj}{x:V4}(h:Xx r n=some x):x∈r.Qc∧x.n=n:=by
 unfold Xx at h;exact⟨List.mem_of_find?_eq_some h,by simpa using List.find?_some h⟩
section
attribute [local go_sem ↓] VC VF
theorem Gq{m:JM}(h:JN w r m)(hF:Kr w m.M lo F)(ok:Ya r)(lk:XV r)(wk:U4 r lo F)(hbM:base≤m.M)(hbw:base≤w.heap.size)(n:Qj):
  Calls prog 79 #[.agg (Qr r m),QZ n] w fun e w'=>Zd w w' base lo m (IM lo r F n) e:=by
 obtain⟨n1,n2⟩:=n;obtain⟨w1,a⟩:=eX (((w.alloc (.cells (Qr r m) 39)).alloc (.cells #[.int .i64 n1,.int .i64 n2] 53)).alloc (.cells Ji 39));have HX:Qb (Qh w1 w.heap.size 39 (Qr r m)):=Qa (by rw[a];exact((Qh.new _ _ _).alloc _).alloc _);have HN:Qb (Qh w1 (w.heap.size+1) 53 #[.int .i64 n1,.int .i64 n2]):=Qa (by rw[a];exact(Qh.Qz (by simp)).alloc _);have HG:Qb (Qh w1 (w.heap.size+1+1) 39 Ji):=Qa (by rw[a];exact Qh.Qz (by simp));have HB:Qb (Below w.heap.size w w1):=by
  rw[a];exact((bR.alloc nR _).alloc (by simp) _).alloc (by simp;omega) _
 have HS:=Qa h;have aQ:=Qa hF;have i:=Qa ok;have y:=Qa lk;have aI:=Qa wk;have f:=Qa (show ∀wy,Below w.heap.size w wy→Calls prog 32 #[.agg (Qr r m),.agg #[.int .i64 n1,.int .i64 n2]] wy fun e w'=>e=.returned (.tuple #[.agg (((Xx r (n1,n2)).map GK).getD W5),.bool (Xx r (n1,n2)).isSome])∧Below wy.heap.size wy w' from fun wy hy=>UZ (h.below hy) (n1,n2) (by have:=ok.nS;omega));have g:=Qa (show ∀wy,Below w.heap.size w wy→Calls prog 142 #[.agg (Qr r m),.agg #[.int .i64 n1,.int .i64 n2],.bool false] wy fun e w'=>Pe wy w' base lo r m F (pW (n1,n2) false) e from fun wy hy=>UO (h.below hy) (hF.below hy) wk hbM (Nat.le_trans hbw hy.size) (n1,n2) false);have ax:pW (n1,n2) false=fun x=>decide (x.n=(n1,n2)):=by funext x;simp[pW]
 rw[ax]at g;have HQ:Qb (IM lo r F (n1,n2)=if(Xx r (n1,n2)).isSome=false then(6,r,F)else((QE { r with Qc:=r.Qc.filter fun x=> !decide (x.n=(n1,n2)) } { r with Qc:=r.Qc.filter fun x=> !decide (x.n=(n1,n2)) } (68,Qi [n1,n2])).1,(QE { r with Qc:=r.Qc.filter fun x=> !decide (x.n=(n1,n2)) } { r with Qc:=r.Qc.filter fun x=> !decide (x.n=(n1,n2)) } (68,Qi [n1,n2])).2,Vy lo r.size (fun x=>decide (x.n=(n1,n2))) r.Qc F)):=rfl;obtain⟨q,hq⟩:=eX (IM lo r F (n1,n2));rw[←hq]at HQ ⊢;clear h hF ok lk wk ax hq;unfold QZ;go_enter func79,ntmps79;go_upto_region 1 with fail;rw[←a];clear a;have av:=HB.o.size;obtain⟨ra,J⟩:=eX (Qr r m);rw[←J]at HX f g;have aG:=Qa J;have j:Qb (ra.size=12∧ra.all (·.oneCell')=true):=Qa (by rw[J];exact⟨rfl,QX r m⟩);obtain⟨X,hX⟩:=eX w.heap.size;obtain⟨Nb,Y⟩:=eX (w.heap.size+1);obtain⟨G,hG⟩:=eX (w.heap.size+1+1);rw[←hG,←Y,←hX,←J];rw[←hX]at HX;rw[←Y]at HN;rw[←hG]at HG;have aH:w.heap.size≤X:=by omega
 have aS:w.heap.size≤G:=by omega
 have aD:G≠X:=by omega
 have aU:Nb≠X:=by omega
 have af:Nb≠G:=by omega
 clear hX hG J Y;have HI:Qb ((prog.info? 39).map (·.size)=some ra.size):=Qa (by rw[j.o.1];exact Jy);have l0:=QG HX.o j.o.1;have y0:w1.cell? ⟨Nb,0,none⟩=some (.int .i64 n1):=HN.o.cell 0;have y1:w1.cell? ⟨Nb,1,none⟩=some (.int .i64 n2):=HN.o.cell 1;have yl:=HN.o.lt;have l:=Qa (f.o w1 HB.o);cases hg:Xx r (n1,n2)with
 |none=>
  rw[hg]at l HQ;have hq:q=(6,r,F):=by rw[HQ.o,if_pos Option.isSome_none]
  have Z:Qb ((prog.info? 69).map (·.size)=some (#[.int .i64 0,.int .i64 0,.string ⟨#[]⟩,.int .i64 0,.int .i64 0]:Array Value).size):=Vp;have O:=Qa (show Calls prog 32 #[.agg ra,.agg #[.int .i64 n1,.int .i64 n2]] w1 fun e w'=>e=.returned (.tuple #[.agg #[.int .i64 0,.int .i64 0,.string ⟨#[]⟩,.int .i64 0,.int .i64 0],.bool false])∧Below w1.heap.size w1 w' from l.o);clear hg l f g
  go_upto_region 2 with(first
   |(go_at_call 32;refine O.o.mono ?_;rintro en w2 ⟨rfl,hb⟩;(have u:=Qa (HB.o.trans (hb.mono av)));(have N:=Qa (HX.o.below hb HX.o.lt));(have P:=Qa (HG.o.below hb HG.o.lt));clear hb)
   |(refine wpList_store_row rfl 69 _ _ rfl w2.heap.size #[.int .i64 0,.int .i64 0,.string ⟨#[]⟩,.int .i64 0,.int .i64 0] rfl rfl 69 _ (Qh.new w2 69 _) Z.o rfl (by simp[Value.oneCell']) ?_;rw[World.setRow_alloc_new]))
  have L:=Qa (u.o.alloc u.o.size (.cells #[.int .i64 0,.int .i64 0,.string ⟨#[]⟩,.int .i64 0,.int .i64 0] 69));have z:=Qa (N.o.alloc (.cells #[.int .i64 0,.int .i64 0,.string ⟨#[]⟩,.int .i64 0,.int .i64 0] 69));have D:=Qa (P.o.alloc (.cells #[.int .i64 0,.int .i64 0,.string ⟨#[]⟩,.int .i64 0,.int .i64 0] 69));clear l0 y0 y1 yl;generalize w2.alloc (.cells #[.int .i64 0,.int .i64 0,.string ⟨#[]⟩,.int .i64 0,.int .i64 0] 69)=w3 at*
  have l3:=QG z.o j.o.1;have zs:=QY D.o rfl j.o.1 j.o.2;go_wp2_with fail;refine bodyPost_ret (v:=.tuple #[.agg ra,.int .i64 6]) (Ql results79 _ _ G 39 _ (0,0) _ rfl (Qp D.o _) underlying39 rfl HI.o) rfl ?_;have a0:Below w.heap.size w (w3.setRow G ra):=L.o.trans (Qg (Qm _ _ _) L.o.size (gB (by omega)));rw[hq];exact⟨m,by rw[aG.o];rfl,HS.o.below a0,rfl,Yk.same rfl,aQ.o.below a0,Qd.Qe a0 hbw⟩
 |some x=>
  rw[hg]at l HQ;have hq:=HQ.o;rw[if_neg (by simp)]at hq;obtain⟨aa,al⟩:=UX hg;have V:=i.o.Qc _ aa;obtain⟨⟨v1,v2⟩,t,xa,xm⟩:=x;simp only[Prod.mk.injEq]at al;obtain⟨rfl,rfl⟩:=al;obtain⟨k1,rfl,aZ⟩:=VE V.v;obtain⟨k2,rfl,b0⟩:=VE V.n;have aB:=Qa hq;have Z:Qb ((prog.info? 69).map (·.size)=some (#[.int .i64 k1,.int .i64 k2,.string ⟨t.toArray⟩,.int .i64 xa,.int .i64 xm]:Array Value).size):=Vp;have aN:Qb ((#[.int .i64 k1,.int .i64 k2,.string ⟨t.toArray⟩,.int .i64 xa,.int .i64 xm]:Array Value).all (·.oneCell')=true):=Qa (by simp[Value.oneCell']);have O:=Qa (show Calls prog 32 #[.agg ra,.agg #[.int .i64 k1,.int .i64 k2]] w1 fun e w'=>e=.returned (.tuple #[.agg #[.int .i64 k1,.int .i64 k2,.string ⟨t.toArray⟩,.int .i64 xa,.int .i64 xm],.bool true])∧Below w1.heap.size w1 w' from l.o);clear hg l f hq HQ aa V
  go_upto_region 2 with(first
   |(go_at_call 32;refine O.o.mono ?_;rintro en w2 ⟨rfl,hb⟩;(have u:=Qa (HB.o.trans (hb.mono av)));(have N:=Qa (HX.o.below hb HX.o.lt));(have aj:=Qa (HN.o.below hb HN.o.lt));(have P:=Qa (HG.o.below hb HG.o.lt));clear hb)
   |(refine wpList_store_row rfl 69 _ _ rfl w2.heap.size #[.int .i64 k1,.int .i64 k2,.string ⟨t.toArray⟩,.int .i64 xa,.int .i64 xm] rfl rfl 69 _ (Qh.new w2 69 _) Z.o rfl aN.o ?_;rw[World.setRow_alloc_new]))
  have L:=Qa (u.o.alloc u.o.size (.cells #[.int .i64 k1,.int .i64 k2,.string ⟨t.toArray⟩,.int .i64 xa,.int .i64 xm] 69));have z:=Qa (N.o.alloc (.cells #[.int .i64 k1,.int .i64 k2,.string ⟨t.toArray⟩,.int .i64 xa,.int .i64 xm] 69));have C:=Qa (aj.o.alloc (.cells #[.int .i64 k1,.int .i64 k2,.string ⟨t.toArray⟩,.int .i64 xa,.int .i64 xm] 69));have D:=Qa (P.o.alloc (.cells #[.int .i64 k1,.int .i64 k2,.string ⟨t.toArray⟩,.int .i64 xa,.int .i64 xm] 69));clear l0 y0 y1 yl;generalize w2.alloc (.cells #[.int .i64 k1,.int .i64 k2,.string ⟨t.toArray⟩,.int .i64 xa,.int .i64 xm] 69)=w3 at*
  have l3:=QG z.o j.o.1;have aM:w3.cell? ⟨Nb,0,none⟩=some (.int .i64 k1):=C.o.cell 0;have aT:w3.cell? ⟨Nb,1,none⟩=some (.int .i64 k2):=C.o.cell 1;have aV:=C.o.lt;have ap:=Qa (g.o w3 L.o);obtain⟨r1,hr1⟩:∃r1,r1={ r with Qc:=r.Qc.filter fun x=> !decide (x.n=((k1:Int),(k2:Int))) }:=⟨_,rfl⟩;obtain⟨F1,hF1⟩:∃F1,F1=Vy lo r.size (fun x=>decide (x.n=((k1:Int),(k2:Int)))) r.Qc F:=⟨_,rfl⟩;have an:=Qa (show Calls prog 142 #[.agg ra,.agg #[.int .i64 k1,.int .i64 k2],.bool false] w3 fun e w'=>∃m',e=.returned (.agg (Qr r1 m'))∧JN w' r1 m'∧m'.M=m.M∧m'.AM=m.AM∧Kr w' m.M lo F1∧Qd base [236] w3 w' from by rw[hr1,hF1];exact ap.o);have ah:Qb (q=((QE r1 r1 (68,Qi [(k1:Int),(k2:Int)])).1,(QE r1 r1 (68,Qi [(k1:Int),(k2:Int)])).2,F1)):=Qa (by rw[aB.o,hr1,hF1])
  have aC:Qb (Ya r1):=Qa (by
   rw[hr1];exact⟨i.o.notes,fun x hx=>i.o.Qc x (List.mem_filter.1 hx).1,i.o.marks,i.o.nN,Nat.le_trans (List.length_filter_le _ _) i.o.nS,i.o.nM⟩)
  have aq:Qb (XV r1):=Qa (by rw[hr1];exact⟨y.o.h,y.o.s,y.o.e,y.o.n⟩);clear hr1 hF1 ap g aB i y aI HX HN HG O N aj P u
  go_upto_region 5 with(first
   |(go_at_call 142;refine an.o.mono ?_;rintro en w4 ⟨m1,rfl,ag,ao,ay,am,K⟩;(have ad:=Qa ag);(have H:=Qa (z.o.keeps K (by decide)));(have ae:=Qa (C.o.keeps K (by decide)));(have az:=Qa (D.o.keeps K (by decide)));(have E:=Qa (And.intro ao (And.intro ay (And.intro am K))));(have aR:=QY H.o j.o.1 (JK r1 m1) (QX r1 m1));clear ag ao ay am K))
  have U:=Qa (Qp H.o (Qr r1 m1));have a5:=Qa (Qh.Km az.o aD (Qr r1 m1));have b:=Qa (Qh.Km ae.o aU (Qr r1 m1));have ab:=Qa (ad.o.keeps (Q5 (ts:=[39]) H.o (by decide) (Qr r1 m1)) (by decide));have aF:=Qa (E.o.2.2.1.keeps (Q5 (ts:=[39]) H.o (by decide) (Qr r1 m1)) (by decide) (by decide));have a6:Qb (Qd base [236] w (w4.setRow X (Qr r1 m1))):=Qa (((Qd.Qe L.o hbw).trans E.o.2.2.2).fresh (Qm w4 X (Qr r1 m1)) (gB (by omega)) hbw);have a7:Qb (m1.M=m.M∧m1.AM=m.AM):=Qa ⟨E.o.1,E.o.2.1⟩;clear H az ae ad E aR l3 aM aT aV z C D;generalize w4.setRow X (Qr r1 m1)=w6 at*
  have aJ:=a6.o.below.size;have aY:Qb (w.heap.size≤X∧w.heap.size≤G):=Qa ⟨aH,aS⟩;generalize hr1a:Qr r1 m1=r1a at*
  have aA:Qb (r1a.size=12∧r1a.all (·.oneCell')=true):=Qa (by rw[←hr1a];exact⟨rfl,QX r1 m1⟩);have a4:=Qa hr1a;clear hr1a;obtain⟨d1,e1⟩:∃d:ByteArray,Qw (Lib.itoa (k1:Int))=.string d:=⟨_,rfl⟩;obtain⟨d2,e2⟩:∃d:ByteArray,Qw (Lib.itoa (k2:Int))=.string d:=⟨_,rfl⟩;have ai:=Qa (fun wy=>J5 k1 wy (by omega));have aE:=Qa (fun wy=>J5 k2 wy (by omega));rw[e1]at ai;rw[e2]at aE;have s1:d1.size≤21:=by
   have:=Ke (n:=(k1:Int)) (by omega) (by omega);injection e1 with e1;rw[←e1];exact this
  have s2:d2.size≤21:=by
   have:=Ke (n:=(k2:Int)) (by omega) (by omega);injection e2 with e2;rw[←e2];exact this
  obtain⟨c1,q1⟩:∃c:ByteArray,d1++⟨#[32]⟩=c:=⟨_,rfl⟩;obtain⟨c2,q2⟩:∃c:ByteArray,c1++d2=c:=⟨_,rfl⟩;have aL:c1.size=d1.size+1:=by rw[←q1,ByteArray.size_append];rfl
  have aP:c2.size=c1.size+d2.size:=by rw[←q2,ByteArray.size_append]
  have b1:¬(9223372036854775807<d1.size+1):=by omega
  have b2:¬(9223372036854775807<c1.size+d2.size):=by omega
  obtain⟨bs,a1⟩:=eX (Qi [(k1:Int),(k2:Int)]);have p:Value.string c2=Qw bs:=by
   rw[a1];unfold Qw at e1 e2 ⊢;injection e1 with e1;injection e2 with e2;subst e1 e2;rw[←q2,←q1,Cr];congr 1
  have a8:bs.length≤1000:=by
   have b3:c2.size=bs.length:=by
    unfold Qw at p;injection p with p;rw[p];simp[ByteArray.size]
   omega
  have aK:=Qa (show ∀wy,Calls prog 143 #[.int .u8 68,.string c2] wy fun e w'=>Kz wy w' (68,bs) e from fun wy=>by rw[p];exact Vb 68 bs);rw[←a1]at ah;obtain⟨bl,B⟩:=eX bs.length;have Q:Qb (bl=bs.length∧bl≤1000):=Qa ⟨B,by rw[B];exact a8⟩;clear p a1 a8 B e1 e2 s1 s2 aL aP;have SK:=Qa (show ∀wy,Below w6.heap.size w6 wy→(VQ (.pointer (some ⟨X,0,none⟩))).run prog wy=.ok (.agg r1a) wy∧wy.cell? ⟨Nb,0,none⟩=some (.int .i64 k1)∧wy.cell? ⟨Nb,1,none⟩=some (.int .i64 k2) from fun wy hy=>⟨QG (U.o.below hy U.o.lt) aA.o.1,(b.o.below hy b.o.lt).cell 0,(b.o.below hy b.o.lt).cell 1⟩);have S0:=Qa (SK.o _ bR.drew)
  have aO:=Qa (show ∀wy A c,Below w6.heap.size w6 wy→Kb wy A bs→bl≤c→Calls prog 139 #[.agg r1a,.agg r1a,.agg #[.int .u8 68,.slice A bl c]] wy fun e w'=>XH wy w' m1 m1 (QE r1 r1 (68,bs)) e from fun wy A c hy hb hc=>by
   rw[←a4.o,Q.o.1];exact V7 (ab.o.below hy) (ab.o.below hy) rfl aC.o aq.o 68 bs A c hb (by rw[←Q.o.1];exact hc) (by decide) (by have:=Q.o;omega))
  generalize QE r1 r1 (68,bs)=ql at*
  have aX:=b.o.lt
  go_region_held3 (fun wy=>(VQ (.pointer (some ⟨X,0,none⟩))).run prog wy=.ok (.agg r1a) wy∧wy.cell? ⟨Nb,0,none⟩=some (.int .i64 k1)∧wy.cell? ⟨Nb,1,none⟩=some (.int .i64 k2))
   (first|exact S0.o|exact S9.o|exact SK.o _ k.o|exact SK.o _ R.o|exact SK.o _ S.o|exact SK.o _ I.o)
   (first
    |((fail_if_success (have:=I));go_at_call 144;refine(ai.o _).mono ?_;rintro en wd ⟨rfl,hb⟩;(have I:Qb (Below w6.heap.size w6 wd):=bR.drew.trans hb);clear hb)
    |((have:=I);(fail_if_success (have:=S));go_at_call 144;refine(aE.o _).mono ?_;rintro en we ⟨rfl,hb⟩;(have S:Qb (Below w6.heap.size w6 we):=I.o.trans (hb.mono I.o.size));clear hb)
    |(go_at_call 143;refine(aK.o _).mono ?_;rintro en w7 ⟨⟨A7,c7,rfl,au,ak⟩,hb⟩;(have R:Qb (Below w6.heap.size w6 w7):=S.o.trans (hb.mono S.o.size));(have aw:=Qa au);(have a3:=Qa ak);(have ek:bs.length=bl:=Q.o.1.symm);(rw[ek]at a3);(try simp only[ek]);clear au hb ak ek)
    |(go_at_call 139;refine(aO.o w7 A7 c7 R.o aw.o a3.o).mono ?_;rintro en w8 ⟨m8,rfl,a9,ac,a2,ar⟩;(have k:Qb (Below w6.heap.size w6 w8):=R.o.trans (ar.mono R.o.size));(have T:=Qa (a5.o.below k.o a5.o.lt));(have aW:=QY T.o rfl (JK ql.2 m8) (QX ql.2 m8));(have W:=Qa (And.intro a9 (And.intro ac a2)));(have S9:=Qa (show (VQ (.pointer (some ⟨X,0,none⟩))).run prog (w8.setRow G (Qr ql.2 m8))=.ok (.agg r1a) (w8.setRow G (Qr ql.2 m8))∧(w8.setRow G (Qr ql.2 m8)).cell? ⟨Nb,0,none⟩=some (.int .i64 k1)∧(w8.setRow G (Qr ql.2 m8)).cell? ⟨Nb,1,none⟩=some (.int .i64 k2) from ⟨QG ((U.o.below k.o U.o.lt).Km (fun e=>aD e.symm) (Qr ql.2 m8)) aA.o.1,((b.o.below k.o b.o.lt).Km af (Qr ql.2 m8)).cell 0,((b.o.below k.o b.o.lt).Km af (Qr ql.2 m8)).cell 1⟩));clear a9 ac a2 ar))
  all_goals
   go_wp2_with fail;refine bodyPost_ret (v:=.tuple #[.agg (Qr ql.2 m8),.int .i64 ql.1]) (Ql results79 _ _ G 39 _ (0,0) _ rfl (Qp T.o _) underlying39 rfl Jy) rfl ?_;have kf:Qd base [236] w (w8.setRow G (Qr ql.2 m8)):=(a6.o.trans (Qd.Qe k.o (Nat.le_trans hbw aJ))).fresh (Qm w8 G (Qr ql.2 m8)) (gB (by omega)) hbw;have e8:m8.AM=m1.AM:=by rcases W.o.2.2 with e|e<;>exact e
   rw[ah.o];exact⟨m8,rfl,W.o.1.keeps (Q5 (ts:=[39]) T.o (by decide) _) (by decide),W.o.2.1.trans a7.o.1,Yk.same (e8.trans a7.o.2),(aF.o.below k.o).keeps (Q5 (ts:=[39]) T.o (by decide) _) (by decide) (by decide),kf⟩
end
theorem Eb{α:Type}(f:α→Bool)(l:List α)(k:Nat)(hk:k<l.length):(l.take (k+1)).any f=((l.take k).any f||f l[k]):=by
 rw[List.take_succ_eq_append_getElem hk,List.any_append];simp
section
attribute [local go_sem ↓] VC VF
theorem Ml{m:JM}(h:JN w r m)(hF:Kr w m.M lo F)(ok:Ya r)(lk:XV r)(wk:U4 r lo F)(hbM:base≤m.M)(hbw:base≤w.heap.size)(v:Int):
  Calls prog 82 #[.agg (Qr r m),.int .i64 v] w fun e w'=>Zd w w' base lo m (XK lo r F v) e:=by
 obtain⟨bM,b3,bI,bT,bJ⟩:=info_parts EM;obtain⟨w1,D⟩:=eX ((w.alloc (.cells (Qr r m) 39)).alloc (.cells Ji 39));have HX:Qb (Qh w1 w.heap.size 39 (Qr r m)):=Qa (by rw[D];exact(Qh.new _ _ _).alloc _);have HG:Qb (Qh w1 (w.heap.size+1) 39 Ji):=Qa (by rw[D];exact Qh.Qz (by simp));have HB:Qb (Below w.heap.size w w1):=by
  rw[D];exact(bR.alloc nR _).alloc (by simp) _
 have HS:=Qa h;have aA:=Qa hF;have B:=Qa ok;have S:=Qa lk;have P:=Qa wk;have a3:=Qa (show ∀wy,Below w.heap.size w wy→Calls prog 34 #[.agg (Qr r m),.int .i64 v] wy fun e w'=>e=.returned (.tuple #[Qw ((QC r.notes v).getD []),.bool (QC r.notes v).isSome])∧Below wy.heap.size wy w' from fun wy hy=>Z1 (h.below hy) v (by have:=ok.nN;omega));obtain⟨nN,ah⟩:=eX r.notes.length;obtain⟨nS,aj⟩:=eX r.Qc.length;have bH:=ok.nN;have bp:=ok.nS;rw[←ah]at bH;rw[←aj]at bp;have aR:=Qa ah;have b1:=Qa aj;have a7:=Qa (show ∀wy g,Qh wy g 39 (Qr r m)→wy.cell? ⟨g,1,none⟩=some (.slice m.AN nN m.cN)∧wy.cell? ⟨g,2,none⟩=some (.slice m.AS nS m.cS) from fun wy g hy=>by rw[ah,aj];exact⟨hy.cell 1,hy.cell 2⟩);have HQ:Qb (XK lo r F v=if QC r.notes v=none∧(r.Qc.any fun x=>decide (x.n.1=v))=false then(6,r,F)else((QE { r with notes:=r.notes.filter (fun y=>decide (y.1≠v)),Qc:=r.Qc.filter fun x=> !decide (x.n.1=v) } { r with notes:=r.notes.filter (fun y=>decide (y.1≠v)),Qc:=r.Qc.filter fun x=> !decide (x.n.1=v) } (70,Qi [v])).1,(QE { r with notes:=r.notes.filter (fun y=>decide (y.1≠v)),Qc:=r.Qc.filter fun x=> !decide (x.n.1=v) } { r with notes:=r.notes.filter (fun y=>decide (y.1≠v)),Qc:=r.Qc.filter fun x=> !decide (x.n.1=v) } (70,Qi [v])).2,Vy lo r.size (fun x=>decide (x.n.1=v)) r.Qc F)):=rfl;obtain⟨q,hq⟩:=eX (XK lo r F v);rw[←hq]at HQ ⊢;clear h hF ok lk wk hq ah aj;go_enter func82,ntmps82;go_upto_region 1 with fail;rw[←D];clear D;have bP:=HB.o.size;obtain⟨ra,a2⟩:=eX (Qr r m);rw[←a2]at HX a3 a7;have aQ:=Qa a2;have W:Qb (ra.size=12∧ra.all (·.oneCell')=true):=Qa (by rw[a2];exact⟨rfl,QX r m⟩);obtain⟨X,hX⟩:=eX w.heap.size;obtain⟨G,hG⟩:=eX (w.heap.size+1);rw[←hG,←hX,←a2];rw[←hX]at HX;rw[←hG]at HG;have bw:w.heap.size≤X:=by omega
 have c3:w.heap.size≤G:=by omega
 have aG:G≠X:=by omega
 clear hX hG a2;have HI:Qb ((prog.info? 39).map (·.size)=some ra.size):=Qa (by rw[W.o.1];exact Jy);have l0:=QG HX.o W.o.1;obtain⟨tx,htx⟩:∃tx:ByteArray,Qw ((QC r.notes v).getD [])=.string tx:=⟨_,rfl⟩;rw[htx]at a3;obtain⟨ps,aE⟩:=eX ((QC r.notes v).isSome);rw[←aE]at a3;have ax:=Qa aE;clear aE htx;go_upto_region 2 with(go_at_call 34;refine(a3.o w1 HB.o).mono ?_;rintro en w2 ⟨rfl,hb⟩;(have al:=Qa (HB.o.trans (hb.mono bP)));(have H:=Qa (HX.o.below hb HX.o.lt));(have au:=Qa (HG.o.below hb HG.o.lt));clear hb);have b4:=al.o.size;clear l0 a3 HX HG HB;obtain⟨_,x2⟩:=a7.o _ _ H.o;have xl:=H.o.lt;go_wp2_with fail;go_loopw [7,22] (fun p i wr=>∃j:Nat,j≤nS∧i=.int .i64 (j:Nat)∧p=.bool (ps||(r.Qc.take j).any fun x=>decide (x.n.1=v))∧Below w2.heap.size w2 wr) (fun _ i _=>nS-(intOf i).toNat)
 case atStart=>exact⟨0,Nat.zero_le _,rfl,by simp,bR⟩
 obtain⟨j,hj,rfl,rfl,ae⟩:=hrel;have L:=Qa ae;have bc:=ae.size;have a4:=Qa (HS.o.below (al.o.trans (ae.mono b4)));clear ae x2 xl;by_cases hjl:j<nS
 ·have bi:(j:Int)<nS:=by omega
  have bY:(0:Int)≤j:=by omega
  have aY:j<r.Qc.length:=by rw[←b1.o];exact hjl
  obtain⟨b,o2,hA,N,l⟩:=(V1 (f:=JJ) (k:=5) (fun _=>rfl) (by decide) a4.o.Qc.1).2 j aY;have Q:=Qa (Eb (fun x:V4=>decide (x.n.1=v)) r.Qc j aY);rw[hA];generalize (r.Qc.take j).any (fun x=>decide (x.n.1=v))=pj at*
  generalize r.Qc[j]=x at*
  obtain⟨⟨v1,v2⟩,t,at',mk⟩:=x;simp only at Q;have aq:JJ ⟨(v1,v2),t,at',mk⟩=[.int .i64 v1,.int .i64 v2,.string ⟨t.toArray⟩,.int .i64 at',.int .i64 mk]:=rfl;rw[aq]at l;have E:Qb (wr.rangeAt b (o2+j*5) [.int .i64 v1,.int .i64 v2,.string ⟨t.toArray⟩,.int .i64 at',.int .i64 mk]):=Qa l;have U:Qb ((prog.info? 69).map (·.size)=some ([.int .i64 v1,.int .i64 v2,.string ⟨t.toArray⟩,.int .i64 at',.int .i64 mk]:List Value).length):=Vp;have bA:Qb ((prog.info? 69).map (·.size)=some (#[.int .i64 v1,.int .i64 v2,.string ⟨t.toArray⟩,.int .i64 at',.int .i64 mk]:Array Value).size):=Vp;have bq:Qb ((#[.int .i64 v1,.int .i64 v2,.string ⟨t.toArray⟩,.int .i64 at',.int .i64 mk]:Array Value).all (·.oneCell')=true):=Qa (by simp[Value.oneCell']);clear aq l N
  go_upto_region 5 with first
   |(refine wpList_load_mid rfl 69 _ rfl b (o2+j*5) rfl [.int .i64 v1,.int .i64 v2,.string ⟨t.toArray⟩,.int .i64 at',.int .i64 mk] _ E.o underlying69 rfl U.o ?_)
   |(refine wpList_store_row rfl 69 _ _ rfl wr.heap.size #[.int .i64 v1,.int .i64 v2,.string ⟨t.toArray⟩,.int .i64 at',.int .i64 mk] rfl rfl 69 _ (Qh.new wr 69 _) bA.o rfl bq.o ?_;rw[World.setRow_alloc_new])
  try go_frame
  have HZ:=Qa (Qh.new wr 69 #[.int .i64 v1,.int .i64 v2,.string ⟨t.toArray⟩,.int .i64 at',.int .i64 mk]);have z:=Qa (L.o.alloc bc (.cells #[.int .i64 v1,.int .i64 v2,.string ⟨t.toArray⟩,.int .i64 at',.int .i64 mk] 69));clear E U L a4;generalize wr.alloc (.cells #[.int .i64 v1,.int .i64 v2,.string ⟨t.toArray⟩,.int .i64 at',.int .i64 mk] 69)=wz at*
  generalize wr.heap.size=g at*
  have z0:wz.cell? ⟨g,0,none⟩=some (.int .i64 v1):=HZ.o.cell 0;have zl:=HZ.o.lt;obtain⟨pp,C⟩:=eX ((ps||pj));have aB:Qb ((ps||(r.Qc.take (j+1)).any fun x=>decide (x.n.1=v))=(pp||decide (v1=v))):=Qa (by rw[Q.o,C,Bool.or_assoc]);rw[←C];clear C Q;cases pp with
  |true=>
   go_wp2_with fail;go_roundw
   case rel=>exact⟨j+1,by omega,by simp,by rw[aB.o];rfl,z.o⟩
   case measure=>simp[intOf];omega
  |false=>
   by_cases h1:v1=v
   ·subst h1;go_wp2_with fail;go_roundw
    case rel=>exact⟨j+1,by omega,by simp,by rw[aB.o];simp,z.o⟩
    case measure=>simp[intOf];omega
   go_wp2_with fail;go_roundw
   case rel=>exact⟨j+1,by omega,by simp,by rw[aB.o];simp[h1],z.o⟩
   case measure=>simp[intOf];omega
 have bQ:j=nS:=by omega
 subst bQ;have bi:¬(j:Int)<j:=by omega
 have ht:r.Qc.take j=r.Qc:=List.take_of_length_le (by rw[←b1.o];exact nR);rw[ht];have a5:=Qa (H.o.below L.o H.o.lt);have aa:=Qa (au.o.below L.o au.o.lt);have I:=Qa (al.o.trans (L.o.mono b4))
 have ag:=Qa (show (QC r.notes v=none∧(r.Qc.any fun x=>decide (x.n.1=v))=false)↔(ps||r.Qc.any fun x=>decide (x.n.1=v))=false from by
  rw[ax.o];cases QC r.notes v<;>simp)
 clear ht L H au al;obtain⟨pp,C⟩:∃pp,pp=(ps||r.Qc.any fun x=>decide (x.n.1=v)):=⟨_,rfl⟩;rw[←C];rw[←C]at ag;have bn:=Qa C;clear C;cases pp with
 |false=>
  have hq:q=(6,r,F):=by rw[HQ.o,if_pos (ag.o.2 rfl)]
  have l3:=QG a5.o W.o.1;have zs:=QY aa.o rfl W.o.1 W.o.2;go_wp2_with fail;refine bodyPost_ret (v:=.tuple #[.agg ra,.int .i64 6]) (Ql results82 _ _ G 39 _ (0,0) _ rfl (Qp aa.o _) underlying39 rfl HI.o) rfl ?_;have aD:Below w.heap.size w (wr.setRow G ra):=I.o.trans (Qg (Qm _ _ _) I.o.size (gB (by omega)));exact⟨m,by rw[aQ.o];rfl,HS.o.below aD,rfl,Yk.same rfl,aA.o.below aD,Qd.Qe aD hbw⟩
 |true=>
  have hq:=HQ.o;rw[if_neg (fun hc=>by have:=ag.o.1 hc;cases this)]at hq;have bd:Qs v=true:=by
   have h9:=bn.o;cases hps2:ps with
   |true=>
    have h8:=ax.o;rw[hps2]at h8;obtain⟨tv,bO⟩:=Option.isSome_iff_exists.1 h8.symm;exact(B.o.notes _ (Vt bO)).1
   |false=>
    rw[hps2,Bool.false_or]at h9;obtain⟨x,bE,bv⟩:=List.any_eq_true.1 h9.symm;rw[←of_decide_eq_true bv];exact(B.o.Qc x bE).v
  obtain⟨vn,rfl,bZ⟩:=VE bd;have bk:=Qa hq;clear hq HQ ag bn ax bd;have a6:=I.o.size;obtain⟨x1,_⟩:=a7.o _ _ a5.o;have xl:=a5.o.lt;generalize wr=w3 at*
  go_wp2_with fail;go_loopw [10,41] (fun out i wr=>∃i2:Nat,i2≤nN∧i=.int .i64 (i2:Nat)∧Xq w3 wr ((r.notes.take i2).filter fun y=>decide (y.1≠(vn:Int))) out) (fun _ i _=>nN-(intOf i).toNat)
  case atStart=>exact⟨0,Nat.zero_le _,rfl,⟨World.ownsRow_nil _ _ _ _,bR⟩⟩
  obtain⟨i2,c5,rfl,hL⟩:=hrel;have HL:=Qa hL;have bc:=hL.below.size;obtain⟨O,cO,rfl,ak⟩:=Jg hL.own;have a4:=Qa (HS.o.below (I.o.trans (hL.below.mono a6)));have Z:((r.notes.take i2).filter fun y=>decide (y.1≠(vn:Int))).length≤i2:=Nat.le_trans (List.length_filter_le _ _) (by rw[List.length_take];omega);clear hL x1 xl;by_cases hil:i2<nN
  ·have aM:(i2:Int)<nN:=by omega
   have c0:(0:Int)≤i2:=by omega
   have aO:i2<r.notes.length:=by rw[←aR.o];exact hil
   obtain⟨b,o2,hA,N,l⟩:=(V1 (f:=JG) (k:=2) (fun _=>rfl) (by decide) a4.o.notes.1).2 i2 aO;have Q:=Qa (show (r.notes.take (i2+1)).filter (fun y=>decide (y.1≠(vn:Int)))=(r.notes.take i2).filter (fun y=>decide (y.1≠(vn:Int)))++[r.notes[i2]].filter (fun y=>decide (y.1≠(vn:Int))) from by rw[List.take_succ_eq_append_getElem aO,List.filter_append]);rw[hA];generalize (r.notes.take i2).filter (fun y=>decide (y.1≠(vn:Int)))=o at*
   generalize r.notes[i2]=x at*
   obtain⟨a,s⟩:=x;obtain⟨no,K⟩:=eX o.length;rw[←K]at Z ak ⊢;have J:=Qa K;have E:Qb (wr.rangeAt b (o2+i2*2) [.int .i64 a,.string ⟨s.toArray⟩]):=Qa l;have U:Qb ((prog.info? 67).map (·.size)=some ([.int .i64 a,.string ⟨s.toArray⟩]:List Value).length):=YL;have aN:Qb ((prog.info? 67).map (·.size)=some (#[.int .i64 a,.string ⟨s.toArray⟩]:Array Value).size):=YL;clear l N K
   go_upto_region 13 with first
    |(refine wpList_load_mid rfl 67 _ rfl b (o2+i2*2) rfl [.int .i64 a,.string ⟨s.toArray⟩] _ E.o underlying67 rfl U.o ?_)
    |(refine wpList_store_row rfl 67 _ _ rfl wr.heap.size #[.int .i64 a,.string ⟨s.toArray⟩] rfl rfl 67 _ (Qh.new wr 67 _) aN.o rfl (by simp[Value.oneCell']) ?_;rw[World.setRow_alloc_new])
   try go_frame
   have HZ:=Qa (Qh.new wr 67 #[.int .i64 a,.string ⟨s.toArray⟩]);have a9:Qb (Xq w3 (wr.alloc (.cells #[.int .i64 a,.string ⟨s.toArray⟩] 67)) o (.slice O no cO)):=Qa (by rw[J.o];exact HL.o.keep (bR.alloc nR (.cells #[.int .i64 a,.string ⟨s.toArray⟩] 67)));clear E U HL a4;generalize wr.alloc (.cells #[.int .i64 a,.string ⟨s.toArray⟩] 67)=wz at*
   generalize wr.heap.size=g at*
   have z0:wz.cell? ⟨g,0,none⟩=some (.int .i64 a):=HZ.o.cell 0;have zl:=HZ.o.lt;have c1:=a9.o.below.size;by_cases ha:a=(vn:Int)
   ·have T:Qb ((r.notes.take (i2+1)).filter (fun y=>decide (y.1≠(vn:Int)))=o):=Qa (by rw[Q.o,ha];simp);subst ha;go_wp2_with fail;go_roundw
    case rel=>exact⟨i2+1,by omega,by simp,by rw[T.o];exact a9.o⟩
    case measure=>simp[intOf];omega
   have T:Qb ((r.notes.take (i2+1)).filter (fun y=>decide (y.1≠(vn:Int)))=o++[(a,s)]):=Qa (by rw[Q.o];simp[ha]);have bu:Qb (∀u∈([.int .i64 a,.string ⟨s.toArray⟩]:List Value),u.oneCell'=true):=Qa (by simp[Value.oneCell']);have bB:Qb ((wz.alloc (.cells #[.int .i64 a,.string ⟨s.toArray⟩] 67)).ownsRow w3.heap.size 67 2 (.slice O no cO) no (o.flatMap JG)):=Qa (by have:=a9.o.own;rw[←J.o]at this;exact Qu this _);have bV:=Qa (Kq (Sl.Ja (sz:=2) (n:=1) (Qh.new wz 67 ([.int .i64 a,.string ⟨s.toArray⟩]:List Value).toArray) rfl))
   have bD:=Qa (show ∀A4 c4 w4,w4.ownsRow w3.heap.size 67 2 (.slice A4 (no+1) c4) (no+1) (o.flatMap JG++[.int .i64 a,.string ⟨s.toArray⟩])→(wz.alloc (.cells #[.int .i64 a,.string ⟨s.toArray⟩] 67)).grownBy w4 (Value.slice O no cO).ownBlock→Xq w3 w4 (o++[(a,s)]) (.slice A4 (no+1) c4) from fun A4 c4 w4 h1 h2=>by
    have h0:=a9.o;rw[J.o]at h0 h1 h2 ⊢;exact h0.push h1 h2)
   go_wp2_with (first
    |(refine wpList_load_row rfl 67 _ rfl g rfl 67 #[.int .i64 a,.string ⟨s.toArray⟩] (0,0) _ HZ.o underlying67 rfl aN.o ?_)
    |(at_builtin;refine Qv _ rfl _ _ 31 rfl w3.heap.size 67 bM _ 2 24 Zx b3 bI bT bJ rfl (by decide) (.slice O no cO) no (o.flatMap JG) rfl bB.o (some ⟨wz.heap.size,0,none⟩) 1 1 _ [.int .i64 a,.string ⟨s.toArray⟩] rfl bV.o bu.o (by unfold maxLen;omega) (by omega) (by simp;omega) ?_;intro A4 c4 w4 hown4 hgr4 hnc4 _;(have bt:=Qa (bD.o A4 c4 w4 hown4 hgr4));clear hown4 hgr4))
   go_roundw
   case rel=>exact⟨i2+1,by omega,by simp,by rw[T.o];exact bt.o⟩
   case measure=>simp[intOf];omega
  have bS:i2=nN:=by omega
  subst bS;have aM:¬(i2:Int)<i2:=by omega
  have ht:r.notes.take i2=r.notes:=List.take_of_length_le (by rw[←aR.o];exact nR);rw[ht]at HL Z ak ⊢;obtain⟨fn,ar⟩:=eX (r.notes.filter fun y=>decide (y.1≠(vn:Int)));rw[←ar]at HL Z ak ⊢;obtain⟨no,K⟩:=eX fn.length;rw[←K]at ak ⊢;have J:=Qa K;have aw:=Qa ar;have z:=Qa HL.o.below;have R:=Qa (a5.o.below z.o a5.o.lt);have bL:=(a7.o _ _ R.o).1;have bC:=R.o.free 1;have bF:=R.o.lt;clear K ar ht;obtain⟨r1,hr1⟩:∃r1,r1={ r with notes:=fn }:=⟨_,rfl⟩;obtain⟨m1,hm1⟩:∃m1,m1={ m with AN:=O,cN:=cO }:=⟨_,rfl⟩;have am:Qb (Qh (wr.setCell ⟨X,1,none⟩ (.slice O no cO)) X 39 (Qr r1 m1)):=by
   have:=R.o.set 1 (.slice O no cO);rw[aQ.o]at this;rw[hr1,hm1];show Qh _ _ _ (#[.int .i64 r.size,.slice O fn.length cO,.slice m.AS r.Qc.length m.cS,.slice m.AM r.marks.length m.cM,.slice m.AL r.Qo.length m.cL,.int .i64 m.Qk,.int .i64 r.half,.int .i64 r.size,.int .i64 r.ep,.pointer (some ⟨m.M,0,none⟩),.int .i64 r.VB,.int .i64 r.QA]:Array Value);rw[←J.o];simpa using this
  have aL:=Qa ((aa.o.below z.o aa.o.lt).Yq (o:=1) aG (.slice O no cO));have ay:=Qa (Jo (o:=1) (I.o.trans (z.o.mono a6)) bw (.slice O no cO));have k6:Qd 0 [39] wr (wr.setCell ⟨X,1,none⟩ (.slice O no cO)):=(Qd.refl 0 [39] wr).set R.o (Nat.zero_le _) (by simp) _
  have aT:Qb (JN (wr.setCell ⟨X,1,none⟩ (.slice O no cO)) r1 m1):=Qa (by
   have h6:=(HS.o.below (I.o.trans (z.o.mono a6))).keeps k6 (by decide);rw[hr1,hm1];refine⟨?_,h6.Qc,h6.marks,h6.Qo,h6.row,h6.OM,h6.Tk⟩;have ao:=HL.o.own;rw[←J.o]at ao;have:=(Sl.Jl ao).keeps k6 (by decide);show Sl _ 67 2 O fn.length _;rw[←J.o];exact this)
  have aI:Qb (Kr (wr.setCell ⟨X,1,none⟩ (.slice O no cO)) m1.M lo F):=Qa (by rw[hm1];exact(aA.o.below (I.o.trans (z.o.mono a6))).keeps k6 (by decide) (by decide));have a8:Qb (m1.M=m.M∧m1.AM=m.AM):=Qa (by rw[hm1];exact⟨rfl,rfl⟩);have bj:Qb (U4 r1 lo F):=Qa (by rw[hr1];exact⟨P.o.fl,P.o.lo',P.o.at',P.o.sz,P.o.nS⟩);obtain⟨r2,hr2⟩:∃r2,r2={ r1 with Qc:=r1.Qc.filter fun x=> !decide (x.n.1=(vn:Int)) }:=⟨_,rfl⟩;obtain⟨F1,hF1⟩:∃F1,F1=Vy lo r.size (fun x=>decide (x.n.1=(vn:Int))) r.Qc F:=⟨_,rfl⟩
  have b7:=Qa (show Calls prog 142 #[.agg (Qr r1 m1),.agg #[.int .i64 vn,.int .i64 0],.bool true] (wr.setCell ⟨X,1,none⟩ (.slice O no cO)) fun e w'=>∃m',e=.returned (.agg (Qr r2 m'))∧JN w' r2 m'∧m'.M=m1.M∧m'.AM=m1.AM∧Kr w' m1.M lo F1∧Qd base [236] (wr.setCell ⟨X,1,none⟩ (.slice O no cO)) w' from by
   have:=UO (base:=base) aT.o aI.o bj.o (by rw[a8.o.1];exact hbM) (Nat.le_trans hbw ay.o.size) ((vn:Int),0) true;have bU:pW ((vn:Int),0) true=fun x:V4=>decide (x.n.1=(vn:Int)):=by
    funext x
    unfold pW;by_cases h:x.n.1=(vn:Int)
    ·simp[h]
    have:x.n≠((vn:Int),0):=fun e=>h (by rw[e])
    simp[h,this]
   rw[bU]at this;have e1:Vy lo r1.size (fun x:V4=>decide (x.n.1=(vn:Int))) r1.Qc F=F1:=by rw[hF1,hr1]
   unfold Pe at this;rw[e1,←hr2]at this;exact this)
  have aX:Qb (q=((QE r2 r2 (70,Qi [(vn:Int)])).1,(QE r2 r2 (70,Qi [(vn:Int)])).2,F1)):=Qa (by rw[bk.o,hr2,hr1,hF1,aw.o])
  have bo:Qb (Ya r2):=Qa (by
   rw[hr2,hr1];refine⟨fun x hx=> ?_,fun x hx=>B.o.Qc x (List.mem_filter.1 hx).1,B.o.marks, ?_,Nat.le_trans (List.length_filter_le _ _) B.o.nS,B.o.nM⟩
   ·have hx:x∈fn:=hx;rw[aw.o]at hx;exact B.o.notes x (List.mem_filter.1 hx).1
   show fn.length≤_;rw[aw.o];exact Nat.le_trans (List.length_filter_le _ _) B.o.nN)
  have b8:Qb (XV r2):=Qa (by rw[hr2,hr1];exact⟨S.o.h,S.o.s,S.o.e,S.o.n⟩);have aF:Qb ((Qr r1 m1).size=12):=Qa rfl;clear hr1 hr2 hF1 hm1 bk B S P R k6 aA HL;go_upto_region 17 with fail;clear bL bC bF;generalize wr.setCell ⟨X,1,none⟩ (.slice O no cO)=w5 at*
  obtain⟨c2,ap⟩:=eX (Qr r1 m1);rw[←ap]at am b7 aF;clear ap;have l5:=QG am.o aF.o
  go_upto_region 18 with(first
   |(go_at_call 142;refine b7.o.mono ?_;rintro en w4 ⟨m2,rfl,aW,b6,bg,b5,af⟩;(have aV:=Qa aW);(have a0:=Qa (am.o.keeps af (by decide)));(have bh:=Qa (aL.o.keeps af (by decide)));(have Y:=Qa (And.intro b6 (And.intro bg (And.intro b5 af))));(have bN:=QY a0.o aF.o (JK r2 m2) (QX r2 m2));clear aW b6 bg b5 af))
  have ad:=Qa (Qp a0.o (Qr r2 m2));have aS:=Qa (Qh.Km bh.o aG (Qr r2 m2));have bm:=Qa (aV.o.keeps (Q5 (ts:=[39]) a0.o (by decide) (Qr r2 m2)) (by decide));have br:=Qa (Y.o.2.2.1.keeps (Q5 (ts:=[39]) a0.o (by decide) (Qr r2 m2)) (by decide) (by decide));have bf:Qb (Qd base [236] w (w4.setRow X (Qr r2 m2))):=Qa (((Qd.Qe ay.o hbw).trans Y.o.2.2.2).fresh (Qm w4 X (Qr r2 m2)) (gB (by omega)) hbw);have aC:Qb (m2.M=m.M∧m2.AM=m.AM∧m1.M=m.M):=Qa ⟨Y.o.1.trans a8.o.1,Y.o.2.1.trans a8.o.2,a8.o.1⟩;clear a0 bh aV Y bN l5 am aL ay aT aI;generalize w4.setRow X (Qr r2 m2)=w6 at*
  have bx:=bf.o.below.size;generalize hr2a:Qr r2 m2=r2a at*
  have aH:Qb (r2a.size=12∧r2a.all (·.oneCell')=true):=Qa (by rw[←hr2a];exact⟨rfl,QX r2 m2⟩);have aZ:=Qa hr2a;clear hr2a;obtain⟨d1,e1⟩:∃d:ByteArray,Qw (Lib.itoa (vn:Int))=.string d:=⟨_,rfl⟩;have b0:=Qa (fun wy=>J5 vn wy (by omega));rw[e1]at b0;obtain⟨bs,an⟩:=eX (Qi [(vn:Int)]);have N:bs.length≤21:=by
   have:=Lib.itoa_length_le (vn:Int) (by omega) (by omega);rw[an,Oh];exact this
  have bz:=Qa (show ∀wy,Calls prog 143 #[.int .u8 70,.string d1] wy fun e w'=>Kz wy w' (70,bs) e from fun wy=>by rw[←e1,an,Oh];exact Vb 70 _);rw[←an]at aX;obtain⟨bl,V⟩:=eX bs.length;have ab:Qb (bl=bs.length∧bl≤21):=Qa ⟨V,by rw[V];exact N⟩;clear an N V e1;have SK:=Qa (show ∀wy,Below w6.heap.size w6 wy→(VQ (.pointer (some ⟨X,0,none⟩))).run prog wy=.ok (.agg r2a) wy from fun wy hy=>QG (ad.o.below hy ad.o.lt) aH.o.1);have S0:=Qa (SK.o _ bR.drew)
  have bK:=Qa (show ∀wy A c,Below w6.heap.size w6 wy→Kb wy A bs→bl≤c→Calls prog 139 #[.agg r2a,.agg r2a,.agg #[.int .u8 70,.slice A bl c]] wy fun e w'=>XH wy w' m2 m2 (QE r2 r2 (70,bs)) e from fun wy A c hy hb hc=>by
   rw[←aZ.o,ab.o.1];exact V7 (bm.o.below hy) (bm.o.below hy) rfl bo.o b8.o 70 bs A c hb (by rw[←ab.o.1];exact hc) (by decide) (by have:=ab.o;omega))
  generalize QE r2 r2 (70,bs)=ql at*
  go_region_held3 (fun wy=>(VQ (.pointer (some ⟨X,0,none⟩))).run prog wy=.ok (.agg r2a) wy)
   (first|exact S0.o|exact S9.o|exact SK.o _ a1.o|exact SK.o _ ac.o|exact SK.o _ az.o)
   (first
    |(go_at_call 144;refine(b0.o _).mono ?_;rintro en wd ⟨rfl,hb⟩;(have az:Qb (Below w6.heap.size w6 wd):=bR.drew.trans hb);clear hb)
    |(go_at_call 143;refine(bz.o _).mono ?_;rintro en w7 ⟨⟨A7,c7,rfl,ba,b2⟩,hb⟩;(have ac:Qb (Below w6.heap.size w6 w7):=az.o.trans (hb.mono az.o.size));(have bb:=Qa ba);(have aK:=Qa b2);(have ek:bs.length=bl:=ab.o.1.symm);(rw[ek]at aK);(try simp only[ek]);clear ba hb b2 ek)
    |(go_at_call 139;refine(bK.o w7 A7 c7 ac.o bb.o aK.o).mono ?_;rintro en w8 ⟨m8,rfl,aP,aU,aJ,b9⟩;(have a1:Qb (Below w6.heap.size w6 w8):=ac.o.trans (b9.mono ac.o.size));(have ai:=Qa (aS.o.below a1.o aS.o.lt));(have bW:=QY ai.o rfl (JK ql.2 m8) (QX ql.2 m8));(have av:=Qa (And.intro aP (And.intro aU aJ)));(have S9:=Qa (QG ((ad.o.below a1.o ad.o.lt).Km (fun e=>aG e.symm) (Qr ql.2 m8)) aH.o.1));clear aP aU aJ b9))
  all_goals
   go_wp2_with fail;refine bodyPost_ret (v:=.tuple #[.agg (Qr ql.2 m8),.int .i64 ql.1]) (Ql results82 _ _ G 39 _ (0,0) _ rfl (Qp ai.o _) underlying39 rfl Jy) rfl ?_;have kf:Qd base [236] w (w8.setRow G (Qr ql.2 m8)):=(bf.o.trans (Qd.Qe a1.o (Nat.le_trans hbw bx))).fresh (Qm w8 G (Qr ql.2 m8)) (gB (by omega)) hbw;have e8:m8.AM=m2.AM:=by rcases av.o.2.2 with e|e<;>exact e
   have bG:Kr (w8.setRow G (Qr ql.2 m8)) m.M lo F1:=by
    rw[←aC.o.2.2];exact(br.o.below a1.o).keeps (Q5 (ts:=[39]) ai.o (by decide) _) (by decide) (by decide)
   rw[aX.o];exact⟨m8,rfl,av.o.1.keeps (Q5 (ts:=[39]) ai.o (by decide) _) (by decide),av.o.2.1.trans aC.o.1,Yk.same (e8.trans aC.o.2.1),bG,kf⟩
end
end Go.Proofs.YtmgmfnimaafkdaaGreatDoor
