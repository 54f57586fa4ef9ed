/- A put undone. -/
import Derived.Test.YtmgmfnimaafkdaaGreatDoorVI
import Derived.Deep.LoopGhost
import Derived.Deep.Draws
import Derived.Lib.Walk
import Derived.Lib.SlicesSearch
import Derived.Deep.CutRange
namespace Go.Proofs.YtmgmfnimaafkdaaGreatDoor
set_option maxRecDepth 100000
set_option maxHeartbeats 0
open Go.RowKit Go.Maps
open Tryz
section
open Go.Shelf Go.Sort
def JX(s:QM)(v:Int)(gone:List (Qj × Qx)):Nat × QM:=
 if QC s.notes v=none∧QS s v=[]then(6,s)
 else match Qy (Jv s v []) s (70,Qi [v])with
  |(0,s1)=>(0,{ s1 with map:=gone.foldl (fun m y=>Jk m y.2) s1.map })
  |(e,s1)=>(e,s1)
variable {s:QM}
theorem XA.Xu(ok:XA s)(v:Int):MF (Jv s v []):=by
 have h:=ok.l;refine⟨List.Pairwise.filter _ h.Vn,fun x hx=>h.num x (List.mem_filter.1 hx).1,List.Pairwise.filter _ h.VL,fun x hx=>h.Xv x (List.mem_filter.1 hx).1,h.Xk, ?_, ?_,h.nM⟩
 ·have:=ok.nS;have h2:(Jv s v []).Qc.length≤s.Qc.length:=List.length_filter_le _ _;omega
 have:=ok.nN;have h2:(Jv s v []).notes.length≤s.notes.length:=List.length_filter_le _ _;omega
variable {base:Nat} {m:KY} {w:World}
theorem MQ{a b:World}{R:Nat}(hk:Qt base m m w a)(hg:a.grownBy b (some R))(hR:w.heap.size≤R)(hb:base≤w.heap.size):Qt base m m w b:=
 ⟨hk.below.trans (Qg hg (Nat.le_trans hb hk.below.size) (fun k e=>by injection e with e;omega)),fun k t ht h1 h2 h3 h4=>(hg.block k (Nat.lt_of_lt_of_le (YB ht) hk.below.size) (fun e=>by injection e with e;have:=YB ht;omega)).trans (hk.old k t ht h1 h2 h3 h4),hk.lb,hk.B,hk.M,hk.nb,hk.pb,hk.Xk⟩
variable {n:Nat} {w':World}
theorem MU{b r cnt:Nat}{D:DataW Unit}{left:Lit→Bool}(h:w.ranges prog 73 SK.R b r n D left cnt)(h1:w'.heap[b]? =w.heap[b]?)(h2:w'.heap[r]? =w.heap[r]?):w'.ranges prog 73 SK.R b r n D left cnt:=by
 obtain⟨es,a,c,d,c0,g1,g2,g3,g4,g5,g6⟩:=h;exact⟨es,a,c,d,c0,h1.trans g1,g2,g3,g4,h2.trans g5,g6⟩
theorem P6(m:Jt)(a len by':Nat)(mk:Int):Jk m ⟨(a:Int),len,by',mk⟩=(JF m a len).2:=by
 unfold Jk;rw[if_neg (by simp)];rfl
theorem NO{v:Int}(h1:QC s.notes v=none)(h2:QS s v=[]):Jv s v []=s:=by
 unfold Jv;have e1:s.notes.filter (fun y=>decide (y.1≠v))=s.notes:=by
  refine List.filter_eq_self.2 fun y hy=>decide_eq_true fun e=> ?_
  have h2:(QC s.notes y.1).isSome=true:=KD.2 (List.mem_map.2 ⟨y,hy,rfl⟩);rw[e,h1]at h2;cases h2
 have e2:s.Qc.filter (fun y=>decide (y.1.1≠v∨y.1∈([]:List Qj)))=s.Qc:=by
  refine List.filter_eq_self.2 fun y hy=> ?_
  have:y∉QS s v:=by rw[h2];simp
  unfold QS at this;simp only[List.mem_filter,hy,true_and,decide_eq_true_eq]at this;simp[this]
 rw[e1,e2]
variable {Sb:Nat}
theorem Nx(h:QO w base Sb s m)(ok:XA s)(v:Int)(hwv:ZX v):
  Calls prog 76 #[.pointer (some ⟨Sb,0,none⟩),.int .i64 v] w fun e w'=>∃gone,(∀y∈gone,y∈QS s v)∧((JX s v gone).1=0→SK.Keys (QC (QS s v)) (gone.map (·.1)))∧Xy w w' base Sb m (JX s v gone) e:=by
 have HH:=Qa h;have HK:=Qa ok;have aE:=h.lt;have bb:=h.blk.lt;have HX:=Qa (show Qh ((w.alloc (.cells #[.pointer (some ⟨Sb,0,none⟩)] 28)).alloc (.cells #[.int .i64 v] 2)) w.heap.size 28 #[.pointer (some ⟨Sb,0,none⟩)] from (Qh.new _ _ _).alloc _);have HY:=Qa (show Qh ((w.alloc (.cells #[.pointer (some ⟨Sb,0,none⟩)] 28)).alloc (.cells #[.int .i64 v] 2)) (w.heap.size+1) 2 #[.int .i64 v] from Qh.Qz (by simp));have a6:Qb (Below w.heap.size w ((w.alloc (.cells #[.pointer (some ⟨Sb,0,none⟩)] 28)).alloc (.cells #[.int .i64 v] 2))):=(bR.alloc nR _).alloc (by simp) _;clear h ok;go_enter func76,ntmps76;go_upto_region 1 with fail;generalize (w.alloc (.cells #[.pointer (some ⟨Sb,0,none⟩)] 28)).alloc (.cells #[.int .i64 v] 2)=w1 at*
 have b3:=a6.o.size;have c0:w1.cell? ⟨w.heap.size,0,none⟩=some (.pointer (some ⟨Sb,0,none⟩)):=HX.o.cell 0;have c1:w1.cell? ⟨w.heap.size+1,0,none⟩=some (.int .i64 v):=HY.o.cell 0;have xl:=HX.o.lt;have yl:=HY.o.lt;go_upto_region 3 with fail;clear c0 c1;obtain⟨X,hX⟩:=eX w.heap.size;obtain⟨Y,hY⟩:=eX (w.heap.size+1);rw[←hY]at HY yl;rw[←hX]at HX xl;rw[←hY,←hX];clear hX hY;have ap:base≤w1.heap.size:=by omega
 have H1:=Qa (HH.o.below a6.o);obtain⟨was,I⟩:=eX ((QC s.notes v).getD []);obtain⟨th,g⟩:=eX ((QC s.notes v).isSome)
 have V:=Qa (show ∀wy,Below w1.heap.size w1 wy→wy.cell? ⟨X,0,none⟩=some (.pointer (some ⟨Sb,0,none⟩))∧wy.cell? ⟨Sb,4,none⟩=some (.map (some m.Nb))∧wy.cell? ⟨Y,0,none⟩=some (.int .i64 v)∧(Instr.lookup 124 (.map (some m.Nb)) (.int .i64 v) true).run prog wy=.ok (.tuple #[.string ⟨was.toArray⟩,.bool th]) wy from fun wy hy=>by
  refine⟨(HX.o.below hy HX.o.lt).cell 0,(H1.o.below hy).blk.cell 4,(HY.o.below hy HY.o.lt).cell 0, ?_⟩;have:=(H1.o.below hy).OG.look_ok (x:=v) hwv;rw[I,g];exact this)
 have S0:=Qa (V.o _ bR.drew);have ak:=Qa I;have aI:=Qa g;clear I g;go_cut [5,6] (fun v7 v8 wx=>∃k7 k8,v7=.pointer (some ⟨k7,0,none⟩)∧v8=.pointer (some ⟨k8,0,none⟩)∧Qh wx k7 9 #[.string ⟨was.toArray⟩]∧Qh wx k8 4 #[.bool th]∧Below w1.heap.size w1 wx)
 case first=>
  go_region_held3 (fun wy=>wy.cell? ⟨X,0,none⟩=some (.pointer (some ⟨Sb,0,none⟩))∧wy.cell? ⟨Sb,4,none⟩=some (.map (some m.Nb))∧wy.cell? ⟨Y,0,none⟩=some (.int .i64 v)∧(Instr.lookup 124 (.map (some m.Nb)) (.int .i64 v) true).run prog wy=.ok (.tuple #[.string ⟨was.toArray⟩,.bool th]) wy)
   (first|exact S0.o|(refine V.o _ ?_;repeat' (first|exact bR|refine Below.drew ?_|refine Below.alloc ?_ (by simp) _|refine Jo ?_ (by simp) _)))
   (fail)
  all_goals
   go_wp2_with fail;go_meet;refine⟨_,_,rfl,rfl, ?_, ?_, ?_⟩
   (repeat' (first|exact Qh.new _ _ _|exact Qh.Qz (by simp)|refine Qh.drew ?_|refine Qh.alloc ?_ _))
   (repeat' (first|exact Qh.new _ _ _|exact Qh.Qz (by simp)|refine Qh.drew ?_|refine Qh.alloc ?_ _))
   (repeat' (first|exact bR|refine Below.drew ?_|refine Below.alloc ?_ (by simp) _))
 obtain⟨k7,k8,rfl,rfl,h7,h8,E⟩:=hcut;have ag:=HX.o.below E HX.o.lt;have ad:=HY.o.below E HY.o.lt;have a8:=H1.o.below E;have x0:wc.cell? ⟨X,0,none⟩=some (.pointer (some ⟨Sb,0,none⟩)):=ag.cell 0;have y0:wc.cell? ⟨Y,0,none⟩=some (.int .i64 v):=ad.cell 0;have bd:base≤wc.heap.size:=Nat.le_trans ap E.size;have FG:=Qa (LD a8 HK.o v hwv)
 have HE:=Qa (show ∀w2 G,wc.heap.size≤G→SK.In w2 G (QS s v).length (QC (QS s v))→QO w2 base Sb { s with notes:=s.notes.filter (fun y=>decide (y.1≠v)),Qc:=s.Qc.filter (fun y=>decide (y.1.1≠v)) } m→Qt base m m wc w2→Qd base [1000000] wc w2→
   QO w2 base Sb (Jv s v []) m∧Qt base m m w w2∧Qh w2 X 28 #[.pointer (some ⟨Sb,0,none⟩)]∧Qh w2 Y 2 #[.int .i64 v]∧Qh w2 k7 9 #[.string ⟨was.toArray⟩]∧Qh w2 k8 4 #[.bool th]∧SK.In w2 G (QS s v).length (QC (QS s v))∧G≠m.Pb from
  fun w2 G q1 q2 q3 q4 q5=>⟨by rw[WQ];exact q3,(Qt.Qe (m:=m) (a6.o.trans (E.mono b3)) aE).trans q4,ag.keeps q5 (by decide),ad.keeps q5 (by decide),h7.keeps q5 (by decide),h8.keeps q5 (by decide),q2,by have:=a8.pmap.lt;omega⟩)
 clear h7 h8 E ag ad a8 S0 V H1 HX HY;go_upto_region 5 with(go_at_call 117;refine FG.o.mono ?_;rintro en w2 ⟨G,rfl,q1,q2,q3,q4,q5⟩;(have H2:=Qa (HE.o w2 G q1 q2 q3 q4 q5));clear q1 q2 q3 q4 q5)
 have H3:=Qa (show QO (w2.alloc (.cells #[.map (some G)] 125)) base Sb (Jv s v []) m∧Qt base m m w (w2.alloc (.cells #[.map (some G)] 125))∧Qh (w2.alloc (.cells #[.map (some G)] 125)) X 28 #[.pointer (some ⟨Sb,0,none⟩)]∧Qh (w2.alloc (.cells #[.map (some G)] 125)) Y 2 #[.int .i64 v]∧Qh (w2.alloc (.cells #[.map (some G)] 125)) k7 9 #[.string ⟨was.toArray⟩]∧Qh (w2.alloc (.cells #[.map (some G)] 125)) k8 4 #[.bool th]∧
   SK.In (w2.alloc (.cells #[.map (some G)] 125)) G (QS s v).length (QC (QS s v))∧G≠m.Pb∧Qh (w2.alloc (.cells #[.map (some G)] 125)) w2.heap.size 125 #[.map (some G)]from by
  have ab:Below w2.heap.size w2 (w2.alloc (.cells #[.map (some G)] 125)):=bR.alloc nR _;obtain⟨q1,q2,q3,q4,q5,q6,q7,q8⟩:=H2.o;exact⟨q1.below ab,q2.trans (Qt.Qe (m:=m) ab q1.lt),q3.alloc _,q4.alloc _,q5.alloc _,q6.alloc _,q7.below ab,q8,Qh.new _ _ _⟩)
 clear H2 HE FG x0 y0;generalize w2.alloc (.cells #[.map (some G)] 125)=w3 at*
 generalize w2.heap.size=M at*
 have c6:w3.cell? ⟨k8,0,none⟩=some (.bool th):=H3.o.2.2.2.2.2.1.cell 0;have cM:w3.cell? ⟨M,0,none⟩=some (.map (some G)):=H3.o.2.2.2.2.2.2.2.2.cell 0;have J:SK.Keys (QC (QS s v)) ((QS s v).map (·.1)):=JO (List.Pairwise.filter _ HK.o.Vn) (fun x hx=>HK.o.num x (List.mem_filter.1 hx).1);have T:(Builtin.len_ #[125] 3 #[.map (some G)]).run prog w3=.ok (.int .i64 (QS s v).length) w3:=by
  obtain⟨D,hD,Q⟩:=H3.o.2.2.2.2.2.2.1;have:=hD.len underlying125 3;rwa [KV.size hD Q J,List.length_map]at this
 have g:th= !decide (QC s.notes v=none):=by
  rw[aI.o];cases QC s.notes v<;>rfl
 by_cases hno:QC s.notes v=none∧QS s v=[]
 ·have hq:∀gone,JX s v gone=(6,s):=fun gone=>by unfold JX;rw[if_pos hno]
  have ht:th=false:=by rw[g];simp[hno.1]
  have n:(QS s v).length=0:=by rw[hno.2];rfl
  have aS:=Qa (show (JX s v []).1=0→SK.Keys (QC (QS s v)) (([]:List (Qj × Qx)).map (·.1)) from fun e=>by rw[hq]at e;cases e)
  have HQ:=Qa (show Xy w w3 base Sb m (JX s v []) (.returned (.int .i64 6)) from by
   rw[hq];exact⟨rfl,m,by rw[←NO hno.1 hno.2];exact H3.o.1,H3.o.2.1⟩)
  rw[n]at T;subst ht;clear hq J g hno n;go_wp2_with fail;go_ret;exact⟨[],by simp,aS.o,HQ.o⟩
 go_cut [31] (fun v31 wx=>v31=.bool false∧wx=w3)
 case first=>
  cases th with
  |true=>
   clear hno g J;go_wp2_with fail;go_meet;exact⟨rfl,rfl⟩
  |false=>
   have n:¬(((QS s v).length:Int)=0):=fun e=>hno ⟨by simpa using g.symm,List.eq_nil_of_length_eq_zero (by omega)⟩
   have bt:(((QS s v).length:Int)==0)=false:=by simpa using n
   clear hno g J;go_wp2_with fail;go_meet;exact⟨rfl,rfl⟩
 obtain⟨rfl,rfl⟩:=hcut;clear c6 cM T g;obtain⟨P,aB,B,F,ac,W,aA,U,ah⟩:=H3.o
 have a5:∀gone,JX s v gone=match Qy (Jv s v []) s (70,Qi [v])with
   |(0,s1)=>(0,{ s1 with map:=gone.foldl (fun m y=>Jk m y.2) s1.map })
   |(e,s1)=>(e,s1):=fun gone=>by unfold JX;rw[if_neg hno]
 have b1:=P.lt;have b7:=P.blk.lt;have b9:=B.lt;have b6:=F.lt;have a1: -9223372036854775808≤v∧v≤9223372036854775807:=by
  unfold ZX at hwv;have h1:IntKind.i64.min= -9223372036854775808:=rfl;have h2:IntKind.i64.max=9223372036854775807:=rfl;simp[Lit.wf,h1,h2]at hwv;exact⟨by omega,by omega⟩
 have ar:=KX [v] (by simpa using a1)
 have ai:=Qa (show ∀wy,Below wc.heap.size wc wy→Calls prog 123 #[.slice (some ⟨wy.heap.size,0,none⟩) 1 1] (wy.alloc (.cells #[.int .i64 v] 2)) fun e w'=>e=.returned (.string ⟨(Qi [v]).toArray⟩)∧Below wy.heap.size wy w' from fun wy hy=>by
  have h1:Below wy.heap.size wy (wy.alloc (.cells #[.int .i64 v] 2)):=bR.alloc nR _;have:=XC (w:=wy.alloc (.cells #[.int .i64 v] 2)) [v] (some ⟨wy.heap.size,0,none⟩) 1 (Sl.Ja (Qh.new wy 2 _) rfl).1 (by simp) (by simpa using a1) ((H3.o.1.below hy).Rn.tb.below h1);exact this.mono fun e w' ⟨he,hb⟩=>⟨he,h1.trans (hb.mono h1.size)⟩)
 have a0:=Qa (show ∀wy,Calls prog 71 #[.int .u8 70,.string ⟨(Qi [v]).toArray⟩] wy fun e w'=>Kz wy w' (70,Qi [v]) e from fun wy=>VA (w:=wy) 70 (Qi [v]));have an:(Qi [v]).length<1099511627776:=by
  simp only[List.length_cons,List.length_nil]at ar;omega
 have K:=Qa (show ∀wy A c,Below wc.heap.size wc wy→Kb wy A (Qi [v])→(Qi [v]).length≤c→Calls prog 70 #[.pointer (some ⟨Sb,0,none⟩),.agg #[.int .u8 70,.slice A (Qi [v]).length c],.func (.func 133) #[] #[.pointer (some ⟨X,0,none⟩),.pointer (some ⟨M,0,none⟩),.pointer (some ⟨k8,0,none⟩),.pointer (some ⟨k7,0,none⟩),.pointer (some ⟨Y,0,none⟩)]] wy fun e w'=>e=.returned (.int .i64 (Qy (Jv s v []) s (70,Qi [v])).1)∧QO w' base Sb (Qy (Jv s v []) s (70,Qi [v])).2 m∧Qt base m m w w'∧(Qy (Jv s v []) s (70,Qi [v])).2.map=s.map∧Qh w' X 28 #[.pointer (some ⟨Sb,0,none⟩)]∧Qh w' Y 2 #[.int .i64 v]∧Qh w' M 125 #[.map (some G)]∧((Qy (Jv s v []) s (70,Qi [v])).1=0→SK.In w' G (QS s v).length (QC (QS s v))) from fun wy A c hy hby hc=>by
  have hh:=P.below hy;have aU:=HK.o.Xu v;have hx:=B.below hy B.lt;have a3:=F.below hy F.lt;have hz:=ac.below hy ac.lt;have aP:=W.below hy W.lt;have a2:=ah.below hy ah.lt;have aq:=aA.below hy;have ay:=aB.trans (Qt.Qe (m:=m) hy b1);have bo:=HK.o.nN;have bq:=HK.o.nS;have bm:=HK.o.nM;have bn:(Jv s v []).Qc.length≤s.Qc.length:=List.length_filter_le _ _;have br:(Jv s v []).notes.length≤s.notes.length:=List.length_filter_le _ _
  have:=Xz hh aU (by have:=HK.o.wt;show s.d.waits.length≤_;omega) (by have:=HK.o.ep;show s.log.epoch+2<_;omega) HK.o.at' HK.o.D8 (70,Qi [v]) (by show 70<256;decide) an A c hby hc
   (by rw[Vd,List.length_append,List.length_append,List.length_map,List.length_map,List.length_map];show(Jv s v []).notes.length+(Jv s v []).Qc.length+s.marks.length≤_;omega)
   133 #[.pointer (some ⟨X,0,none⟩),.pointer (some ⟨M,0,none⟩),.pointer (some ⟨k8,0,none⟩),.pointer (some ⟨k7,0,none⟩),.pointer (some ⟨Y,0,none⟩)] (fun _ _=>rfl)
   (fun w'=>QO w' base Sb (Qy (Jv s v []) s (70,Qi [v])).2 m∧Qt base m m w w'∧(Qy (Jv s v []) s (70,Qi [v])).2.map=s.map∧Qh w' X 28 #[.pointer (some ⟨Sb,0,none⟩)]∧Qh w' Y 2 #[.int .i64 v]∧Qh w' M 125 #[.map (some G)]∧((Qy (Jv s v []) s (70,Qi [v])).1=0→SK.In w' G (QS s v).length (QC (QS s v))))
   (fun w' d l hd hk hs=>by
    rw[XF hd];exact⟨hs,ay.trans (Qt.of hk (by simp)),rfl,hx.keeps hk (by decide),a3.keeps hk (by decide),a2.keeps hk (by decide),fun _=>aq.keeps hk (by decide)⟩)
   (fun wz e d l hd he hk hs=>by
    rw[XE hd he];refine(WY (s:={ s with d:=d,log:=l }) (v:=v) (G:=G) (was:=was) (there:=th) hs hwv (aq.keeps hk (by decide)) U (hx.keeps hk (by decide)) (a2.keeps hk (by decide)) (aP.keeps hk (by decide)) (hz.keeps hk (by decide)) (a3.keeps hk (by decide)) ?_ (show MF { s with d:=d,log:=l }from⟨HK.o.Vn,HK.o.num,HK.o.VL,HK.o.Xv,HK.o.Xk,HK.o.l.nS,HK.o.l.nN,HK.o.l.nM⟩) (by show s.Qc.length<_;omega) (by show s.notes.length<_;omega)).mono ?_
    ·show QC s.notes v=if th=true then some was else none
     rw[aI.o,ak.o];cases QC s.notes v<;>rfl
    rintro en w' ⟨h1,h2,h3,h4⟩;exact⟨h1,h2,(ay.trans (Qt.of hk (by simp))).trans h3,rfl,(hx.keeps hk (by decide)).keeps h4 (by decide),(a3.keeps hk (by decide)).keeps h4 (by decide),(a2.keeps hk (by decide)).keeps h4 (by decide),fun e0=>absurd e0 he⟩)
  rw[←V5 (was:=s)]at this;exact this)
 have q:=Qa (show ∀wy,Below wc.heap.size wc wy→wy.cell? ⟨X,0,none⟩=some (.pointer (some ⟨Sb,0,none⟩))∧wy.cell? ⟨Y,0,none⟩=some (.int .i64 v) from fun wy hy=>⟨(B.below hy B.lt).cell 0,(F.below hy F.lt).cell 0⟩);have S1:=Qa (q.o _ bR.drew);clear ar an a1 P aB B F ac W aA U ah;obtain⟨lg,aF⟩:=eX (Qy (Jv s v []) s (70,Qi [v]));rw[←aF]at a5 K;clear aF;generalize Qi [v]=bs at*
 obtain⟨er,s6⟩:=lg;have HQ:=Qa a5;clear a5;go_upto_region 7 with fail;go_cut [8] (fun v8 wx=>v8=.int .i64 er∧QO wx base Sb s6 m∧Qt base m m w wx∧s6.map=s.map∧Qh wx X 28 #[.pointer (some ⟨Sb,0,none⟩)]∧Qh wx M 125 #[.map (some G)]∧(er=0→SK.In wx G (QS s v).length (QC (QS s v))))
 case first=>
  go_region_held3 (fun wy=>wy.cell? ⟨X,0,none⟩=some (.pointer (some ⟨Sb,0,none⟩))∧wy.cell? ⟨Y,0,none⟩=some (.int .i64 v))
   (first|exact S1.o|exact S7.o|exact q.o _ a9.o|exact q.o _ L.o|(refine q.o _ ?_;repeat' (first|exact bR|exact a9.o|exact L.o|refine Below.drew ?_|refine Below.alloc ?_ (by simp) _)))
   (first
    |(go_at_call 123;refine(ai.o _ bR.drew).mono ?_;rintro en w3 ⟨rfl,aD⟩;(have L:Qb (Below wc.heap.size wc w3):=bR.drew.trans aD);clear aD)
    |(go_at_call 71;refine(a0.o _).mono ?_;rintro en w4 ⟨⟨A4,c4,rfl,aK,aO⟩,N⟩;(have aV:=Qa aK);(have aW:=Qa aO);(have a9:Qb (Below wc.heap.size wc w4):=L.o.trans (N.mono L.o.size));clear aK aO N)
    |(go_at_call 70;refine(K.o _ _ _ a9.o aV.o aW.o).mono ?_;rintro en w7 ⟨rfl,h7,aM,m7,x7,y7,z7,i7⟩;(have H7:=Qa (And.intro h7 (And.intro aM (And.intro m7 (And.intro x7 (And.intro z7 i7))))));(have S7:=Qa (And.intro (x7.cell 0) (y7.cell 0)));clear h7 aM m7 x7 y7 z7 i7))
  all_goals
   go_wp2_with fail;go_meet;exact⟨rfl,H7.o⟩
 obtain⟨rfl,h7,r,m7,x7,z7,i7⟩:=hcut;by_cases he:er=0
 ·subst he;have b4:=i7 rfl;obtain⟨D,hD,Q⟩:=b4;have HD:=Qa Q;have bp:m.M<w.heap.size:=by
   obtain⟨_,_,_,_,_,A,c,hB,_,_⟩:=HH.o.map;exact hB.lt
  have cM:wc.cell? ⟨M,0,none⟩=some (.map (some G)):=z7.cell 0;have aL:=r.below.size;have bi:=r.below.size;clear K a0 ai q S1 i7 z7;have H7:=Qa h7;have K7:=Qa r;have X7:=Qa x7;have am:m.M≠G:=by
   obtain⟨_,_,_,_,_,A,c,hB,_,_⟩:=h7.map;rintro rfl;obtain⟨es,cl,hm,_⟩:=hD;unfold Qh at hB;rw[hm]at hB;cases hB
  have aw:=x7.lt;clear h7 r x7 Q;go_wp2_with (at_range;refine wpList_range_own _ rfl _ 125 rfl 73 142 Vs underlying125 _ G _ D rfl hD ?_;intro w5 b hg5 i);try go_frame
  have p:Below wc.heap.size wc w5:=Qg hg5 nR (fun k hk=>by cases hk);have al:=Qa (H7.o.below p);have av:=Qa (K7.o.trans (Qt.Qe (m:=m) p H7.o.lt));have aH:=Qa (X7.o.below p aw);have b0:base≤wc.heap.size:=H7.o.lt;obtain⟨R,hR⟩:=eX wc.heap.size;rw[←hR]at b aL b0;rw[←hR];clear hR p hg5 i hD H7 K7 X7 cM
  go_loopw [10] (fun _ wq=>∃(left:Lit→Bool) (cnt:Nat) (gone:List (Qj × Qx)),wq.ranges prog 73 SK.R G R (QS s v).length D left cnt∧SK.Y8 (QC (QS s v)) left (gone.map (·.1))∧(∀y∈gone,y∈QS s v)∧QO wq base Sb { s6 with map:=gone.foldl (fun m y=>Jk m y.2) s6.map } m∧Qt base m m w wq∧Qh wq X 28 #[.pointer (some ⟨Sb,0,none⟩)])
   (fun _ wq=>wq.rangeLeft G R)
  case atStart=>exact⟨_,_,[],b,KV.Y8.start HD.o,by simp,al.o,av.o,aH.o⟩
  obtain⟨left,cnt,gone,u,hC,ae,hs,hk,hx⟩:=hrel;clear b al av aH;go_wp2_with (at_next;refine wpList_next_ranges _ rfl _ rfl 73 Vs SK.R QZ Kv (fun key kl hk=>by obtain⟨x,_,hx,_⟩:=Je hk;exact⟨x,hx⟩) (fun v y hv=>UT hv) G R (QS s v).length _ _ _ rfl u ?_ ?_)
  ·intro hc0 n
   have aN:=Qa (show Xy w wr base Sb m (JX s v gone) (.returned (.int .i64 0)) from by
    rw[HQ.o];exact⟨rfl,m,hs,hk⟩)
   have aR:=Qa ae;have b2:=Qa (hC.done n);clear u hC hs hk n hc0 ae hx;go_wp2_with fail;go_ret;exact⟨gone,aR.o,fun _=>b2.o,aN.o⟩
  intro x1 x2 c kl yd yp w4 cnt2 hkey hlk hv' hat hrg2 hlt2 hg2 hs2 hen;obtain⟨x',aG,ex,rfl⟩:=Je hkey;obtain rfl:(x1,x2)=x':=V6 ex;obtain⟨a,ha,ao⟩:=KV.Yd.here HD.o aG hat;obtain rfl:a=c:=by
   obtain⟨a',h1,h2⟩:=Ou hv';injection h2 with h2 _;have h3:c=a':=Yh h1;rw[h2]at ao;exact(Zi ao).symm.trans h3.symm
  have aY:=hC.step aG hlk (by rw[ha];rfl);have S:=Vt ha;have a7:=HK.o.num _ (List.mem_filter.1 S).1;obtain⟨at',len,f,mk⟩:=a;obtain⟨aa,haa⟩:∃aa:Nat,at'=aa:=⟨at'.toNat,by have:=a7.1.2.2.1;simp only at this;omega⟩;subst haa;have bc:aa≤65536:=by have:=a7.1.2.2.1;simp only at this;omega
  have bh:len≤1048576:=a7.2;have ax:(Instr.entry (.pointer (some ⟨R,0,none⟩))).run prog w4=.ok (.tuple #[.agg #[.int .i64 x1,.int .i64 x2],.agg #[.int .i64 aa,.int .i64 len,.int .i64 f,.int .i64 mk]]) w4:=hen;clear hen hs2 hkey;rw[show QZ (x1,x2)=.agg #[.int .i64 x1,.int .i64 x2]from rfl,show Kv ⟨(aa:Int),len,f,mk⟩=.agg #[.int .i64 aa,.int .i64 len,.int .i64 f,.int .i64 mk]from rfl];have au:Qb ((prog.info? 142).map (·.size)=some 4):=Sg;have HA:=Qa (Qh.new w4 142 #[.int .i64 0,.int .i64 0,.int .i64 0,.int .i64 0]);go_upto_region 12 with(refine wpList_store_row rfl 142 _ _ rfl w4.heap.size #[.int .i64 aa,.int .i64 len,.int .i64 f,.int .i64 mk] rfl rfl 142 _ HA.o au.o rfl (by simp[Value.oneCell']) ?_;rw[World.setRow_alloc_new]);go_frame;have b8:=u.lt;have ba:=u.owns.lt;have aj:=hs.lt;have az:base≤w.heap.size:=aE;have O:Qd base [] wr w4:=Qd.JY hg2 aj fun k hk=>⟨by injection hk with hk;omega,fun t ht=>by injection hk with hk;subst hk;obtain⟨_,_,_,_,_,_,_,_,_,e,_⟩:=u;simp[VG,e]at ht⟩
  have N:base≤w4.heap.size:=Nat.le_trans aj O.below.size;have a4:Below w4.heap.size w4 (w4.alloc (.cells #[.int .i64 aa,.int .i64 len,.int .i64 f,.int .i64 mk] 142)):=bR.alloc nR _;have aC:=(MQ hk hg2 (by omega) az).trans (Qt.Qe (m:=m) a4 N);have i:=(hs.keeps O nR (by simp)).below a4;have H:=(hx.keeps O (by simp)).alloc (.cells #[.int .i64 aa,.int .i64 len,.int .i64 f,.int .i64 mk] 142);have b:=hrg2.alloc (.cells #[.int .i64 aa,.int .i64 len,.int .i64 f,.int .i64 mk] 142);have C:=Qh.new w4 142 #[.int .i64 aa,.int .i64 len,.int .i64 f,.int .i64 mk];clear HA ax hg2 hrg2 hs hk hx O a4;generalize w4.alloc (.cells #[.int .i64 aa,.int .i64 len,.int .i64 f,.int .i64 mk] 142)=w5 at*
  generalize w4.heap.size=Z at*
  have p:=i.lt;have af:=(Ue gone HK.o.map).1;rw[←m7]at af;have dr:Below w5.heap.size w5 w5.drew:=bR.drew;have b5:=Qa (show Calls prog 108 #[.pointer (some ⟨m.M,0,none⟩),.agg #[.int .i64 aa,.int .i64 len]] w5.drew fun e w'=>GV.Pz w5.drew w' base m.M (JF (gone.foldl (fun m y=>Jk m y.2) s6.map) aa len) e from GV.TX (i.map.below dr) af (Nat.le_trans p dr.size) aa len (by omega) (by omega));have S0:=Qa (show w5.drew.cell? ⟨X,0,none⟩=some (.pointer (some ⟨Sb,0,none⟩))∧w5.drew.cell? ⟨Sb,3,none⟩=some (.pointer (some ⟨m.M,0,none⟩))∧w5.drew.cell? ⟨Z,0,none⟩=some (.int .i64 aa)∧w5.drew.cell? ⟨Z,1,none⟩=some (.int .i64 len) from ⟨H.drew.cell 0,i.blk.drew.cell 3,C.drew.cell 0,C.drew.cell 1⟩)
  have NX:=Qa (show ∀w',GV.Pz w5.drew w' base m.M (JF (gone.foldl (fun m y=>Jk m y.2) s6.map) aa len) (.returned (.int .i64 (JF (gone.foldl (fun m y=>Jk m y.2) s6.map) aa len).1))→
    (w'.cell? ⟨X,0,none⟩=some (.pointer (some ⟨Sb,0,none⟩))∧w'.cell? ⟨Sb,3,none⟩=some (.pointer (some ⟨m.M,0,none⟩))∧w'.cell? ⟨Z,0,none⟩=some (.int .i64 aa)∧w'.cell? ⟨Z,1,none⟩=some (.int .i64 len))∧
    w'.ranges prog 73 SK.R G R (QS s v).length D (fun z=>left z&& !z.sameKey (Ro (x1,x2))) cnt2∧QO w' base Sb { s6 with map:=(gone++[((x1,x2),(⟨(aa:Int),len,f,mk⟩:Qx))]).foldl (fun m y=>Jk m y.2) s6.map } m∧Qt base m m w w'∧Qh w' X 28 #[.pointer (some ⟨Sb,0,none⟩)]from fun w' hq=>by
   obtain⟨⟨_,g2,g3⟩,g4⟩:=hq;have j:Qd base [220] w5 w':=(Qd.Qe dr p).trans g3;have gl:G<w5.heap.size:=b.owns.lt;have rl:R<w5.heap.size:=b.lt;refine⟨⟨(H.keeps j (by decide)).cell 0,(i.blk.keeps j (by decide)).cell 3,(C.keeps j (by decide)).cell 0,(C.keeps j (by decide)).cell 1⟩,MU b (g4 G gl am.symm) (g4 R rl (by omega)), ?_,aC.trans (Qt.of j (by simp)),H.keeps j (by decide)⟩;rw[List.foldl_append];simp only[List.foldl_cons,List.foldl_nil];rw[P6];exact i.mapped j g2)
  have bk:=H.lt;have bf:=i.blk.lt;have bl:=C.lt;clear i H b C aC af dr
  go_region_held3 (fun wy=>wy.cell? ⟨X,0,none⟩=some (.pointer (some ⟨Sb,0,none⟩))∧wy.cell? ⟨Sb,3,none⟩=some (.pointer (some ⟨m.M,0,none⟩))∧wy.cell? ⟨Z,0,none⟩=some (.int .i64 aa)∧wy.cell? ⟨Z,1,none⟩=some (.int .i64 len))
   (first|exact S0.o|exact S8.o.1)
   (first|(go_at_call 108;refine b5.o.mono ?_;rintro en w8 ⟨⟨rfl,g2,g3⟩,g4⟩;(have S8:=Qa (NX.o w8 ⟨⟨rfl,g2,g3⟩,g4⟩));clear g2 g3 g4))
  all_goals
   go_wp2_with fail;obtain⟨_,aJ,aT,aZ,aX⟩:=S8.o;go_roundw
   case rel=>exact⟨_,cnt2,gone++[((x1,x2),(⟨(aa:Int),len,f,mk⟩:Qx))],aJ,by rw[List.map_append];exact aY,fun y hy=>by
    rcases List.mem_append.1 hy with hy|hy
    ·exact ae y hy
    rw[List.mem_singleton]at hy;subst hy;exact S,aT,aZ,aX⟩
   case measure=>rw[aJ.left_eq,u.left_eq];exact hlt2
 have bj:((er:Int)==0)=false:=by simp;omega
 have bg:¬((er:Int)=0):=by omega
 have HE:=Qa (show Xy w wc base Sb m (JX s v []) (.returned (.int .i64 er)) from by
  rw[HQ.o];cases er with
  |zero=>exact absurd rfl he
  |succ e=>exact⟨rfl,m,h7,r⟩)
 have aQ:=Qa (show (JX s v []).1=0→SK.Keys (QC (QS s v)) (([]:List (Qj × Qx)).map (·.1)) from fun e0=>by
  rw[HQ.o]at e0;cases er with
  |zero=>exact absurd rfl he
  |succ e=>cases e0)
 clear he h7 r x7 z7 i7 K a0 ai q S1;go_wp2_with fail;go_ret;exact⟨[],by simp,aQ.o,HE.o⟩
end
section
open Go.Shelf Go.Sort
variable {A:Option Addr} {Sb base c:Nat} {m:KY} {s:QM} {w:World}
theorem QO.TA{l':List (List UInt8)}(h:QO w base Sb s m)(ho:w.ownsRow base 9 1 (.slice A l'.length c) l'.length (l'.map Qw)):
  QO (w.setCell ⟨Sb,6,none⟩ (.slice A l'.length c)) base Sb { s with marks:=l' } { m with A:=A,c:=c }∧Qd base [129] w (w.setCell ⟨Sb,6,none⟩ (.slice A l'.length c)):=by
 have k5:Qd base [129] w (w.setCell ⟨Sb,6,none⟩ (.slice A l'.length c)):=(Qd.refl base [129] w).set h.blk h.low (by simp) _;have b5:Qh (w.setCell ⟨Sb,6,none⟩ (.slice A l'.length c)) Sb 129 (Ef { s with marks:=l' } { m with A:=A,c:=c }):=by
  have:=h.blk.set 6 (.slice A l'.length c);unfold Ef at this ⊢;simpa using this
 exact⟨h.Pv (k5.mono nR (by simp)) b5 (QF ho k5 (by decide)),k5⟩
variable {X Z n:Nat}
theorem SO(h:QO w base Sb s m)(hx:Qh w X 28 #[.pointer (some ⟨Sb,0,none⟩)])(hz:Qh w Z 33 #[.slice A n c])(l:List (List UInt8))(hn:n=l.length)(ho:w.ownsRow base 9 1 (.slice A n c) n (l.map Qw)):
  Calls prog 135 #[.pointer (some ⟨Z,0,none⟩),.pointer (some ⟨X,0,none⟩)] w fun e w'=>e=.returned (.tuple #[])∧QO w' base Sb { s with marks:=l } { m with A:=A,c:=c }∧Qd base [129] w w':=by
 subst hn;obtain⟨h1,h2⟩:=h.TA ho;have HO:=Qa (And.intro h1 h2);have c0:w.cell? ⟨X,0,none⟩=some (.pointer (some ⟨Sb,0,none⟩)):=hx.cell 0;have c1:w.cell? ⟨Z,0,none⟩=some (.slice A l.length c):=hz.cell 0;have c6:w.cell? ⟨Sb,6,none⟩=some (.slice m.A s.marks.length m.c):=h.blk.cell 6;have f6:=h.blk.free 6;have xl:=hx.lt;have zl:=hz.lt;have bl:=h.blk.lt;clear h h1 h2 hx hz ho;go_enter func135,ntmps135;go_wp2_with fail
 go_end0
 exact⟨rfl,HO.o⟩
theorem XA.trimmed(ok:XA s)(k:Nat):MF { s with marks:=s.marks.drop k }:=by
 have h:=ok.l;refine⟨h.Vn,h.num,h.VL,h.Xv,fun x hx=>h.Xk x (List.mem_of_mem_drop hx),h.nS,h.nN, ?_⟩;have:=ok.nM;show(s.marks.drop k).length≤_;rw[List.length_drop];omega
variable {e j:Nat} {xs:List Value}
theorem Dt(h:w.ownsRow base e 1 (.slice A n c) n xs)(hj:j≤n):Rd w w.heap.size 1 (if c=j then A else Option.map (fun x=>x.add j) A) (n-j) (xs.drop j):=by
 have hr:=Zy h;obtain⟨_,_,hv,a0⟩:=Jg h;injection hv with _ _ hv;subst hv;refine⟨by rw[List.length_drop,hr.1];omega,fun hn=> ?_⟩;obtain⟨b,o,rfl,hb,hc⟩:=hr.2 (by omega);have a:¬c=j:=by omega
 rw[if_neg a];refine⟨b,o+j,by simp[J3],hb,fun i hi=> ?_⟩;rw[List.length_drop]at hi;have:=hc (j+i) (by omega);rw[List.getElem_drop,←this];congr 2;omega
variable {w':World}
theorem Qt.fresh{ts:List TypeId}(h:Qd base ts w w')(ht:∀t∈ts,t∈([121,165,167,216,137,220,129]:List TypeId))(hf:∀a,A=some a→w.heap.size≤a.block):Qt base m { m with A:=A,c:=c } w w':=
 ⟨h.below,fun k t hk hn _ _ _=>h.old k t hk (fun hm=>hn (ht t hm)),rfl,rfl,rfl,rfl,rfl,fun a h=>.inr (hf a h)⟩
theorem ER(h:QO w base Sb s m)(ok:XA s)(keep:Int)(hkp:keep<1000):
  Calls prog 77 #[.pointer (some ⟨Sb,0,none⟩),.int .i64 keep] w fun e w'=>Xy w w' base Sb m (KT s keep) e:=by
 have HH:=Qa h;have HK:=Qa ok;have E:=h.lt;have aq:=h.blk.lt;have HX:=Qa (Qh.new w 28 #[.pointer (some ⟨Sb,0,none⟩)]);have f:Qb (Below w.heap.size w (w.alloc (.cells #[.pointer (some ⟨Sb,0,none⟩)] 28))):=bR.alloc nR _;obtain⟨q,hq⟩:=eX (KT s keep);rw[←hq];have HQ:=Qa hq;clear h ok hq;by_cases hk:keep<0
 ·have v:q=(1,s):=by rw[HQ.o];unfold KT;rw[if_pos hk]
  subst v;have c0:(w.alloc (.cells #[.pointer (some ⟨Sb,0,none⟩)] 28)).cell? ⟨w.heap.size,0,none⟩=some (.pointer (some ⟨Sb,0,none⟩)):=HX.o.cell 0;have xl:=HX.o.lt;go_enter func77,ntmps77;go_wp2_with fail;go_ret;exact⟨rfl,m,HH.o.below f.o,Qt.Qe f.o E⟩
 obtain⟨n,hn⟩:=eX s.marks.length;obtain⟨k,V⟩:=eX (min keep.toNat n);have au:k≤n:=by omega
 have a2:(k:Int)=min keep (n:Int):=by omega
 have v:q=Qy { s with marks:=s.marks.drop (n-k) } s (84,Qi [(k:Int)]):=by
  rw[HQ.o];unfold KT;rw[if_neg hk,←hn,←V]
 have H1:=Qa (HH.o.below f.o);have ah:=f.o.size;have ac:=HK.o.nM;rw[←hn]at ac;have HN:=Qa hn;have c0:(w.alloc (.cells #[.pointer (some ⟨Sb,0,none⟩)] 28)).cell? ⟨w.heap.size,0,none⟩=some (.pointer (some ⟨Sb,0,none⟩)):=HX.o.cell 0;have c6:(w.alloc (.cells #[.pointer (some ⟨Sb,0,none⟩)] 28)).cell? ⟨Sb,6,none⟩=some (.slice m.A n m.c):=by rw[hn];exact H1.o.blk.cell 6
 have xl:=HX.o.lt;have ad:=H1.o.blk.lt;clear hn V;go_enter func77,ntmps77;go_upto_region 7 with fail;rw[←a2];clear a2;have L:Qb (Below w.heap.size w ((w.alloc (.cells #[.pointer (some ⟨Sb,0,none⟩)] 28)).alloc (.cells #[.slice m.A n m.c] 33))):=f.o.alloc (by simp) _;have i:=Qa (HX.o.alloc (.cells #[.slice m.A n m.c] 33));have j:=Qa (show Qh ((w.alloc (.cells #[.pointer (some ⟨Sb,0,none⟩)] 28)).alloc (.cells #[.slice m.A n m.c] 33)) (w.heap.size+1) 33 #[.slice m.A n m.c] from Qh.Qz (by simp));generalize (w.alloc (.cells #[.pointer (some ⟨Sb,0,none⟩)] 28)).alloc (.cells #[.slice m.A n m.c] 33)=w2 at*
 have T:=L.o.size;have ao:base≤w2.heap.size:=Nat.le_trans E T;have H2:=Qa (HH.o.below L.o);obtain⟨Z,hZ⟩:=eX (w.heap.size+1);obtain⟨X,hX⟩:=eX w.heap.size;rw[←hZ]at j ⊢;rw[←hX]at i ⊢;clear hZ hX c0 c6 xl ad H1 HX f ah;obtain⟨i9,I,G,J,H⟩:=info_parts Gk
 have SK:=Qa (show ∀wy,Below w2.heap.size w2 wy→wy.cell? ⟨X,0,none⟩=some (.pointer (some ⟨Sb,0,none⟩))∧wy.cell? ⟨Z,0,none⟩=some (.slice m.A n m.c) from fun wy hy=>
  ⟨(i.o.below hy i.o.lt).cell 0,(j.o.below hy j.o.lt).cell 0⟩)
 obtain⟨d1,d2⟩:=SK.o _ bR.drew;have q1:0≤(n:Int)-(k:Int):=by omega
 have q2:(n:Int)-(k:Int)≤(n:Int):=by omega
 have q3:IntKind.i64.wrap ((n:Int)-(k:Int))=(n:Int)-(k:Int):=by rw[IntKind.wrap_i64];omega
 have K:Qb (w2.drew.ownsRow base 9 1 (.slice none 0 0) 0 []):=Qa ⟨rfl,.inl ⟨rfl,rfl⟩⟩;go_cut [4] (fun v4 wx=>v4=.int .i64 0∧∃A c,QO wx base Sb { s with marks:=s.marks.drop (n-k) } { m with A:=A,c:=c }∧Qd base [129] w wx∧Qh wx X 28 #[.pointer (some ⟨Sb,0,none⟩)]∧Qh wx Z 33 #[.slice m.A n m.c]∧wx.ownsRow base 9 1 (.slice m.A n m.c) n (s.marks.map Qw)∧(∀a,A=some a→w.heap.size≤a.block))
 case first=>
  obtain⟨p,hp⟩:=eX (n-(n-k));have W:p=(s.marks.drop (n-k)).length:=by rw[List.length_drop,←HN.o,hp]
  have a3:Qb (w2.drew.ownsRow base 9 1 (.slice m.A n m.c) n (s.marks.map Qw)):=Qa (by
   have:=(H2.o.below bR.drew).Xk;rw[HN.o];exact this)
  have a8:Qb (Rd w2.drew w2.drew.heap.size 1 (if m.c=n-k then m.A else Option.map (fun x=>x.add (n-k)) m.A) (n-(n-k)) ((s.marks.drop (n-k)).map Qw)):=Qa (by
   rw[List.map_drop];exact Dt a3.o (by omega))
  have a7:Qb (∀u∈(s.marks.drop (n-k)).map Qw,u.oneCell'=true):=Qa (fun u hu=>by
   obtain⟨t,_,rfl⟩:=List.mem_map.1 hu;rfl)
  have a0:=Qa (show ∀w4 A c,w4.ownsRow base 9 1 (.slice A (0+(n-(n-k))) c) (0+(n-(n-k))) ([]++(s.marks.drop (n-k)).map Qw)→w2.drew.grownBy w4 (Value.slice none 0 0).ownBlock→((Value.slice A (0+(n-(n-k))) c).ownBlock=(Value.slice none 0 0).ownBlock∨(Value.slice A (0+(n-(n-k))) c).ownBlock=some w2.drew.heap.size)→
    (∃A' c',QO (w4.setCell ⟨Sb,6,none⟩ (.slice A (n-(n-k)) c)) base Sb { s with marks:=s.marks.drop (n-k) } { m with A:=A',c:=c' }∧Qd base [129] w (w4.setCell ⟨Sb,6,none⟩ (.slice A (n-(n-k)) c))∧Qh (w4.setCell ⟨Sb,6,none⟩ (.slice A (n-(n-k)) c)) X 28 #[.pointer (some ⟨Sb,0,none⟩)]∧Qh (w4.setCell ⟨Sb,6,none⟩ (.slice A (n-(n-k)) c)) Z 33 #[.slice m.A n m.c]∧(w4.setCell ⟨Sb,6,none⟩ (.slice A (n-(n-k)) c)).ownsRow base 9 1 (.slice m.A n m.c) n (s.marks.map Qw)∧(∀a,A'=some a→w.heap.size≤a.block))∧
    w4.cell? ⟨Sb,6,none⟩=some (.slice m.A n m.c)∧w4.frozen? ⟨Sb,6,none⟩=false∧Sb<w4.heap.size∧w4.cell? ⟨X,0,none⟩=some (.pointer (some ⟨Sb,0,none⟩))∧w4.cell? ⟨Z,0,none⟩=some (.slice m.A n m.c)from fun w4 A c h1 h2 h3=>by
   have b:Below w2.heap.size w2 w4:=bR.drew.trans (Qg h2 nR (fun k hk=>by cases hk));have h4:=H2.o.below b;have x4:=i.o.below b i.o.lt;have z4:=j.o.below b j.o.lt;have o4:w4.ownsRow base 9 1 (.slice m.A n m.c) n (s.marks.map Qw):=by
    have:=h4.Xk;rw[HN.o];exact this
   rw[←hp,Nat.zero_add,List.nil_append]at h1;rw[←hp,Nat.zero_add]at h3;rw[←hp];have g:=h4.TA (l':=s.marks.drop (n-k)) (A:=A) (c:=c) (by rw[←W];exact h1);rw[←W]at g;obtain⟨g1,g2⟩:=g;have c6:w4.cell? ⟨Sb,6,none⟩=some (.slice m.A n m.c):=by rw[HN.o];exact h4.blk.cell 6
   refine⟨⟨A,c,g1,(Qd.Qe (L.o.trans (b.mono T)) E).trans g2,x4.keeps g2 (by decide),z4.keeps g2 (by decide),QF o4 g2 (by decide),fun a ha=> ?_⟩,c6,h4.blk.free 6,h4.blk.lt,x4.cell 0,z4.cell 0⟩;subst ha;rcases h3 with e|e
   ·simp[Value.ownBlock]at e
   simp[Value.ownBlock]at e;have:w2.drew.heap.size=w2.heap.size:=rfl;omega)
  clear hp
  go_region_law (first
   |(refine Xc _ (by rfl) _ _ 33 (by rfl) base 9 i9 _ 1 16 ZI I G J H rfl (by decide) (.slice none 0 0) 0 [] (by rfl) K.o (if m.c=n-k then m.A else Option.map (fun x=>x.add (n-k)) m.A) (n-(n-k)) _ _ ((s.marks.drop (n-k)).map Qw) (by rfl) a8.o a7.o (by unfold maxLen;omega) (by omega) (by show base≤w2.heap.size;omega) ?_;intro A4 c4 w4 hown4 hgr4 hnc4 hob4;(obtain⟨r,y1,y2,y3,y4,y5⟩:=a0.o w4 A4 c4 hown4 hgr4 hob4);(have Y:=Qa r);clear hown4 hgr4 hob4 r)
   |(go_simp;refine Xc _ (by rfl) _ _ 33 (by rfl) base 9 i9 _ 1 16 ZI I G J H rfl (by decide) (.slice none 0 0) 0 [] (by rfl) K.o (if m.c=n-k then m.A else Option.map (fun x=>x.add (n-k)) m.A) (n-(n-k)) _ _ ((s.marks.drop (n-k)).map Qw) (by rfl) a8.o a7.o (by unfold maxLen;omega) (by omega) (by show base≤w2.heap.size;omega) ?_;intro A4 c4 w4 hown4 hgr4 hnc4 hob4;(obtain⟨r,y1,y2,y3,y4,y5⟩:=a0.o w4 A4 c4 hown4 hgr4 hob4);(have Y:=Qa r);clear hown4 hgr4 hob4 r))
  all_goals go_wp2_with fail
  all_goals
   go_meet;exact⟨rfl,Y.o⟩
 obtain⟨rfl,A4,c4,B,ab,D,N,a4,R⟩:=hcut;have O:=Qa B;have ag:=Qa ab;have z:=Qa D;have a6:=Qa N;have af:=Qa a4;have al:=Qa R;have a9:=B.lt;have ap:=B.blk.lt;have an:=D.lt;clear d1 d2 K SK B ab D N a4 R I G J H q1 q2 q3;have M: -9223372036854775808≤(k:Int)∧(k:Int)≤9223372036854775807:=by omega
 have a1:=KX [(k:Int)] (by simpa using M)
 have am:=Qa (show ∀wy,Below wc.heap.size wc wy→Calls prog 123 #[.slice (some ⟨wy.heap.size,0,none⟩) 1 1] (wy.alloc (.cells #[.int .i64 (k:Int)] 2)) fun e w'=>e=.returned (.string ⟨(Qi [(k:Int)]).toArray⟩)∧Below wy.heap.size wy w' from fun wy hy=>by
  have h1:Below wy.heap.size wy (wy.alloc (.cells #[.int .i64 (k:Int)] 2)):=bR.alloc nR _;have:=XC (w:=wy.alloc (.cells #[.int .i64 (k:Int)] 2)) [(k:Int)] (some ⟨wy.heap.size,0,none⟩) 1 (Sl.Ja (Qh.new wy 2 _) rfl).1 (by simp) (by simpa using M) ((O.o.below hy).Rn.tb.below h1);exact this.mono fun e w' ⟨he,hb⟩=>⟨he,h1.trans (hb.mono h1.size)⟩)
 have ai:=Qa (show ∀wy,Calls prog 71 #[.int .u8 84,.string ⟨(Qi [(k:Int)]).toArray⟩] wy fun e w'=>Kz wy w' (84,Qi [(k:Int)]) e from fun wy=>VA (w:=wy) 84 (Qi [(k:Int)]));have Q:(Qi [(k:Int)]).length<1099511627776:=by
  simp only[List.length_cons,List.length_nil]at a1;omega
 have S:=Qa (show ∀wy A c,Below wc.heap.size wc wy→Kb wy A (Qi [(k:Int)])→(Qi [(k:Int)]).length≤c→Calls prog 70 #[.pointer (some ⟨Sb,0,none⟩),.agg #[.int .u8 84,.slice A (Qi [(k:Int)]).length c],.func (.func 135) #[] #[.pointer (some ⟨Z,0,none⟩),.pointer (some ⟨X,0,none⟩)]] wy fun e w'=>e=.returned (.int .i64 (Qy { s with marks:=s.marks.drop (n-k) } s (84,Qi [(k:Int)])).1)∧(∃m',QO w' base Sb (Qy { s with marks:=s.marks.drop (n-k) } s (84,Qi [(k:Int)])).2 m'∧Qt base m m' w w')∧w'.cell? ⟨X,0,none⟩=some (.pointer (some ⟨Sb,0,none⟩)) from fun wy A c hy hby hc=>by
  have hh:=O.o.below hy;have ae:=HK.o.trimmed (n-k);have hx:=z.o.below hy z.o.lt;have hz:=a6.o.below hy a6.o.lt;have ho:=QF af.o (Qd.Qe (ts:=[]) hy a9) (by decide);have a5:=ag.o.trans (Qd.Qe (ts:=[129]) hy a9);have av:=HK.o.nN;have aw:=HK.o.nS;have ar:=HK.o.nM;have ax:(s.marks.drop (n-k)).length≤s.marks.length:=by rw[List.length_drop];omega
  have:=Xz hh ae (by have:=HK.o.wt;show s.d.waits.length≤_;omega) (by have:=HK.o.ep;show s.log.epoch+2<_;omega) HK.o.at' HK.o.D8 (84,Qi [(k:Int)]) (by show 84<256;decide) Q A c hby hc
   (by rw[Vd,List.length_append,List.length_append,List.length_map,List.length_map,List.length_map];show s.notes.length+s.Qc.length+(s.marks.drop (n-k)).length≤_;omega)
   135 #[.pointer (some ⟨Z,0,none⟩),.pointer (some ⟨X,0,none⟩)] (fun _ _=>rfl)
   (fun w'=>(∃m',QO w' base Sb (Qy { s with marks:=s.marks.drop (n-k) } s (84,Qi [(k:Int)])).2 m'∧Qt base m m' w w')∧w'.cell? ⟨X,0,none⟩=some (.pointer (some ⟨Sb,0,none⟩)))
   (fun w' d l hd hk hs=>by
    rw[XF hd];exact⟨⟨_,hs,(Qt.fresh a5 (by simp) al.o).trans (Qt.of hk (by simp))⟩,(hx.keeps hk (by decide)).cell 0⟩)
   (fun wz e d l hd he hk hs=>by
    rw[XE hd he];refine(SO hs (hx.keeps hk (by decide)) (hz.keeps hk (by decide)) s.marks HN.o (QF ho hk (by decide))).mono ?_;rintro en w' ⟨h1,h2,h3⟩;refine⟨h1,⟨m,h2, ?_⟩,((hx.keeps hk (by decide)).keeps h3 (by decide)).cell 0⟩;exact Qt.of (ts:=[121,165,167,216,137,129]) ((((a5.mono nR (by simp)).trans (hk.mono nR (by simp))).trans (h3.mono nR (by simp)))) (by simp))
  rw[←V5 (was:=s)]at this;exact this)
 have y:=Qa (show ∀wy,Below wc.heap.size wc wy→wy.cell? ⟨X,0,none⟩=some (.pointer (some ⟨Sb,0,none⟩)) from fun wy hy=>(z.o.below hy z.o.lt).cell 0);have S1:=Qa (y.o _ bR.drew);clear a1 Q M;obtain⟨lg,hlg⟩:∃lg,lg=Qy { s with marks:=s.marks.drop (n-k) } s (84,Qi [(k:Int)]):=⟨_,rfl⟩;rw[←hlg]at v S;clear hlg;generalize Qi [(k:Int)]=bs at*
 obtain⟨er,s6⟩:=lg;subst v;go_upto_region 8 with fail
 go_region_held3 (fun wy=>wy.cell? ⟨X,0,none⟩=some (.pointer (some ⟨Sb,0,none⟩)))
  (first|exact S1.o|exact S7.o|exact y.o _ F.o|exact y.o _ C.o|(refine y.o _ ?_;repeat' (first|exact bR|exact F.o|exact C.o|refine Below.drew ?_|refine Below.alloc ?_ (by simp) _)))
  (first
   |(go_at_call 123;refine(am.o _ bR.drew).mono ?_;rintro en w3 ⟨rfl,P⟩;(have C:Qb (Below wc.heap.size wc w3):=bR.drew.trans P);clear P)
   |(go_at_call 71;refine(ai.o _).mono ?_;rintro en w4 ⟨⟨A4,c4,rfl,U,aa⟩,b⟩;(have aj:=Qa U);(have ak:=Qa aa);(have F:Qb (Below wc.heap.size wc w4):=C.o.trans (b.mono C.o.size));clear U aa b)
   |(go_at_call 70;refine(S.o _ _ _ F.o aj.o ak.o).mono ?_;rintro en w7 ⟨rfl,h7,x7⟩;(have H7:=Qa h7);(have S7:=Qa x7);clear h7 x7))
 all_goals
  go_wp2_with fail;go_ret;exact⟨rfl,H7.o⟩
end
section
open Go.Shelf Go.Sort
variable {Sb base:Nat} {m:KY} {s:QM} {w:World}
theorem Lr(h:QO w base Sb s m)(hn:s.marks.length≤100001):
  Calls prog 27 #[.pointer (some ⟨Sb,0,none⟩)] w fun e w'=>∃A c,e=.returned (.slice A s.marks.length c)∧w'.ownsRow w.heap.size 9 1 (.slice A s.marks.length c) s.marks.length (s.marks.map Qw)∧Below w.heap.size w w':=by
 obtain⟨i9,g,q,j,i⟩:=info_parts Gk;have c6:w.cell? ⟨Sb,6,none⟩=some (.slice m.A s.marks.length m.c):=h.blk.cell 6;have bl:=h.blk.lt;have a:Qb (Rd w w.heap.size 1 m.A s.marks.length (s.marks.map Qw)):=Qa (Zy h.Xk);have p:Qb (w.ownsRow w.heap.size 9 1 (.slice none 0 0) 0 []):=Qa ⟨rfl,.inl ⟨rfl,rfl⟩⟩
 have f:Qb (∀u∈s.marks.map Qw,u.oneCell'=true):=Qa (fun u hu=>by
  obtain⟨t,_,rfl⟩:=List.mem_map.1 hu;rfl)
 obtain⟨n,d⟩:=eX s.marks.length;rw[←d]at c6 a hn ⊢;clear h d;go_enter func27,ntmps27;go_wp2_with (at_builtin;refine Qv _ rfl _ _ 33 rfl w.heap.size 9 i9 _ 1 16 ZI g q j i rfl (by decide) (.slice none 0 0) 0 [] rfl p.o m.A n m.c _ (s.marks.map Qw) rfl a.o f.o (by unfold maxLen;omega) (by omega) nR ?_;intro A4 c4 w4 hown4 hgr4 hnc4 _;(have b:=Qa hown4);(have l:Qb (Below w.heap.size w w4):=Qa (Qg hgr4 nR (fun k hk=>by cases hk)));clear hown4 hgr4);have e0:0+n=n:=Nat.zero_add n;rw[e0]at b;try rw[e0]
 go_ret;exact⟨A4,c4,by simp,b.o,l.o⟩
def Ig(s:QM)(ss:List Qj):Nat:=(ss.map fun n=>((QC s.Qc n).map (·.bytes)).getD 0).sum
def GY(s:QM):Nat:=(s.Qc.map fun x=>x.2.bytes).sum
variable {x:Qx}
theorem Fq(ss:List Qj){n:Qj}(hx:QC s.Qc n=some x):Ig s (ss++[n])=Ig s ss+x.bytes:=by
 unfold Ig;simp[hx]
theorem DR(hr:∀x∈s.Qc,Kf x∧x.2.len≤1048576)(ss:List Qj):Ig s ss≤ss.length*1048576:=by
 induction ss with
 |nil=>simp[Ig]
 |cons a l ih=>
  have hc:Ig s (a::l)=((QC s.Qc a).map (·.bytes)).getD 0+Ig s l:=by simp[Ig]
  have:((QC s.Qc a).map (·.bytes)).getD 0≤1048576:=by
   cases hg:QC s.Qc a with
   |none=>simp
   |some x=>simpa using(hr _ (Vt hg)).1.2.2.2.1
  rw[hc,List.length_cons,Nat.succ_mul];omega
theorem EZ(hs:Xa s.Qc)(hr:∀x∈s.Qc,Kf x∧x.2.len≤1048576){ss:List Qj}(hk:SK.Keys (QC s.Qc) ss):Ig s ss=GY s:=by
 have a:=JO hs hr;have hp:ss.Perm (s.Qc.map (·.1)):=(List.perm_ext_iff_of_nodup hk.1 a.1).2 fun x=>⟨fun hx=>(a.2.2 x (hk.2.1 x hx)).2 ((hk.2.2 x (hk.2.1 x hx)).1 hx),fun hx=>(hk.2.2 x (a.2.1 x hx)).2 ((a.2.2 x (a.2.1 x hx)).1 hx)⟩
 unfold Ig GY;rw[(hp.map _).sum_nat,List.map_map];congr 1;refine List.map_congr_left fun x hx=> ?_
 have:QC s.Qc x.1=some x.2:=VX a.1 hx;simp[this]
theorem EB(h:QO w base Sb s m)(hs:Xa s.Qc)(hr:∀x∈s.Qc,Kf x∧x.2.len≤1048576)(hn:s.Qc.length≤100001):
  Calls prog 37 #[.pointer (some ⟨Sb,0,none⟩)] w fun e w'=>e=.returned (.int .i64 (GY s))∧Below w.heap.size w w':=by
 have HH:=Qa h;have HS:=Qa hs;have i:=Qa hr;have c5:w.cell? ⟨Sb,5,none⟩=some (.map (some m.Pb)):=h.blk.cell 5;have bl:=h.blk.lt;obtain⟨D,hD,p⟩:=h.pmap;have P:Maps.size D=s.Qc.length:=by
  have:=KV.size hD p (JO hs hr);rwa [List.length_map]at this
 have HD:=Qa p;have a2:=h.pmap.lt;obtain⟨L,hL⟩:=eX s.Qc.length;rw[←hL]at hD P hn;have HL:=Qa hL;clear h hs hr p hL;go_enter func37,ntmps37;go_wp2_with (at_range;refine wpList_range_own _ rfl _ 125 rfl 73 142 Vs underlying125 _ m.Pb L D rfl hD ?_;intro w3 hrg3 hg3 hs3);try go_frame
 have E:Qb (Below w.heap.size w w3):=Qa (Qg hg3 nR (fun k hk=>by cases hk));clear hg3 hs3 hD c5
 go_loopw [3] (fun t wr=>∃(left:Lit→Bool)(cnt:Nat)(ss:List Qj),t=.int .i64 (Ig s ss)∧wr.ranges prog 73 SK.R m.Pb w.heap.size L D left cnt∧ss.length+cnt≤Maps.size D∧SK.Y8 (QC s.Qc) left ss∧Below w.heap.size w wr)
  (fun _ wr=>wr.rangeLeft m.Pb w.heap.size)
 case atStart=>exact⟨_,_,[],by simp[Ig],hrg3,by simp,KV.Y8.start HD.o,E.o⟩
 obtain⟨left,cnt,ss,rfl,f,M,hC,d⟩:=hrel;clear hrg3 E;have l:=DR i.o ss;obtain⟨T,hT⟩:=eX (Ig s ss);rw[←hT]at l ⊢;have HT:=Qa hT;clear hT;have H:ss.length≤100001:=by omega
 have a1:T≤100001*1048576:=Nat.le_trans l (Nat.mul_le_mul_right _ H);clear l;go_wp2_with (at_next;refine wpList_next_ranges _ rfl _ rfl 73 Vs SK.R QZ Kv (fun key kl hk=>by obtain⟨x,_,hx,_⟩:=Je hk;exact⟨x,hx⟩) (fun v y hv=>UT hv) m.Pb w.heap.size L _ _ _ rfl f ?_ ?_)
 ·intro hc0 hl0;have HE:=Qa (show T=GY s from HT.o.trans (EZ HS.o i.o (hC.done hl0)));have N:=Qa d;clear f M hC d hl0 hc0;go_wp2_with fail;go_ret;exact⟨by rw[HE.o];rfl,N.o⟩
 intro x1 x2 c kl yd yp w4 cnt2 hkey hlk hv' hat hrg2 hlt2 hg2 hs2 hen;obtain⟨x',B,ex,rfl⟩:=Je hkey;obtain rfl:(x1,x2)=x':=V6 ex;obtain⟨a,ha,n⟩:=KV.Yd.here HD.o B hat;obtain rfl:a=c:=by
  obtain⟨a',h1,h2⟩:=Ou hv';injection h2 with h2 _;have h3:c=a':=Yh h1;rw[h2]at n;exact(Zi n).symm.trans h3.symm
 have r:=hC.step B hlk (by rw[ha];rfl);have G:=Fq ss ha;have J:=(i.o _ (Vt ha)).1.2.2.2.1;obtain⟨at',len,b,mk⟩:=a;simp only at J;have A:(Instr.entry (.pointer (some ⟨w.heap.size,0,none⟩))).run prog w4=.ok (.tuple #[.agg #[.int .i64 x1,.int .i64 x2],.agg #[.int .i64 at',.int .i64 len,.int .i64 b,.int .i64 mk]]) w4:=hen;clear hen hs2 hkey hv' hat n ha;rw[show QZ (x1,x2)=.agg #[.int .i64 x1,.int .i64 x2]from rfl,show Kv ⟨at',len,b,mk⟩=.agg #[.int .i64 at',.int .i64 len,.int .i64 b,.int .i64 mk]from rfl];have u:Qb ((prog.info? 142).map (·.size)=some 4):=Sg;have HA:=Qa (Qh.new w4 142 #[.int .i64 0,.int .i64 0,.int .i64 0,.int .i64 0]);go_upto_region 7 with(refine wpList_store_row rfl 142 _ _ rfl w4.heap.size #[.int .i64 at',.int .i64 len,.int .i64 b,.int .i64 mk] rfl rfl 142 _ HA.o u.o rfl (by simp[Value.oneCell']) ?_;rw[World.setRow_alloc_new]);go_frame;have a0:=f.lt;have q:Below w.heap.size w w4:=d.grown hg2 d.size (gB (by omega));have g:=hrg2.alloc (.cells #[.int .i64 at',.int .i64 len,.int .i64 b,.int .i64 mk] 142);have j:=Qh.new w4 142 #[.int .i64 at',.int .i64 len,.int .i64 b,.int .i64 mk];have F:Below w.heap.size w (w4.alloc (.cells #[.int .i64 at',.int .i64 len,.int .i64 b,.int .i64 mk] 142)):=q.alloc q.size _;clear HA A hg2 hrg2 q d;generalize w4.alloc (.cells #[.int .i64 at',.int .i64 len,.int .i64 b,.int .i64 mk] 142)=w5 at*
 generalize w4.heap.size=Z at*
 have z2:w5.cell? ⟨Z,2,none⟩=some (.int .i64 b):=j.cell 2;have zl:=j.lt;have q1:IntKind.i64.wrap ((T:Int)+(b:Int))=(T:Int)+(b:Int):=by rw[IntKind.wrap_i64];omega
 have C:=Qa g;have HR:=Qa f;have K:=Qa r;have I:=Qa F;have O:=Qa G;have z:=Qa hlt2;clear j g f r F G hC;go_wp2_with fail;go_roundw
 case rel=>exact⟨_,cnt2,ss++[(x1,x2)],by rw[O.o,←HT.o];simp,C.o,by have:=z.o;simp;omega,K.o,I.o⟩
 case measure=>rw[C.o.left_eq,HR.o.left_eq];exact z.o
end
theorem Rz{α:Type}[DecidableEq α]:∀{l m:List α},l.Nodup→(∀x∈l,x∈m)→l.length≤m.length
 |[],m,_,_=>Nat.zero_le _
 |a::l,m,h,hs=>by
  obtain⟨h1,h2⟩:=List.nodup_cons.1 h;have ha:=hs a List.mem_cons_self;have ih:=Rz (l:=l) (m:=m.erase a) h2 fun x hx=>(List.mem_erase_of_ne (fun e=>h1 (by rw[←e];exact hx))).2 (hs x (List.mem_cons_of_mem _ hx))
  rw[List.length_erase_of_mem ha]at ih;have:0<m.length:=List.length_pos_of_mem ha;simp only[List.length_cons];omega
def Pp(d:Qq)(m:Nat):Bool:=match d.told m with
 |.data _ true=>true
 |_=>false
variable {d:Qq}
theorem Nj{m:Nat}:Pp d m=true↔Xb d m:=by
 unfold Pp Xb;cases h:d.told m with
 |zero=>simp
 |torn=>simp
 |data b t=>cases t<;>simp
def VH(d:Qq):List Nat:=(List.range d.Qk.length).filter (Pp d)
theorem YC{m:Nat}:m∈VH d↔m<d.Qk.length∧Xb d m:=by
 unfold VH;rw[List.mem_filter,List.mem_range,Nj]
theorem Te(d:Qq):(VH d).Nodup:=List.Pairwise.filter _ List.nodup_range
variable {K:Nat} {d':Qq}
theorem IQ{P:List UInt8→Prop}(r:Q2 P K d d'):(VH d').length≤(VH d).length:=
 Rz (Te _) fun m hm=>by
  obtain⟨h1,b,h2⟩:=YC.1 hm;rw[r.like.1.2.1]at h1;refine YC.2 ⟨h1, ?_⟩;rcases r.told h1 with e|⟨x,_,e⟩
  ·exact⟨b,by rw[←e];exact h2⟩
  rw[e]at h2;injection h2 with _ h2;cases h2
def MH(s:QM):List (Qj × Qx):=s.Qc.filter fun x=>decide ((Jj s.d x.2).1≠0)
variable {E lo:Nat} {s:QM} {ts:List (Qj × List UInt8)}
theorem Cd(h:JH s lo E ts):(MH s).length≤(VH s.d).length:=by
 have a:∀x:Qj × Qx,∃k:Nat,x∈MH s→JS x.2 k∧k∈VH s.d:=by
  intro x;by_cases hx:x∈MH s
  ·obtain⟨h1,h2⟩:=List.mem_filter.1 hx;obtain⟨y,hy,_,hS⟩:=h.side.mem x h1;rcases hS.Mi h.log.s1 h.log.s2 h.log.on with⟨e,_⟩|⟨e,k,hk,hkt⟩
   ·rw[e]at h2;simp at h2
   exact⟨k,fun _=>⟨hk,YC.2 ⟨(hS.sec hk).2,hkt⟩⟩⟩
  exact⟨0,fun hh=>absurd hh hx⟩
 obtain⟨f,hf⟩:∃f:Qj × Qx→Nat,∀x,x∈MH s→JS x.2 (f x)∧f x∈VH s.d:=⟨fun x=>(a x).choose,fun x=>(a x).choose_spec⟩;have b:(MH s).Pairwise fun x y=>∀k,JS x.2 k→¬JS y.2 k:=List.Pairwise.filter _ h.apart
 have c:((MH s).map f).Nodup:=by
  refine List.pairwise_map.2 ((List.Pairwise.and_mem.1 b).imp ?_);rintro x y ⟨hx,hy,g⟩ e;exact g (f x) (hf x hx).1 (by rw[e];exact(hf y hy).1)
 have:=Rz c (m:=VH s.d) fun k hk=>by
  obtain⟨x,hx,rfl⟩:=List.mem_map.1 hk;exact(hf x hx).2
 simpa using this
theorem JH.told(h:JH s lo E ts){x:Qj × Qx}(hx:x∈s.Qc):∃t,(x.1,t)∈ts∧(Jj s.d x.2=(0,t)∨Jj s.d x.2=(8,[])):=by
 obtain⟨y,hy,e,hS⟩:=h.side.mem x hx;refine⟨y.2,by rw[e];exact hy, ?_⟩;rcases hS.Mi h.log.s1 h.log.s2 h.log.on with⟨g,_⟩|⟨g,_⟩
 ·exact .inl g
 exact .inr g
structure Di (s:QM) (n:Qj) (b:List UInt8) (a l:Nat) (m1:Jt) (mark:Nat) (s1:QM) (nn:Nat) (d1:Qq):Prop where
 r1:Qs n.1=true
 r2:Qs n.2=true
 b1:1≤b.length
 b2:b.length≤1048576
 new:QC s.Qc n=none
 take:XZ s.map (Qf s.d.size b.length)=(0,(a,l),m1)
 next:YD { s with map:=m1 }=(0,(mark:Int),s1)
 put:KN s1.d a 83 mark b=(nn,0,d1)
 sl:s1.Qc=s.Qc
 la:a≤65536
 ll:l≤1048576
 lm:mark<2^63
 w0:s.d.waits.length≤824633720832
 w1:s1.d.waits.length≤824633720832
 e0:s.log.epoch+4<549755813888
 e1:s1.log.epoch+2<549755813888
 a1:s1.log.at'≤s1.log.begin s1.log.use+s1.log.half
 z1:s1.log.size=s1.d.size
 n1:s1.notes=s.notes
 Be:s1.marks=s.marks
 se:s.epoch<549755813888
 sp:s.QA≤1048576
 pu:s1.QA≤s.QA+1
def Ri(s1:QM)(n:Qj)(b:List UInt8)(a l mark:Nat)(d1:Qq):Nat × QM:=
 Qy { s1 with d:=d1,Qc:=JL n ⟨a,l,b.length,mark⟩ s1.Qc } { s1 with d:=d1,map:=(JF s1.map a l).2 } (Ka n ⟨a,l,b.length,mark⟩)
variable {a nn:Nat} {b:List UInt8} {d1:Qq} {m1:Jt} {s1:QM}
theorem Di.is{n:Qj}{l:Nat}{mark:Nat}(h:Di s n b a l m1 mark s1 nn d1):Q6 s n b=Ri s1 n b a l mark d1:=by
 unfold Q6;have h3:=h.b1;have h4:=h.b2
 rw[if_neg (by
  rintro(e|e|e|e)
  ·rw[h.r1]at e;cases e
  ·rw[h.r2]at e;cases e
  ·omega
  omega),Yf,h.new,if_neg (by simp),h.take]
 simp only;rw[h.next];simp only[Int.toNat_natCast];rw[h.put];rfl
theorem ZD{n:Qj}(h:Qs n.1=false∨Qs n.2=false∨b.length<1∨1048576<b.length):Q6 s n b=(1,s):=by
 unfold Q6;rw[if_pos h]
theorem P3{n:Qj}(r1:Qs n.1=true)(r2:Qs n.2=true)(b1:1≤b.length)(b2:b.length≤1048576):¬(Qs n.1=false∨Qs n.2=false∨b.length<1∨1048576<b.length):=by
 rintro(e|e|e|e)
 ·rw[r1]at e;cases e
 ·rw[r2]at e;cases e
 ·omega
 omega
variable {x:Qx}
theorem Yu{n:Qj}(r1:Qs n.1=true)(r2:Qs n.2=true)(b1:1≤b.length)(b2:b.length≤1048576)(hx:QC s.Qc n=some x):Q6 s n b=(7,s):=by
 unfold Q6;rw[if_neg (P3 r1 r2 b1 b2),Yf,hx];rfl
variable {e:Nat}
theorem YK{n:Qj}(r1:Qs n.1=true)(r2:Qs n.2=true)(b1:1≤b.length)(b2:b.length≤1048576)(hx:QC s.Qc n=none)(ht:XZ s.map (Qf s.d.size b.length)=(e,(0,0),s.map))(he:e≠0):Q6 s n b=(e,s):=by
 unfold Q6;rw[if_neg (P3 r1 r2 b1 b2),Yf,hx,if_neg (by simp),ht];cases e with
 |zero=>exact absurd rfl he
 |succ e=>rfl
theorem Rh(hp:s.QA<1048575):∃p mark:Nat,YD s=(0,((mark:Nat):Int),{ s with epoch:=s.log.epoch,QA:=p })∧p<1048576∧p≤s.QA+1∧mark=s.log.epoch*1048576+p:=by
 unfold YD;simp only;rw[if_neg (by omega)];by_cases hq:s.epoch=s.log.epoch
 ·refine⟨s.QA+1,s.log.epoch*1048576+(s.QA+1), ?_,by omega,nR,rfl⟩;rw[if_neg (by simpa using hq)];simp only[Prod.mk.injEq,true_and];refine⟨by omega, ?_⟩;rw[←hq]
 refine⟨1,s.log.epoch*1048576+1, ?_,by omega,by omega,rfl⟩;rw[if_pos hq];simp only[Prod.mk.injEq,true_and];refine⟨by omega, ?_⟩
 first
  |trivial
  |rfl
theorem Fe(h:JH s lo E ts)(hE:E+4<549755813888)(hK:s.d.waits.length≤824633720832)(hp:s.QA<1048575){n:Qj}
  (r1:Qs n.1=true)(r2:Qs n.2=true)(b1:1≤b.length)(b2:b.length≤1048576)(hnew:QC s.Qc n=none):
  (∃e,XZ s.map (Qf s.d.size b.length)=(e,(0,0),s.map)∧e≠0)∨∃a l m1 mark s1 nn d1,Di s n b a l m1 mark s1 nn d1∧JC s1.map lo s.d.Qk.length:=by
 have a2:=h.ep;have a1:=h.epoch;have a0:=h.Yp;rcases RG (c:=Qf s.d.size b.length) h.map with⟨e,he,hne⟩|⟨a,m',he,hc1,hm',ha1,ha2,_,_⟩
 ·exact .inl ⟨e,he,hne⟩
 obtain⟨p,mark,e1,p1,p2,f⟩:=Rh (s:={ s with map:=m' }) hp;simp only at f p2 e1;obtain⟨d2,g,_⟩:=Xi (d:=s.d) (at':=a) (kind:=83) (mark:=mark) (b:=b) h.log.s1 (by decide) h.log.on hc1 ha2;exact .inr ⟨a,_,m',mark,_,_,d2,⟨r1,r2,b1,b2,hnew,he,e1,g,rfl,by omega,by omega,by omega,hK,hK,by omega,by show s.log.epoch+2<_;omega,h.log.TY,h.log.sz,rfl,rfl,by omega,by omega,p2⟩,hm'⟩
theorem Th(n k:Nat):VH (JA n k)=[]:=by
 cases h:VH (JA n k)with
 |nil=>rfl
 |cons a l=>
  obtain⟨_,b,hb⟩:=YC.1 (show a∈VH (JA n k)by rw[h];simp);rw[O0]at hb;cases hb
theorem Vz.mark{t:List UInt8}(h:Vz d lo x t)(hs:19≤d.size)(hs2:d.size≤4096)(ho:d.off=false):∃a:Nat,x.at'=a∧a≤d.Qk.length∧∀r,KE d a=(0,r)→r.mark<2^63:=by
 obtain⟨⟨a,mark,h1,h2,h3,h4,h5⟩,h6,h7⟩:=h;refine⟨a,by rw[h1],by omega,fun r hr=> ?_⟩;by_cases hT:∃i,i<Qf d.size t.length∧Xb d (a+i)
 ·exfalso;obtain⟨i0,s⟩:=hT;obtain⟨j,_,⟨hj,o⟩,m⟩:=DV (p:=fun i=>i<Qf d.size t.length∧Xb d (a+i)) i0 s;have f:∀i,i<j→d.told (a+i)=.data (JZ d.size 83 mark (t.drop (i*(d.size-18))) (i==0)) false:=by
   intro i hi;rcases h2 i (by omega)with g|⟨bit,_,g⟩
   ·exact g
   exact absurd ⟨by omega,_,g⟩ (m i hi)
  obtain⟨bit,hbit,hflip⟩:∃bit,bit<8*d.size∧d.told (a+j)=.data (Mf (JZ d.size 83 mark (t.drop (j*(d.size-18))) (j==0)) bit) true:=by
   rcases h2 j hj with g|g
   ·obtain⟨b,hb⟩:=o;rw[g]at hb;injection hb with _ hb;cases hb
   exact g
  have n:=ZZ (size:=d.size) (kind:=83) (mark:=mark) (b:=t.drop (j*(d.size-18))) (first:=j==0) (by omega);obtain⟨p,c,r',c',e1,e2,q⟩:=N8 (b:=JZ d.size 83 mark (t.drop (j*(d.size-18))) (j==0)) (bit:=bit) (by rw[n];omega);obtain⟨n1,n2⟩:=YF hs hs2 (bytes:=t.length) (by omega);have n2:=n2 h6;have a0:j*(d.size-18)<t.length:=by
   have:j*(d.size-18)≤(Qf d.size t.length-1)*(d.size-18):=Nat.mul_le_mul_right _ (by omega);omega
  have l:=ZG (size:=d.size) (kind:=83) (mark:=mark) (b:=t.drop (j*(d.size-18))) (first:=j==0) hs (by omega) (by omega) (by omega) (by rw[List.length_drop];omega) (.inr (fun e=>by have:=congrArg List.length e;rw[List.length_drop]at this;simp at this;omega));rw[e1]at l;have k:=Ut q l;rw[←e2]at k;have hg:=I7 (d:=d) (at':=a) (kind:=83) (mark:=mark) (j:=j) (t:=t) f hj ⟨true,hflip⟩ k hs hs2 (by omega) (by omega) (by omega) (by omega) h6 ho h5;rw[hr]at hg;simp at hg
 have hH:OL d a 83 mark t:=by
  intro i hi;rcases h2 i hi with g|⟨bit,_,g⟩
  ·exact g
  exact absurd ⟨i,hi,_,g⟩ hT
 have ht:=Wc hH h1 hs hs2 (by omega) (by omega) h6 ho h5;rw[Sc (x:=x) (a:=a) (by rw[h1]) hr]at ht;simp only[ne_eq,not_true_eq_false,if_false]at ht;split at ht
 ·rename_i h0;exact absurd h0 (by decide)
 split at ht
 ·injection ht with ht _;exact absurd ht (by decide)
 rename_i hc;rw[h1]at hc;simp only at hc;omega
theorem JH.CF(h:JH s lo E ts){n:Qj}{t:List UInt8}(hg:QC ts n=some t):
  ∃(x:Qx)(a:Nat),QC s.Qc n=some x∧x.at'=a∧a≤65536∧(∀r,KE s.d a=(0,r)→r.mark<2^63)∧(Jj s.d x=(0,t)∨Jj s.d x=(8,[]))∧Qs n.1=true∧Qs n.2=true:=by
 obtain⟨y,hy,b,hS⟩:=h.side.mem' _ (Vt hg);simp only at b hS;obtain⟨a,h1,h2,h3⟩:=hS.mark h.log.s1 h.log.s2 h.log.on;obtain⟨r1,r2⟩:=h.right y hy;have:=h.Yp;refine⟨y.2,a, ?_,h1,by omega,h3, ?_,by rw[←b];exact r1,by rw[←b];exact r2⟩
 ·rw[←b];exact VX h.Vn.nodup hy
 rcases hS.Mi h.log.s1 h.log.s2 h.log.on with⟨g,_⟩|⟨g,_⟩
 ·exact .inl g
 exact .inr g
def ZY(n:Int):ByteArray:=⟨(Lib.itoa n).toArray⟩
theorem CJ{a b:ByteArray}(h:a.data.toList=b.data.toList):a=b:=by
 cases a;cases b;simp at h;simp[h]
theorem Gt{u:Nat}(hu:¬u<10):ZY ((u/10:Nat):Int)++ZY ((u%10:Nat):Int)=ZY (u:Int):=by
 unfold ZY Lib.itoa;rw[if_neg (by omega),if_neg (by omega),if_neg (by omega),Int.toNat_natCast,Int.toNat_natCast,Int.toNat_natCast,Lib.decDigits_one (by omega:u%10<10)]
 conv=>rhs;rw[Lib.decDigits,dif_neg hu]
 exact CJ (by simp)
theorem Ke{n:Int}(h0: -9223372036854775808≤n)(h1:n≤9223372036854775807):(ZY n).size≤21:=by
 have:=Lib.itoa_length_le n h0 h1;unfold ZY;show(Lib.itoa n).toArray.size≤21;simpa using this
section
open Go.Shelf Go.Sort
theorem IK(n:Int)(w:World):Calls prog 136 #[.int .i64 n] w fun e w'=>e=.returned (.bool (Qs n))∧w=w':=by
 unfold Qs;by_cases h0:0≤n
 ·by_cases h1:n≤1099511627776
  ·go_enter func136,ntmps136;go_wp2_with fail;go_ret;exact⟨by simp;omega,rfl⟩
  go_enter func136,ntmps136;go_wp2_with fail;go_ret;exact⟨by simp;omega,rfl⟩
 go_enter func136,ntmps136;go_wp2_with fail;go_ret;exact⟨by simp;omega,rfl⟩
theorem FH(n:Nat)(h:n<10):(⟨#[48,49,50,51,52,53,54,55,56,57]⟩:ByteArray).extract n (n+1)=⟨#[UInt8.ofNat (48+n)]⟩:=by
 rcases(by omega:n=0∨n=1∨n=2∨n=3∨n=4∨n=5∨n=6∨n=7∨n=8∨n=9)with rfl|rfl|rfl|rfl|rfl|rfl|rfl|rfl|rfl|rfl<;>rfl
variable {n:Nat}
theorem WX(h:n<10):Lib.itoa (n:Int)=[UInt8.ofNat (48+n)]:=by
 unfold Lib.itoa;rw[if_neg (by omega),Int.toNat_natCast,Lib.decDigits_one h]
theorem Ss(w:World)(n:Nat)(h:n<10)(x y:Int)(hx:x=n)(hy:y=(n:Int)+1):(Instr.slice 9 (.string ⟨#[48,49,50,51,52,53,54,55,56,57]⟩) (some (.int .i64 x)) (some (.int .i64 y)) none).run prog w=.ok (Qw (Lib.itoa (n:Int))) w:=by
 subst hx hy;rw[run_slice_string_if _ _ _ _ _ _ _ underlying9,if_pos (by simp[ByteArray.size];omega),WX h];have e1:((n:Int)).toNat=n:=by omega
 have e2:((n:Int)+1).toNat=n+1:=by omega
 rw[e1,e2,FH n h,if_pos (by omega)];rfl
theorem J5(n:Nat):∀w,n<9223372036854775808→Calls prog 144 #[.int .i64 n] w fun e w'=>e=.returned (Qw (Lib.itoa n))∧Below w.heap.size w w':=by
 induction n using Nat.strongRecOn with
 |_ n ih=>
 intro w hn;by_cases h0:n<10
 ·have d:(n:Int)<10:=by omega
  have hd:=fun wy=>Ss wy n h0 (n:Int) ((n:Int)+1) rfl rfl
  clear ih;generalize Lib.itoa (n:Int)=t at*
  unfold Qw at*
  go_enter func144,ntmps144;go_wp2_with fail;go_ret;exact⟨rfl,bR⟩
 have d:¬((n:Int)<10):=by omega
 have HI:=Qa (show ∀wy,Calls prog 144 #[.int .i64 ((n:Int)/10)] wy fun e w'=>e=.returned (Qw (Lib.itoa (n/10:Nat)))∧Below wy.heap.size wy w' from fun wy=>by
  rw[show(n:Int)/10=((n/10:Nat):Int)by omega];exact ih (n/10) (by omega) wy (by omega))
 have HD:=(show ∀wy,(Instr.slice 9 (.string ⟨#[48,49,50,51,52,53,54,55,56,57]⟩) (some (.int .i64 ((n:Int)%10))) (some (.int .i64 ((n:Int)%10+1))) none).run prog wy=.ok (Qw (Lib.itoa (n%10:Nat))) wy from fun wy=>Ss wy (n%10) (by omega) ((n:Int)%10) ((n:Int)%10+1) (by omega) (by omega));have he:ZY ((n/10:Nat):Int)++ZY ((n%10:Nat):Int)=ZY (n:Int):=Gt h0;have b:=Ke (n:=((n/10:Nat):Int)) (by omega) (by omega);have a:=Ke (n:=((n%10:Nat):Int)) (by omega) (by omega);unfold Qw at*
 unfold ZY at he b a;clear ih;generalize Lib.itoa ((n/10:Nat):Int)=t1 at*
 generalize Lib.itoa ((n%10:Nat):Int)=t2 at*
 generalize Lib.itoa (n:Int)=t at*
 have q3:IntKind.i64.wrap ((n:Int)%10+1)=(n:Int)%10+1:=by rw[IntKind.wrap_i64];omega
 have q4:(0:Int)≤(n:Int):=by omega
 have q5:IntKind.i64.wrap ((n:Int)/10)=(n:Int)/10:=by rw[IntKind.wrap_i64];omega
 have q6:(n:Int).tmod 10=(n:Int)%10:=Int.tmod_eq_emod_of_nonneg q4;have a2:t1.length≤21:=by simpa [ByteArray.size]using b
 have a1:t2.length≤21:=by simpa [ByteArray.size]using a
 have a0:¬(9223372036854775807<t1.length+t2.length):=by omega
 have HE:=Qa he;clear he;go_enter func144,ntmps144;go_upto_region 3 with fail
 go_region_held3 (fun _=>True) (exact trivial) (first|(go_at_call 144;refine(HI.o _).mono ?_;rintro en w3 ⟨rfl,hb⟩;(have c:Qb (Below w.heap.size w w3):=Qa (bR.drew.trans hb));clear hb))
 all_goals
  go_wp2_with fail;go_ret;exact⟨by rw[HE.o];rfl,c.o⟩
end
section
open Go.Shelf Go.Sort
theorem SM:(prog.info? 247).map (·.size)=some 2:=by kernel_rfl
variable {w:World}
theorem Vb(kd:Nat)(t:List UInt8):Calls prog 143 #[.int .u8 kd,Qw t] w fun e w'=>Kz w w' (kd,t) e:=by
 have h:Below w.heap.size w (w.alloc (.cells #[.int .u8 0,.slice none 0 0] 247)):=bR.alloc nR _;have j:=Qh.new w 247 #[.int .u8 0,.slice none 0 0];have f:=Qa h;have i:=Qa j;clear h j;go_enter func143,ntmps143;go_upto_region 1 with fail;generalize w.alloc (.cells #[.int .u8 0,.slice none 0 0] 247)=w1 at*
 obtain⟨c,w2,l,p,hc,b,a1⟩:=UA w1 t;have a0:=Qa l;have a:=i.o.below b i.o.lt;have n:=a.cell 0;have r:=a.cell 1;have m:=a.free 0;have q:=a.free 1;have d:=Qa a;have k:Qb ((prog.info? 247).map (·.size)=some (#[.int .u8 kd,.slice (some ⟨w1.heap.size,0,none⟩) t.length c]:Array Value).size):=SM;have H1:Qb ((#[.int .u8 kd,.slice (some ⟨w1.heap.size,0,none⟩) t.length c]:Array Value).all (·.oneCell')=true):=by
  show(#[.int .u8 kd,.slice (some ⟨w1.heap.size,0,none⟩) t.length c]:Array Value).all (·.oneCell')=true;simp[Value.oneCell']
 clear a n r m q;go_wp2_with (refine wpList_store_row rfl 247 _ _ rfl w.heap.size #[.int .u8 kd,.slice (some ⟨w1.heap.size,0,none⟩) t.length c] rfl rfl 247 #[.int .u8 0,.slice none 0 0] d.o k.o rfl H1.o ?_);refine bodyPost_ret (v:=.agg #[.int .u8 kd,.slice (some ⟨w1.heap.size,0,none⟩) t.length c]) (results_cell_row results143 _ _ w.heap.size 247 _ (0,0) _ rfl (Qp d.o _) underlying247 rfl k.o) rfl ?_;have hk:Qd w2.heap.size [247] w2 (w2.setRow w.heap.size #[.int .u8 kd,.slice (some ⟨w1.heap.size,0,none⟩) t.length c])→True:=fun _=>trivial
 refine⟨⟨_,_,rfl, ?_,hc⟩,(f.o.trans (b.mono f.o.size)).trans (Qg (Qm _ _ _) (by have:=f.o.size;have:=b.size;omega) (gB (by omega)))⟩
 have k2:Qd 0 [247] w2 (w2.setRow w.heap.size #[.int .u8 kd,.slice (some ⟨w1.heap.size,0,none⟩) t.length c]):=
  Qd.JY (Qm _ _ _) (Nat.zero_le _) fun g hg=>⟨Nat.zero_le _,fun t ht=>by injection hg with hg;subst hg;rw[d.o.ty]at ht;injection ht with ht;simp[←ht]⟩
 exact p.keeps k2 (by decide)
def Eo(p v:Value):Sem Unit:=Instr.storeAt 247 p v
theorem MN(p v:Value):Instr.storeAt 247 p v=Eo p v:=rfl
variable {cs:Array Value} {g:Nat}
theorem G4{v:Array Value}(hk:Qh w g 247 cs)(hs:cs.size=2)(hv:v.size=2)(h1:v.all (·.oneCell')=true):(Eo (.pointer (some ⟨g,0,none⟩)) (.agg v)).run prog w=.ok () (w.setRow g v):=by
 have:=run_storeVar_row (P:=prog) w g 247 247 cs v hk (by rw[hv];exact SM) (by omega) h1;simp only[Eo,Instr.storeAt,Instr.sureAddr,Sem.run_bind,Sem.run_pure,Result.andThen_ok,this]
theorem Cv(a b c d e:Int):Qi [a,b,c,d,e]=Lib.itoa a++[32]++Lib.itoa b++[32]++Lib.itoa c++[32]++Lib.itoa d++[32]++Lib.itoa e:=by
 unfold Qi;simp[Lib.join]
section
attribute [local go_sem ↓] MN
theorem IZ(v n a k:Nat)(bs:List UInt8)(hv:v<9223372036854775808)(hn:n<9223372036854775808)(ha:a<9223372036854775808)(hk:k<9223372036854775808)(hb:bs.length<9223372036854775808):
  Calls prog 140 #[.agg #[.int .i64 v,.int .i64 n,Qw bs,.int .i64 a,.int .i64 k]] w fun e w'=>Kz w w' (83,Qi [(v:Int),n,a,bs.length,k]) e:=by
 have j:=Qa (show Qh ((w.alloc (.cells #[.int .i64 v,.int .i64 n,Qw bs,.int .i64 a,.int .i64 k] 69)).alloc (.cells #[.int .u8 0,.slice none 0 0] 247)) w.heap.size 69 #[.int .i64 v,.int .i64 n,Qw bs,.int .i64 a,.int .i64 k] from (Qh.new _ _ _).alloc _);have r:=Qa (show Qh ((w.alloc (.cells #[.int .i64 v,.int .i64 n,Qw bs,.int .i64 a,.int .i64 k] 69)).alloc (.cells #[.int .u8 0,.slice none 0 0] 247)) (w.heap.size+1) 247 #[.int .u8 0,.slice none 0 0] from Qh.Qz (by simp));have y:Qb (Below w.heap.size w ((w.alloc (.cells #[.int .i64 v,.int .i64 n,Qw bs,.int .i64 a,.int .i64 k] 69)).alloc (.cells #[.int .u8 0,.slice none 0 0] 247))):=(bR.alloc nR _).alloc (by simp) _;obtain⟨d1,e1⟩:∃d:ByteArray,Qw (Lib.itoa (v:Int))=.string d:=⟨_,rfl⟩;obtain⟨d2,e2⟩:∃d:ByteArray,Qw (Lib.itoa (n:Int))=.string d:=⟨_,rfl⟩;obtain⟨d3,e3⟩:∃d:ByteArray,Qw (Lib.itoa (a:Int))=.string d:=⟨_,rfl⟩;obtain⟨d4,e4⟩:∃d:ByteArray,Qw (Lib.itoa (bs.length:Int))=.string d:=⟨_,rfl⟩;obtain⟨d5,e5⟩:∃d:ByteArray,Qw (Lib.itoa (k:Int))=.string d:=⟨_,rfl⟩;have C1:=Qa (fun wy=>J5 v wy hv);have C2:=Qa (fun wy=>J5 n wy hn);have C3:=Qa (fun wy=>J5 a wy ha);have C4:=Qa (fun wy=>J5 bs.length wy hb);have C5:=Qa (fun wy=>J5 k wy hk);rw[e1]at C1;rw[e2]at C2;rw[e3]at C3;rw[e4]at C4;rw[e5]at C5;obtain⟨c1,q1⟩:∃c:ByteArray,d1++⟨#[32]⟩=c:=⟨_,rfl⟩;obtain⟨c2,q2⟩:∃c:ByteArray,c1++d2=c:=⟨_,rfl⟩;obtain⟨c3,q3⟩:∃c:ByteArray,c2++⟨#[32]⟩=c:=⟨_,rfl⟩;obtain⟨c4,q4⟩:∃c:ByteArray,c3++d3=c:=⟨_,rfl⟩;obtain⟨c5,q5⟩:∃c:ByteArray,c4++⟨#[32]⟩=c:=⟨_,rfl⟩;obtain⟨c6,q6⟩:∃c:ByteArray,c5++d4=c:=⟨_,rfl⟩;obtain⟨c7,q7⟩:∃c:ByteArray,c6++⟨#[32]⟩=c:=⟨_,rfl⟩;obtain⟨c8,q8⟩:∃c:ByteArray,c7++d5=c:=⟨_,rfl⟩;have s1:d1.size≤21:=by
  have:=Ke (n:=(v:Int)) (by omega) (by omega);injection e1 with e1;rw[←e1];exact this
 have s2:d2.size≤21:=by
  have:=Ke (n:=(n:Int)) (by omega) (by omega);injection e2 with e2;rw[←e2];exact this
 have s3:d3.size≤21:=by
  have:=Ke (n:=(a:Int)) (by omega) (by omega);injection e3 with e3;rw[←e3];exact this
 have s4:d4.size≤21:=by
  have:=Ke (n:=(bs.length:Int)) (by omega) (by omega);injection e4 with e4;rw[←e4];exact this
 have s5:d5.size≤21:=by
  have:=Ke (n:=(k:Int)) (by omega) (by omega);injection e5 with e5;rw[←e5];exact this
 have z1:c1.size=d1.size+1:=by rw[←q1,ByteArray.size_append];rfl
 have z2:c2.size=c1.size+d2.size:=by rw[←q2,ByteArray.size_append]
 have z3:c3.size=c2.size+1:=by rw[←q3,ByteArray.size_append];rfl
 have z4:c4.size=c3.size+d3.size:=by rw[←q4,ByteArray.size_append]
 have z5:c5.size=c4.size+1:=by rw[←q5,ByteArray.size_append];rfl
 have z6:c6.size=c5.size+d4.size:=by rw[←q6,ByteArray.size_append]
 have z7:c7.size=c6.size+1:=by rw[←q7,ByteArray.size_append];rfl
 have b1:¬(9223372036854775807<d1.size+1):=by omega
 have b2:¬(9223372036854775807<c1.size+d2.size):=by omega
 have b3:¬(9223372036854775807<c2.size+1):=by omega
 have b4:¬(9223372036854775807<c3.size+d3.size):=by omega
 have b5:¬(9223372036854775807<c4.size+1):=by omega
 have b6:¬(9223372036854775807<c5.size+d4.size):=by omega
 have b7:¬(9223372036854775807<c6.size+1):=by omega
 have b8:¬(9223372036854775807<c7.size+d5.size):=by omega
 clear z1 z2 z3 z4 z5 z6 z7 s1 s2 s3 s4 s5;have u:Value.string c8=Qw (Qi [(v:Int),n,a,bs.length,k]):=by
  unfold Qw at e1 e2 e3 e4 e5 ⊢;injection e1 with e1;injection e2 with e2;injection e3 with e3;injection e4 with e4;injection e5 with e5;subst e1 e2 e3 e4 e5;rw[←q8,←q7,←q6,←q5,←q4,←q3,←q2,←q1,Cv];congr 1
 have C:=Qa (show ∀wy,Calls prog 143 #[.int .u8 83,.string c8] wy fun e w'=>Kz wy w' (83,Qi [(v:Int),n,a,bs.length,k]) e from fun wy=>by
  rw[u];exact Vb 83 _)
 clear u e1 e2 e3 e4 e5;generalize Qi [(v:Int),n,a,bs.length,k]=rs at*
 unfold Qw at*
 have a1:(⟨bs.toArray⟩:ByteArray).size=bs.length:=by simp[ByteArray.size]
 generalize bs.length=L at*
 generalize (⟨bs.toArray⟩:ByteArray)=bb at*
 go_enter func140,ntmps140;go_upto_region 1 with fail;generalize (w.alloc (.cells #[.int .i64 v,.int .i64 n,.string bb,.int .i64 a,.int .i64 k] 69)).alloc (.cells #[.int .u8 0,.slice none 0 0] 247)=w1 at*
 obtain⟨Y,hY⟩:=eX (w.heap.size+1);obtain⟨X,hX⟩:=eX w.heap.size;rw[←hY]at r;rw[←hX]at j;rw[←hY,←hX];have x:=y.o.size;have a0:w.heap.size≤Y:=by omega
 clear hY hX
 have z:=Qa (show ∀wy,Qh wy X 69 #[.int .i64 v,.int .i64 n,.string bb,.int .i64 a,.int .i64 k]→wy.cell? ⟨X,0,none⟩=some (.int .i64 v)∧wy.cell? ⟨X,1,none⟩=some (.int .i64 n)∧wy.cell? ⟨X,2,none⟩=some (.string bb)∧wy.cell? ⟨X,3,none⟩=some (.int .i64 a)∧wy.cell? ⟨X,4,none⟩=some (.int .i64 k) from fun wy hx=>
  ⟨hx.cell 0,hx.cell 1,hx.cell 2,hx.cell 3,hx.cell 4⟩)
 have SK:=Qa (show ∀wy,Below w1.heap.size w1 wy→wy.cell? ⟨X,0,none⟩=some (.int .i64 v)∧wy.cell? ⟨X,1,none⟩=some (.int .i64 n)∧wy.cell? ⟨X,2,none⟩=some (.string bb)∧wy.cell? ⟨X,3,none⟩=some (.int .i64 a)∧wy.cell? ⟨X,4,none⟩=some (.int .i64 k) from fun wy hy=>
  z.o _ (j.o.below hy j.o.lt))
 have S1:=Qa (SK.o _ bR.drew);go_cut [2] (fun v2 wx=>v2=.pointer (some ⟨Y,0,none⟩)∧∃A c,Qh wx Y 247 #[.int .u8 83,.slice A rs.length c]∧Kb wx A rs∧rs.length≤c∧Below w.heap.size w wx)
 case first=>
  go_region_held3 (fun wy=>wy.cell? ⟨X,0,none⟩=some (.int .i64 v)∧wy.cell? ⟨X,1,none⟩=some (.int .i64 n)∧wy.cell? ⟨X,2,none⟩=some (.string bb)∧wy.cell? ⟨X,3,none⟩=some (.int .i64 a)∧wy.cell? ⟨X,4,none⟩=some (.int .i64 k))
   (first|exact S8.o|exact SK.o _ f.o|exact SK.o _ q.o|exact SK.o _ b.o|exact SK.o _ h.o|exact SK.o _ l.o|exact SK.o _ i.o|exact S1.o)
   (first
    |((fail_if_success (have:=i));go_at_call 144;refine(C1.o _).mono ?_;rintro en w2 ⟨rfl,hb⟩;(have i:Qb (Below w1.heap.size w1 w2):=Qa (bR.drew.trans hb));clear hb)
    |((have:=i);(fail_if_success (have:=l));go_at_call 144;refine(C2.o _).mono ?_;rintro en w3 ⟨rfl,hb⟩;(have l:Qb (Below w1.heap.size w1 w3):=Qa (i.o.trans (hb.mono i.o.size)));clear hb)
    |((have:=l);(fail_if_success (have:=h));go_at_call 144;refine(C3.o _).mono ?_;rintro en w4 ⟨rfl,hb⟩;(have h:Qb (Below w1.heap.size w1 w4):=Qa (l.o.trans (hb.mono l.o.size)));clear hb)
    |((have:=h);(fail_if_success (have:=b));go_at_call 144;refine(C4.o _).mono ?_;rintro en w5 ⟨rfl,hb⟩;(have b:Qb (Below w1.heap.size w1 w5):=Qa (h.o.trans (hb.mono h.o.size)));clear hb)
    |((have:=b);(fail_if_success (have:=q));go_at_call 144;refine(C5.o _).mono ?_;rintro en w6 ⟨rfl,hb⟩;(have q:Qb (Below w1.heap.size w1 w6):=Qa (b.o.trans (hb.mono b.o.size)));clear hb)
    |(go_at_call 143;refine(C.o _).mono ?_;rintro en w7 ⟨⟨A,c,rfl,m,p⟩,hb⟩;(have f:Qb (Below w1.heap.size w1 w7):=Qa (q.o.trans (hb.mono q.o.size)));(have s:=Qa (r.o.below f.o r.o.lt));(have B:=Qa (j.o.below f.o j.o.lt));(have zs:=G4 (v:=#[.int .u8 83,.slice A rs.length c]) s.o rfl rfl (by simp[Value.oneCell']));(have k7:Qd 0 [247] w7 (w7.setRow Y #[.int .u8 83,.slice A rs.length c]):=Qd.JY (Qm _ _ _) (Nat.zero_le _) fun g hg=>⟨Nat.zero_le _,fun t ht=>by injection hg with hg;subst hg;rw[s.o.ty]at ht;injection ht with ht;simp[←ht]⟩);(have S8:=Qa (z.o _ (B.o.keeps k7 (by decide))));(have HE:=Qa (show ∃A' c',Qh (w7.setRow Y #[.int .u8 83,.slice A rs.length c]) Y 247 #[.int .u8 83,.slice A' rs.length c']∧Kb (w7.setRow Y #[.int .u8 83,.slice A rs.length c]) A' rs∧rs.length≤c'∧Below w.heap.size w (w7.setRow Y #[.int .u8 83,.slice A rs.length c]) from ⟨A,c,Qp s.o _,m.keeps k7 (by decide),p,(y.o.trans (f.o.mono x)).trans (Qg (Qm _ _ _) (Nat.le_trans x f.o.size) (gB (by omega)))⟩));clear hb m p k7))
  all_goals
   go_wp2_with fail;go_meet;exact⟨rfl,HE.o⟩
 obtain⟨rfl,A,c,hy,m,p,hb⟩:=hcut;have D:Qb ((prog.info? 247).map (·.size)=some (#[.int .u8 83,.slice A rs.length c]:Array Value).size):=SM;go_wp2_with fail;refine bodyPost_ret (v:=.agg #[.int .u8 83,.slice A rs.length c]) (results_cell_row results140 _ _ Y 247 _ (0,0) _ rfl hy underlying247 rfl D.o) rfl ?_;exact⟨⟨_,_,rfl,m,p⟩,hb⟩
end
end
variable {M base:Nat} {w:World}
theorem KL.lt{m:Jt}(h:KL w base M m):M<w.heap.size:=by
 obtain⟨A,c,hb,_⟩:=h.rep;exact hb.lt
theorem KL.E7{m:Jt}(h:KL w base M m)(hn:m.free≠[]):Xf w M (· <w.heap.size):=by
 intro a n c hc;obtain⟨A,c',hb,_,hs⟩:=h.rep;have e2:w.cell? ⟨M,2,none⟩=some (.slice A m.free.length c'):=hb.cell 2
 have hl:0<m.free.length:=by cases hf:m.free with
  |nil=>exact absurd hf hn
  |cons x l=>simp
 obtain⟨b,o,hA,d,_⟩:=hs.1.2 hl;rw[e2,hA]at hc;injection hc with hc;injection hc with h1;injection h1 with h1;rw[←h1];exact d
def Rc(w w':World)(base M:Nat)(r:Nat × (Nat × Nat) × Jt)(e:Ending):Prop:=e=.returned (.tuple #[.agg #[.int .i64 r.2.1.1,.int .i64 r.2.1.2],.int .i64 r.1])∧KL w' base M r.2.2∧Qd base [220] w w'∧∀P:Nat→Prop,Xf w M P→Xf w' M fun g=>P g∨w.heap.size≤g
variable {N:Nat}
theorem TM{m:Jt}(h:KL w base M m)(hinv:JC m lo N)(hbw:base≤w.heap.size)(n:Nat)(hn:n<1099511627776):
  Calls prog 105 #[.pointer (some ⟨M,0,none⟩),.int .i64 n] w fun e w'=>Rc w w' base M (XZ m n) e:=by
 have U:Below w.heap.size w (w.alloc (.cells #[.int .i64 0,.int .i64 0] 140)):=bR.alloc nR _;have F:=Qa U;have Z:=Qa (Qh.new w 140 #[.int .i64 0,.int .i64 0]);have HI:Qb ((prog.info? 140).map (·.size)=some (#[.int .i64 0,.int .i64 0]:Array Value).size):=Wx;have HH:=Qa h;have aj:=h.Yp;obtain⟨A,c,hb,hc,S⟩:=h.rep;have E:=hb.lt;have e2:w.cell? ⟨M,2,none⟩=some (.slice A m.free.length c):=hb.cell 2;have V:=Qa S;obtain⟨r,hr⟩:=eX (XZ m n);rw[←hr];clear U h hb S;by_cases h0:n<1
 ·have a9:r=(1,(0,0),m):=by rw[hr];unfold XZ;rw[if_pos h0]
  subst a9;have ap:(n:Int)<1:=by omega
  clear hr;go_enter func105,ntmps105;go_wp2_with fail;exact bodyPost_ret (v:=.tuple #[.agg #[.int .i64 0,.int .i64 0],.int .i64 1]) (Ql results105 _ _ w.heap.size 140 _ (0,0) _ rfl Z.o underlying140 rfl HI.o) rfl ⟨rfl,HH.o.below F.o,Qd.Qe F.o hbw,fun P hP a1 n1 c1 h1=>.inl (hP a1 n1 c1 ((F.o.cell E).symm.trans h1))⟩
 have a0:r=match m.free.findIdx? (fun f=>decide (n≤f.2))with|some i=>(0,((m.free.getD i (0,0)).1,n),{ m with free:=Kl m.free i (m.free.getD i (0,0)).1 n })|none=>(5,(0,0),m):=by
  rw[hr];unfold XZ;rw[if_neg h0];cases m.free.findIdx? (fun f=>decide (n≤f.2))<;>rfl
 have HR:=Qa a0;have aq:(1:Int)≤n:=by omega
 clear hr a0;go_enter func105,ntmps105;go_wp2_with fail;go_loopw [21] (fun t wr=>∃i:Nat,i≤m.free.length∧t=.int .i64 (i:Nat)∧(∀j (h:j<m.free.length),j<i→m.free[j].2<n)∧Below w.heap.size w wr∧Qh wr w.heap.size 140 #[.int .i64 0,.int .i64 0]) (fun t _=>m.free.length-(intOf t).toNat)
 case atStart=>exact⟨0,Nat.zero_le _,rfl,fun _ _ h=>absurd h (by omega),F.o,Z.o⟩
 obtain⟨i,hi,rfl,a8,d,Q⟩:=hrel;have O:=Qa a8;have D:=Qa d;have s:=Qa Q;have ar:=Q.lt;have z:=d.size;have Y:M<wr.heap.size:=by omega
 have C:=V.o.below d;have ac:wr.cell? ⟨M,2,none⟩=some (.slice A m.free.length c):=(d.cell E).trans e2;clear a8 Q;by_cases hil:i<m.free.length
 ·obtain⟨b,o,hA,am,c1,c2⟩:=C.TY i hil rfl;have an:b<w.heap.size:=by
   obtain⟨b',o',h1,h2,_⟩:=V.o.TY i hil rfl;rw[hA]at h1;injection h1 with h1;injection h1 with h1;omega
  have hx:=HH.o.R6 (m.free[i]) (List.getElem_mem _);have G:m.free.getD i (0,0)=m.free[i]:=JW hil;have al:(i:Int)<m.free.length:=by omega
  subst hA;clear C d;by_cases hq:n≤m.free[i].2
  ·have u:m.free.findIdx? (fun f=>decide (n≤f.2))=some i:=by
    rw[List.findIdx?_eq_some_iff_getElem];exact⟨hil,by simpa using hq,fun j hj=>by have:=O.o j (by omega) hj;simp;omega⟩
   have H:r=(0,(m.free[i].1,n),{ m with free:=Kl m.free i m.free[i].1 n }):=by
    rw[HR.o,u];simp only[G]
   obtain⟨t1,_,_,t4⟩:=Ze (a:=m.free[i].1) (n:=n) hinv.Iq hil (by omega) (by rw[G];exact nR) (by rw[G];omega);have p:∀e∈Kl m.free i m.free[i].1 n,e.1+e.2≤4194304:=fun e he=>by
    obtain⟨e',ai,h5,h6⟩:=t4 e he;have:=HH.o.R6 e' ai;omega
   have q:=SB t1 p;generalize m.free[i]=x at*
   have HT:=Qa (show ∀wy,Below wr.heap.size wr wy→Calls prog 121 #[.pointer (some ⟨M,0,none⟩),.int .i64 (i:Nat),.agg #[.int .i64 x.1,.int .i64 n]] wy fun e w'=>e=.returned (.tuple #[])∧KL w' base M { m with free:=Kl m.free i x.1 n }∧Qd base [220] wy w'∧(∀P,Xf wy M P→Xf w' M fun g=>P g∨wy.heap.size≤g) from fun wy hy=>
    Nh (HH.o.below (D.o.trans (hy.mono z))) (by have:=hy.size;omega) i x.1 n hil (by omega) ⟨rfl,p,q⟩)
   have aa:(n:Int)≤x.2:=by omega
   have H1:Qb ((#[.int .i64 x.1,.int .i64 n]:Array Value).all (·.oneCell')=true):=by show(#[.int .i64 x.1,.int .i64 n]:Array Value).all (·.oneCell')=true;simp[Value.oneCell']
   have J:Qb ((prog.info? 140).map (·.size)=some (#[.int .i64 x.1,.int .i64 n]:Array Value).size):=Wx;have ab:=Qa H;have I:Below wr.heap.size wr ((wr.alloc (.cells #[.int .i64 x.1,.int .i64 x.2] 140)).alloc (.cells #[.int .i64 x.1,.int .i64 n] 140)):=(bR.alloc nR _).alloc (by simp) _;have a7:Qh ((wr.alloc (.cells #[.int .i64 x.1,.int .i64 x.2] 140)).alloc (.cells #[.int .i64 x.1,.int .i64 n] 140)) (wr.heap.size+1) 140 #[.int .i64 x.1,.int .i64 n]:=Qh.Qz (by simp);have l:=Qa I;have B:=Qa a7;clear I a7 t1 t4 p q u H hq G hx;go_upto_region 8 with fail;generalize (wr.alloc (.cells #[.int .i64 x.1,.int .i64 x.2] 140)).alloc (.cells #[.int .i64 x.1,.int .i64 n] 140)=wy at*
   obtain⟨X8,L⟩:=eX (wr.heap.size+1);rw[←L]at B ⊢;have ah:wy.cell? ⟨X8,0,none⟩=some (.int .i64 x.1):=B.o.cell 0;have ad:wy.cell? ⟨X8,1,none⟩=some (.int .i64 n):=B.o.cell 1;have ag:=B.o.lt;have ak:=Qa L;have ao:=l.o.size;clear L;go_upto_region 9 with(go_at_call 121;refine(HT.o wy l.o).mono ?_;rintro e w5 ⟨rfl,a6,a4,W⟩;(have X:=Qa a6);(have K:=Qa a4);(have a5:=Qa W);clear a6 a4 W);have af:=Qa (B.o.keeps K.o (by decide));have T:=Qa ((s.o.below l.o s.o.lt).keeps K.o (by decide));clear ah ad ag
   go_wp2_with (first
    |(refine wpList_load_row rfl 140 _ rfl X8 rfl 140 #[.int .i64 x.1,.int .i64 n] (0,0) _ af.o underlying140 rfl J.o ?_)
    |(refine wpList_store_row rfl 140 _ _ rfl w.heap.size #[.int .i64 x.1,.int .i64 n] rfl rfl 140 #[.int .i64 0,.int .i64 0] T.o J.o rfl H1.o ?_))
   refine bodyPost_ret (v:=.tuple #[.agg #[.int .i64 x.1,.int .i64 n],.int .i64 0]) (Ql results105 _ _ w.heap.size 140 _ (0,0) _ rfl (Qp T.o _) underlying140 rfl J.o) rfl ?_;have ae:wy.cell? ⟨M,2,none⟩=some (.slice (some ⟨b,o,none⟩) m.free.length c):=(l.o.cell Y).trans ac;rw[ab.o];refine⟨rfl,X.o.grown (Qm _ _ _) (by omega) (fun a' n' c' hcell=> ?_),((Qd.Qe (D.o.trans (l.o.mono z)) hbw).trans K.o).U9 (Qm _ _ _) hbw nR,fun P hP a1 n1 c1 h1=> ?_⟩
   have hp:=a5.o (fun g=>g=b) (fun a1 n1 c1 h1=>by
    rw[ae]at h1;injection h1 with h1;injection h1 with h1;injection h1 with h1;rw[←h1]) a' n' c' hcell
   rcases hp with hp|hp<;>omega
   have a3:Below w.heap.size w wy:=D.o.trans (l.o.mono z);have h2:=(Qm w5 w.heap.size #[.int .i64 x.1,.int .i64 n]).block M (X.o.lt) (by intro e;injection e with e;omega);have h3:w5.cell? ⟨M,2,none⟩=some (.slice (some a1) n1 c1):=by rw[←h1];simp only[World.cell?, h2]
   rcases a5.o P (fun a2 n2 c2 g2=>hP a2 n2 c2 ((a3.cell E).symm.trans g2)) a1 n1 c1 h3 with hp|hp
   ·exact .inl hp
   exact .inr (Nat.le_trans a3.size hp)
  have aa:¬((n:Int)≤m.free[i].2):=by omega
  have HQ:=Qa (show ∀k (h:k<m.free.length),k=i→m.free[k].2<n from fun k h e=>by subst e;omega);generalize m.free[i]=x at*
  clear hq;go_wp2_with fail;go_roundw
  case rel=>
   refine⟨i+1,by omega,by go_num,fun j hj hji=> ?_,D.o.alloc z _,s.o.alloc _⟩;by_cases hjn:j<i
   ·exact O.o j hj hjn
   obtain rfl:j=i:=by omega
   exact HQ.o j hj rfl
  case measure=>simp[intOf];omega
 obtain rfl:i=m.free.length:=by omega
 have u:m.free.findIdx? (fun f=>decide (n≤f.2))=none:=by
  rw[List.findIdx?_eq_none_iff];intro y hy;obtain⟨j,hj,rfl⟩:=List.mem_iff_getElem.1 hy;have:=O.o j hj hj;simp;omega
 have H:r=(5,(0,0),m):=by rw[HR.o,u]
 subst H;have H1:Qb ((#[.int .i64 0,.int .i64 0]:Array Value).all (·.oneCell')=true):=by show(#[.int .i64 0,.int .i64 0]:Array Value).all (·.oneCell')=true;simp[Value.oneCell']
 clear u C d;go_wp2_with (refine wpList_store_row rfl 140 _ _ rfl w.heap.size #[.int .i64 0,.int .i64 0] rfl rfl 140 #[.int .i64 0,.int .i64 0] s.o HI.o rfl H1.o ?_);refine bodyPost_ret (v:=.tuple #[.agg #[.int .i64 0,.int .i64 0],.int .i64 5]) (Ql results105 _ _ w.heap.size 140 _ (0,0) _ rfl (Qp s.o _) underlying140 rfl HI.o) rfl ?_;have R:Below w.heap.size w (wr.setRow w.heap.size #[.int .i64 0,.int .i64 0]):=D.o.trans (Qg (Qm _ _ _) z (gB (by omega)));exact⟨rfl,HH.o.below R,Qd.Qe R hbw,fun P hP a1 n1 c1 h1=>.inl (hP a1 n1 c1 ((R.cell E).symm.trans h1))⟩
section
open Go.Shelf Go.Sort
def Rt(p v:Value):Sem Unit:=Instr.storeAt 140 p v
theorem RW(p v:Value):Instr.storeAt 140 p v=Rt p v:=rfl
variable {cs:Array Value} {g:Nat}
theorem Ox{v:Array Value}(hk:Qh w g 140 cs)(hs:cs.size=2)(hv:v.size=2)(h1:v.all (·.oneCell')=true):(Rt (.pointer (some ⟨g,0,none⟩)) (.agg v)).run prog w=.ok () (w.setRow g v):=by
 have:=run_storeVar_row (P:=prog) w g 140 140 cs v hk (by rw[hv];exact Wx) (by omega) h1;simp only[Rt,Instr.storeAt,Instr.sureAddr,Sem.run_bind,Sem.run_pure,Result.andThen_ok,this]
theorem IV(size bytes:Nat):Qf size bytes<1099511627776:=by
 unfold Qf;split
 ·omega
 rename_i h;have:(bytes+(size-18)-1)/(size-18)≤bytes+(size-18)-1:=Nat.div_le_self _ _;omega
end
variable {Sb X Y Z:Nat} {m:KY}
theorem Mj{n:Qj}{l:Nat}(h:QO w base Sb { s with Qc:=JL n x s.Qc } m)(hn:TQ n)(hx:Qh w X 28 #[.pointer (some ⟨Sb,0,none⟩)])(hy:Qh w Y 73 #[.int .i64 n.1,.int .i64 n.2])(hz:Qh w Z 140 #[.int .i64 a,.int .i64 l])
  (hnew:∀y,QC s.Qc y=if y=n then none else QC (JL n x s.Qc) y)(hs:Xa s.Qc)(hr:∀x∈s.Qc,Kf x∧x.2.len≤1048576)(hinv:JC s.map lo N)(ha:a<1099511627776)(hl:l<1099511627776):
  Calls prog 110 #[.pointer (some ⟨X,0,none⟩),.pointer (some ⟨Y,0,none⟩),.pointer (some ⟨Z,0,none⟩)] w fun e w'=>e=.returned (.tuple #[])∧QO w' base Sb { s with map:=(JF s.map a l).2 } m∧Qt base m m w w':=by
 obtain⟨w8,i,d,q,b,A⟩:=(h.below bR.drew).Uy n hn s.Qc hnew hs hr;obtain⟨n1,n2⟩:=n;replace i:(Builtin.delete_ #[125,73] 0 #[.map (some m.Pb),.agg #[.int .i64 n1,.int .i64 n2]]).run prog w.drew=.ok (.tuple #[]) w8:=i
 have S0:=Qa (show w.drew.cell? ⟨X,0,none⟩=some (.pointer (some ⟨Sb,0,none⟩))∧(w.drew.cell? ⟨Sb,5,none⟩=some (.map (some m.Pb))∧(w.drew.cell? ⟨Y,0,none⟩=some (.int .i64 n1)∧w.drew.cell? ⟨Y,1,none⟩=some (.int .i64 n2)))from
  ⟨hx.drew.cell 0,h.blk.drew.cell 5,hy.drew.cell 0,hy.drew.cell 1⟩)
 have g:Qh w8 X 28 #[.pointer (some ⟨Sb,0,none⟩)]:=hx.drew.keeps b (by decide);have f:Qh w8 Z 140 #[.int .i64 a,.int .i64 l]:=hz.drew.keeps b (by decide);have j:Qh w8 Y 73 #[.int .i64 n1,.int .i64 n2]:=hy.drew.keeps b (by decide)
 have S8:=Qa (show w8.cell? ⟨X,0,none⟩=some (.pointer (some ⟨Sb,0,none⟩))∧(w8.cell? ⟨Sb,5,none⟩=some (.map (some m.Pb))∧(w8.cell? ⟨Y,0,none⟩=some (.int .i64 n1)∧w8.cell? ⟨Y,1,none⟩=some (.int .i64 n2)))from
  ⟨g.cell 0,d.blk.cell 5,j.cell 0,j.cell 1⟩)
 have S9:=Qa (show w8.drew.cell? ⟨X,0,none⟩=some (.pointer (some ⟨Sb,0,none⟩))∧(w8.drew.cell? ⟨Sb,3,none⟩=some (.pointer (some ⟨m.M,0,none⟩))∧(w8.drew.cell? ⟨Z,0,none⟩=some (.int .i64 a)∧w8.drew.cell? ⟨Z,1,none⟩=some (.int .i64 l)))from
  ⟨g.drew.cell 0,d.blk.drew.cell 3,f.drew.cell 0,f.drew.cell 1⟩)
 have k:=d.lt;have u:=h.lt;have GV:=Qa (ND (d.below bR.drew).map hinv k a l ha hl);have H8:=Qa (d.below bR.drew);have K8:Qb (Qt base m m w w8.drew):=(Qt.Qe (m:=m) bR.drew u).trans (q.trans (Qt.Qe (m:=m) bR.drew k));have z:=Qa g.drew;have r:=Qa f.drew;have xl:=hx.lt;have yl:=hy.lt;have zl:=hz.lt;have sl:=h.blk.lt;clear h hx hy hz d q b A g f j;go_enter func110,ntmps110;go_upto_region 0 with fail
 go_region_held3 (fun wy=>wy.cell? ⟨X,0,none⟩=some (.pointer (some ⟨Sb,0,none⟩))∧(wy.cell? ⟨Sb,5,none⟩=some (.map (some m.Pb))∧(wy.cell? ⟨Y,0,none⟩=some (.int .i64 n1)∧wy.cell? ⟨Y,1,none⟩=some (.int .i64 n2))))
  (first|exact S0.o|exact S8.o)
  (fail)
 all_goals
  go_upto_region 1 with fail
  go_region_held3 (fun wy=>wy.cell? ⟨X,0,none⟩=some (.pointer (some ⟨Sb,0,none⟩))∧(wy.cell? ⟨Sb,3,none⟩=some (.pointer (some ⟨m.M,0,none⟩))∧(wy.cell? ⟨Z,0,none⟩=some (.int .i64 a)∧wy.cell? ⟨Z,1,none⟩=some (.int .i64 l))))
   (first|exact S9.o|exact B.o)
   (first
    |(go_at_call 108;refine GV.o.mono ?_;rintro en w9 ⟨rfl,t,c⟩;(have v:=Qa t);(have p:=Qa c);(have B:=Qa (show w9.cell? ⟨X,0,none⟩=some (.pointer (some ⟨Sb,0,none⟩))∧(w9.cell? ⟨Sb,3,none⟩=some (.pointer (some ⟨m.M,0,none⟩))∧(w9.cell? ⟨Z,0,none⟩=some (.int .i64 a)∧w9.cell? ⟨Z,1,none⟩=some (.int .i64 l))) from ⟨(z.o.keeps c (by decide)).cell 0,(H8.o.blk.keeps c (by decide)).cell 3,(r.o.keeps c (by decide)).cell 0,(r.o.keeps c (by decide)).cell 1⟩));clear t c))
  all_goals
   go_wp2_with fail
   go_end0
   exact⟨rfl,H8.o.mapped p.o v.o,K8.o.trans (Qt.of p.o (by simp))⟩
end Go.Proofs.YtmgmfnimaafkdaaGreatDoor
