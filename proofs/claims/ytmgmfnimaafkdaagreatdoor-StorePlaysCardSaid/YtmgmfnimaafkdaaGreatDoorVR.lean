/- What the rows over acts want: a slice of acts that came in is opened to its cells. No condition. -/
import Derived.Test.YtmgmfnimaafkdaaGreatDoorVQ
import Derived.Test.YtmgmfnimaafkdaaGreatDoorRows
import Derived.Test.YtmgmfnimaafkdaaGreatDoorCards
import Derived.Test.YtmgmfnimaafkdaaGreatDoorTie
import Derived.ProofKit
import Derived.SliceStrings
import Derived.LaidMore
import Derived.OpenShut
import Derived.Stop.Joined
import Derived.Below
import Derived.ChangeSame
import Derived.SevenTiedAt
import Derived.LaidSub
import Derived.Lay
import Derived.HandedShaped
import Derived.Shelf.Vars
import Derived.ShutString
import Derived.Deep.Slices
open Go.Proofs.Tryz
namespace Go.Proofs.YtmgmfnimaafkdaaGreatDoor
set_option maxRecDepth 100000
set_option maxHeartbeats 0
open Go.RowKit
section
open Go.Maps
variable {A:Option Addr} {Sb base e n sz:Nat} {m:KY} {s:QM} {w w':World} {xs:List Value}
theorem Sl.Se{m':KY}(h:Sl w e sz A n xs)(k:Qt base m m' w w')(hs:QO w base Sb s m)(h1:e∉([121,165,167,216,137,220,129]:List TypeId))(h0:e≠1000000)
  (h9:e≠9∨∀a,A=some a→∀b,m.A=some b→a.block≠b.block):Sl w' e sz A n xs:=by
 have d:∀a,A=some a→0<n→w'.heap[a.block]? =w.heap[a.block]? :=fun a ha hn=>by
  have c:=h.2 hn a ha;refine k.old a.block e c h1 (fun e1=> ?_) (fun e1=> ?_) (fun b hb e1=> ?_)
  ·have:=hs.OG.ty;rw[←e1,c]at this;injection this with this;exact h0 this
  ·have:=hs.pmap.ty;rw[←e1,c]at this;injection this with this;exact h0 this
  rcases h9 with h9|h9
  ·have:=Pk (g:=b.block) hs.Xk (by rw[hb];simp[Value.ownBlock]);rw[←e1,c]at this;injection this with this;exact h9 this
  exact h9 a ha b hb e1
 refine⟨⟨h.1.1,fun hn=> ?_⟩,fun hn a ha=> ?_⟩
 ·obtain⟨b,o,rfl,hb,hc⟩:=h.1.2 hn;have e:=d _ rfl hn;exact⟨b,o,rfl,Nat.lt_of_lt_of_le hb k.below.size,fun j hj=>by rw[←hc j hj];simp only[World.cell?, e]⟩
 have e2:=d a ha hn;have:=h.2 hn a ha;unfold VG at this ⊢;rw[e2];exact this
structure X9 (w0 wr:World) (base Sb lo:Nat) (s:QM) (r:QH) (F:List Bool) (m:KY) (mr:JM):Prop where
 str:QO wr base Sb s m
 ref:JN wr r mr
 mf:Kr wr mr.M lo F
 bM:base≤mr.M
 ap:∀a,mr.AM=some a→∀b,m.A=some b→a.block≠b.block
 al:∀a,mr.AM=some a→a.block<wr.heap.size
 Ch:Below w0.heap.size w0 wr
 Cf:w0.heap.size≤base
variable {F:List Bool} {lo:Nat} {mr:JM} {r:QH} {w0 wr:World}
theorem X9.below(h:X9 w0 wr base Sb lo s r F m mr)(hb:Below wr.heap.size wr w'):X9 w0 w' base Sb lo s r F m mr:=
 ⟨h.str.below hb,h.ref.below hb,h.mf.below hb,h.bM,h.ap,fun a ha=>Nat.lt_of_lt_of_le (h.al a ha) hb.size,h.Ch.trans (hb.mono h.Ch.size),h.Cf⟩
variable {s':QM}
theorem X9.Bi{m':KY}(h:X9 w0 wr base Sb lo s r F m mr)(hs:QO w' base Sb s' m')(k:Qt base m m' wr w'):X9 w0 w' base Sb lo s' r F m' mr:=by
 obtain⟨A,c,hM,hF⟩:=h.mf.ex
 refine⟨hs,⟨h.ref.notes.Se k h.str (by decide) (by decide) (.inl (by decide)),h.ref.Qc.Se k h.str (by decide) (by decide) (.inl (by decide)),h.ref.marks.Se k h.str (by decide) (by decide) (.inr h.ap),h.ref.Qo,h.ref.row.Se k h.str (by decide) (by decide) (.inl (by decide)),fun x hx=>⟨(h.ref.OM x hx).1.sl.Se k h.str (by decide) (by decide) (.inl (by decide)),(h.ref.OM x hx).2⟩,h.ref.Tk⟩,
  ⟨A,c,k.blk h.str hM (by decide) (by decide),hF.Se k h.str (by decide) (by decide) (.inl (by decide))⟩,h.bM,fun a ha b hb=> ?_,fun a ha=>Nat.lt_of_lt_of_le (h.al a ha) k.below.size,h.Ch.trans (k.below.mono h.Cf),h.Cf⟩
 rcases k.Xk b hb with⟨y,hy,e⟩|e
 ·rw[e];exact h.ap a ha y hy
 have:=h.al a ha;omega
theorem X9.done{mr':JM}(h:X9 w0 wr base Sb lo s r F m mr){q:Nat × QH × List Bool}(hd:OT wr w' base lo mr mr' q):X9 w0 w' base Sb lo s q.2.1 q.2.2 m mr':=by
 obtain⟨h1,h2,h3,h4,h5⟩:=hd;have hz:=h5.below.size;refine⟨h.str.keeps h5 nR (by decide),h1,by rw[h2];exact h4,by rw[h2];exact h.bM,fun a ha b hb=> ?_,fun a ha=> ?_,h.Ch.trans (h5.below.mono h.Cf),h.Cf⟩
 ·have a0:b.block<wr.heap.size:=(h.str.Xk.lt b.block (by rw[hb];simp[Value.ownBlock])).2;rcases h3 a ha with⟨y,hy,e⟩|e
  ·rw[e];exact h.ap y hy b hb
  omega
 rcases h3 a ha with⟨y,hy,e⟩|e
 ·rw[e];have:=h.al y hy;omega
 exact e.2
variable {cs:Array Value}
theorem X9.laid(h:X9 w0 wr base Sb lo s r F m mr){D:Nat}(hD:Qh wr D 39 cs)(hb:base≤D)(v:Array Value):X9 w0 (wr.setRow D v) base Sb lo s r F m mr:=by
 have kr:Qd base [39] wr (wr.setRow D v):=Qd.JY (Qm _ _ _) h.str.lt fun k hk=>⟨by injection hk with hk;omega,fun t' ht'=>by injection hk with hk;subst hk;rw[hD.ty]at ht';injection ht' with ht';rw[←ht'];decide⟩
 exact⟨h.str.keeps kr nR (by decide),h.ref.keeps kr (by decide),h.mf.keeps kr (by decide) (by decide),h.bM,h.ap,fun a ha=>by simp;exact h.al a ha,h.Ch.trans (kr.below.mono h.Cf),h.Cf⟩
theorem FV(w:World){v:Array Value}(h1:v.size=12)(h2:v.all (·.oneCell')=true):(LN (.pointer (some ⟨w.heap.size,0,none⟩)) (.agg v)).run prog (w.alloc (.cells Ji 39))=.ok () (w.alloc (.cells v 39)):=by
 have:=QY (v:=v) (Qh.new w 39 Ji) rfl h1 h2;rwa [World.setRow_alloc_new]at this
section
attribute [local go_sem ↓] VC VF Mv
theorem Ry(hT:XX w.heap.size w)(hb2:2<w.heap.size)(k:Nat)(hk:k<256)(A:Option Addr)(n c:Nat)(l:List OH)(v no:Int)(hv:ZX v)(hno:ZX no)(hrd:Rd w w.heap.size 5 A n (l.flatMap OH.cells))(hok:∀a∈l,a.sz<65536∧ZX a.v∧ZX a.n):
  Calls prog 6 #[.int .u8 k,.slice A n c,.agg #[.int .i64 v,.int .i64 no]] w fun e w'=>e=.returned (.bool true)∧Below w.heap.size w w':=by
 have aF:=Qa (show ∀wy,Below w.heap.size w wy→Calls prog 14 #[] wy fun e w'=>e=.returned (.bool true)∧Below wy.heap.size wy w' from fun wy hy=>Ll ((hT.below hy).up hy.size) (Nat.lt_of_lt_of_le hb2 hy.size));have HT:=Qa hT;obtain⟨hl,al⟩:=V1 OH.Oq (by decide) hrd;have HL:=Qa hl;have aZ:=Qa al;have bA:=Qa hok;have a4:=Qa (fun wy=>GA k hk wy);have a5:=Qa (N5 (i:=k%4) (j:=k/4%4) (by omega) (by omega));obtain⟨N,hN⟩:=eX (WS (k%4));obtain⟨Z,hZ⟩:=eX (RV (k/4%4));rw[←hN]at a4 a5;rw[←hZ]at a4 a5;have J:Qb (Below w.heap.size w (w.alloc (.cells #[.int .i64 v,.int .i64 no] 53))):=bR.alloc nR _;have ag:Qb (Qh (w.alloc (.cells #[.int .i64 v,.int .i64 no] 53)) w.heap.size 53 #[.int .i64 v,.int .i64 no]):=Qh.new _ _ _;have bm:=Qa (And.intro hv hno);clear hT hl al hok hrd hv hno hN hZ;by_cases h40:40<n
 ·have aL:(n:Int)>40:=by omega
  go_enter func6,ntmps6;go_upto_region 1 with fail;generalize w.alloc (.cells #[.int .i64 v,.int .i64 no] 53)=w0 at*
  go_wp2_with (go_at_call 14;refine(aF.o _ J.o).mono ?_;rintro en w1 ⟨rfl,hb⟩;(have a0:=Qa (J.o.trans (hb.mono J.o.size)));clear hb);go_ret;exact⟨rfl,a0.o⟩
 have aL:¬((n:Int)>40):=by omega
 go_enter func6,ntmps6;go_upto_region 1 with fail;obtain⟨NB,au⟩:=eX w.heap.size;have bI:=Qa au;generalize w.alloc (.cells #[.int .i64 v,.int .i64 no] 53)=w0 at*
 rw[←au]at ag ⊢;clear au;have aO:=J.o.size
 go_upto_region 6 with(first
  |(go_at_call 14;refine(aF.o _ J.o).mono ?_;rintro en w1 ⟨rfl,hb⟩;(have a0:=Qa (J.o.trans (hb.mono aO)));(have aH:=Qa (ag.o.below hb ag.o.lt));clear hb)
  |(go_at_call 19;refine(a4.o _).mono ?_;rintro en w2 ⟨rfl,hb⟩;(have ah:=Qa (a0.o.trans (hb.mono a0.o.size)));(have aC:=Qa (aH.o.below hb aH.o.lt));clear hb))
 obtain⟨base,t⟩:=eX w2.heap.size;have aA:w.heap.size≤base:=by rw[t];exact ah.o.size
 have a2:NB<base:=by rw[t];exact aC.o.lt
 have ba:Qb (XX base w2):=(HT.o.below ah.o).up aA;have bz:2<base:=by omega
 obtain⟨K,bF,bH,bG,bE⟩:=a5.o
 have NW:=Qa (show Calls prog 15 #[.int .i64 N,.int .i64 Z] w2 fun e w'=>∃B,e=.returned (.tuple #[.pointer (some ⟨B,0,none⟩),.int .i64 0])∧VK w' base B (JA N Z)∧Below base w2 w' from (IU N Z w2).mono fun e w' ⟨h1,h2⟩=>by
  rcases h2 with⟨_,h3⟩|⟨_,B,h3,h4⟩
  ·exact absurd ⟨by omega,by omega,by omega,by omega⟩ h3
  rw[Int.toNat_natCast,Int.toNat_natCast,←t]at h4;exact⟨B,h3,h4,by rw[t];exact h1⟩)
 obtain⟨d1,l1,sl,mp,d2,l2,aG,_⟩:=MR K (by omega);have b1:=Qa (R5 K (by omega) aG.is)
 have ON:=Qa (show ∀(wy:World)(B:Nat),VK wy base B (JA N Z)→Below base w2 wy→Calls prog 16 #[.pointer (some ⟨B,0,none⟩)] wy fun e w'=>∃Sb m,e=.returned (.tuple #[.pointer (some ⟨Sb,0,none⟩),.int .i64 0])∧QO w' base Sb (KI (JA N Z) d1 l1 sl mp d2 l2) m∧Below base w2 w' from fun wy B hd hb=>
  (RB hd (ba.o.below hb) bz aG).mono fun e w' ⟨Sb,m,h1,_,h3,h4⟩=>⟨Sb,m,h1,h3,hb.trans h4.below⟩)
 have RN:=Qa (show ∀wy,Calls prog 17 #[.int .i64 N,.int .i64 Z] wy fun e w'=>∃mr ra,ra=Qr (RJ N Z) mr∧e=.returned (.tuple #[.agg ra,.int .i64 0])∧JN w' (RJ N Z) mr∧Kr w' mr.M (N/4) (List.replicate (N-N/4) true)∧wy.heap.size≤mr.M∧mr.AM=none∧Below wy.heap.size wy w' from fun wy=>(Pm N Z (by omega) (by omega) K wy).mono fun e w' ⟨⟨C,_,_,h3,h4⟩,h5⟩=>by
  obtain⟨A,c,M,AF,cF,h6,h7,h8,h9⟩:=h4 K;rw[K]at h3;refine⟨⟨none,0,none,0,none,0,A,c,[],0,M⟩,_,rfl,by rw[h3,h7];rfl,⟨Sl.nil,Sl.nil,Sl.nil,rfl,Sl.nil,fun x hx=>(by cases hx),nR⟩,⟨AF,cF, ?_, ?_⟩,h6,rfl,h5⟩
  ·rw[List.length_replicate];exact h8
  rw[List.length_replicate,List.map_replicate];exact h9)
 generalize KI (JA N Z) d1 l1 sl mp d2 l2=s0 at*
 generalize hr0:RJ N Z=r0 at*
 generalize List.replicate (N-N/4) true=F0 at*
 generalize N/4=lo at*
 clear aG K a5 hr0
 go_upto_region 9 with(first
  |(go_at_call 15;refine NW.o.mono ?_;rintro en w3 ⟨B,rfl,hd,hb⟩;(have aU:=Qa hd);(have bg:=Qa hb);clear hd hb)
  |(go_at_call 16;refine(ON.o _ _ aU.o bg.o).mono ?_;rintro en w4 ⟨Sb,m,rfl,hs,hb⟩;(have H:=Qa hs);(have aE:=Qa hb);clear hs hb)
  |(go_at_call 17;refine(RN.o _).mono ?_;rintro en w5 ⟨mr,ra,h,rfl,h1,h2,h3,h4,hb⟩;(have aW:=Qa (And.intro h1 (And.intro h2 (And.intro h3 h4))));(have y:=Qa h);(have L:=Qa hb);(have bB:=FV w5 (h▸JK r0 mr) (h▸QX r0 mr));clear h h1 h2 h3 h4 hb))
 obtain⟨D,hD⟩:=eX w5.heap.size;have bk:Qb (X9 w (w5.alloc (.cells ra 39)) base Sb lo s0 r0 F0 m mr):=by
  have bo:Below w4.heap.size w4 (w5.alloc (.cells ra 39)):=L.o.alloc L.o.size _;have am:Below w5.heap.size w5 (w5.alloc (.cells ra 39)):=bR.alloc nR _;obtain⟨h1,h2,h3,h4⟩:=aW.o;refine⟨H.o.below bo,h1.below am,h2.below am,Nat.le_trans H.o.lt h3,fun a ha=>(by rw[h4]at ha;cases ha),fun a ha=>(by rw[h4]at ha;cases ha), ?_,aA⟩;exact ah.o.trans ((aE.o.trans (bo.mono H.o.lt)).mono aA)
 have bb:Qb (Qh (w5.alloc (.cells ra 39)) D 39 ra):=by rw[hD];exact Qh.new _ _ _
 have U:Qb (Qh (w5.alloc (.cells ra 39)) NB 53 #[.int .i64 v,.int .i64 no]):=aC.o.below ((aE.o.trans (L.o.mono H.o.lt)).alloc (Nat.le_trans H.o.lt L.o.size) _) a2;have bv:base≤D:=by rw[hD];exact Nat.le_trans H.o.lt L.o.size
 rw[←hD];generalize w5.alloc (.cells ra 39)=w6 at*
 clear hD bB L aW aE H bg aU RN ON NW ba aC aH ag ah a0 J HT aF a4 t aO;go_wp2_with fail;go_loopw [67] (fun i wr=>∃(j:Nat) (s:QM) (ts:List (Qj × List UInt8)) (r:QH) (F:List Bool) (m:KY) (mr:JM),j≤n∧i=.int .i64 j∧X9 w wr base Sb lo s r F m mr∧QW s lo j ts r F∧Qh wr D 39 (Qr r mr)∧Qh wr NB 53 #[.int .i64 v,.int .i64 no]) (fun i _=>n-(intOf i).toNat)
 case atStart=>exact⟨0,s0,[],r0,F0,m,mr,Nat.zero_le _,rfl,bk.o,b1.o,by rw[←y.o];exact bb.o,U.o⟩
 obtain⟨j,s,ts,r,F,m,mr,hj,rfl,hP,hI,hD,hN⟩:=hrel;have HP:=Qa hP;have HI:=Qa hI;have HD:=Qa hD;have HN:=Qa hN;clear hP hI hD hN bk b1 bb U y;by_cases hlt:j<n
 ·have aT:j<l.length:=by have:=HL.o;omega
  obtain⟨b,o,rfl,bw,h⟩:=aZ.o j aT;have I:=Qa (bA.o l[j] (List.getElem_mem aT));generalize l[j]=a at*
  obtain⟨ak,av,an,sz,bt⟩:=a;simp only at I;have y:Qb (wr.rangeAt b (o+j*5) (Jw ak av an sz bt).toList):=fun i v hv=>(HP.o.Ch.cell (p:=⟨b,o+j*5+i,none⟩) bw).trans (h i v hv)
  have aK:Qb ((prog.info? 55).map (·.size)=some (Jw ak av an sz bt).toList.length):=FN;have bh:Qb ((prog.info? 55).map (·.size)=some (Jw ak av an sz bt).size):=FN;have H1:Qb ((Jw ak av an sz bt).all (·.oneCell')=true):=Qa (by simp[Value.oneCell']);clear h;have i1:(0:Int)≤(j:Int):=by omega
  have i2:(j:Int)<(n:Int):=by omega
  go_upto_region 14 with first
   |(refine wpList_load_mid rfl 55 _ rfl b (o+j*5) rfl (Jw ak av an sz bt).toList _ y.o underlying55 rfl aK.o ?_)
   |(refine wpList_store_row rfl 55 _ _ rfl wr.heap.size (Jw ak av an sz bt) rfl rfl 55 _ (Qh.new wr 55 _) bh.o rfl H1.o ?_)
  rw[World.setRow_alloc_new];have a1:=Qa (HP.o.below (bR.alloc nR (.cells (Jw ak av an sz bt) 55)));have ax:=Qa (HD.o.alloc (.cells (Jw ak av an sz bt) 55));have b6:=Qa (HN.o.alloc (.cells (Jw ak av an sz bt) 55));have z:=Qa (Qh.new wr 55 (Jw ak av an sz bt));obtain⟨g,hg⟩:=eX wr.heap.size;have bC:base≤g:=by rw[hg];exact HP.o.str.lt
  generalize wr.alloc (.cells (Jw ak av an sz bt) 55)=wx at*
  rw[←hg]at z ⊢;clear hg y aK bh H1 HP HD HN i1 i2;obtain⟨ra,h⟩:=eX (Qr r mr);have y:=Qa h;have ar:Qb (ra.size=12∧ra.all (·.oneCell')=true):=Qa (by rw[h];exact⟨JK r mr,QX r mr⟩);rw[←h]at ax;clear h
  have aX:=Qa (show Calls prog 20 #[.pointer (some ⟨Sb,0,none⟩),.agg (Jw ak av an sz bt)] wx fun e w'=>∃(s':QM) (q:Nat × QH × List Bool) (ts':List (Qj × List UInt8)) (m':KY),q=X0 lo r F ak av an sz (QU sz bt)∧e=.returned (.int .i64 q.1)∧QW s' lo (j+1) ts' q.2.1 q.2.2∧QO w' base Sb s' m'∧Qt base m m' wx w' from by
   have hi:=HI.o;refine(FO a1.o.str hi.all (hi.ok (by omega)) (by omega) (hi.waits (by omega)) (by have:=hi.pu;omega) ak av an I.o.2.1 I.o.2.2 sz bt I.o.1).mono ?_;rintro e w' ⟨gone,hg,h1,m',h2,h3⟩;obtain⟨e1,ts',h4⟩:=hi.act (by omega) ak av an sz bt hg;exact⟨_,_,ts',m',rfl,by rw[h1,e1],h4,h2,h3⟩)
  have c0:=z.o.cell 0;have c1:=z.o.cell 1;have c2:=z.o.cell 2;have c3:=z.o.cell 3;have c4:=z.o.cell 4;have gl:=z.o.lt;go_upto_region 15 with(go_at_call 20;refine aX.o.mono ?_;rintro en w5 ⟨s',q,ts',m',hq,rfl,aQ,aN,V⟩;(have HQ:=Qa hq);(have R:=Qa aQ);(have b3:=Qa (a1.o.Bi aN V));(have az:=Qa (V.blk a1.o.str ax.o (by decide) (by decide)));(have G:=Qa (V.blk a1.o.str z.o (by decide) (by decide)));(have aV:=Qa (b6.o.below V.below a2));clear hq aQ aN V);clear c0 c1 c2 c3 c4 gl a1 ax z b6 aX;obtain⟨er,r',F'⟩:=q;simp only at R ⊢;have c0:=G.o.cell 0;have c1:=G.o.cell 1;have c2:=G.o.cell 2;have c3:=G.o.cell 3;have c4:=G.o.cell 4;have gl:=G.o.lt;have l5:=QG az.o ar.o.1
  have aS:=Qa (show Calls prog 21 #[.agg ra,.agg (Jw ak av an sz bt)] w5 fun e w'=>∃f rb,rb=Qr r' f∧e=.returned (.tuple #[.agg rb,.int .i64 er])∧X9 w w' base Sb lo s' r' F' m' f∧Qh w' D 39 ra∧Qh w' NB 53 #[.int .i64 v,.int .i64 no] from by
   have hp:=b3.o;rw[y.o];refine(Eu HI.o (by omega) hp.ref hp.mf hp.bM hp.str.lt ak av an I.o.2.1 I.o.2.2 sz bt I.o.1).mono ?_;rintro e w' ⟨f,h1,h2⟩;rw[←HQ.o]at h1 h2;have hk:=h2.2.2.2.2;exact⟨f,_,rfl,h1,hp.done h2,by rw[←y.o];exact az.o.keeps hk (by decide),aV.o.below hk.below a2⟩)
  go_upto_region 16 with(go_at_call 21;refine aS.o.mono ?_;rintro en w6 ⟨f,rb,a9,rfl,b8,aJ,bf⟩;(have P:=Qa a9);(have bq:=Qa b8);(have aI:=Qa aJ);(have U:=Qa bf);(have bD:=FV w6 (a9▸JK r' f) (a9▸QX r' f));clear a9 b8 aJ bf);have S:Qb (rb.size=12∧rb.all (·.oneCell')=true):=Qa (by rw[P.o];exact⟨JK r' f,QX r' f⟩);clear c0 c1 c2 c3 c4 gl l5 aS G aV az b3 bC HQ HI;obtain⟨G2,aP⟩:=eX w6.heap.size;have bx:G2≠D:=by have:=aI.o.lt;omega
  have b9:=Qa (bq.o.below (bR.alloc nR (.cells rb 39)));have a7:=Qa (aI.o.alloc (.cells rb 39));have b4:=Qa (U.o.alloc (.cells rb 39));have aw:=Qa (Qh.new w6 39 rb);generalize w6.alloc (.cells rb 39)=w7 at*
  rw[←aP]at aw ⊢;clear aP bD bq aI U;have l7:=QG aw.o S.o.1;have bu:=QY a7.o ar.o.1 S.o.1 S.o.2;go_upto_region 17 with fail;have ac:=Qa (b9.o.laid a7.o bv rb);have a3:=Qa (Qp a7.o rb);have ao:=Qa (b4.o.Km (X:=D) (by omega) rb);generalize w7.setRow D rb=w8 at*
  clear l7 bu b9 a7 b4 aw ar y bx;have l8:=QG a3.o S.o.1
  have b5:=Qa (show Calls prog 29 #[.pointer (some ⟨Sb,0,none⟩),.agg rb] w8 fun e w'=>e=.returned (.bool true)∧Below w8.heap.size w8 w' from by
   rw[P.o];exact GN ac.o.str R.o (by omega) ac.o.ref)
  go_upto_region 19 with(go_at_call 29;refine b5.o.mono ?_;rintro en w9 ⟨rfl,ad⟩;(have a6:=Qa (ac.o.below ad));(have T:=Qa (a3.o.below ad a3.o.lt));(have E:=Qa (ao.o.below ad ao.o.lt));clear ad);clear l8 b5 ac a3 ao
  have bi:=Qa (show ∃(bs:ByteArray)(ok:Bool)(eg c1 c2 c3 c4:Int),(ok=true∧eg=0∨ok=false∧eg=6)∧
    (∀wy,Below w9.heap.size w9 wy→Calls prog 30 #[.pointer (some ⟨Sb,0,none⟩),.agg #[.int .i64 v,.int .i64 no]] wy fun e w'=>∃A nb c,e=.returned (.tuple #[.slice A nb c,.int .i64 eg])∧(∀wz,Below w'.heap.size w' wz→(CW (.slice A nb c)).run prog wz=.ok (.string bs) wz)∧Below wy.heap.size wy w')∧
    (∀wy,Below w9.heap.size w9 wy→Calls prog 32 #[.agg rb,.agg #[.int .i64 v,.int .i64 no]] wy fun e w'=>e=.returned (.tuple #[.agg #[.int .i64 c1,.int .i64 c2,.string bs,.int .i64 c3,.int .i64 c4],.bool ok])∧Below wy.heap.size wy w')from by
   have hp:=a6.o;have hi:=R.o;have hl:=(hi.refs (by omega)).2.2.2.1;have Y:=fun wy (hy:Below w9.heap.size w9 wy)=>UZ (hp.ref.below hy) (v,no) (by omega)
   cases hg:Xx r' (v,no)with
   |some x=>
    refine⟨⟨x.b.toArray⟩,true,0,x.n.1,x.n.2,x.at',x.mark,.inl ⟨rfl,rfl⟩,fun wy hy=> ?_,fun wy hy=> ?_⟩
    ·refine(I2 (hp.str.below hy) hi hg).mono ?_;rintro e w' ⟨A,c,h1,h2,h3⟩;exact⟨A,_,c,h1,fun wz hz=>Kj wz A c x.b (h2.below hz),h3⟩
    have:=Y wy hy;rw[hg,←P.o]at this;exact this
   |none=>
    have hn:QC s'.Qc (v,no)=none:=by
     have:=hi.V9.d.get (v,no);rw[hg]at this;exact Option.not_isSome_iff_eq_none.1 (by rw[←this];simp)
    refine⟨⟨#[]⟩,false,6,0,0,0,0,.inr ⟨rfl,rfl⟩,fun wy hy=> ?_,fun wy hy=> ?_⟩
    ·refine(GJ (hp.str.below hy) (v,no) bm.o hn).mono ?_;rintro e w' ⟨h1,h3⟩;exact⟨none,0,0,h1,fun wz hz=>Rx wz none 0,h3⟩
    have:=Y wy hy;rw[hg,←P.o]at this;exact this)
  have bd:=Qa (show ∃(tb:ByteArray)(aq:Bool),(∀wy,Below w9.heap.size w9 wy→Calls prog 33 #[.pointer (some ⟨Sb,0,none⟩),.int .i64 v] wy fun e w'=>e=.returned (.tuple #[.string tb,.bool aq])∧wy=w')∧(∀wy,Below w9.heap.size w9 wy→Calls prog 34 #[.agg rb,.int .i64 v] wy fun e w'=>e=.returned (.tuple #[.string tb,.bool aq])∧Below wy.heap.size wy w') from by
   have hp:=a6.o;have hi:=R.o;have hl:=(hi.refs (by omega)).2.2.2.2.1;refine⟨⟨((QC s'.notes v).getD []).toArray⟩,_,fun wy hy=>OK (hp.str.below hy) v bm.o.1,fun wy hy=> ?_⟩;have:=Z1 (hp.ref.below hy) v (by omega);rw[hi.V9.d.notes,←P.o]at this;exact this)
  obtain⟨bs,ok,eg,k1,k2,k3,k4,ap,bl,Y⟩:=bi.o;obtain⟨tb,aq,b2,aY⟩:=bd.o;have br:=Qa bl;have bc:=Qa Y;have aM:=Qa b2;have aR:=Qa aY;clear bl Y b2 aY bi bd;have n0:=E.o.cell 0;have n1:=E.o.cell 1;have nl:=E.o.lt
  go_upto_region 20 with(first
   |(go_at_call 31;refine(Kn v no _).mono ?_;rintro en wA ⟨rfl,hb⟩;(have a8:=Qa hb);clear hb)
   |(go_at_call 30;refine(br.o _ a8.o).mono ?_;rintro en wB ⟨AB,nb,cB,rfl,bn,hb⟩;(have b0:=Qa bn);(have O:=Qa (a8.o.trans (hb.mono a8.o.size)));clear bn hb))
  clear n0 n1 nl;have af:=Qa (T.o.below O.o T.o.lt);have u:=Qa (E.o.below O.o E.o.lt);have n0:=u.o.cell 0;have n1:=u.o.cell 1;have nl:=u.o.lt;have l9:=QG af.o S.o.1;have ai:Qb ((prog.info? 69).map (·.size)=some (#[.int .i64 k1,.int .i64 k2,.string bs,.int .i64 k3,.int .i64 k4]:Array Value).size):=show(prog.info? 69).map (·.size)=some 5 from by kernel_rfl
  have b7:Qb ((#[.int .i64 k1,.int .i64 k2,.string bs,.int .i64 k3,.int .i64 k4]:Array Value).all (·.oneCell')=true):=Qa (by simp[Value.oneCell'])
  go_upto_region 21 with(first
   |(go_at_call 32;refine(bc.o _ O.o).mono ?_;rintro en wC ⟨rfl,hb⟩;(have aB:=Qa hb);clear hb)
   |(refine wpList_store_row rfl 69 _ _ rfl wC.heap.size #[.int .i64 k1,.int .i64 k2,.string bs,.int .i64 k3,.int .i64 k4] rfl rfl 69 _ (Qh.new wC 69 _) ai.o rfl b7.o ?_))
  rw[World.setRow_alloc_new];clear n0 n1 nl l9 ai b7;have Q:=Qa (aB.o.alloc aB.o.size (.cells #[.int .i64 k1,.int .i64 k2,.string bs,.int .i64 k3,.int .i64 k4] 69));have ae:=Qa (Qh.new wC 69 #[.int .i64 k1,.int .i64 k2,.string bs,.int .i64 k3,.int .i64 k4]);obtain⟨g8,bj⟩:=eX wC.heap.size;generalize wC.alloc (.cells #[.int .i64 k1,.int .i64 k2,.string bs,.int .i64 k3,.int .i64 k4] 69)=wD at*
  rw[←bj]at ae ⊢;clear bj aB;have W:=Qa (O.o.trans (Q.o.mono O.o.size));have bp:=Qa (af.o.below Q.o af.o.lt);have aD:=Qa (u.o.below Q.o u.o.lt);have n0:=aD.o.cell 0;have nl:=aD.o.lt;have l9:=QG bp.o S.o.1;clear af u
  go_upto_region 23 with(first
   |(go_at_call 33;refine(aM.o _ W.o).mono ?_;rintro en w' ⟨rfl,rfl⟩)
   |(go_at_call 34;refine(aR.o _ W.o).mono ?_;rintro en wE ⟨rfl,hb⟩;(have ab:=Qa hb);clear hb))
  clear n0 nl l9;have cv:=b0.o wE (Q.o.trans (ab.o.mono Q.o.size));have aa:=Qa (W.o.trans (ab.o.mono W.o.size));have ay:=Qa (ae.o.below ab.o ae.o.lt);have g2:=ay.o.cell 2;have gl:=ay.o.lt;have aj:=Qa (show X9 w wE base Sb lo s' r' F' m' f∧QW s' lo (j+1) ts' r' F'∧Qh wE D 39 (Qr r' f)∧Qh wE NB 53 #[.int .i64 v,.int .i64 no] from ⟨a6.o.below aa.o,R.o,by rw[←P.o];exact T.o.below aa.o T.o.lt,E.o.below aa.o E.o.lt⟩);clear bp aD ae ay W Q ab aa b0 a6 R T E br bc aM aR a8 O;rcases ap with⟨rfl,rfl⟩|⟨rfl,rfl⟩
  ·go_wp2_with fail;go_roundw
   case rel=>exact⟨j+1,s',ts',r',F',m',f,by omega,by go_num,aj.o⟩
   case measure=>simp[intOf];omega
  go_wp2_with fail;go_roundw
  case rel=>exact⟨j+1,s',ts',r',F',m',f,by omega,by go_num,aj.o⟩
  case measure=>simp[intOf];omega
 obtain rfl:j=n:=by omega
 have i4:¬((j:Int)<(j:Int)):=by omega
 go_wp2_with fail;go_ret;exact⟨rfl,HP.o.Ch⟩
end
end
section
open Go.ChangeShapes Go.WideShapes Go.ChangeAt Go.WideMaps Go.WideElems
theorem Tryz.own:ownKnob prog.godebug=none:=by kernel_rfl
theorem Tryz.laidOut:laidOutB prog=true:=by kernel_rfl
section
variable {H:Type} {enc:TypeId × Value→H} {P:Program}
theorem Ti{f:Func}{s:ChangeSpec}{apart fresh handsOn again:Bool}{W W':World}{args:Array Value}{v:Value}{ds gs:List (DataW H)}{before pa pv:List MemPlace}
  (hW:DataW.Whole enc P f.params.toList s.vars apart W args.toList ds gs before)
  (hres:∀(b:Nat)(sp:Nat→Bool)(hd:Bool),DataW.TrodAll enc P W' b sp hd f.resultTypes.toList (v.resultList f.resultTypes.size) (s.fn H (ds++gs)).results [])
  (hargs:∀sp:Nat→Bool,(∀p∈before,sp p.block=true)→DataW.TrodAll enc P W' 0 sp true f.params.toList args.toList (s.fn H (ds++gs)).args pa)
  (hvars:∀sp:Nat→Bool,(∀p∈before,sp p.block=true)→DataW.TrodVars enc P W' sp s.vars (s.fn H (ds++gs)).vars pv)
  (hps:before=pa++pv)(hb:Below W.heap.size W W')
  (hok:∀(j:Nat)(t:TypeId)(r:Value),f.resultTypes[j]? =some t→(v.resultList f.resultTypes.size)[j]? =some r→Value.okWide P W' .any 0 t r):
  s.post enc P f apart fresh handsOn again W args v W':=by
 have d:∀p∈before,p.block<W.heap.size:=fun p hp=>hW.lt p hp
 have a:∀p∈before,(fun b=>decide (b<W.heap.size)) p.block=true:=fun p hp=>by simpa using d p hp
 refine⟨ds,gs,before,[],pa,pv,hW,hres _ _ _,hargs _ a,hvars _ a,World.keptBut_mono (fun p hp=>⟨hp, ?_⟩) (hb.frame (· ∈before)),fun _=> ?_⟩
 ·rw[hps,List.mem_append]at hp;exact Or.inr hp
 obtain⟨_,_,_,_,_,hz,hn⟩:=hW;refine⟨hok,_,_,([]++pa)++pv,⟨[]++pa,pv,trodAll_append (hargs _ (fun _ _=>rfl)) (hres _ _ _),hvars _ (fun _ _=>rfl),rfl, ?_, ?_⟩, ?_⟩
 ·intro b off hp;have c:MemPlace.cell b off∈before:=by rw[hps];simpa using hp
  rw[hb.frozen (d _ c)];exact hz b off c
 ·intro ha;have:=hn ha;rw[hps]at this;simpa using this
 intro p hp _;rw[hps];simpa using hp
end
section
variable {H:Type} {enc:TypeId × Value→H} {P:Program} {w:World} {base:Nat} {spare:Nat→Bool} {held:Bool}
theorem DU{t:TypeId}{fs:Array Field}{fuel:Nat}{cs:List Value}{x:DataW H × List MemPlace}(ht:P.underlying t=some (.struct fs))(h:DataW.trod enc P w base spare held fuel t cs=some x)(i T o k:Nat)(hf:(fs[i]?).map (fun f=>(f.type,f.offset))=some (T,o))(hc:P.cellsOf T=k):
  ∃n y,DataW.trod enc P w base spare held n T ((cs.drop o).take k)=some y:=by
 obtain⟨xs,n,_,_,_,a,hg⟩:=DataW.trod_struct ht h;cases hfi:fs[i]? with
 |none=>rw[hfi]at hf;cases hf
 |some f=>
  rw[hfi]at hf;simp only[Option.map_some,Option.some.injEq,Prod.mk.injEq]at hf;obtain⟨rfl,rfl⟩:=hf;subst hc;have:=hg i f hfi;have hi:i<xs.length:=by rw[a];exact(Array.getElem?_eq_some_iff.1 hfi).1
  rw[List.getElem?_eq_getElem hi]at this;exact⟨n,_,this⟩
theorem L0{t:TypeId}{fs:Array Field}{fuel:Nat}{cs:List Value}{x:DataW H × List MemPlace}(ht:P.underlying t=some (.struct fs))(h:DataW.trod enc P w base spare held fuel t cs=some x):cs.length=P.cellsOf t:=by
 obtain⟨xs,n,_,_,hl,_⟩:=DataW.trod_struct ht h;exact hl
theorem Gh{w:World}{a:Addr}{v:Value}(h:w.cell? a=some v):a.block<w.heap.size:=by
 by_cases hb:a.block<w.heap.size
 ·exact hb
 unfold World.cell? at h;rw[Array.getElem?_eq_none (by omega)]at h;simp at h
end
section
variable {H:Type} {enc:TypeId × Value→H}
theorem UB{a:Assume}{C:Checked}{os:Os}{f:FuncId}{fn:Func}{s:ChangeSpec}{conds:List PathCond}{apart fresh handsOn again:Bool}{X:World→Array Value→Prop}
  (hX:∀(w w':World)(args:Array Value),w.heap=w'.heap→X w args→X w' args)
  (own:ownKnob C.prog.godebug=none)(started:os.Started)(noInit:C.prog.inits.idxOf? f=none)(hfn:C.prog.funcs[f]? =some fn)
  (witness:∃(w:World)(tape:Tape)(i:Input),w.os=os∧(w.forCall tape i).Shaped C.prog∧i.vars=[]∧Input.okWide C.prog (w.forCall tape i) .any w.heap.size f i∧
   ((s.pre enc C.prog fn conds apart (w.forCall tape i).memory i.args∧X (w.forCall tape i).memory i.args)∧sizedMet enc C.prog fn (OpenSpec.ofChange s) apart (w.forCall tape i).memory i.args)∧a.holds C.prog (lone (Frame.enter C.prog f i.args .normal) [] (w.forCall tape i)))
  (contract:∀(W:World) (base:Nat) (args:Array Value) (ds gs:List (DataW H)) (b:List MemPlace),
   (∀(j:Nat) t v,fn.params[j]? =some t→args[j]? =some v→Value.okWide C.prog W .any base t v)→
   DataW.Whole enc C.prog fn.params.toList s.vars apart W args.toList ds gs b→
   conds.all (PathCond.test C.prog ⟨fn.params.toList,ds,s.plain.varTypes C.prog,gs⟩)=true→
   W.ShapedOpen C.prog→X W args→
   Calls C.prog f args W fun e W'=>∃v,e=.returned v∧s.post enc C.prog fn apart fresh handsOn again W args v W'):
  ReturnsInHanded a C os f .any (fun w args=>(s.pre enc C.prog fn conds apart w args∧X w args)∧sizedMet enc C.prog fn (OpenSpec.ofChange s) apart w args) (s.post enc C.prog fn apart fresh handsOn again):=by
 refine returnsInHanded_of_calls own started noInit witness ?_;intro w tape i _ hsh _ hok hpre _;obtain⟨_,_,_,h,c,_,_,_,_,d⟩:=hok;have e:h=fn:=Option.some.inj (c.symm.trans hfn);subst e;obtain⟨⟨⟨ds,gs,b,hw,hc⟩,hx⟩,_⟩:=hpre;have g:=DataW.Whole.of_heap (w':=w.forCall tape i) (by rfl) hw;refine(contract (w.forCall tape i) w.heap.size i.args ds gs b d g hc hsh (hX _ _ _ (by rfl) hx)).mono fun e W' ⟨v,he,hp⟩=> ?_
 subst he;exact ChangeSpec.post_blind hp
end
abbrev MC:List (String × DataW Unit):=[("mandoline/sum.steps",Rows.laid_mandoline_sum_steps),("math/bits.deBruijn32tab",Rows.laid_math_bits_deBruijn32tab),("math/bits.deBruijn64tab",Rows.laid_math_bits_deBruijn64tab),("internal/strconv.uint64pow10",Rows.laid_internal_strconv_uint64pow10),("unicode/utf8.acceptRanges",Rows.laid_unicode_utf8_acceptRanges),("strconv.ErrRange",Rows.laid_strconv_ErrRange),("strconv.ErrSyntax",Rows.laid_strconv_ErrSyntax),("unicode/utf8.first",Rows.laid_unicode_utf8_first)]
theorem UE{W:World}(hL:laidMetH prog MC W):XX W.heap.size W∧2<W.heap.size:=by
 rw[MakeChecks.laidMetH_plain _ _ _ (by kernel_rfl)]at hL;have h2:laidMet prog [("internal/strconv.uint64pow10",Lib.tabData .u64 Lib.pow10Tab)] W:=hL.filter (fun x=>x.1== "internal/strconv.uint64pow10");have h3:laidMet prog [("mandoline/sum.steps",Lib.tabData .u32 (YS.map Int.ofNat))] W:=hL.filter (fun x=>x.1== "mandoline/sum.steps");have ht:Tb W:=Lib.tabIs_of_head (g:=0) (t:=316) (e:=263) (n:=20) (by kernel_rfl) (by kernel_rfl) (by kernel_rfl) (by kernel_rfl) (by kernel_rfl) (by kernel_rfl) h2;have hs:Lib.TabIs prog W "mandoline/sum.steps" .u32 (YS.map Int.ofNat):=Lib.tabIs_of_head (g:=2) (t:=337) (e:=264) (n:=16) (by kernel_rfl) (by kernel_rfl) (by kernel_rfl) (by kernel_rfl) (by kernel_rfl) (by kernel_rfl) h3;have b:J9 W:=by
  intro i hi;have h0:=World.var?_cell (show prog.globalNamed "mandoline/sum.steps" =some 2 from by kernel_rfl) hs i;rw[h0]
  match i,hi with
  |0,_=>rfl
  |1,_=>rfl
  |2,_=>rfl
  |3,_=>rfl
  |4,_=>rfl
  |5,_=>rfl
  |6,_=>rfl
  |7,_=>rfl
  |8,_=>rfl
  |9,_=>rfl
  |10,_=>rfl
  |11,_=>rfl
  |12,_=>rfl
  |13,_=>rfl
  |14,_=>rfl
  |15,_=>rfl
  |_+16,h=>exact absurd h (by omega)
 have a:2<W.heap.size:=Gh (b 0 (by omega));refine⟨fun w' hw=>⟨fun i hi=> ?_,ht.below hw⟩,a⟩;exact(hw.cell (p:=⟨2,i,none⟩) a).trans (b i hi)
theorem Tryz.Cg:prog.cellsOf 3=1:=by kernel_rfl
theorem Tryz.OZ:prog.cellsOf 2=1:=by kernel_rfl
theorem Tryz.Cx:prog.cellsOf 5=1:=by kernel_rfl
theorem Tryz.De:prog.cellsOf 22=1:=by kernel_rfl
theorem Tryz.Gg:prog.cellsOf 53=2:=by kernel_rfl
theorem Tryz.Gn:prog.cellsOf 55=5:=by kernel_rfl
section
variable {H:Type} {enc:TypeId × Value→H} {w:World} {base:Nat} {spare:Nat→Bool} {held:Bool}
theorem E8{fuel:Nat}{cs:List Value}{x:DataW H × List MemPlace}(h:DataW.trod enc prog w base spare held fuel 55 cs=some x):
  ∃(k v n:Int)(sz b:Nat),cs=[.int .i64 k,.int .i64 v,.int .i64 n,.int .u16 sz,.int .u8 b]∧sz<65536∧b<256∧ZX v∧ZX n:=by
 have hl:cs.length=5:=(L0 underlying55 h).trans Tryz.Gn
 match cs,hl with
 |[c0,c1,c2,c3,c4],_=>
  obtain⟨_,_,h0⟩:=DU underlying55 h 0 3 0 _ rfl Tryz.Cg;obtain⟨_,_,h1⟩:=DU underlying55 h 1 53 1 _ rfl Tryz.Gg;obtain⟨_,_,h2⟩:=DU underlying55 h 2 22 3 _ rfl Tryz.De;obtain⟨_,_,h3⟩:=DU underlying55 h 3 5 4 _ rfl Tryz.Cx;obtain⟨_,_,g0⟩:=DU underlying53 h1 0 2 0 _ rfl Tryz.OZ;obtain⟨_,_,g1⟩:=DU underlying53 h1 1 2 1 _ rfl Tryz.OZ;obtain⟨k,e0,_,_⟩:=DataW.trod_int underlying3 h0;obtain⟨v,e1,_,u1⟩:=DataW.trod_int underlying2 g0;obtain⟨n,e2,_,u2⟩:=DataW.trod_int underlying2 g1;obtain⟨sz,e3,_,w3⟩:=DataW.trod_int underlying22 h2;obtain⟨b,e4,_,w4⟩:=DataW.trod_int underlying5 h3;simp at e0 e1 e2 e3 e4;subst e0;subst e1;subst e2;subst e3;subst e4;have m1:IntKind.u16.min=0:=rfl;have m2:IntKind.u16.max=65535:=rfl;have m3:IntKind.u8.min=0:=rfl;have m4:IntKind.u8.max=255:=rfl;simp[Lit.wf,m1,m2]at w3;simp[Lit.wf,m3,m4]at w4;refine⟨k,v,n,sz.toNat,b.toNat, ?_,by omega,by omega,u1,u2⟩;rw[Int.toNat_of_nonneg w3.1,Int.toNat_of_nonneg w4.1]
end
end
section
open Go.ChangeShapes Go.WideShapes Go.ChangeAt Go.WideMaps Go.WideElems Go.Deep
theorem Gi{α:Type}{P:Nat→α→Prop}:∀(n:Nat),(∀i,i<n→∃x,P i x)→∃l:List α,l.length=n∧∀i (h:i<l.length),P i l[i]
 |0,_=>⟨[],rfl,fun i h=>absurd h (by simp)⟩
 |n+1,h=>by
  obtain⟨l,hl,hp⟩:=Gi n (fun i hi=>h i (by omega));obtain⟨x,hx⟩:=h n (by omega);refine⟨l++[x],by simp[hl],fun i hi=> ?_⟩;by_cases hil:i<l.length
  ·rw[List.getElem_append_left hil];exact hp i hil
  have:i=n:=by simp at hi;omega
  subst this;rw[List.getElem_append_right (by omega)];simpa [hl]using hx
theorem PZ(a:Addr)(i j:Nat):a.add (i+j)=(a.add i).add j:=by
 obtain⟨b,off,a0⟩:=a;by_cases hi:i=0<;>by_cases hj:j=0<;>simp[Addr.add,hi,hj,Nat.add_assoc]
section
variable {H:Type} {enc:TypeId × Value→H} {w:World} {base:Nat} {spare:Nat→Bool} {held:Bool}
theorem GD{fuel:Nat}{v:Value}{x:DataW H × List MemPlace}(h:DataW.trod enc prog w base spare held fuel 45 [v]=some x):
  ∃A n c,∃l:List OH,v=.slice A n c∧Rd w w.heap.size 5 A n (l.flatMap OH.cells)∧∀a∈l,a.sz<65536∧a.b<256∧ZX a.v∧ZX a.n:=by
 rcases open_slice underlying45 h with⟨hc,_⟩|⟨a,len,cap,m,n,D,Pl,hc,_,hl,hm,hmm,_,hi⟩
 ·injection hc with hc;exact⟨none,0,0,[],hc,⟨rfl,fun h=>absurd h (by omega)⟩,fun a ha=>by cases ha⟩
 injection hc with hc;have a0:len≤m:=by rw[hmm];split<;>omega
 rw[Tryz.Gn]at hi;have t:∀i,i<len→∃q:OH,(∀j,j<5→w.cell? (a.add (i*5+j))=q.cells[j]?)∧q.sz<65536∧q.b<256∧ZX q.v∧ZX q.n:=fun i him=>by
  obtain⟨a2,z,ht⟩:=hi i (by omega);obtain⟨_,a1,u⟩:=World.cells?_some z;obtain⟨k,v,n,sz,b,s,h1,h2⟩:=E8 ht;refine⟨⟨k,v,n,sz,b⟩,fun j hj=> ?_,h1,h2⟩;have:=u j hj;rw[s]at this;refine Eq.trans ?_ this;rw[PZ]
 obtain⟨l,r,f⟩:=Gi len t;refine⟨some a,len,cap,l,hc,⟨by rw[Ur OH.cells 5 OH.Oq,r],fun hn=> ?_⟩,fun q hq=> ?_⟩
 ·have h0:=(f 0 (by omega)).1 0 (by omega);have d:(l[0]'(by omega)).cells[0]? =some (.int .i64 (l[0]'(by omega)).k):=rfl;rw[d]at h0;obtain⟨b,off,o⟩:=a;have e:o=none:=by simpa [Addr.add]using World.cell?_spot h0
  subst e;refine⟨b,off,rfl, ?_,fun j hj=> ?_⟩
  ·simpa [Addr.add]using Gh h0
  rw[Ur OH.cells 5 OH.Oq,r]at hj;have hq:j/5<l.length:=by omega
  have hg:=Na OH.cells 5 OH.Oq l (j/5) (j%5) hq (by omega);have p:j/5*5+j%5=j:=by omega
  rw[p]at hg;have g:=(f (j/5) hq).1 (j%5) (by omega);rw[p,J3,←hg]at g;rw[g];exact List.getElem?_eq_getElem _
 obtain⟨i,y,rfl⟩:=List.mem_iff_getElem.1 hq;exact(f i y).2
end
end
end Go.Proofs.YtmgmfnimaafkdaaGreatDoor
