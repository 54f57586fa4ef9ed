/- A forgetting undone: maps.Copy, and the note. -/
import Derived.BigRegion
import Derived.Test.YtmgmfnimaafkdaaGreatDoorVH
import Derived.Deep.WholeRow
namespace Go.Proofs.YtmgmfnimaafkdaaGreatDoor
set_option maxRecDepth 100000
set_option maxHeartbeats 0
open Go.RowKit Go.Maps
open Tryz
namespace GV
def M3(p v:Value):Sem Unit:=Instr.storeAt 140 p v
theorem Mn(p v:Value):Instr.storeAt 140 p v=M3 p v:=rfl
variable {g:Nat} {w:World}
theorem Lm{a b:Value}{x y:Value}(hk:Qh w g 140 #[a,b])(hx:x.oneCell'=true)(hy:y.oneCell'=true):(M3 (.pointer (some ⟨g,0,none⟩)) (.agg #[x,y])).run prog w=.ok () (w.setRow g #[x,y]):=by
 have:=run_storeVar_row (P:=prog) w g 140 140 #[a,b] #[x,y] hk Wx rfl (by simp[hx,hy]);simp only[M3,Instr.storeAt,Instr.sureAddr,Sem.run_bind,Sem.run_pure,Result.andThen_ok,this]
variable {M:Nat} {w':World}
theorem Tv(h:Below w.heap.size w w'):∀k,k<w.heap.size→k≠M→w'.heap[k]? =w.heap[k]? :=fun k hk _=>h.block k hk
def Pz(w w':World)(base M:Nat)(r:Nat × Jt)(e:Ending):Prop:=ZU w w' base M r e∧∀k,k<w.heap.size→k≠M→w'.heap[k]? =w.heap[k]?
variable {A4:Option Addr} {base c4 i1 j:Nat} {old:Value} {w4:World}
theorem GW{m:Jt}{e2:Nat × Nat}(h:KL w base M m)(hinn:∀e∈m.free.take i1++e2::m.free.drop j,e.1+e.2≤4194304)(hfew:(m.free.take i1++e2::m.free.drop j).length≤4194304)(hi1:i1≤m.free.length)
  (hs:Sl w4 140 2 A4 (i1+(1+(m.free.length-j))) (Jc (m.free.take i1)++(Jc [e2]++Jc (m.free.drop j))))(hc:i1+(1+(m.free.length-j))≤c4)(hb:Below w.heap.size w w4)
  (hM:Qh w4 M 220 #[.int .i64 m.Ky,.int .i64 m.QJ,old])(hbw:base≤w.heap.size):
  KL (w4.setCell ⟨M,2,none⟩ (.slice A4 (i1+(1+(m.free.length-j))) c4)) base M { m with free:=m.free.take i1++e2::m.free.drop j }∧Qd base [220] w (w4.setCell ⟨M,2,none⟩ (.slice A4 (i1+(1+(m.free.length-j))) c4))∧
  ∀k,k<w.heap.size→k≠M→(w4.setCell ⟨M,2,none⟩ (.slice A4 (i1+(1+(m.free.length-j))) c4)).heap[k]? =w.heap[k]? :=by
 have hk:Qd base [220] w4 (w4.setCell ⟨M,2,none⟩ (.slice A4 (i1+(1+(m.free.length-j))) c4)):=(Qd.refl base _ w4).set hM h.low (by simp) _;have hl:(m.free.take i1++e2::m.free.drop j).length=i1+(1+(m.free.length-j)):=by
  rw[List.length_append,List.length_cons,List.length_take,List.length_drop];omega
 have he:Jc (m.free.take i1++e2::m.free.drop j)=Jc (m.free.take i1)++(Jc [e2]++Jc (m.free.drop j)):=by
  rw[Vw,←Vw [e2]];rfl
 refine⟨⟨h.low,h.Ky,h.sec,hinn,hfew,A4,c4, ?_, ?_, ?_⟩,(Qd.Qe hb hbw).trans hk,fun k hkl hne=>(Below.heap_setCell w4 ⟨M,2,none⟩ _ k hne).trans (hb.block k hkl)⟩
 ·simp only[hl];exact hM.set 2 _
 ·simp only[hl];exact hc
 simp only[hl,he];exact hs.keeps hk (by decide)
variable {A:Option Addr} {b0 c:Nat} {wb:World}
theorem Et{m:Jt}{e2:Nat × Nat}(h:KL w base M m)(hbelow:Below w.heap.size w wb)(hi1:i1≤m.free.length)
  (hB:Qh wb M 220 #[.int .i64 m.Ky,.int .i64 m.QJ,.slice A m.free.length c])(hS:Sl w 140 2 A m.free.length (Jc m.free))
  (hO:wb.ownsRow w.heap.size 140 2 (.slice (some ⟨b0,0,none⟩) 1 1) 1 (Jc [e2]))(A3:Option Addr)(c3:Nat)(w3:World)
  (hown:w3.ownsRow w.heap.size 140 2 (.slice A3 (1+(m.free.length-j)) c3) (1+(m.free.length-j)) (Jc [e2]++Jc (m.free.drop j)))(hgr:wb.grownBy w3 (Value.slice (some ⟨b0,0,none⟩) 1 1).ownBlock):
  w3.cell? ⟨M,2,none⟩=some (.slice A m.free.length c)∧∃A4 c4 w4,(Builtin.append_ #[218,218] 218 #[.slice A i1 i1,.slice A3 (1+(m.free.length-j)) c3]).run prog w3=.ok (.slice A4 (i1+(1+(m.free.length-j))) c4) w4∧
   Sl w4 140 2 A4 (i1+(1+(m.free.length-j))) (Jc (m.free.take i1)++(Jc [e2]++Jc (m.free.drop j)))∧i1+(1+(m.free.length-j))≤c4∧Below w.heap.size w w4∧Qh w4 M 220 #[.int .i64 m.Ky,.int .i64 m.QJ,.slice A m.free.length c]:=by
 obtain⟨i0,l,g,i,f⟩:=info_parts Wt;have a0:=h.Yp;have a:=hB.grown hgr (Xl hO hB (by decide));have d:Below w.heap.size w w3:=hbelow.trans (Qg hgr hbelow.size (fun k hk=>(hO.lt k hk).1));have hk:Qd w.heap.size [] w w3:=Qd.Qe d nR;have e:Sl w3 140 2 A i1 (Jc (m.free.take i1)):=by
  by_cases hz:0<m.free.length
  ·obtain⟨b,o,rfl,_⟩:=hS.TY 0 hz rfl;have h:=(hS.keeps hk (by simp)).part 0 i1 (by omega);rw[Nat.zero_mul,Nat.add_zero,List.drop_zero,Sj]at h;exact h
  obtain rfl:i1=0:=by omega
  exact Sl.nil
 obtain⟨A4,c4,w4,r1,r2,r3,r4,r5⟩:=VV w3 218 218 140 i0 _ 2 16 Yo l g i f rfl (by decide) A i1 _ e A3 (1+(m.free.length-j)) c3 _ (Zy hown) (by
  intro u hu;rcases List.mem_append.1 hu with hu|hu
  ·exact XQ _ u hu
  exact XQ _ u hu) (by unfold maxLen;omega) (by omega)
 exact⟨a.cell 2,A4,c4,w4,r1,r2,r3,d.trans (r4.mono d.size),a.below r4 a.lt⟩
def Ez(args:Array Value):Sem Value:=Builtin.append_ #[218,218] 218 args
theorem MK(args:Array Value):Builtin.append_ #[218,218] 218 args=Ez args:=rfl
theorem FY{m:Jt}{e2:Nat × Nat}{B:Option Addr}{cB:Nat}(h:KL w base M m)(hbelow:Below w.heap.size w wb)(hi1:i1≤m.free.length)
  (hB:Qh wb M 220 #[.int .i64 m.Ky,.int .i64 m.QJ,.slice A m.free.length c])(hS:Sl w 140 2 A m.free.length (Jc m.free))
  (hO:wb.ownsRow w.heap.size 140 2 (.slice (some ⟨b0,0,none⟩) 1 1) 1 (Jc [e2]))(hR:Rd wb wb.heap.size 2 B (m.free.length-j) (Jc (m.free.drop j))):
  ∃A3 c3 w3 A4 c4 w4,(Ez #[.slice (some ⟨b0,0,none⟩) 1 1,.slice B (m.free.length-j) cB]).run prog wb=.ok (.slice A3 (1+(m.free.length-j)) c3) w3∧
   w3.cell? ⟨M,2,none⟩=some (.slice A m.free.length c)∧M<w3.heap.size∧
   (Ez #[.slice A i1 i1,.slice A3 (1+(m.free.length-j)) c3]).run prog w3=.ok (.slice A4 (i1+(1+(m.free.length-j))) c4) w4∧
   w4.cell? ⟨M,2,none⟩=some (.slice A m.free.length c)∧w4.frozen? ⟨M,2,none⟩=false∧M<w4.heap.size∧
   Qb (Sl w4 140 2 A4 (i1+(1+(m.free.length-j))) (Jc (m.free.take i1)++(Jc [e2]++Jc (m.free.drop j)))∧i1+(1+(m.free.length-j))≤c4∧Below w.heap.size w w4∧Qh w4 M 220 #[.int .i64 m.Ky,.int .i64 m.QJ,.slice A m.free.length c]):=by
 obtain⟨i0,d,f,e,a⟩:=info_parts Wt;have a0:=h.Yp;obtain⟨A3,c3,w3,r1,r2,r3,r4,r5⟩:=XJ wb w.heap.size 218 218 140 i0 _ 2 16 Yo d f e a rfl (by decide) _ 1 _ hO B (m.free.length-j) cB _ _ hR (XQ _) (by unfold maxLen;omega) (by omega) hbelow.size;obtain⟨q1,A4,c4,w4,q2,q3,q4,q5,q6⟩:=Et (j:=j) h hbelow hi1 hB hS hO A3 c3 w3 r2 r3;have b:=hB.grown r3 (Xl hO hB (by decide));exact⟨A3,c3,w3,A4,c4,w4,r1,q1,b.lt,q2,q6.cell 2,q6.free 2,q6.lt,Qa ⟨q3,q4,q5,q6⟩⟩
attribute [local go_sem ↓] Mn MK
variable {N lo:Nat}
theorem TX{m:Jt}(h:KL w base M m)(hinv:JC m lo N)(hbw:base≤w.heap.size)(a l:Nat)(ha:a<1099511627776)(hl:l<1099511627776):
  Calls prog 108 #[.pointer (some ⟨M,0,none⟩),.agg #[.int .i64 a,.int .i64 l]] w fun e w'=>Pz w w' base M (JF m a l) e:=by
 have a7:Below w.heap.size w (w.alloc (.cells #[.int .i64 a,.int .i64 l] 140)):=bR.alloc nR _;have ak:=Qh.new w 140 #[.int .i64 a,.int .i64 l];have HH:=Qa h;have b6:=h.Yp;obtain⟨r,hr⟩:=eX (JF m a l);rw[←hr]
 have a0:=@Qa (∀wy,Below w.heap.size w wy→Calls prog 119 #[.pointer (some ⟨M,0,none⟩),.agg #[.int .i64 a,.int .i64 l]] wy fun e w'=>e=.returned (.bool (X6 m a l))∧Below wy.heap.size wy w') (fun wy hy=>by
  have:=NQ (h.below hy) a l (by omega) (by omega) (by omega);rw[Sf]at this;exact this)
 have aj:=@Qa (∀wy,Below w.heap.size w wy→Calls prog 120 #[.pointer (some ⟨M,0,none⟩),.int .i64 a] wy fun e w'=>e=.returned (.int .i64 (Vg m a:Nat))∧Below wy.heap.size wy w') (fun wy hy=>TI (h.below hy) hinv.Iq a);by_cases ho:X6 m a l=false
 ·have aR:r=(1,m):=by rw[hr];unfold JF;rw[if_pos ho]
  rw[ho]at a0;have z:=Qa a7;subst aR;clear hr h a7 ak;go_enter func108,ntmps108;go_wp2_with (go_at_call 119;refine(a0.o _ z.o).mono ?_;rintro e w1 ⟨rfl,F⟩;(have u:=Qa (z.o.trans (F.mono z.o.size)));clear F);go_ret;exact⟨⟨rfl,HH.o.below u.o,Qd.Qe u.o hbw⟩,Tv u.o⟩
 have ae:X6 m a l=true:=by simpa using ho
 rw[ae]at a0;obtain⟨i,af⟩:=eX (Vg m a);rw[←af]at aj;have av:=Yi (at':=a) hinv;rw[←af]at av;have b7:=av.1;have am:a+l≤4194304∧1≤l:=by
  have h1:=h.Ky;have h2:=h.sec;unfold X6 at ae;simp at ae;omega
 have bh:=am.1;have b5:=am.2;have z:=Qa a7;have a4:=Qa ak;have HR:=Qa hr;have aN:=Qa af;have HO:=Qa ho;clear hr h a7 ak af av ho ae am;go_enter func108,ntmps108
 go_upto_region 4 with(first
  |(go_at_call 119;refine(a0.o _ z.o).mono ?_;rintro e w1 ⟨rfl,F⟩;(have u:=Qa (z.o.trans (F.mono z.o.size)));(have b1:w1.cell? ⟨w.heap.size,0,none⟩=some (.int .i64 a):=(a4.o.below F a4.o.lt).cell 0);(have a8:=Qa (a4.o.below F a4.o.lt));(have b2:=a8.o.lt);clear F)
  |(go_at_call 120;refine(aj.o _ u.o).mono ?_;rintro e w2 ⟨rfl,ay⟩;(have ah:=Qa (u.o.trans (ay.mono u.o.size)));(have I:=Qa (a8.o.below ay a8.o.lt));clear ay))
 clear b1 b2;obtain⟨X,hX⟩:=eX w.heap.size;rw[←hX]at I ⊢;have HX:=Qa hX;clear hX a8 a4 u z a0 aj;go_cut [37] (fun v wx=>v=.bool (decide (i<m.free.length∧(m.free.getD i (0,0)).1<a+l))∧Below w.heap.size w wx∧Qh wx X 140 #[.int .i64 a,.int .i64 l])
 case first=>as_aux_lemma=>
  obtain⟨A,c,hb,hc,f⟩:=(HH.o.below ah.o).rep;have K:=hb.lt;have e2:w2.cell? ⟨M,2,none⟩=some (.slice A m.free.length c):=hb.cell 2;have p0:w2.cell? ⟨X,0,none⟩=some (.int .i64 a):=I.o.cell 0;have p1:w2.cell? ⟨X,1,none⟩=some (.int .i64 l):=I.o.cell 1;have pl:=I.o.lt;have a2:=Qa f;clear hb f;by_cases d:i<m.free.length
  ·obtain⟨b,o,hA,W,c1,c2⟩:=a2.o.TY i d rfl;have hx:=HH.o.R6 (m.free[i]) (List.getElem_mem _);have g:m.free.getD i (0,0)=m.free[i]:=JW d;have hq:decide ((i:Int)<(m.free.length:Nat))=true:=by simp;omega
   have L:(i:Int)<m.free.length:=by omega
   have Z:(0:Int)≤i:=by omega
   subst hA;have t:=Qa g;clear g;generalize m.free[i]=x at*
   by_cases h2:x.1<a+l
   ·have d2:decide ((x.1:Int)<(a:Int)+(l:Int))=true:=decide_eq_true (by omega);have d3:decide (x.1<a+l)=true:=decide_eq_true h2
    go_quiet (fail)
    go_wp2_with fail;go_meet;exact⟨by rw[decide_eq_true (p:=i<m.free.length∧(m.free.getD i (0,0)).1<a+l) ⟨d,by rw[t.o];exact h2⟩],QK ah.o _,I.o⟩
   have d2:decide ((x.1:Int)<(a:Int)+(l:Int))=false:=decide_eq_false (by omega);have d3:decide (x.1<a+l)=false:=decide_eq_false h2
   go_quiet (fail)
   go_wp2_with fail;go_meet;exact⟨by rw[decide_eq_false (p:=i<m.free.length∧(m.free.getD i (0,0)).1<a+l) (by rw[t.o];exact fun h=>h2 h.2)],QK ah.o _,I.o⟩
  have hq:decide ((i:Int)<(m.free.length:Nat))=false:=by simp;omega
  have aZ:decide (i<m.free.length)=false:=decide_eq_false d
  go_quiet (fail)
  go_wp2_with fail;go_meet;exact⟨by rw[decide_eq_false (p:=i<m.free.length∧(m.free.getD i (0,0)).1<a+l) (fun h=>d h.1)],QK ah.o _,I.o⟩
 obtain⟨rfl,aJ,aA⟩:=hcut;have H:=Qa aJ;have T:=Qa aA;clear aJ aA;by_cases h6:i<m.free.length∧(m.free.getD i (0,0)).1<a+l
 ·have G:r=(6,m):=by rw[HR.o];unfold JF;rw[if_neg HO.o,←aN.o];exact if_pos h6
  rw[decide_eq_true h6];subst G;clear h6;go_wp2_with fail;go_ret;exact⟨⟨rfl,HH.o.below H.o,Qd.Qe H.o hbw⟩,Tv H.o⟩
 rw[decide_eq_false h6];have H6:=Qa h6;clear h6;go_upto_region 7 with fail;go_cut [64] (fun v wx=>v=.bool (decide (0<i∧(m.free.getD (i-1) (0,0)).1+(m.free.getD (i-1) (0,0)).2=a))∧Below w.heap.size w wx∧Qh wx X 140 #[.int .i64 a,.int .i64 l])
 case first=>as_aux_lemma=>
  obtain⟨A,c,hb,hc,f⟩:=(HH.o.below H.o).rep;have K:=hb.lt;have e2:wc.cell? ⟨M,2,none⟩=some (.slice A m.free.length c):=hb.cell 2;have p0:wc.cell? ⟨X,0,none⟩=some (.int .i64 a):=T.o.cell 0;have p1:wc.cell? ⟨X,1,none⟩=some (.int .i64 l):=T.o.cell 1;have pl:=T.o.lt;have a2:=Qa f;clear hb f;by_cases hi:0<i
  ·obtain⟨i0,Z⟩:=eX (i-1);have d:i0<m.free.length:=by omega
   obtain⟨b,o,hA,W,c1,c2⟩:=a2.o.TY i0 d rfl;have hx:=HH.o.R6 (m.free[i0]) (List.getElem_mem _);have g:m.free.getD i0 (0,0)=m.free[i0]:=JW d;have L:(i0:Int)<m.free.length:=by omega
   have aH:(0:Int)≤i0:=by omega
   have aw:(0:Int)<i:=by omega
   have az:(i:Int)-1=(i0:Int):=by omega
   have aE:IntKind.i64.wrap (i0:Int)=(i0:Int):=by rw[IntKind.wrap_i64];omega
   have b3:decide ((i:Int)>0)=true:=decide_eq_true aw;have b0:decide (0<i)=true:=decide_eq_true hi;subst hA;have t:=Qa g;have aD:=Qa Z;clear g Z;generalize m.free[i0]=x at*
   by_cases h2:x.1+x.2=a
   ·have d2:((x.1:Int)+(x.2:Int)==(a:Int))=true:=by simp;omega
    have d3:(x.1:Int)+(x.2:Int)=(a:Int):=by omega
    have H2:=Qa h2;clear h2
    go_quiet (fail)
    go_wp2_with fail;go_meet;exact⟨by rw[decide_eq_true (p:=0<i∧(m.free.getD (i-1) (0,0)).1+(m.free.getD (i-1) (0,0)).2=a) ⟨hi,by rw[←aD.o,t.o];exact H2.o⟩],QK H.o _,T.o⟩
   have d2:((x.1:Int)+(x.2:Int)==(a:Int))=false:=by simp;omega
   have d3:¬(x.1:Int)+(x.2:Int)=(a:Int):=by omega
   have H2:=Qa h2;clear h2
   go_quiet (fail)
   go_wp2_with fail;go_meet;exact⟨by rw[decide_eq_false (p:=0<i∧(m.free.getD (i-1) (0,0)).1+(m.free.getD (i-1) (0,0)).2=a) (by rw[←aD.o,t.o];exact fun h=>H2.o h.2)],QK H.o _,T.o⟩
  have aw:¬(0:Int)<i:=by omega
  have b3:decide ((i:Int)>0)=false:=decide_eq_false aw;have b0:decide (0<i)=false:=decide_eq_false hi
  go_quiet (fail)
  go_wp2_with fail;go_meet;exact⟨by rw[decide_eq_false (p:=0<i∧(m.free.getD (i-1) (0,0)).1+(m.free.getD (i-1) (0,0)).2=a) (fun h=>hi h.1)],QK H.o _,T.o⟩
 obtain⟨rfl,aO,aB⟩:=hcut;have au:=Qa aO;have C:=Qa aB;clear aO aB;obtain⟨BK,hBK⟩:∃P:Prop,P=(0<i∧(m.free.getD (i-1) (0,0)).1+(m.free.getD (i-1) (0,0)).2=a):=⟨_,rfl⟩
 haveI hdec:Decidable BK:=Classical.propDecidable _
 obtain⟨i1,hi1⟩:∃i1:Nat,i1=if BK then i-1 else i:=⟨_,rfl⟩
 obtain⟨e1,he1⟩:∃e1:Nat × Nat,e1=if BK then((m.free.getD (i-1) (0,0)).1,(m.free.getD (i-1) (0,0)).2+l)else(a,l):=⟨_,rfl⟩
 have V:decide (0<i∧(m.free.getD (i-1) (0,0)).1+(m.free.getD (i-1) (0,0)).2=a)=decide BK:=decide_eq_decide.2 (by rw[hBK]);rw[V];clear V;go_upto_if 64 with fail;go_cut [5] (fun v wx=>v=.int .i64 i1∧Below w.heap.size w wx∧Qh wx X 140 #[.int .i64 e1.1,.int .i64 e1.2])
 case first=>as_aux_lemma=>
  by_cases hbk:BK
  ·rw[decide_eq_true hbk];rw[if_pos hbk]at hi1 he1;rw[hBK]at hbk;obtain⟨hi,a3⟩:=hbk;obtain⟨A,c,hb,hc,f⟩:=(HH.o.below au.o).rep;have K:=hb.drew.lt;have e2:wc.drew.cell? ⟨M,2,none⟩=some (.slice A m.free.length c):=hb.drew.cell 2;have p0:wc.drew.cell? ⟨X,0,none⟩=some (.int .i64 a):=C.o.drew.cell 0;have p1:wc.drew.cell? ⟨X,1,none⟩=some (.int .i64 l):=C.o.drew.cell 1;have f0:=C.o.drew.free 0;have f1:=C.o.drew.free 1;have pl:=C.o.drew.lt;have d:i1<m.free.length:=by omega
   have q:Sl wc.drew 140 2 A m.free.length (Jc m.free):=f;obtain⟨b,o,hA,W,c1,c2⟩:=q.TY i1 d rfl;have hx:=HH.o.R6 (m.free[i1]) (List.getElem_mem _);have g:m.free.getD i1 (0,0)=m.free[i1]:=JW d;have L:(i1:Int)<m.free.length:=by omega
   have aH:(0:Int)≤i1:=by omega
   have az:(i:Int)-1=(i1:Int):=by omega
   have aE:IntKind.i64.wrap (i1:Int)=(i1:Int):=by rw[IntKind.wrap_i64];omega
   subst hA;rw[←hi1,g]at he1 a3;have ar:=Qa he1;have aF:=Qa hi1;have bd:=Qa a3;have q1:((m.free[i1].1:Nat):Int)+(m.free[i1].2:Nat)=(a:Int):=by omega
   clear hb f q hi1 he1 a3 g hBK;generalize m.free[i1]=x at*
   have q2:IntKind.i64.wrap ((x.2:Int)+(l:Int))=(x.2:Int)+(l:Int):=by rw[IntKind.wrap_i64];omega
   have zs:=Lm (x:=.int .i64 x.1) (y:=.int .i64 ((x.2:Int)+(l:Int))) C.o.drew rfl rfl;clear f0 f1;go_upto_region 9 with fail
   go_still_tail 20,(by kernel_rfl)
   go_simp;go_wp2_with fail;go_meet;refine⟨rfl,below_setRow au.o.drew (by rw[HX.o];exact nR) _, ?_⟩;have a6:=setRow_heap wc.drew X _ #[.int .i64 x.1,.int .i64 ((x.2:Int)+(l:Int))] 140 (0,0) C.o.drew;rw[ar.o];simp only[Int.natCast_add];exact a6
  rw[decide_eq_false hbk];rw[if_neg hbk]at hi1 he1;go_wp2_with fail;go_meet;exact⟨by rw[hi1],au.o,by rw[he1];exact C.o⟩
 obtain⟨rfl,aQ,aL⟩:=hcut;have ac:=Qa aQ;have R:=Qa aL;clear aQ aL;have aq:e1.1+e1.2=a+l∧i1≤i:=by
  by_cases hbk:BK
  ·rw[if_pos hbk]at he1 hi1;rw[hBK]at hbk;rw[he1,hi1];omega
  rw[if_neg hbk]at he1 hi1;rw[he1,hi1];omega
 have b8:=aq.1;have bb:=aq.2;have ar:=Qa he1;have aF:=Qa hi1;have aX:=Qa hBK;clear aq he1 hi1 hBK;go_upto_region 10 with fail;go_cut [109] (fun v wx=>v=.bool (decide (i<m.free.length∧(m.free.getD i (0,0)).1=a+l))∧Below w.heap.size w wx∧Qh wx X 140 #[.int .i64 e1.1,.int .i64 e1.2])
 case first=>as_aux_lemma=>
  obtain⟨A,c,hb,hc,f⟩:=(HH.o.below ac.o).rep;have K:=hb.lt;have e2:wc.cell? ⟨M,2,none⟩=some (.slice A m.free.length c):=hb.cell 2;have p0:wc.cell? ⟨X,0,none⟩=some (.int .i64 e1.1):=R.o.cell 0;have p1:wc.cell? ⟨X,1,none⟩=some (.int .i64 e1.2):=R.o.cell 1;have pl:=R.o.lt;have ax:e1.1≤4194304∧e1.2≤4194304:=by omega
  have bc:=ax.1;have ba:=ax.2;have bg:((e1.1:Nat):Int)+(e1.2:Nat)=(a:Int)+(l:Int):=by omega
  have a2:=Qa f;clear hb f ax;by_cases d:i<m.free.length
  ·obtain⟨b,o,hA,W,c1,c2⟩:=a2.o.TY i d rfl;have hx:=HH.o.R6 (m.free[i]) (List.getElem_mem _);have g:m.free.getD i (0,0)=m.free[i]:=JW d;have hq:decide ((i:Int)<(m.free.length:Nat))=true:=by simp;omega
   have L:(i:Int)<m.free.length:=by omega
   have Z:(0:Int)≤i:=by omega
   subst hA;have t:=Qa g;clear g;generalize m.free[i]=x at*
   by_cases h2:x.1=a+l
   ·have d2:((x.1:Int)==(a:Int)+(l:Int))=true:=by simp;omega
    have d3:(x.1:Int)=(a:Int)+(l:Int):=by omega
    have H2:=Qa h2;clear h2
    go_quiet (fail)
    go_wp2_with fail;go_meet;exact⟨by rw[decide_eq_true (p:=i<m.free.length∧(m.free.getD i (0,0)).1=a+l) ⟨d,by rw[t.o];exact H2.o⟩],QK ac.o _,R.o⟩
   have d2:((x.1:Int)==(a:Int)+(l:Int))=false:=by simp;omega
   have d3:¬(x.1:Int)=(a:Int)+(l:Int):=by omega
   have H2:=Qa h2;clear h2
   go_quiet (fail)
   go_wp2_with fail;go_meet;exact⟨by rw[decide_eq_false (p:=i<m.free.length∧(m.free.getD i (0,0)).1=a+l) (by rw[t.o];exact fun h=>H2.o h.2)],QK ac.o _,R.o⟩
  have hq:decide ((i:Int)<(m.free.length:Nat))=false:=by simp;omega
  have aZ:decide (i<m.free.length)=false:=decide_eq_false d
  go_quiet (fail)
  go_wp2_with fail;go_meet;exact⟨by rw[decide_eq_false (p:=i<m.free.length∧(m.free.getD i (0,0)).1=a+l) (fun h=>d h.1)],QK ac.o _,R.o⟩
 obtain⟨rfl,aP,aK⟩:=hcut;have an:=Qa aP;have J:=Qa aK;clear aP aK;obtain⟨ON,hON⟩:∃P:Prop,P=(i<m.free.length∧(m.free.getD i (0,0)).1=a+l):=⟨_,rfl⟩
 haveI hdec2:Decidable ON:=Classical.propDecidable _
 obtain⟨j,hj⟩:∃j:Nat,j=if ON then i+1 else i:=⟨_,rfl⟩
 obtain⟨e2,he2⟩:∃e2:Nat × Nat,e2=if ON then(e1.1,e1.2+(m.free.getD i (0,0)).2)else e1:=⟨_,rfl⟩
 have V:decide (i<m.free.length∧(m.free.getD i (0,0)).1=a+l)=decide ON:=decide_eq_decide.2 (by rw[hON]);rw[V];clear V;go_upto_if 109 with fail;go_cut [6] (fun v wx=>v=.int .i64 j∧Below w.heap.size w wx∧Qh wx X 140 #[.int .i64 e2.1,.int .i64 e2.2])
 case first=>as_aux_lemma=>
  by_cases hon:ON
  ·rw[decide_eq_true hon];rw[if_pos hon]at hj he2;rw[hON]at hon;obtain⟨d,aG⟩:=hon;obtain⟨A,c,hb,hc,f⟩:=(HH.o.below an.o).rep;have K:=hb.drew.lt;have x2:wc.drew.cell? ⟨M,2,none⟩=some (.slice A m.free.length c):=hb.drew.cell 2;have p0:wc.drew.cell? ⟨X,0,none⟩=some (.int .i64 e1.1):=J.o.drew.cell 0;have p1:wc.drew.cell? ⟨X,1,none⟩=some (.int .i64 e1.2):=J.o.drew.cell 1;have f1:=J.o.drew.free 1;have pl:=J.o.drew.lt;have q:Sl wc.drew 140 2 A m.free.length (Jc m.free):=f;obtain⟨b,o,hA,W,c1,c2⟩:=q.TY i d rfl;have hx:=HH.o.R6 (m.free[i]) (List.getElem_mem _);have g:m.free.getD i (0,0)=m.free[i]:=JW d;have L:(i:Int)<m.free.length:=by omega
   have aH:(0:Int)≤i:=by omega
   have az:(i:Int)+1=(j:Int):=by omega
   have aE:IntKind.i64.wrap (j:Int)=(j:Int):=by rw[IntKind.wrap_i64];omega
   subst hA;rw[g]at he2;have aT:=Qa he2;have HJ:=Qa hj;clear hb f q hj he2 g hON aG;generalize m.free[i]=x at*
   have q2:IntKind.i64.wrap ((e1.2:Int)+(x.2:Int))=(e1.2:Int)+(x.2:Int):=by rw[IntKind.wrap_i64];omega
   go_upto_region 11 with fail
   go_still_tail 12,(by kernel_rfl)
   go_simp;go_wp2_with fail;go_meet;refine⟨rfl,(an.o.trans ((Qd.refl w.heap.size [140] wc).set J.o (by rw[HX.o];exact nR) (by simp) (o:=1) (.int .i64 ((e1.2:Int)+(x.2:Int)))).below).drew, ?_⟩;have a6:=(J.o.set 1 (.int .i64 ((e1.2:Int)+(x.2:Int)))).drew;rw[aT.o];simp only[Int.natCast_add];exact a6
  rw[decide_eq_false hon];rw[if_neg hon]at hj he2;go_wp2_with fail;go_meet;exact⟨by rw[hj],an.o,by rw[he2];exact J.o⟩
 obtain⟨rfl,a5,a1⟩:=hcut;have al:j≤m.free.length∧j≤i+1∧i≤j:=by
  by_cases hon:ON
  ·rw[if_pos hon]at hj;rw[hON]at hon;omega
  rw[if_neg hon]at hj;omega
 have G:r=(0,{ m with free:=m.free.take i1++e2::m.free.drop j }):=by
  rw[HR.o];unfold JF;rw[if_neg HO.o,←aN.o];dsimp only;rw[if_neg H6.o,hj,he2,aF.o,ar.o];by_cases hbk:BK<;>by_cases hon:ON
  all_goals
   simp only[hbk,hon,if_true,if_false];rw[aX.o]at hbk;rw[hON]at hon;simp only[hbk,hon,and_self,if_true,if_false]
 have S:JC { m with free:=m.free.take i1++e2::m.free.drop j } lo N:=by
  have h1:(JF m a l).1=0:=by rw[←HR.o,G]
  have:=(UL hinv h1).1;rw[←HR.o,G]at this;exact this
 have n:∀e∈m.free.take i1++e2::m.free.drop j,e.1+e.2≤4194304:=fun e he=>by
  have h1:=(S.R6 e he).2;have h2:=S.Ky;have h3:=S.QJ;have h4:=HH.o.Ky;have h5:=HH.o.sec;simp only at h2 h3;omega
 have D:=SB S.Iq n;have ai:i1≤m.free.length:=by omega
 obtain⟨A,c,hb,hc,f⟩:=HH.o.rep;have Y:=hb.below a5 hb.lt;have O:=f.below a5;obtain⟨X2,Q⟩:=eX wc.heap.size;have E:Below w.heap.size w (wc.alloc (.cells #[.int .i64 e2.1,.int .i64 e2.2] 140)).drew:=(a5.alloc a5.size _).drew;have a9:=((Y.alloc (.cells #[.int .i64 e2.1,.int .i64 e2.2] 140))).drew
 have hO:(wc.alloc (.cells #[.int .i64 e2.1,.int .i64 e2.2] 140)).drew.ownsRow w.heap.size 140 2 (.slice (some ⟨X2,0,none⟩) 1 1) 1 (Jc [e2]):=
  ⟨rfl,.inr ⟨X2,1,#[.int .i64 e2.1,.int .i64 e2.2],rfl,by rw[Q];exact a5.size,by rw[Q];exact(Qh.new wc 140 _).drew,nR,by decide,rfl,rfl⟩⟩
 have s:=Qa (fun (B:Option Addr) (cB:Nat) hR=>FY (j:=j) (i1:=i1) (c:=c) (B:=B) (cB:=cB) HH.o E ai a9 f hO hR);have k:=Qa (fun w4 A4 c4 old=>GW (w4:=w4) (A4:=A4) (c4:=c4) (old:=old) HH.o n D ai);have x1:wc.drew.cell? ⟨M,2,none⟩=some (.slice A m.free.length c):=Y.drew.cell 2;have x2:=a9.cell 2;have p0:wc.drew.cell? ⟨X,0,none⟩=some (.int .i64 e2.1):=a1.drew.cell 0;have p1:wc.drew.cell? ⟨X,1,none⟩=some (.int .i64 e2.2):=a1.drew.cell 1;have pl:=a1.drew.lt;have ml:=Y.drew.lt;have b4:=HH.o.Yp;have ad:(m.free.drop j).length=m.free.length-j:=List.length_drop;have b9:=al.1;have aS:i1≤j:=by omega
 have r1:(i1:Int)≤c:=by omega
 have r2:(j:Int)≤m.free.length:=by omega
 have r3:(j:Int)≤c:=by omega
 have r4:(0:Int)≤i1:=by omega
 have r5:(0:Int)≤j:=by omega
 have r7:i1≤c:=by omega
 have U:=Qa G;obtain⟨i0,Z,bj,bl,bk⟩:=info_parts Wt;have aC:=Qa O;have aY:=Qa hc;have bi:=Qa Q;rw[Q]at s;by_cases hz:0<m.free.length
 ·obtain⟨b,o,rfl,W,_⟩:=O.TY 0 hz rfl;clear hb f O Y a9 hO E a1 hj he2 G S n D al Q hON hc;by_cases hc1:c=j
  ·as_aux_lemma=>
    have aW:m.free.length-j=0:=by have:=aY.o;omega
    have r8:i1≤j:=aS;have r9:(i1:Int)≤j:=by omega
    have RT:=@Qa (Rd (wc.alloc (.cells #[.int .i64 e2.1,.int .i64 e2.2] 140)).drew (wc.alloc (.cells #[.int .i64 e2.1,.int .i64 e2.2] 140)).drew.heap.size 2 (some ⟨b,o,none⟩) (m.free.length-j) (Jc (m.free.drop j))) (⟨by rw[Vi,ad],fun h=>absurd h (by omega)⟩);clear ad aW;go_upto_region 13 with fail;obtain⟨A3,c3,w3,A4,c4,w4,k1,k2,k3,k4,k5,k6,k7,KF⟩:=s.o (some ⟨b,o,none⟩) 0 RT.o
    go_region
    all_goals
     go_wp2_with fail;go_ret;have hd:=k.o w4 A4 c4 _ KF.o.1 KF.o.2.1 KF.o.2.2.1 KF.o.2.2.2 hbw;rw[U.o];exact⟨⟨rfl,hd.1,hd.2.1⟩,hd.2.2⟩
  as_aux_lemma=>
   have RT:=@Qa (Rd (wc.alloc (.cells #[.int .i64 e2.1,.int .i64 e2.2] 140)).drew (wc.alloc (.cells #[.int .i64 e2.1,.int .i64 e2.2] 140)).drew.heap.size 2 (some ⟨b,o+j*2,none⟩) (m.free.length-j) (Jc (m.free.drop j))) (by
    have h:=((aC.o.below (bR.alloc nR (.cells #[.int .i64 e2.1,.int .i64 e2.2] 140)).drew).part j (m.free.length-j) (by omega)).1;rw[Ty,List.take_of_length_le (by rw[Vi,ad];exact nR)]at h;exact h)
   clear ad;go_upto_region 13 with fail;obtain⟨A3,c3,w3,A4,c4,w4,k1,k2,k3,k4,k5,k6,k7,KF⟩:=s.o (some ⟨b,o+j*2,none⟩) (c-j) RT.o
   go_region
   all_goals
    go_wp2_with fail;go_ret;have hd:=k.o w4 A4 c4 _ KF.o.1 KF.o.2.1 KF.o.2.2.1 KF.o.2.2.2 hbw;rw[U.o];exact⟨⟨rfl,hd.1,hd.2.1⟩,hd.2.2⟩
 have aI:m.free.length=0:=by omega
 have aV:m.free=[]:=List.eq_nil_of_length_eq_zero aI;have aM:i1=0:=by omega
 have aU:j=0:=by omega
 have RT:∀A:Option Addr,Qb (Rd (wc.alloc (.cells #[.int .i64 e2.1,.int .i64 e2.2] 140)).drew (wc.alloc (.cells #[.int .i64 e2.1,.int .i64 e2.2] 140)).drew.heap.size 2 A 0 (Jc ([]:List (Nat × Nat)))):=fun A=>⟨rfl,fun h=>absurd h (by omega)⟩
 clear hb f O Y a9 hO E a1 hj he2 G S n D al Q hON hc;subst aM;subst aU;have ag:m.free.drop 0=[]:=by rw[aV];rfl
 rw[aI]at x1 x2 s k;simp only[ag,Nat.sub_zero,Nat.add_zero]at s k;cases A with
 |none=>as_aux_lemma=>
  go_upto_region 13 with fail;obtain⟨A3,c3,w3,A4,c4,w4,k1,k2,k3,k4,k5,k6,k7,KF⟩:=s.o none c (RT none).o
  go_region
  all_goals
   go_wp2_with fail;go_ret;have hd:=k.o w4 A4 c4 _ KF.o.1 KF.o.2.1 KF.o.2.2.1 KF.o.2.2.2 hbw;rw[U.o];simp only[ag];exact⟨⟨rfl,hd.1,hd.2.1⟩,hd.2.2⟩
 |some aa=>
  obtain⟨ab,ao,ap⟩:=aa;by_cases hc0:c=0
  ·as_aux_lemma=>
    subst hc0;go_upto_region 13 with fail;obtain⟨A3,c3,w3,A4,c4,w4,k1,k2,k3,k4,k5,k6,k7,KF⟩:=s.o (some ⟨ab,ao,ap⟩) 0 (RT (some ⟨ab,ao,ap⟩)).o
    go_region
    all_goals
     go_wp2_with fail;go_ret;have hd:=k.o w4 A4 c4 _ KF.o.1 KF.o.2.1 KF.o.2.2.1 KF.o.2.2.2 hbw;rw[U.o];simp only[ag];exact⟨⟨rfl,hd.1,hd.2.1⟩,hd.2.2⟩
  as_aux_lemma=>
   have bf:0<c:=by omega
   go_upto_region 13 with fail;obtain⟨A3,c3,w3,A4,c4,w4,k1,k2,k3,k4,k5,k6,k7,KF⟩:=s.o (some ⟨ab,ao,ap⟩) c (RT (some ⟨ab,ao,ap⟩)).o
   go_region
   all_goals
    go_wp2_with fail;go_ret;have hd:=k.o w4 A4 c4 _ KF.o.1 KF.o.2.1 KF.o.2.2.1 KF.o.2.2.2 hbw;rw[U.o];simp only[ag];exact⟨⟨rfl,hd.1,hd.2.1⟩,hd.2.2⟩
end GV
variable {M N base lo:Nat} {w:World}
theorem ND{m:Jt}(h:KL w base M m)(hinv:JC m lo N)(hbw:base≤w.heap.size)(a l:Nat)(ha:a<1099511627776)(hl:l<1099511627776):
  Calls prog 108 #[.pointer (some ⟨M,0,none⟩),.agg #[.int .i64 a,.int .i64 l]] w fun e w'=>ZU w w' base M (JF m a l) e:=
 (GV.TX h hinv hbw a l ha hl).mono fun _ _ hh=>hh.1
section
open Go.Shelf Go.Sort
variable {Sb:Nat} {m:KY} {s:QM}
theorem QO.TJ(h:QO w base Sb s m)(n:Qj)(hn:TQ n)(x:Qx)(l':List (Qj × Qx))(hl:∀y,QC l' y=if y=n then some x else QC s.Qc y)(hs:Xa l')(hr:∀x∈l',Kf x∧x.2.len≤1048576)(hc:s.Qc.length<1000000):
  ∃w',(Instr.mapUpdate 125 (.map (some m.Pb)) (QZ n) (Kv x)).run prog w=.ok () w'∧QO w' base Sb { s with Qc:=l' } m∧Qt base m m w w'∧Qd base [1000000] w w'∧w.mapTurned w' m.Pb:=by
 obtain⟨w',b,c,a⟩:=h.pmap.put (by unfold maxLen;omega) hn x;obtain⟨h1,h2⟩:=h.sliced a (c.congr fun y _=>hl y) hs hr;exact⟨w',b,h1,h2,KV.YT a h.Iw h.lt,a⟩
def Kc(n:Qj)(l:List (Qj × Qx)):List (Qj × Qx):=l.filter fun y=>decide (y.1≠n)
theorem UQ(n y:Qj)(l:List (Qj × Qx)):QC (Kc n l) y=if y=n then none else QC l y:=by
 unfold Kc;rw[KZ (fun y=>decide (y≠n))];by_cases e:y=n<;>simp[e]
theorem WI{n:Qj}(h:QC s.Qc n=none):KB s n=(6,s):=by
 unfold KB;rw[Yf,h]
variable {x:Qx}
theorem WM{n:Qj}(h:QC s.Qc n=some x):KB s n=match Qy { s with Qc:=Kc n s.Qc } s (68,Qi [n.1,n.2])with
  |(0,s1)=>(0,{ s1 with map:=Jk s1.map x })
  |(e,s1)=>(e,s1):=by
 unfold KB;rw[Yf,h];rfl
theorem XA.SC(ok:XA s)(n:Qj):MF { s with Qc:=Kc n s.Qc }:=by
 have h:=ok.l;refine⟨List.Pairwise.filter _ h.Vn,fun x hx=>h.num x (List.mem_filter.1 hx).1,h.VL,h.Xv,h.Xk, ?_,h.nN,h.nM⟩;have:=ok.nS;have h2:(Kc n s.Qc).length≤s.Qc.length:=List.length_filter_le _ _;show(Kc n s.Qc).length≤_;omega
variable {X Z:Nat}
theorem SD{n:Qj}(h:QO w base Sb { s with Qc:=Kc n s.Qc } m)(hn:TQ n)
  (hZ:Qh w Z 142 #[.int .i64 x.at',.int .i64 x.len,.int .i64 x.bytes,.int .i64 x.mark])(hX:Qh w X 28 #[.pointer (some ⟨Sb,0,none⟩)])(hN:Qh w N 73 #[.int .i64 n.1,.int .i64 n.2])
  (hx:QC s.Qc n=some x)(hs:Xa s.Qc)(hr:∀x∈s.Qc,Kf x∧x.2.len≤1048576)(hc:s.Qc.length<999999):
  Calls prog 131 #[.pointer (some ⟨Z,0,none⟩),.pointer (some ⟨X,0,none⟩),.pointer (some ⟨N,0,none⟩)] w fun e w'=>e=.returned (.tuple #[])∧QO w' base Sb s m∧Qt base m m w w'∧Qd base [1000000] w w':=by
 have i:=h.lt;have sl:=h.blk.lt;have zl:=hZ.lt;have xl:=hX.lt;have nl:=hN.lt;have HK:=@Qa (Below w.heap.size w w.drew) (bR.drew);have hl:∀y,QC s.Qc y=if y=n then some x else QC (Kc n s.Qc) y:=fun y=>by
  by_cases e:y=n
  ·rw[if_pos e,e];exact hx
  rw[if_neg e,UQ,if_neg e]
 obtain⟨w8,d,g,j,a,l⟩:=(h.below HK.o).TJ n hn x s.Qc hl hs hr (by show(Kc n s.Qc).length<_;have h2:(Kc n s.Qc).length≤s.Qc.length:=List.length_filter_le _ _;omega);obtain⟨n1,n2⟩:=n;obtain⟨at',len,c,mk⟩:=x;simp only at hZ hN;replace d:(Instr.mapUpdate 125 (.map (some m.Pb)) (.agg #[.int .i64 n1,.int .i64 n2]) (.agg #[.int .i64 at',.int .i64 len,.int .i64 c,.int .i64 mk])).run prog w.drew=.ok () w8:=d
 have S0:=Qa (show w.drew.cell? ⟨X,0,none⟩=some (.pointer (some ⟨Sb,0,none⟩))∧w.drew.cell? ⟨Sb,5,none⟩=some (.map (some m.Pb))∧(w.drew.cell? ⟨N,0,none⟩=some (.int .i64 n1)∧w.drew.cell? ⟨N,1,none⟩=some (.int .i64 n2))∧w.drew.cell? ⟨Z,0,none⟩=some (.int .i64 at')∧w.drew.cell? ⟨Z,1,none⟩=some (.int .i64 len)∧w.drew.cell? ⟨Z,2,none⟩=some (.int .i64 c)∧w.drew.cell? ⟨Z,3,none⟩=some (.int .i64 mk)from
  ⟨hX.drew.cell 0,h.blk.drew.cell 5,⟨hN.drew.cell 0,hN.drew.cell 1⟩,hZ.drew.cell 0,hZ.drew.cell 1,hZ.drew.cell 2,hZ.drew.cell 3⟩)
 have k:=hX.drew.keeps a (by decide);have f:=hN.drew.keeps a (by decide);have b:=hZ.drew.keeps a (by decide)
 have S8:=Qa (show w8.cell? ⟨X,0,none⟩=some (.pointer (some ⟨Sb,0,none⟩))∧w8.cell? ⟨Sb,5,none⟩=some (.map (some m.Pb))∧(w8.cell? ⟨N,0,none⟩=some (.int .i64 n1)∧w8.cell? ⟨N,1,none⟩=some (.int .i64 n2))∧w8.cell? ⟨Z,0,none⟩=some (.int .i64 at')∧w8.cell? ⟨Z,1,none⟩=some (.int .i64 len)∧w8.cell? ⟨Z,2,none⟩=some (.int .i64 c)∧w8.cell? ⟨Z,3,none⟩=some (.int .i64 mk)from
  ⟨k.cell 0,g.blk.cell 5,⟨f.cell 0,f.cell 1⟩,b.cell 0,b.cell 1,b.cell 2,b.cell 3⟩)
 have HQ:=@Qa (QO w8 base Sb s m∧Qt base m m w w8∧Qd base [1000000] w w8) (⟨g,(Qt.Qe (m:=m) HK.o i).trans j,(Qd.Qe HK.o i).trans a⟩);clear h hX hN hZ k f b g j a l hl hs hr hx;go_enter func131,ntmps131;go_upto_region 0 with fail
 go_region_held3 (fun wy=>wy.cell? ⟨X,0,none⟩=some (.pointer (some ⟨Sb,0,none⟩))∧wy.cell? ⟨Sb,5,none⟩=some (.map (some m.Pb))∧(wy.cell? ⟨N,0,none⟩=some (.int .i64 n1)∧wy.cell? ⟨N,1,none⟩=some (.int .i64 n2))∧wy.cell? ⟨Z,0,none⟩=some (.int .i64 at')∧wy.cell? ⟨Z,1,none⟩=some (.int .i64 len)∧wy.cell? ⟨Z,2,none⟩=some (.int .i64 c)∧wy.cell? ⟨Z,3,none⟩=some (.int .i64 mk))
  (first|exact S0.o|exact S8.o)
  (fail)
 all_goals
  go_wp2_with fail
  go_end0
  exact⟨rfl,HQ.o⟩
section
attribute [local go_sem ↓] XN
theorem Ep(h:QO w base Sb s m)(ok:XA s)(n:Qj)(hn:TQ n):
  Calls prog 74 #[.pointer (some ⟨Sb,0,none⟩),QZ n] w fun e w'=>Xy w w' base Sb m (KB s n) e:=by
 have HH:=Qa h;have HK:=Qa ok;have a1:=h.lt;have aj:=h.blk.lt;obtain⟨n1,n2⟩:=n;unfold QZ;simp only;have HX:=@Qa (Qh ((w.alloc (.cells #[.pointer (some ⟨Sb,0,none⟩)] 28)).alloc (.cells #[.int .i64 n1,.int .i64 n2] 73)) w.heap.size 28 #[.pointer (some ⟨Sb,0,none⟩)]) ((Qh.new _ _ _).alloc _);have HN:=@Qa (Qh ((w.alloc (.cells #[.pointer (some ⟨Sb,0,none⟩)] 28)).alloc (.cells #[.int .i64 n1,.int .i64 n2] 73)) (w.heap.size+1) 73 #[.int .i64 n1,.int .i64 n2]) (Qh.Qz (by simp));have v:Qb (Below w.heap.size w ((w.alloc (.cells #[.pointer (some ⟨Sb,0,none⟩)] 28)).alloc (.cells #[.int .i64 n1,.int .i64 n2] 73))):=(bR.alloc nR _).alloc (by simp) _;obtain⟨q,hq⟩:=eX (KB s (n1,n2));rw[←hq];have HQ:=Qa hq;clear h ok hq;go_enter func74,ntmps74;go_upto_region 1 with fail;generalize (w.alloc (.cells #[.pointer (some ⟨Sb,0,none⟩)] 28)).alloc (.cells #[.int .i64 n1,.int .i64 n2] 73)=w1 at*
 have P:=v.o.size;have c0:w1.cell? ⟨w.heap.size,0,none⟩=some (.pointer (some ⟨Sb,0,none⟩)):=HX.o.cell 0;have xl:=HX.o.lt;have nl:=HN.o.lt;go_upto_region 3 with fail;clear c0;obtain⟨X,hX⟩:=eX w.heap.size;obtain⟨N,hN⟩:=eX (w.heap.size+1);rw[←hN]at HN nl;rw[←hX]at HX xl;rw[←hN,←hX];clear hX hN;have af:base≤w1.heap.size:=by omega
 have H1:=Qa (HH.o.below v.o);cases hg:QC s.Qc (n1,n2)with
 |none=>
  have j:q=(6,s):=by rw[HQ.o];exact WI hg
  subst j
  have SK:=@Qa (∀wy,Below w1.heap.size w1 wy→wy.cell? ⟨X,0,none⟩=some (.pointer (some ⟨Sb,0,none⟩))∧wy.cell? ⟨Sb,5,none⟩=some (.map (some m.Pb))∧(wy.cell? ⟨N,0,none⟩=some (.int .i64 n1)∧wy.cell? ⟨N,1,none⟩=some (.int .i64 n2))∧(Instr.lookup 125 (.map (some m.Pb)) (.agg #[.int .i64 n1,.int .i64 n2]) true).run prog wy=.ok (.tuple #[.agg #[.int .i64 0,.int .i64 0,.int .i64 0,.int .i64 0],.bool false]) wy) (fun wy hy=>by
   have hx:=HX.o.below hy HX.o.lt;have i:=HN.o.below hy HN.o.lt;refine⟨hx.cell 0,(H1.o.below hy).blk.cell 5,⟨i.cell 0,i.cell 1⟩, ?_⟩;have:=(H1.o.below hy).pmap.look_ok (x:=(n1,n2)) hn;rw[hg]at this;exact this)
  have S0:=Qa (SK.o _ bR.drew)
  have t:Qb (Below w1.heap.size w1 ((w1.alloc (.cells #[.int .i64 0,.int .i64 0,.int .i64 0,.int .i64 0] 142)).drew.setRow w1.heap.size #[.int .i64 0,.int .i64 0,.int .i64 0,.int .i64 0])):=
   (bR.alloc nR _).drew.trans (Qg (Qm _ _ _) (by simp) (gB (by omega)))
  have zs:(Zq (.pointer (some ⟨w1.heap.size,0,none⟩)) (.agg #[.int .i64 0,.int .i64 0,.int .i64 0,.int .i64 0])).run prog (w1.alloc (.cells #[.int .i64 0,.int .i64 0,.int .i64 0,.int .i64 0] 142)).drew=.ok () ((w1.alloc (.cells #[.int .i64 0,.int .i64 0,.int .i64 0,.int .i64 0] 142)).drew.setRow w1.heap.size #[.int .i64 0,.int .i64 0,.int .i64 0,.int .i64 0]):=XD (Qh.new w1 142 _).drew rfl rfl (by simp[Value.oneCell']);have S3:=Qa (SK.o _ t.o);clear hg;go_cut [6] (fun v6 wx=>v6=.bool false∧Below w1.heap.size w1 wx)
  case first=>
   go_region_held3 (fun wy=>wy.cell? ⟨X,0,none⟩=some (.pointer (some ⟨Sb,0,none⟩))∧wy.cell? ⟨Sb,5,none⟩=some (.map (some m.Pb))∧(wy.cell? ⟨N,0,none⟩=some (.int .i64 n1)∧wy.cell? ⟨N,1,none⟩=some (.int .i64 n2))∧(Instr.lookup 125 (.map (some m.Pb)) (.agg #[.int .i64 n1,.int .i64 n2]) true).run prog wy=.ok (.tuple #[.agg #[.int .i64 0,.int .i64 0,.int .i64 0,.int .i64 0],.bool false]) wy)
    (first|exact S0.o|exact S3.o|exact SK.o _ (bR.drew.alloc nR _)|exact SK.o _ ((bR.alloc nR _).drew))
    (fail)
   all_goals
    go_wp2_with fail;go_meet;exact⟨rfl,t.o⟩
  obtain⟨rfl,g⟩:=hcut;have HE:=@Qa (Xy w wc base Sb m (6,s) (.returned (.int .i64 6))) (⟨rfl,m,H1.o.below g,Qt.Qe (v.o.trans (g.mono P)) a1⟩);clear g;go_wp2_with fail;go_ret;exact HE.o
 |some x=>
  have j:=WM hg;rw[←HQ.o]at j;have u:=HK.o.num _ (Vt hg);obtain⟨at',len,b,mk⟩:=x;obtain⟨a,ha⟩:∃a:Nat,at'=a:=⟨at'.toNat,by have:=u.1.2.2.1;simp only at this;omega⟩;subst ha;have C:=u.1.1;have G:=u.1.2.1;have ak:a≤65536:=by have:=u.1.2.2.1;simp only at this;omega
  have an:len≤1048576:=u.2;simp only at C G
  have SK:=@Qa (∀wy,Below w1.heap.size w1 wy→wy.cell? ⟨X,0,none⟩=some (.pointer (some ⟨Sb,0,none⟩))∧wy.cell? ⟨Sb,5,none⟩=some (.map (some m.Pb))∧(wy.cell? ⟨N,0,none⟩=some (.int .i64 n1)∧wy.cell? ⟨N,1,none⟩=some (.int .i64 n2))∧(Instr.lookup 125 (.map (some m.Pb)) (.agg #[.int .i64 n1,.int .i64 n2]) true).run prog wy=.ok (.tuple #[.agg #[.int .i64 a,.int .i64 len,.int .i64 b,.int .i64 mk],.bool true]) wy) (fun wy hy=>by
   have hx:=HX.o.below hy HX.o.lt;have i:=HN.o.below hy HN.o.lt;refine⟨hx.cell 0,(H1.o.below hy).blk.cell 5,⟨i.cell 0,i.cell 1⟩, ?_⟩;have:=(H1.o.below hy).pmap.look_ok (x:=(n1,n2)) hn;rw[hg]at this;exact this)
  have S0:=Qa (SK.o _ bR.drew)
  have t:Qb (Below w1.heap.size w1 ((w1.alloc (.cells #[.int .i64 0,.int .i64 0,.int .i64 0,.int .i64 0] 142)).drew.setRow w1.heap.size #[.int .i64 a,.int .i64 len,.int .i64 b,.int .i64 mk])):=
   (bR.alloc nR _).drew.trans (Qg (Qm _ _ _) (by simp) (gB (by omega)))
  have S:Qb (Qh ((w1.alloc (.cells #[.int .i64 0,.int .i64 0,.int .i64 0,.int .i64 0] 142)).drew.setRow w1.heap.size #[.int .i64 a,.int .i64 len,.int .i64 b,.int .i64 mk]) w1.heap.size 142 #[.int .i64 a,.int .i64 len,.int .i64 b,.int .i64 mk]):=Qp (Qh.new w1 142 _).drew _;have zs:(Zq (.pointer (some ⟨w1.heap.size,0,none⟩)) (.agg #[.int .i64 a,.int .i64 len,.int .i64 b,.int .i64 mk])).run prog (w1.alloc (.cells #[.int .i64 0,.int .i64 0,.int .i64 0,.int .i64 0] 142)).drew=.ok () ((w1.alloc (.cells #[.int .i64 0,.int .i64 0,.int .i64 0,.int .i64 0] 142)).drew.setRow w1.heap.size #[.int .i64 a,.int .i64 len,.int .i64 b,.int .i64 mk]):=XD (Qh.new w1 142 _).drew rfl rfl (by simp[Value.oneCell']);have S3:=Qa (SK.o _ t.o);have HG:=Qa hg;clear hg u;go_cut [5,6] (fun v5 v6 wx=>∃Z,v5=.pointer (some ⟨Z,0,none⟩)∧v6=.bool true∧Below w1.heap.size w1 wx∧Qh wx Z 142 #[.int .i64 a,.int .i64 len,.int .i64 b,.int .i64 mk])
  case first=>
   go_region_held3 (fun wy=>wy.cell? ⟨X,0,none⟩=some (.pointer (some ⟨Sb,0,none⟩))∧wy.cell? ⟨Sb,5,none⟩=some (.map (some m.Pb))∧(wy.cell? ⟨N,0,none⟩=some (.int .i64 n1)∧wy.cell? ⟨N,1,none⟩=some (.int .i64 n2))∧(Instr.lookup 125 (.map (some m.Pb)) (.agg #[.int .i64 n1,.int .i64 n2]) true).run prog wy=.ok (.tuple #[.agg #[.int .i64 a,.int .i64 len,.int .i64 b,.int .i64 mk],.bool true]) wy)
    (first|exact S0.o|exact S3.o|exact SK.o _ (bR.drew.alloc nR _)|exact SK.o _ ((bR.alloc nR _).drew))
    (fail)
   all_goals
    go_wp2_with fail;go_meet;exact⟨_,rfl,rfl,t.o,S.o⟩
  obtain⟨Z,rfl,rfl,g,hz⟩:=hcut;have B:=HX.o.below g HX.o.lt;have k:=HN.o.below g HN.o.lt;have D:=H1.o.below g;obtain⟨w9,z,H,W,f,a7⟩:=(D.below bR.drew).Uy (n1,n2) hn (Kc (n1,n2) s.Qc) (fun y=>UQ (n1,n2) y s.Qc) (List.Pairwise.filter _ HK.o.Vn) (fun x hx=>HK.o.num x (List.mem_filter.1 hx).1);replace z:(Builtin.delete_ #[125,73] 0 #[.map (some m.Pb),.agg #[.int .i64 n1,.int .i64 n2]]).run prog wc.drew=.ok (.tuple #[]) w9:=z;have S6:=@Qa (wc.drew.cell? ⟨X,0,none⟩=some (.pointer (some ⟨Sb,0,none⟩))∧wc.drew.cell? ⟨Sb,5,none⟩=some (.map (some m.Pb))∧(wc.drew.cell? ⟨N,0,none⟩=some (.int .i64 n1)∧wc.drew.cell? ⟨N,1,none⟩=some (.int .i64 n2))) (⟨B.drew.cell 0,D.blk.drew.cell 5,k.drew.cell 0,k.drew.cell 1⟩);have S9:=@Qa (w9.cell? ⟨X,0,none⟩=some (.pointer (some ⟨Sb,0,none⟩))∧w9.cell? ⟨Sb,5,none⟩=some (.map (some m.Pb))∧(w9.cell? ⟨N,0,none⟩=some (.int .i64 n1)∧w9.cell? ⟨N,1,none⟩=some (.int .i64 n2))) (⟨(B.drew.keeps f (by decide)).cell 0,H.blk.cell 5,(k.drew.keeps f (by decide)).cell 0,(k.drew.keeps f (by decide)).cell 1⟩)
  have H9:=Qa (show QO w9 base Sb { s with Qc:=Kc (n1,n2) s.Qc } m∧Qt base m m w w9∧Qh w9 X 28 #[.pointer (some ⟨Sb,0,none⟩)]∧Qh w9 N 73 #[.int .i64 n1,.int .i64 n2]∧Qh w9 Z 142 #[.int .i64 a,.int .i64 len,.int .i64 b,.int .i64 mk]from
   ⟨H,(Qt.Qe (m:=m) (v.o.trans ((g.mono P).trans (bR.drew.mono (Nat.le_trans P g.size)))) a1).trans W,B.drew.keeps f (by decide),k.drew.keeps f (by decide),hz.drew.keeps f (by decide)⟩)
  have ai:=D.blk.lt;have az:=B.lt;have av:=k.lt;have au:=hz.lt;clear hz g H W f a7 B k D S0 S3 zs t S SK H1 HX HN v;go_upto_region 6 with fail;go_cut [6] (fun v6 wx=>v6=.bool true∧wx=w9)
  case first=>
   go_region_held3 (fun wy=>wy.cell? ⟨X,0,none⟩=some (.pointer (some ⟨Sb,0,none⟩))∧wy.cell? ⟨Sb,5,none⟩=some (.map (some m.Pb))∧(wy.cell? ⟨N,0,none⟩=some (.int .i64 n1)∧wy.cell? ⟨N,1,none⟩=some (.int .i64 n2)))
    (first|exact S6.o|exact S9.o)
    (fail)
   all_goals
    go_wp2_with fail;go_meet;exact⟨rfl,rfl⟩
  obtain⟨rfl,rfl⟩:=hcut;have ab:=H9.o.1.lt;have ag:=H9.o.1.blk.lt;have ah:=H9.o.2.2.1.lt;have ae:=H9.o.2.2.2.1.lt;have L:∀y∈[n1,n2],-9223372036854775808≤y∧y≤9223372036854775807:=by
   unfold Qs at C G;simp only[Bool.and_eq_true,decide_eq_true_eq]at C G;intro y hy;simp only[List.mem_cons,List.not_mem_nil,or_false]at hy;rcases hy with rfl|rfl<;>omega
  have T:=KX _ L
  have Q:=@Qa (∀wy,Below wc.heap.size wc wy→Calls prog 123 #[.slice (some ⟨wy.heap.size,0,none⟩) 2 2] (wy.alloc (.cells #[.int .i64 n1,.int .i64 n2] 2)) fun e w'=>e=.returned (.string ⟨(Qi [n1,n2]).toArray⟩)∧Below wy.heap.size wy w') (fun wy hy=>by
   have h1:Below wy.heap.size wy (wy.alloc (.cells #[.int .i64 n1,.int .i64 n2] 2)):=bR.alloc nR _;have:=XC (w:=wy.alloc (.cells #[.int .i64 n1,.int .i64 n2] 2)) [n1,n2] (some ⟨wy.heap.size,0,none⟩) 2 (Sl.Ja (Qh.new wy 2 _) rfl).1 (by simp) L ((H9.o.1.below hy).Rn.tb.below h1);exact this.mono fun e w' ⟨he,hb⟩=>⟨he,h1.trans (hb.mono h1.size)⟩)
  have J:=@Qa (∀wy,Calls prog 71 #[.int .u8 68,.string ⟨(Qi [n1,n2]).toArray⟩] wy fun e w'=>Kz wy w' (68,Qi [n1,n2]) e) (fun wy=>VA (w:=wy) 68 (Qi [n1,n2]));have R:(Qi [n1,n2]).length<1099511627776:=by
   simp only[List.length_cons,List.length_nil]at T;omega
  have E:=@Qa (∀wy A c,Below wc.heap.size wc wy→Kb wy A (Qi [n1,n2])→(Qi [n1,n2]).length≤c→Calls prog 70 #[.pointer (some ⟨Sb,0,none⟩),.agg #[.int .u8 68,.slice A (Qi [n1,n2]).length c],.func (.func 131) #[] #[.pointer (some ⟨Z,0,none⟩),.pointer (some ⟨X,0,none⟩),.pointer (some ⟨N,0,none⟩)]] wy fun e w'=>e=.returned (.int .i64 (Qy { s with Qc:=Kc (n1,n2) s.Qc } s (68,Qi [n1,n2])).1)∧QO w' base Sb (Qy { s with Qc:=Kc (n1,n2) s.Qc } s (68,Qi [n1,n2])).2 m∧Qt base m m w w'∧(Qy { s with Qc:=Kc (n1,n2) s.Qc } s (68,Qi [n1,n2])).2.map=s.map∧Qh w' X 28 #[.pointer (some ⟨Sb,0,none⟩)]∧Qh w' N 73 #[.int .i64 n1,.int .i64 n2]∧Qh w' Z 142 #[.int .i64 a,.int .i64 len,.int .i64 b,.int .i64 mk]) (fun wy A c hy hby hc=>by
   have hh:=H9.o.1.below hy;have a8:=HK.o.SC (n1,n2);have hx:=H9.o.2.2.1.below hy H9.o.2.2.1.lt;have i:=H9.o.2.2.2.1.below hy H9.o.2.2.2.1.lt;have hz:=H9.o.2.2.2.2.below hy H9.o.2.2.2.2.lt;have U:=H9.o.2.1.trans (Qt.Qe (m:=m) hy ab);have ax:=HK.o.nN;have ay:=HK.o.nS;have aq:=HK.o.nM;have aw:(Kc (n1,n2) s.Qc).length≤s.Qc.length:=List.length_filter_le _ _
   have:=Xz hh a8 (by have:=HK.o.wt;show s.d.waits.length≤_;omega) (by have:=HK.o.ep;show s.log.epoch+2<_;omega) HK.o.at' HK.o.D8 (68,Qi [n1,n2]) (by show 68<256;decide) R A c hby hc
    (by rw[Vd,List.length_append,List.length_append,List.length_map,List.length_map,List.length_map];show s.notes.length+(Kc (n1,n2) s.Qc).length+s.marks.length≤_;omega)
    131 #[.pointer (some ⟨Z,0,none⟩),.pointer (some ⟨X,0,none⟩),.pointer (some ⟨N,0,none⟩)] (fun _ _=>rfl)
    (fun w'=>QO w' base Sb (Qy { s with Qc:=Kc (n1,n2) s.Qc } s (68,Qi [n1,n2])).2 m∧Qt base m m w w'∧(Qy { s with Qc:=Kc (n1,n2) s.Qc } s (68,Qi [n1,n2])).2.map=s.map∧Qh w' X 28 #[.pointer (some ⟨Sb,0,none⟩)]∧Qh w' N 73 #[.int .i64 n1,.int .i64 n2]∧Qh w' Z 142 #[.int .i64 a,.int .i64 len,.int .i64 b,.int .i64 mk])
    (fun w' d l hd hk hs=>by
     rw[XF hd];exact⟨hs,U.trans (Qt.of hk (by simp)),rfl,hx.keeps hk (by decide),i.keeps hk (by decide),hz.keeps hk (by decide)⟩)
    (fun wz e d l hd he hk hs=>by
     rw[XE hd he];refine(SD (s:={ s with d:=d,log:=l }) (x:=⟨a,len,b,mk⟩) hs hn (hz.keeps hk (by decide)) (hx.keeps hk (by decide)) (i.keeps hk (by decide)) HG.o HK.o.Vn HK.o.num (by show s.Qc.length<_;omega)).mono ?_;rintro en w' ⟨h1,h2,h3,h4⟩;exact⟨h1,h2,(U.trans (Qt.of hk (by simp))).trans h3,rfl,(hx.keeps hk (by decide)).keeps h4 (by decide),(i.keeps hk (by decide)).keeps h4 (by decide),(hz.keeps hk (by decide)).keeps h4 (by decide)⟩)
   rw[←V5 (was:=s)]at this;exact this)
  have p:=@Qa (∀wy,Below wc.heap.size wc wy→wy.cell? ⟨X,0,none⟩=some (.pointer (some ⟨Sb,0,none⟩))∧wy.cell? ⟨N,0,none⟩=some (.int .i64 n1)∧wy.cell? ⟨N,1,none⟩=some (.int .i64 n2)) (fun wy hy=>⟨(H9.o.2.2.1.below hy H9.o.2.2.1.lt).cell 0,(H9.o.2.2.2.1.below hy H9.o.2.2.2.1.lt).cell 0,(H9.o.2.2.2.1.below hy H9.o.2.2.2.1.lt).cell 1⟩);have S1:=Qa (p.o _ bR.drew);clear T R L z S6 S9 C G HG;obtain⟨lg,hlg⟩:∃lg,lg=Qy { s with Qc:=Kc (n1,n2) s.Qc } s (68,Qi [n1,n2]):=⟨_,rfl⟩;simp only at j;rw[←hlg]at j E;clear hlg HQ;generalize Qi [n1,n2]=bs at*
  obtain⟨er,s6⟩:=lg;have HQ:=Qa j;clear j;go_upto_region 7 with fail;go_cut [7] (fun v7 wx=>v7=.int .i64 er∧QO wx base Sb s6 m∧Qt base m m w wx∧s6.map=s.map∧Qh wx X 28 #[.pointer (some ⟨Sb,0,none⟩)]∧Qh wx Z 142 #[.int .i64 a,.int .i64 len,.int .i64 b,.int .i64 mk])
  case first=>
   go_region_held3 (fun wy=>wy.cell? ⟨X,0,none⟩=some (.pointer (some ⟨Sb,0,none⟩))∧wy.cell? ⟨N,0,none⟩=some (.int .i64 n1)∧wy.cell? ⟨N,1,none⟩=some (.int .i64 n2))
    (first|exact S1.o|exact S7.o|exact p.o _ K.o|exact p.o _ F.o|(refine p.o _ ?_;repeat' (first|exact bR|exact K.o|exact F.o|refine Below.drew ?_|refine Below.alloc ?_ (by simp) _)))
    (first
     |(go_at_call 123;refine(Q.o _ bR.drew).mono ?_;rintro en w3 ⟨rfl,Y⟩;(have F:Qb (Below wc.heap.size wc w3):=bR.drew.trans Y);clear Y)
     |(go_at_call 71;refine(J.o _).mono ?_;rintro en w4 ⟨⟨A4,c4,rfl,a3,a6⟩,a4⟩;(have a9:=Qa a3);(have aa:=Qa a6);(have K:Qb (Below wc.heap.size wc w4):=F.o.trans (a4.mono F.o.size));clear a3 a6 a4)
     |(go_at_call 70;refine(E.o _ _ _ K.o a9.o aa.o).mono ?_;rintro en w7 ⟨rfl,h7,a5,m7,x7,y7,z7⟩;(have H7:=Qa (And.intro h7 (And.intro a5 (And.intro m7 (And.intro x7 z7)))));(have S7:=Qa (And.intro (x7.cell 0) (And.intro (y7.cell 0) (y7.cell 1))));clear h7 a5 m7 x7 y7 z7))
   all_goals
    go_wp2_with fail;go_meet;exact⟨rfl,H7.o⟩
  obtain⟨rfl,h7,I,m7,x7,z7⟩:=hcut;have H7:=Qa h7;have K7:=Qa I;by_cases he:er=0
  ·subst he;have O:q=(0,{ s6 with map:=(JF s6.map a len).2 }):=by
    rw[HQ.o];show(0,{ s6 with map:=Jk s6.map ⟨(a:Int),len,b,mk⟩ })=_;unfold Jk;rw[if_neg (by simp)];rfl
   subst O;have GV:=@Qa (∀wy,Below wc.heap.size wc wy→Calls prog 108 #[.pointer (some ⟨m.M,0,none⟩),.agg #[.int .i64 a,.int .i64 len]] wy fun e w'=>ZU wy w' base m.M (JF s6.map a len) e) (fun wy hy=>ND (H7.o.below hy).map (by rw[m7];exact HK.o.map) (Nat.le_trans H7.o.lt hy.size) a len (by omega) (by omega));have S0:=@Qa (wc.drew.cell? ⟨X,0,none⟩=some (.pointer (some ⟨Sb,0,none⟩))∧wc.drew.cell? ⟨Sb,3,none⟩=some (.pointer (some ⟨m.M,0,none⟩))∧wc.drew.cell? ⟨Z,0,none⟩=some (.int .i64 a)∧wc.drew.cell? ⟨Z,1,none⟩=some (.int .i64 len)) (⟨x7.drew.cell 0,h7.blk.drew.cell 3,z7.drew.cell 0,z7.drew.cell 1⟩);have X7:=Qa x7;have Z7:=Qa z7;have al:=x7.lt;have ar:=z7.lt;have ap:=h7.blk.lt;have ac:=h7.lt;clear h7 I x7 z7 E J Q p S1;go_upto_region 9 with fail
   go_region_held3 (fun wy=>wy.cell? ⟨X,0,none⟩=some (.pointer (some ⟨Sb,0,none⟩))∧wy.cell? ⟨Sb,3,none⟩=some (.pointer (some ⟨m.M,0,none⟩))∧wy.cell? ⟨Z,0,none⟩=some (.int .i64 a)∧wy.cell? ⟨Z,1,none⟩=some (.int .i64 len))
    (first|exact S0.o|exact S8.o)
    (first|(go_at_call 108;refine(GV.o _ bR.drew).mono ?_;rintro en w8 ⟨rfl,a2,a0⟩;(have r:Qd base [220] wc w8:=(Qd.Qe bR.drew ac).trans a0);(have ad:=Qa a2);(have V:=Qa r);(have S8:=@Qa (w8.cell? ⟨X,0,none⟩=some (.pointer (some ⟨Sb,0,none⟩))∧w8.cell? ⟨Sb,3,none⟩=some (.pointer (some ⟨m.M,0,none⟩))∧w8.cell? ⟨Z,0,none⟩=some (.int .i64 a)∧w8.cell? ⟨Z,1,none⟩=some (.int .i64 len)) (⟨(X7.o.keeps r (by decide)).cell 0,(H7.o.blk.keeps r (by decide)).cell 3,(Z7.o.keeps r (by decide)).cell 0,(Z7.o.keeps r (by decide)).cell 1⟩));clear a2 a0 r))
   all_goals
    go_wp2_with fail;go_ret;exact⟨rfl,m,H7.o.mapped V.o ad.o,K7.o.trans (Qt.of V.o (by simp))⟩
  have ao:((er:Int)==0)=false:=by simp;omega
  have am:¬((er:Int)=0):=by omega
  have O:q=(er,s6):=by
   rw[HQ.o];cases er with
   |zero=>exact absurd rfl he
   |succ e=>rfl
  subst O;clear he h7 I x7 z7 E J Q p S1;go_wp2_with fail;go_ret;exact⟨rfl,m,H7.o,K7.o⟩
end
end
section
open Go.Shelf Go.Sort
theorem Y0(w:World)(c c':Array Value)(t:TypeId)(o:Obj):((w.alloc (.cells c t)).alloc o).setRow w.heap.size c'=(w.alloc (.cells c' t)).alloc o:=by
 simp only[World.setRow,World.alloc];congr 1;apply Array.ext_getElem?; intro i;rw[Array.getElem?_modify];by_cases h:w.heap.size=i
 ·subst h;simp[Array.getElem?_push]
 have h':¬i=w.heap.size:=fun e=>h e.symm
 simp[h,h',Array.getElem?_push]
theorem Y6(w:World)(c c':Array Value)(t:TypeId)(o:Obj):((w.alloc o).alloc (.cells c t)).setRow (w.heap.size+1) c'=(w.alloc o).alloc (.cells c' t):=by
 have:=World.setRow_alloc_new (w.alloc o) c c' t;rwa [show(w.alloc o).heap.size=w.heap.size+1 by simp]at this
section
variable {P:Program} (w:World) {ops:Array Oper} {rest:List Oper} {o:Oper} {a:Act} {Q:Exit→Act→World→Prop}
theorem XO(hg:o.guard=none)(m x v:Operand)(t:TypeId)(hop:o.op=Op.mapUpdate t m x v)(mv xv vv:Value)(hm:a.eval m=mv)(hx:a.eval x=xv)(hv:a.eval v=vv)(w':World)
  (hrun:(Instr.mapUpdate t mv xv vv).run P w=.ok () w')(hK:wpList P ops Q rest (a.put o.dst undef) w'):wpList P ops Q (o::rest) a w:=by
 refine wpList_plain hg fun K' hK'=> ?_
 unfold Oper.wp;simp[execOp,hop,hm,hx,hv,hrun,Result.andThen];exact hK' _ _ hK
theorem Ux(hg:o.guard=none)(m x:Operand)(t k:TypeId)(hop:o.op=Op.call { callee:=Callee.builtin Builtin.delete,args:=#[m,x],argTypes:=#[t,k] })(mv xv:Value)(hm:a.eval m=mv)(hx:a.eval x=xv)(w':World)
  (hrun:(Builtin.delete_ #[t,k] o.type #[mv,xv]).run P w=.ok (.tuple #[]) w')(hK:wpList P ops Q rest (a.put o.dst (.tuple #[])) w'):wpList P ops Q (o::rest) a w:=by
 refine wpList_plain hg fun K' hK'=> ?_
 unfold Oper.wp;simp[execOp,hop,resolve,invoke,builtin,hm,hx,hrun,Result.andThen];exact hK' _ _ hK
end
def QS(s:QM)(v:Int):List (Qj × Qx):=s.Qc.filter fun y=>decide (y.1.1=v)
theorem OC(s:QM)(v:Int)(y:Qj):QC (QS s v) y=if y.1=v then QC s.Qc y else none:=by
 unfold QS;rw[KZ (fun y:Qj=>decide (y.1=v))];by_cases e:y.1=v<;>simp[e]
theorem Fc{s:QM}{v:Int}{ss:List Qj}(h:SK.Keys (QC s.Qc) ss)(y:Qj)(hy:SK.ok y):QC (QS s v) y=if y∈ss∧y.1=v then QC s.Qc y else none:=by
 rw[OC];by_cases e:y.1=v
 ·rw[if_pos e];by_cases hm:y∈ss
  ·rw[if_pos ⟨hm,e⟩]
  have hn:QC s.Qc y=none:=by
   cases hg:QC s.Qc y with
   |none=>rfl
   |some a=>exact absurd ((h.2.2 y hy).2 (by rw[hg];rfl)) hm
  rw[if_neg (fun h=>hm h.1),hn]
 rw[if_neg e,if_neg (fun h=>e h.2)]
def Xu(s:QM)(v:Int)(ss:List Qj):QM:={ s with notes:=s.notes.filter (fun y=>decide (y.1≠v)),Qc:=s.Qc.filter fun y=>decide (y.1∉ss) }
theorem Lx(s:QM)(v:Int):Xu s v []={ s with notes:=s.notes.filter (fun y=>decide (y.1≠v)) }:=by
 unfold Xu;simp
theorem ML{s:QM}{v:Int}{ss:List Qj}(h:SK.Keys (QC (QS s v)) ss)(hr:∀x∈s.Qc,Kf x∧x.2.len≤1048576):Xu s v ss={ s with notes:=s.notes.filter (fun y=>decide (y.1≠v)),Qc:=s.Qc.filter (fun y=>decide (y.1.1≠v)) }:=by
 unfold Xu;congr 1;refine List.filter_congr fun y hy=> ?_
 have a:SK.ok y.1:=⟨Q8 (hr y hy).1.1,Q8 (hr y hy).1.2.1⟩;have h1:=h.2.2 y.1 a;have h2:(QC s.Qc y.1).isSome=true:=KD.2 (List.mem_map.2 ⟨y,hy,rfl⟩);rw[OC]at h1;by_cases e:y.1.1=v
 ·rw[if_pos e]at h1;simp[h1.2 h2,e]
 rw[if_neg e]at h1;have:y.1∉ss:=fun h=>by have:=h1.1 h;simp at this
 simp[this,e]
theorem Mu(s:QM)(v:Int)(ss:List Qj)(x y:Qj):QC (Xu s v (ss++[x])).Qc y=if y=x then none else QC (Xu s v ss).Qc y:=by
 unfold Xu;simp only;rw[KZ (fun y=>decide (y∉ss++[x])),KZ (fun y=>decide (y∉ss))];by_cases e:y=x
 ·subst e;simp
 simp[e]
theorem Ey:(prog.info? 73).map (·.size)=some 2:=by kernel_rfl
theorem Sg:(prog.info? 142).map (·.size)=some 4:=by kernel_rfl
theorem UT{v:Value}{y:DataW Unit × List MemPlace}(h:SK.R v=some y):∃c,v=Kv c:=by
 obtain⟨a,h1,_⟩:=Ou h;exact⟨a,h1⟩
theorem LD{w:World}{base Sb:Nat}{s:QM}{m:KY}(h:QO w base Sb s m)(ok:XA s)(v:Int)(hv:ZX v):
  Calls prog 117 #[.pointer (some ⟨Sb,0,none⟩),.int .i64 v] w fun e w'=>∃G,e=.returned (.map (some G))∧w.heap.size≤G∧SK.In w' G (QS s v).length (QC (QS s v))∧
   QO w' base Sb { s with notes:=s.notes.filter (fun y=>decide (y.1≠v)),Qc:=s.Qc.filter (fun y=>decide (y.1.1≠v)) } m∧Qt base m m w w'∧Qd base [1000000] w w':=by
 have aO:=h.lt;have aN:=h.blk.lt;have T:=ok.l
 obtain⟨w1,L,aq,au,u,ad⟩:=h.P9 v hv (s.notes.filter fun y=>decide (y.1≠v)) (fun y=>by
   rw[KZ (fun y=>decide (y≠v))];by_cases e:y=v<;>simp[e]) (List.Pairwise.filter _ T.VL) (fun x hx=>T.Xv x (List.mem_filter.1 hx).1)
 have c4:w.cell? ⟨Sb,4,none⟩=some (.map (some m.Nb)):=h.blk.cell 4;have ae:=u.below.size;have J:=Qa aq;have ap:=Qa au;have a0:=Qa u;have f:=Qa T;have aR:=ok.nS;have ar:=Qa L;clear h ok T aq au u ad L;go_enter func117,ntmps117;go_upto_region 2 with(refine Ux _ rfl _ _ _ _ rfl _ _ rfl rfl _ ar.o ?_);go_frame;have c5:w1.cell? ⟨Sb,5,none⟩=some (.map (some m.Pb)):=J.o.blk.cell 5;have ax:=J.o.blk.lt;have aH:=@run_makeMap prog;obtain⟨D,hD,a7⟩:=J.o.pmap;have HD:=Qa a7;have az:Maps.size D=s.Qc.length:=by
  have:=KV.size hD a7 (JO f.o.Vn f.o.num);rwa [List.length_map]at this
 have aS:=hD.lt;have n:(w1.alloc (.map #[] 0)).ownsMap prog 73 SK.R m.Pb s.Qc.length D:=hD.kept (TD (UP w1 none) _) (by simp);have HG:=Qa (KV.made SK w1);have a6:Qb (Below w1.heap.size w1 (w1.alloc (.map #[] 0))):=bR.alloc nR _;clear hD a7;go_upto_region 3 with fail;have aC:(w1.alloc (.map #[] 0)).cell? ⟨Sb,5,none⟩=some (.map (some m.Pb)):=(a6.o.cell ax).trans c5;have a8:(w1.alloc (.map #[] 0)).heap.size=w1.heap.size+1:=by simp
 generalize w1.alloc (.map #[] 0)=w2 at*
 clear c5 aH c4;go_wp2_with (at_range;refine wpList_range_own _ rfl _ 125 rfl 73 142 Vs underlying125 _ m.Pb s.Qc.length D rfl n ?_;intro w3 hrg3 hg3 hs3);try go_frame
 have af:=Qa (a6.o.trans (Qg hg3 (by omega) (fun k hk=>by cases hk)));have ak:=Qa (HG.o.kept hg3 (by simp));clear a6 HG hg3 n aC;rw[a8]at hrg3
 go_loopw [7] (fun _ wr=>∃(left:Lit→Bool)(cnt:Nat)(ss:List Qj)(k:Nat),wr.ranges prog 73 SK.R m.Pb (w1.heap.size+1) s.Qc.length D left cnt∧ss.length+cnt≤Maps.size D∧SK.Y8 (QC s.Qc) left ss∧k≤ss.length∧
   SK.In wr w1.heap.size k (fun y=>if y∈ss∧y.1=v then QC s.Qc y else none)∧Below w1.heap.size w1 wr)
  (fun _ wr=>wr.rangeLeft m.Pb (w1.heap.size+1))
 case atStart=>
  exact⟨_,_,[],0,hrg3,by simp,KV.Y8.start HD.o,nR,ak.o.congr (fun y _=>by simp),af.o⟩
 obtain⟨left,cnt,ss,k,d,aE,hC,aA,V,H⟩:=hrel;clear hrg3 af ak hs3 a8;go_wp2_with (at_next;refine wpList_next_ranges _ rfl _ rfl 73 Vs SK.R QZ Kv (fun key kl hk=>by obtain⟨x,_,hx,_⟩:=Je hk;exact⟨x,hx⟩) (fun v y hv=>UT hv) m.Pb (w1.heap.size+1) s.Qc.length _ _ _ rfl d ?_ ?_)
 ·intro hc0 hl0;have E:=hC.done hl0;have ay:SK.In wr w1.heap.size (QS s v).length (QC (QS s v)):=by
   have:=(V.congr (Fc (v:=v) E)).tight (JO (l:=QS s v) (List.Pairwise.filter _ f.o.Vn) (fun x hx=>f.o.num x (List.mem_filter.1 hx).1));rwa [List.length_map]at this
  obtain⟨D2,n,A⟩:=ay;have a4:=Qa A;have aK:Maps.size D2=(QS s v).length:=by
   have:=KV.size n A (JO (l:=QS s v) (List.Pairwise.filter _ f.o.Vn) (fun x hx=>f.o.num x (List.mem_filter.1 hx).1));rwa [List.length_map]at this
  have HB:=Qa H;have aJ:=n.lt;clear d aE hC aA V H E HD az A;go_wp2_with (at_range;refine wpList_range_own _ rfl _ 125 rfl 73 142 Vs underlying125 _ w1.heap.size _ D2 rfl n ?_;intro w5 hrg5 hg5 hs5);try go_frame
  have U:=Qa (HB.o.trans (Qg hg5 HB.o.size (fun k hk=>by cases hk)));have aa:=@Qa (QO w5 base Sb (Xu s v []) m) (by rw[Lx];exact J.o.below U.o);have p:base≤w1.heap.size:=by omega
  have aj:=Qa (ap.o.trans (Qt.Qe (m:=m) U.o p));have W:=Qa (a0.o.trans ((Qd.Qe U.o p)));have aQ:w1.heap.size<wr.heap.size:=aJ;generalize wr.heap.size=R at*
  clear J ap a0 HB U hg5 n ar
  go_loopw [8] (fun _ wq=>∃(left:Lit→Bool)(cnt:Nat)(ss:List Qj),wq.ranges prog 73 SK.R w1.heap.size R (QS s v).length D2 left cnt∧SK.Y8 (QC (QS s v)) left ss∧QO wq base Sb (Xu s v ss) m∧Qt base m m w wq∧Qd base [1000000] w wq)
   (fun _ wq=>wq.rangeLeft w1.heap.size R)
  case atStart=>exact⟨_,_,[],hrg5,KV.Y8.start a4.o,aa.o,aj.o,W.o⟩
  obtain⟨left,cnt,ss,d,hC,hs,hk,S⟩:=hrel;clear hrg5 aa aj W hs5;go_wp2_with (at_next;refine wpList_next_ranges _ rfl _ rfl 73 Vs SK.R QZ Kv (fun key kl hk=>by obtain⟨x,_,hx,_⟩:=Je hk;exact⟨x,hx⟩) (fun v y hv=>UT hv) w1.heap.size R (QS s v).length _ _ _ rfl d ?_ ?_)
  ·intro hc0 hl0;have E:=hC.done hl0
   have am:=Qa (show w.heap.size≤w1.heap.size∧SK.In wr w1.heap.size (QS s v).length (QC (QS s v))∧QO wr base Sb { s with notes:=s.notes.filter (fun y=>decide (y.1≠v)),Qc:=s.Qc.filter (fun y=>decide (y.1.1≠v)) } m∧Qt base m m w wr∧Qd base [1000000] w wr from
    ⟨ae,⟨D2,d.owns,a4.o⟩,by rw[←ML E f.o.num];exact hs,hk,S⟩)
   clear d hC hs hk S E hl0 hc0;go_wp2_with fail;go_ret;exact⟨_,rfl,am.o⟩
  intro x1 x2 c kl yd yp w6 cnt2 hkey hlk hv' hat hrg2 hlt hg2 hs2 hen;obtain⟨x',j,ex,rfl⟩:=Je hkey;obtain rfl:(x1,x2)=x':=V6 ex;obtain⟨a,ha,Q⟩:=KV.Yd.here a4.o j hat;have M:=hC.step j hlk (by rw[ha];rfl);clear hs2 hkey Q hv' hat;rw[show QZ (x1,x2)=.agg #[.int .i64 x1,.int .i64 x2]from rfl]at hen ⊢;have F:Qb ((prog.info? 73).map (·.size)=some 2):=Ey;have HA:=Qa (Qh.new w6 73 #[.int .i64 0,.int .i64 0])
  go_upto_region 11 with(first
   |(refine wpList_store_row rfl 73 _ _ rfl w6.heap.size #[.int .i64 x1,.int .i64 x2] rfl rfl 73 _ HA.o F.o rfl (by simp[Value.oneCell']) ?_;rw[World.setRow_alloc_new]))
  go_frame;have aP:=d.lt;have av:=hs.lt;have a5:Qd base [] wr w6:=Qd.JY hg2 hs.lt fun k hk=>⟨by injection hk with hk;omega,fun t ht=>by injection hk with hk;subst hk;obtain⟨_,_,_,_,_,_,_,_,_,e,_⟩:=d;simp[VG,e]at ht⟩
  have aG:base≤w6.heap.size:=Nat.le_trans av a5.below.size;have O:Qd base [] wr (w6.alloc (.cells #[.int .i64 x1,.int .i64 x2] 73)):=a5.trans (Qd.Qe (bR.alloc nR _) aG);have i:=hrg2.alloc (.cells #[.int .i64 x1,.int .i64 x2] 73);have r:=Qh.new w6 73 #[.int .i64 x1,.int .i64 x2];clear HA hg2 hen hrg2;generalize w6.alloc (.cells #[.int .i64 x1,.int .i64 x2] 73)=w7 at*
  have K:=hs.keeps O nR (by simp);have an:=hk.trans (Qt.of (m:=m) O (by simp));have Z:=S.trans (O.mono nR (by simp));have ai:=K.lt;have dr:Below w7.heap.size w7 w7.drew:=bR.drew;obtain⟨w9,Y,a2,ao,q,ac⟩:=(K.below dr).Uy (x1,x2) j (Xu s v (ss++[(x1,x2)])).Qc (Mu s v ss (x1,x2)) (List.Pairwise.filter _ f.o.Vn) (fun x hx=>f.o.num x (List.mem_filter.1 hx).1);replace Y:(Builtin.delete_ #[125,73] 0 #[.map (some m.Pb),.agg #[.int .i64 x1,.int .i64 x2]]).run prog w7.drew=.ok (.tuple #[]) w9:=Y;have X:=(show w7.drew.ranges prog 73 SK.R w1.heap.size R (QS s v).length D2 (fun z=>left z&& !z.sameKey (Ro (x1,x2))) cnt2 from i).kept ac.grown (by simp;omega) (by simp;omega)
  have HQ:=Qa (show QO w9 base Sb (Xu s v (ss++[(x1,x2)])) m∧Qt base m m w w9∧Qd base [1000000] w w9 from
   ⟨a2,(an.trans (Qt.Qe (m:=m) dr ai)).trans ao,(Z.trans (Qd.Qe dr ai)).trans q⟩)
  have S6:=@Qa (w7.drew.cell? ⟨Sb,5,none⟩=some (.map (some m.Pb))∧(w7.drew.cell? ⟨w6.heap.size,0,none⟩=some (.int .i64 x1)∧w7.drew.cell? ⟨w6.heap.size,1,none⟩=some (.int .i64 x2))) (⟨K.blk.drew.cell 5,r.drew.cell 0,r.drew.cell 1⟩);have S9:=@Qa (w9.cell? ⟨Sb,5,none⟩=some (.map (some m.Pb))∧(w9.cell? ⟨w6.heap.size,0,none⟩=some (.int .i64 x1)∧w9.cell? ⟨w6.heap.size,1,none⟩=some (.int .i64 x2))) (⟨a2.blk.cell 5,(r.drew.keeps q (by decide)).cell 0,(r.drew.keeps q (by decide)).cell 1⟩);have aM:=K.blk.lt;have aL:=r.lt;clear hs hk S K an Z a2 ao q a5 O i r ac
  go_region_held3 (fun wy=>wy.cell? ⟨Sb,5,none⟩=some (.map (some m.Pb))∧(wy.cell? ⟨w6.heap.size,0,none⟩=some (.int .i64 x1)∧wy.cell? ⟨w6.heap.size,1,none⟩=some (.int .i64 x2)))
   (first|exact S6.o|exact S9.o)
   (fail)
  all_goals
   go_wp2_with fail;go_roundw
   case rel=>exact⟨_,cnt2,ss++[(x1,x2)],X,M,HQ.o⟩
   case measure=>rw[X.left_eq,d.left_eq];exact hlt
 intro x1 x2 c kl yd yp w4 cnt2 hkey hlk hv' hat hrg2 hlt hg2 hs2 hen;obtain⟨x',j,ex,rfl⟩:=Je hkey;obtain rfl:(x1,x2)=x':=V6 ex;obtain⟨a,ha,Q⟩:=KV.Yd.here HD.o j hat;obtain rfl:a=c:=by
  obtain⟨a',h1,h2⟩:=Ou hv';injection h2 with h2 _;have h3:c=a':=Yh h1;rw[h2]at Q;exact(Zi Q).symm.trans h3.symm
 have M:=hC.step j hlk (by rw[ha];rfl);obtain⟨at',len,b,mk⟩:=a;have al:(Instr.entry (.pointer (some ⟨w1.heap.size+1,0,none⟩))).run prog w4=.ok (.tuple #[.agg #[.int .i64 x1,.int .i64 x2],.agg #[.int .i64 at',.int .i64 len,.int .i64 b,.int .i64 mk]]) w4:=hen;clear hen;clear hs2 hkey;rw[show QZ (x1,x2)=.agg #[.int .i64 x1,.int .i64 x2]from rfl,show Kv ⟨at',len,b,mk⟩=.agg #[.int .i64 at',.int .i64 len,.int .i64 b,.int .i64 mk]from rfl];have F:Qb ((prog.info? 73).map (·.size)=some 2):=Ey;have ag:Qb ((prog.info? 142).map (·.size)=some 4):=Sg;have HA:=@Qa (Qh ((w4.alloc (.cells #[.int .i64 0,.int .i64 0] 73)).alloc (.cells #[.int .i64 0,.int .i64 0,.int .i64 0,.int .i64 0] 142)) w4.heap.size 73 #[.int .i64 0,.int .i64 0]) ((Qh.new _ _ _).alloc _);have ah:=@Qa (Qh ((w4.alloc (.cells #[.int .i64 x1,.int .i64 x2] 73)).alloc (.cells #[.int .i64 0,.int .i64 0,.int .i64 0,.int .i64 0] 142)) (w4.heap.size+1) 142 #[.int .i64 0,.int .i64 0,.int .i64 0,.int .i64 0]) (Qh.Qz (by simp))
 go_upto_region 6 with(first
  |(refine wpList_store_row rfl 73 _ _ rfl w4.heap.size #[.int .i64 x1,.int .i64 x2] rfl rfl 73 _ HA.o F.o rfl (by simp[Value.oneCell']) ?_;rw[Y0])
  |(refine wpList_store_row rfl 142 _ _ rfl (w4.heap.size+1) #[.int .i64 at',.int .i64 len,.int .i64 b,.int .i64 mk] rfl rfl 142 _ ah.o ag.o rfl (by simp[Value.oneCell']) ?_;rw[Y6]))
 have a3:=H.trans (Qg hg2 H.size (gB (by omega)));have a9:=a3.size;have B:=(hrg2.alloc (.cells #[.int .i64 x1,.int .i64 x2] 73)).alloc (.cells #[.int .i64 at',.int .i64 len,.int .i64 b,.int .i64 mk] 142);have I:Below w1.heap.size w1 ((w4.alloc (.cells #[.int .i64 x1,.int .i64 x2] 73)).alloc (.cells #[.int .i64 at',.int .i64 len,.int .i64 b,.int .i64 mk] 142)):=(a3.alloc a9 _).alloc (by simp;omega) _
 have P:SK.In ((w4.alloc (.cells #[.int .i64 x1,.int .i64 x2] 73)).alloc (.cells #[.int .i64 at',.int .i64 len,.int .i64 b,.int .i64 mk] 142)) w1.heap.size k (fun y=>if y∈ss∧y.1=v then QC s.Qc y else none):=
  (V.kept hg2 (by simp)).below ((bR.alloc nR _).alloc (by simp) _)
 have ab:=@Qa (Qh ((w4.alloc (.cells #[.int .i64 x1,.int .i64 x2] 73)).alloc (.cells #[.int .i64 at',.int .i64 len,.int .i64 b,.int .i64 mk] 142)) w4.heap.size 73 #[.int .i64 x1,.int .i64 x2]) ((Qh.new _ _ _).alloc _);have aB:=@Qa (Qh ((w4.alloc (.cells #[.int .i64 x1,.int .i64 x2] 73)).alloc (.cells #[.int .i64 at',.int .i64 len,.int .i64 b,.int .i64 mk] 142)) (w4.heap.size+1) 142 #[.int .i64 at',.int .i64 len,.int .i64 b,.int .i64 mk]) (Qh.Qz (by simp));clear HA ah al hg2 V a3 hrg2 H;generalize (w4.alloc (.cells #[.int .i64 x1,.int .i64 x2] 73)).alloc (.cells #[.int .i64 at',.int .i64 len,.int .i64 b,.int .i64 mk] 142)=w6 at*
 have c6:w6.cell? ⟨w4.heap.size,0,none⟩=some (.int .i64 x1):=ab.o.cell 0;obtain⟨N,hN⟩:=eX w4.heap.size;by_cases hxv:x1=v
 ·subst hxv;obtain⟨w7,g,a1,C⟩:=P.put (by unfold maxLen;omega) j ⟨at',len,b,mk⟩;replace g:(Instr.mapUpdate 125 (.map (some w1.heap.size)) (.agg #[.int .i64 x1,.int .i64 x2]) (.agg #[.int .i64 at',.int .i64 len,.int .i64 b,.int .i64 mk])).run prog w6=.ok () w7:=g;have aF:=Qa g;have i:=B.kept C.grown (by simp;omega) (by simp);have aD:=Qa (I.trans (Qg C.grown I.size (gB (by omega))))
  have F:=@Qa (SK.In w7 w1.heap.size (k+1) (fun y=>if y∈ss++[(x1,x2)]∧y.1=x1 then QC s.Qc y else none)) (a1.congr fun y hy=>by
   by_cases e:y=(x1,x2)
   ·subst e;simp[ha]
   simp[e])
  clear g a1 C P I
  go_wp2_with (first
   |(refine wpList_load_row rfl 73 _ rfl w4.heap.size rfl 73 #[.int .i64 x1,.int .i64 x2] (0,0) _ ab.o underlying73 rfl Ey ?_)
   |(refine wpList_load_row rfl 142 _ rfl (w4.heap.size+1) rfl 142 #[.int .i64 at',.int .i64 len,.int .i64 b,.int .i64 mk] (0,0) _ aB.o underlying142 rfl Sg ?_)
   |(refine XO _ rfl _ _ _ _ rfl _ _ _ rfl rfl rfl _ aF.o ?_))
  go_roundw
  case rel=>exact⟨_,cnt2,i,ss++[(x1,x2)],by simp;omega,M,k+1,by simp;omega,F.o,aD.o⟩
  case measure=>rw[i.left_eq,d.left_eq];exact hlt
 have aw:=@Qa (SK.In w6 w1.heap.size k (fun y=>if y∈ss++[(x1,x2)]∧y.1=v then QC s.Qc y else none)) (P.congr fun y hy=>by
  by_cases e:y=(x1,x2)
  ·subst e;simp[hxv]
  simp[e])
 have aI:=Qa I;clear P I;go_wp2_with fail;go_roundw
 case rel=>exact⟨_,cnt2,ss++[(x1,x2)],k,B,by simp;omega,M,by simp;omega,aw.o,aI.o⟩
 case measure=>rw[B.left_eq,d.left_eq];exact hlt
end
section
open Go.Shelf Go.Sort
def Jv(s:QM)(v:Int)(ss:List Qj):QM:={ s with notes:=s.notes.filter (fun y=>decide (y.1≠v)),Qc:=s.Qc.filter fun y=>decide (y.1.1≠v∨y.1∈ss) }
theorem WQ(s:QM)(v:Int):Jv s v []={ s with notes:=s.notes.filter (fun y=>decide (y.1≠v)),Qc:=s.Qc.filter (fun y=>decide (y.1.1≠v)) }:=by
 unfold Jv;simp
theorem IF(s:QM)(v:Int)(ss:List Qj)(y:Qj):QC (Jv s v ss).Qc y=if y.1≠v∨y∈ss then QC s.Qc y else none:=by
 unfold Jv;simp only;rw[KZ (fun y:Qj=>decide (y.1≠v∨y∈ss))];by_cases e:y.1≠v∨y∈ss
 ·rw[if_pos (decide_eq_true e),if_pos e]
 rw[if_neg (by simpa using e),if_neg e]
variable {s:QM}
theorem MG{v:Int}{ss:List Qj}(h:SK.Keys (QC (QS s v)) ss)(hr:∀x∈s.Qc,Kf x∧x.2.len≤1048576):Jv s v ss={ s with notes:=s.notes.filter (fun y=>decide (y.1≠v)) }:=by
 unfold Jv;congr 1;refine List.filter_eq_self.2 fun y hy=> ?_
 have a:SK.ok y.1:=⟨Q8 (hr y hy).1.1,Q8 (hr y hy).1.2.1⟩;have h1:=h.2.2 y.1 a;have h2:(QC s.Qc y.1).isSome=true:=KD.2 (List.mem_map.2 ⟨y,hy,rfl⟩);rw[OC]at h1;by_cases e:y.1.1=v
 ·rw[if_pos e]at h1;exact decide_eq_true (.inr (h1.2 h2))
 exact decide_eq_true (.inl e)
theorem Io{v:Int}{ss:List Qj}{x:Qj}{a:Qx}(ha:QC (QS s v) x=some a)(y:Qj):QC (Jv s v (ss++[x])).Qc y=if y=x then some a else QC (Jv s v ss).Qc y:=by
 rw[IF,IF];rw[OC]at ha;by_cases e:y=x
 ·subst e;rw[if_pos rfl,if_pos (.inr (by simp))];split at ha
  ·exact ha
  cases ha
 rw[if_neg e];simp[e]
variable {G Sb:Nat} {m:KY}
theorem Nk{v:Int}(h:QO w base Sb (Jv s v []) m)(hG:SK.In w G (QS s v).length (QC (QS s v)))(hne:G≠m.Pb)(hs:Xa s.Qc)(hr:∀x∈s.Qc,Kf x∧x.2.len≤1048576)(hc:s.Qc.length<999999):
  Calls prog 134 #[.map (some m.Pb),.map (some G)] w fun e w'=>e=.returned (.tuple #[])∧QO w' base Sb { s with notes:=s.notes.filter (fun y=>decide (y.1≠v)) } m∧Qt base m m w w'∧Qd base [1000000] w w':=by
 obtain⟨D,hD,N⟩:=hG;have HD:=Qa N;have A:=h.lt;have a3:=hD.lt;have HS:=Qa h;have U:=Qa hs;have B:=Qa hr;have HC:=Qa hc;clear h N hs hr hc;go_enter func134,ntmps134;go_wp2_with (at_range;refine wpList_range_own _ rfl _ 125 rfl 73 142 Vs underlying125 _ G _ D rfl hD ?_;intro w5 hrg5 hg5 hs5);try go_frame
 have i:Below w.heap.size w w5:=Qg hg5 nR (fun k hk=>by cases hk);have H:=Qa (HS.o.below i);have F:=Qa (Qt.Qe (m:=m) i A);have l:=Qa (Qd.Qe (base:=base) (ts:=[1000000]) i A);generalize hR:w.heap.size=R at*
 clear HS i hg5 hD
 go_loopw [4] (fun _ wq=>∃(left:Lit→Bool)(cnt:Nat)(ss:List Qj),wq.ranges prog 73 SK.R G R (QS s v).length D left cnt∧SK.Y8 (QC (QS s v)) left ss∧QO wq base Sb (Jv s v ss) m∧Qt base m m w wq∧Qd base [1000000] w wq)
  (fun _ wq=>wq.rangeLeft G R)
 case atStart=>exact⟨_,_,[],hrg5,KV.Y8.start HD.o,H.o,F.o,l.o⟩
 obtain⟨left,cnt,ss,f,hC,hs,hk,j⟩:=hrel;clear hrg5 H F l hs5;go_wp2_with (at_next;refine wpList_next_ranges _ rfl _ rfl 73 Vs SK.R QZ Kv (fun key kl hk=>by obtain⟨x,_,hx,_⟩:=Je hk;exact⟨x,hx⟩) (fun v y hv=>UT hv) G R (QS s v).length _ _ _ rfl f ?_ ?_)
 ·intro hc0 hl0;have P:=hC.done hl0
  have J:=Qa (show QO wr base Sb { s with notes:=s.notes.filter (fun y=>decide (y.1≠v)) } m∧Qt base m m w wr∧Qd base [1000000] w wr from
   ⟨by rw[←MG P B.o];exact hs,hk,j⟩)
  clear f hC hs hk j P hl0 hc0;go_wp2_with fail
  go_end0
  exact⟨rfl,J.o⟩
 intro x1 x2 c kl yd yp w4 cnt2 hkey hlk hv' hat hrg2 hlt hg2 hs2 hen;obtain⟨x',z,ex,rfl⟩:=Je hkey;obtain rfl:(x1,x2)=x':=V6 ex;obtain⟨a,ha,K⟩:=KV.Yd.here HD.o z hat;obtain rfl:a=c:=by
  obtain⟨a',h1,h2⟩:=Ou hv';injection h2 with h2 _;have h3:c=a':=Yh h1;rw[h2]at K;exact(Zi K).symm.trans h3.symm
 have Q:=hC.step z hlk (by rw[ha];rfl);obtain⟨at',len,b,mk⟩:=a;have I:(Instr.entry (.pointer (some ⟨R,0,none⟩))).run prog w4=.ok (.tuple #[.agg #[.int .i64 x1,.int .i64 x2],.agg #[.int .i64 at',.int .i64 len,.int .i64 b,.int .i64 mk]]) w4:=hen;clear hen;clear hs2 hkey;rw[show QZ (x1,x2)=.agg #[.int .i64 x1,.int .i64 x2]from rfl,show Kv ⟨at',len,b,mk⟩=.agg #[.int .i64 at',.int .i64 len,.int .i64 b,.int .i64 mk]from rfl];have T:Qb ((prog.info? 73).map (·.size)=some 2):=Ey;have C:Qb ((prog.info? 142).map (·.size)=some 4):=Sg;have HA:=@Qa (Qh ((w4.alloc (.cells #[.int .i64 0,.int .i64 0] 73)).alloc (.cells #[.int .i64 0,.int .i64 0,.int .i64 0,.int .i64 0] 142)) w4.heap.size 73 #[.int .i64 0,.int .i64 0]) ((Qh.new _ _ _).alloc _);have E:=@Qa (Qh ((w4.alloc (.cells #[.int .i64 x1,.int .i64 x2] 73)).alloc (.cells #[.int .i64 0,.int .i64 0,.int .i64 0,.int .i64 0] 142)) (w4.heap.size+1) 142 #[.int .i64 0,.int .i64 0,.int .i64 0,.int .i64 0]) (Qh.Qz (by simp));have a1:=f.lt;have S:=hs.lt;have a0:base≤R:=by omega
 have u:Qd base [] wr w4:=Qd.JY hg2 hs.lt fun k hk=>⟨by injection hk with hk;omega,fun t ht=>by injection hk with hk;subst hk;obtain⟨_,_,_,_,_,_,_,_,_,e,_⟩:=f;simp[VG,e]at ht⟩
 have X:base≤w4.heap.size:=Nat.le_trans S u.below.size;have p:=(hrg2.alloc (.cells #[.int .i64 x1,.int .i64 x2] 73)).alloc (.cells #[.int .i64 at',.int .i64 len,.int .i64 b,.int .i64 mk] 142);have g:Qd base [] wr ((w4.alloc (.cells #[.int .i64 x1,.int .i64 x2] 73)).alloc (.cells #[.int .i64 at',.int .i64 len,.int .i64 b,.int .i64 mk] 142)):=u.trans (Qd.Qe ((bR.alloc nR _).alloc (by simp) _) X);have V:=@Qa (Qh ((w4.alloc (.cells #[.int .i64 x1,.int .i64 x2] 73)).alloc (.cells #[.int .i64 at',.int .i64 len,.int .i64 b,.int .i64 mk] 142)) w4.heap.size 73 #[.int .i64 x1,.int .i64 x2]) ((Qh.new _ _ _).alloc _);have Y:=@Qa (Qh ((w4.alloc (.cells #[.int .i64 x1,.int .i64 x2] 73)).alloc (.cells #[.int .i64 at',.int .i64 len,.int .i64 b,.int .i64 mk] 142)) (w4.heap.size+1) 142 #[.int .i64 at',.int .i64 len,.int .i64 b,.int .i64 mk]) (Qh.Qz (by simp));clear hg2 hrg2
 go_upto_region 3 with(first
  |(refine wpList_store_row rfl 73 _ _ rfl w4.heap.size #[.int .i64 x1,.int .i64 x2] rfl rfl 73 _ HA.o T.o rfl (by simp[Value.oneCell']) ?_;rw[Y0])
  |(refine wpList_store_row rfl 142 _ _ rfl (w4.heap.size+1) #[.int .i64 at',.int .i64 len,.int .i64 b,.int .i64 mk] rfl rfl 142 _ E.o C.o rfl (by simp[Value.oneCell']) ?_;rw[Y6]))
 clear HA E I;generalize (w4.alloc (.cells #[.int .i64 x1,.int .i64 x2] 73)).alloc (.cells #[.int .i64 at',.int .i64 len,.int .i64 b,.int .i64 mk] 142)=w6 at*
 have O:=hs.keeps g nR (by simp);obtain⟨w7,d,L,M,n,q⟩:=O.TJ (x1,x2) z ⟨at',len,b,mk⟩ (Jv s v (ss++[(x1,x2)])).Qc (Io ha) (List.Pairwise.filter _ U.o) (fun x hx=>B.o x (List.mem_filter.1 hx).1) (by have:=HC.o;have h2:(Jv s v ss).Qc.length≤s.Qc.length:=List.length_filter_le _ _;omega);replace d:(Instr.mapUpdate 125 (.map (some m.Pb)) (.agg #[.int .i64 x1,.int .i64 x2]) (.agg #[.int .i64 at',.int .i64 len,.int .i64 b,.int .i64 mk])).run prog w6=.ok () w7:=d;have W:=Qa d;have a2:=hs.pmap.lt;have r:=p.kept q.grown (by simp;exact hne) (by simp;rintro rfl;obtain⟨_,_,_,_,_,_,_,_,_,e,_⟩:=f;have:=hs.pmap.ty;simp[VG,e]at this)
 have HQ:=Qa (show QO w7 base Sb (Jv s v (ss++[(x1,x2)])) m∧Qt base m m w w7∧Qd base [1000000] w w7 from
  ⟨L,(hk.trans (Qt.of (m:=m) g (by simp))).trans M,(j.trans (g.mono nR (by simp))).trans n⟩)
 clear d L M n q hs hk j O p u g
 go_wp2_with (first
  |(refine wpList_load_row rfl 73 _ rfl w4.heap.size rfl 73 #[.int .i64 x1,.int .i64 x2] (0,0) _ V.o underlying73 rfl Ey ?_)
  |(refine wpList_load_row rfl 142 _ rfl (w4.heap.size+1) rfl 142 #[.int .i64 at',.int .i64 len,.int .i64 b,.int .i64 mk] (0,0) _ Y.o underlying142 rfl Sg ?_)
  |(refine XO _ rfl _ _ _ _ rfl _ _ _ rfl rfl rfl _ W.o ?_))
 go_roundw
 case rel=>exact⟨_,⟨cnt2,r⟩,ss++[(x1,x2)],Q,HQ.o⟩
 case measure=>rw[r.left_eq,f.left_eq];exact hlt
variable {T X Z:Nat}
theorem WY{V:Nat}{v:Int}{was:List UInt8}{there:Bool}(h:QO w base Sb (Jv s v []) m)(hv:ZX v)(hG:SK.In w G (QS s v).length (QC (QS s v)))(hne:G≠m.Pb)
  (hX:Qh w X 28 #[.pointer (some ⟨Sb,0,none⟩)])(hM:Qh w M 125 #[.map (some G)])(hT:Qh w T 4 #[.bool there])(hZ:Qh w Z 9 #[.string ⟨was.toArray⟩])(hV:Qh w V 2 #[.int .i64 v])
  (hw:QC s.notes v=if there=true then some was else none)(ok:MF s)(hnS:s.Qc.length<999999)(hnN:s.notes.length<999999):
  Calls prog 133 #[.pointer (some ⟨X,0,none⟩),.pointer (some ⟨M,0,none⟩),.pointer (some ⟨T,0,none⟩),.pointer (some ⟨Z,0,none⟩),.pointer (some ⟨V,0,none⟩)] w fun e w'=>e=.returned (.tuple #[])∧QO w' base Sb s m∧Qt base m m w w'∧Qd base [1000000] w w':=by
 have l:=h.lt;have sl:=h.blk.lt;have xl:=hX.lt;have ml:=hM.lt
 have CP:=@Qa (∀wy,Below w.heap.size w wy→Calls prog 134 #[.map (some m.Pb),.map (some G)] wy fun e w'=>e=.returned (.tuple #[])∧QO w' base Sb { s with notes:=s.notes.filter (fun y=>decide (y.1≠v)) } m∧Qt base m m w w'∧Qd base [1000000] w w') (fun wy hy=>
  (Nk (h.below hy) (hG.below hy) hne ok.Vn ok.num hnS).mono fun e w' ⟨q1,q2,q3,q4⟩=>⟨q1,q2,(Qt.Qe (m:=m) hy l).trans q3,(Qd.Qe hy l).trans q4⟩)
 have r:=@Qa (w.drew.cell? ⟨X,0,none⟩=some (.pointer (some ⟨Sb,0,none⟩))∧w.drew.cell? ⟨Sb,5,none⟩=some (.map (some m.Pb))∧w.drew.cell? ⟨M,0,none⟩=some (.map (some G))) (⟨hX.drew.cell 0,h.blk.drew.cell 5,hM.drew.cell 0⟩);have HX:=Qa hX;have HT:=Qa hT;have HZ:=Qa hZ;have HV:=Qa hV;have HM:=Qa hM;have HB:=Qa h.blk;have HW:=Qa hw;have n:=Qa ok;clear h hG hX hM hT hZ hV hw ok;go_enter func133,ntmps133;go_upto_region 0 with fail;go_cut [] (fun wx=>QO wx base Sb { s with notes:=s.notes.filter (fun y=>decide (y.1≠v)) } m∧Qt base m m w wx∧Qd base [1000000] w wx)
 case first=>
  go_region_held3 (fun wy=>wy.cell? ⟨X,0,none⟩=some (.pointer (some ⟨Sb,0,none⟩))∧wy.cell? ⟨Sb,5,none⟩=some (.map (some m.Pb))∧wy.cell? ⟨M,0,none⟩=some (.map (some G)))
   (first|exact r.o|exact S1.o)
   (first|(go_at_call 134;refine(CP.o _ bR.drew).mono ?_;rintro en w1 ⟨rfl,b,d,a⟩;(have H1:=Qa (And.intro b (And.intro d a)));(have S1:=@Qa (w1.cell? ⟨X,0,none⟩=some (.pointer (some ⟨Sb,0,none⟩))∧w1.cell? ⟨Sb,5,none⟩=some (.map (some m.Pb))∧w1.cell? ⟨M,0,none⟩=some (.map (some G))) (⟨(HX.o.keeps a (by decide)).cell 0,b.blk.cell 5,(HM.o.keeps a (by decide)).cell 0⟩));clear b d a))
  all_goals
   go_wp2_with fail;go_meet;exact H1.o
 obtain⟨b,d,a⟩:=hcut;have g:=HX.o.keeps a (by decide);have k:=HT.o.keeps a (by decide);have i:=HZ.o.keeps a (by decide);have f:=HV.o.keeps a (by decide);clear CP r;have t0:wc.cell? ⟨T,0,none⟩=some (.bool there):=k.cell 0;have t:=b.lt;have HK:=@Qa (Below wc.heap.size wc wc.drew) (bR.drew);have a2:=b.blk.lt;have a0:=g.lt;have a3:=f.lt;have a1:=i.lt;cases there with
 |true=>
  have q:QC s.notes v=some was:=by rw[HW.o,if_pos rfl]
  have hl:∀y,QC s.notes y=if y=v then some was else QC (s.notes.filter (fun y=>decide (y.1≠v))) y:=fun y=>by
   rw[KZ (fun y=>decide (y≠v))];by_cases e:y=v
   ·rw[if_pos e,e];exact q
   simp[e]
  obtain⟨w8,j,u,p,c,x⟩:=(b.below HK.o).Lz v hv was s.notes hl n.o.VL n.o.Xv (by have h2:(s.notes.filter (fun y=>decide (y.1≠v))).length≤s.notes.length:=List.length_filter_le _ _;show(s.notes.filter (fun y=>decide (y.1≠v))).length<_;omega);replace j:(Instr.mapUpdate 124 (.map (some m.Nb)) (.int .i64 v) (.string ⟨was.toArray⟩)).run prog wc.drew=.ok () w8:=j
  have S0:=Qa (show wc.drew.cell? ⟨X,0,none⟩=some (.pointer (some ⟨Sb,0,none⟩))∧wc.drew.cell? ⟨Sb,4,none⟩=some (.map (some m.Nb))∧wc.drew.cell? ⟨V,0,none⟩=some (.int .i64 v)∧wc.drew.cell? ⟨Z,0,none⟩=some (.string ⟨was.toArray⟩)from
   ⟨g.drew.cell 0,b.blk.drew.cell 4,f.drew.cell 0,i.drew.cell 0⟩)
  have S8:=Qa (show w8.cell? ⟨X,0,none⟩=some (.pointer (some ⟨Sb,0,none⟩))∧w8.cell? ⟨Sb,4,none⟩=some (.map (some m.Nb))∧w8.cell? ⟨V,0,none⟩=some (.int .i64 v)∧w8.cell? ⟨Z,0,none⟩=some (.string ⟨was.toArray⟩)from
   ⟨(g.drew.keeps c (by decide)).cell 0,(b.blk.drew.keeps c (by decide)).cell 4,(f.drew.keeps c (by decide)).cell 0,(i.drew.keeps c (by decide)).cell 0⟩)
  have HQ:=@Qa (QO w8 base Sb s m∧Qt base m m w w8∧Qd base [1000000] w w8) (⟨u,d.trans ((Qt.Qe (m:=m) HK.o t).trans p),a.trans ((Qd.Qe HK.o t).trans c)⟩);clear b d a g k i f u p c x hl q;go_upto_region 2 with fail;clear t0
  go_region_held3 (fun wy=>wy.cell? ⟨X,0,none⟩=some (.pointer (some ⟨Sb,0,none⟩))∧wy.cell? ⟨Sb,4,none⟩=some (.map (some m.Nb))∧wy.cell? ⟨V,0,none⟩=some (.int .i64 v)∧wy.cell? ⟨Z,0,none⟩=some (.string ⟨was.toArray⟩))
   (first|exact S0.o|exact S8.o)
   (fail)
  all_goals
   go_wp2_with fail
   go_end0
   exact⟨rfl,HQ.o⟩
 |false=>
  have hn:s.notes.filter (fun y=>decide (y.1≠v))=s.notes:=by
   refine List.filter_eq_self.2 fun y hy=>decide_eq_true fun e=> ?_
   have h2:(QC s.notes y.1).isSome=true:=KD.2 (List.mem_map.2 ⟨y,hy,rfl⟩);rw[e,HW.o]at h2;simp at h2
  rw[hn]at b;have HQ:=@Qa (QO wc base Sb s m∧Qt base m m w wc∧Qd base [1000000] w wc) (⟨b,d,a⟩);clear b d a g k i f hn;go_wp2_with fail
  go_end0
  exact⟨rfl,HQ.o⟩
end
end Go.Proofs.YtmgmfnimaafkdaaGreatDoor
