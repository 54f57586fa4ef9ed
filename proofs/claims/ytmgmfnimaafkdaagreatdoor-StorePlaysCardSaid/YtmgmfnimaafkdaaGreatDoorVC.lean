/- A sector read. -/
import Derived.Test.YtmgmfnimaafkdaaGreatDoorVB
import Derived.Laws.Bits64b
namespace Go.Proofs.YtmgmfnimaafkdaaGreatDoor
set_option maxRecDepth 100000
set_option maxHeartbeats 0
open Go.RowKit Go.Maps
open Tryz
def CN(w:World)(base:Nat)(v:Value)(l:List UInt8):Prop:=∃g c,v=.slice (some ⟨g,0,none⟩) l.length c∧w.ownsRow base 5 1 v l.length (l.map Ks)
def DB(w':World)(base:Nat)(r:Nat × List UInt8)(e:Ending):Prop:=
 (r.1=0∧∃v,e=.returned (.tuple #[v,.int .i64 0])∧CN w' base v r.2)∨(r.1≠0∧e=.returned (.tuple #[.slice none 0 0,.int .i64 r.1]))
variable {base g:Nat} {w:World}
theorem I6{l:List UInt8}(h:Qh w g 5 (l.map Ks).toArray)(hb:base≤g)(hl:l.length≤maxLen):CN w base (.slice (some ⟨g,0,none⟩) l.length l.length) l:=
 ⟨g,l.length,rfl,by simp,.inr ⟨g,l.length,_,rfl,hb,h,nR,hl,by simp,by rw[Nat.mul_one];exact List.take_of_length_le (by simp)⟩⟩
theorem Oo(l:List UInt8):∀u∈l.map Ks,u.oneCell'=true:=by
 intro u hu;obtain⟨x,_,rfl⟩:=List.mem_map.1 hu;rfl
variable {e n size:Nat} {v:Value} {xs:List Value}
theorem Qu(h:w.ownsRow base e size v n xs)(o:Obj):(w.alloc o).ownsRow base e size v n xs:=QF (base:=0) (ts:=[]) h (Qd.Qe (bR.alloc nR o) (Nat.zero_le _)) (by simp)
theorem FM(w:World)(b:List UInt8)(g:Nat)(k c base:Nat)(hk:b.length=k)(hown:w.ownsRow base 5 1 (.slice (some ⟨g,0,none⟩) k c) k (b.map Ks)):
  (Builtin.copy_ #[43,43] 3 #[.slice (some ⟨w.heap.size,0,none⟩) k k,.slice (some ⟨g,0,none⟩) k c]).run prog (w.alloc (.cells (JI k) 5))=.ok (goInt k) ((w.alloc (.cells (JI k) 5)).setRow w.heap.size (b.map Ks).toArray):=by
 have hc:=Qu hown (.cells (JI k) 5);have h:=run_copy_row (P:=prog) (w.alloc (.cells (JI k) 5)) 43 43 3 5 w.heap.size 0 k k ⟨g,0,none⟩ k c (JI k) 5 (b.map Ks) VI (by kernel_rfl) (heap_alloc_new w _) (by simp[hk]) (fun j v hj=> ?_) (by simp[JI,hk]) (Oo b)
 ·rw[h];simp[hk,JI]
 exact hc.cells (g:=g) rfl j v hj
variable {B:Nat} {d:Qq}
theorem Rm(h:VK w base B d)(hn:d.Qk.length≤n):
  Calls prog 92 #[.pointer (some ⟨B,0,none⟩),.int .i64 n] w fun e w'=>e=.returned (.bool false)∧w=w':=
 (IJ h n).mono fun e w' ⟨h1,h2⟩=>⟨by rw[h1,decide_eq_false (by omega)],h2⟩
theorem V0(h:VK w base B d)(hn:n<d.Qk.length):
  Calls prog 92 #[.pointer (some ⟨B,0,none⟩),.int .i64 n] w fun e w'=>e=.returned (.bool true)∧w=w':=
 (IJ h n).mono fun e w' ⟨h1,h2⟩=>⟨by rw[h1,decide_eq_true (by omega)],h2⟩
section
attribute [local go_sem ↓] Yl
theorem Sz(h:VK w base B d)(n:Nat):
  Calls prog 171 #[.pointer (some ⟨B,0,none⟩),.int .i64 n] w fun e w'=>DB w' w.heap.size (Vh d n) e∧Below w.heap.size w w':=by
 have hD:=h;obtain⟨m,h⟩:=h;have hb:=h.blk;have a1:=hb.lt;have e0:w.cell? ⟨B,0,none⟩=some (.int .i64 d.size):=hb.cell 0;have e2:w.cell? ⟨B,2,none⟩=some (.slice (some ⟨m.TB,0,none⟩) d.Qk.length d.Qk.length):=hb.cell 2;have e4:w.cell? ⟨B,4,none⟩=some (.bool d.off):=hb.cell 4;have HD:=Qa hD;obtain⟨r,hr⟩:=eX (Vh d n);rw[←hr];by_cases hn:d.Qk.length≤n
 ·have a:r=(1,[]):=by rw[hr];unfold Vh;rw[if_pos hn]
  subst a;clear h hD hb hr;go_enter func171,ntmps171;go_wp2_with (go_at_call 92;refine(Rm HD.o hn).mono ?_;rintro e w' ⟨rfl,rfl⟩);go_ret2;exact⟨.inr ⟨by decide,rfl⟩,bR⟩
 by_cases ho:d.off=true
 ·have a:r=(10,[]):=by rw[hr];unfold Vh;rw[if_neg hn,if_pos ho]
  subst a;rw[ho]at e4;clear h hD hb hr;go_enter func171,ntmps171;go_wp2_with (go_at_call 92;refine(V0 HD.o (by omega)).mono ?_;rintro e w' ⟨rfl,rfl⟩);go_ret2;exact⟨.inr ⟨by decide,rfl⟩,bR⟩
 have j:n<d.Qk.length:=by omega
 have k:d.off=false:=by simpa using ho
 have hs:=h.SQ n j;have et:w.cell? ⟨m.TB,n,none⟩=some (Ko (m.told n)):=by
  rw[h.tb.cell n];simp[j]
 have a3:=h.tb.lt;have Bd:=h.sz.1;have a4:=h.sz.2;have z0:(0:Int)≤d.size:=by omega
 have z1:(d.size:Int)≤65536:=by omega
 have a:r=match d.told n with|.torn=>(9,[])|.zero=>(0,List.replicate d.size 0)|.data b _=>(0,b):=by
  rw[hr];unfold Vh;rw[if_neg hn,if_neg ho];cases d.told n<;>rfl
 rw[k]at e4;cases hq:m.told n with
 |none=>
  rw[hq]at hs et;have hz:d.told n=.zero:=hs;rw[hz]at a;simp only at a;simp only[Ko]at et;subst a;clear h hD hb hr ho;go_enter func171,ntmps171;go_wp2_with (go_at_call 92;refine(V0 HD.o (by omega)).mono ?_;rintro e w' ⟨rfl,rfl⟩);go_ret2
  exact⟨.inl ⟨rfl,_,rfl,by
   have:=I6 (l:=List.replicate d.size 0) (Qh.new w 5 _) nR (by simp[maxLen];omega);rw[List.length_replicate]at this;exact this⟩,bR.alloc nR _⟩
 |some g=>
  rw[hq]at hs et;simp only[Ko]at et;cases hv:d.told n with
  |zero=>rw[hv]at hs;exact absurd hs (by simp[IX,OF])
  |torn=>
   rw[hv]at hs a;have hc:=hs.2;have p:=hc.lt;have c1:w.cell? ⟨g,1,none⟩=some (.bool true):=hc.cell 1;simp only at a;subst a;clear h hD hb hr ho hs hc;go_enter func171,ntmps171;go_wp2_with (go_at_call 92;refine(V0 HD.o (by omega)).mono ?_;rintro e w' ⟨rfl,rfl⟩);go_ret2;exact⟨.inr ⟨by decide,rfl⟩,bR.alloc nR _⟩
  |data b tu=>
   rw[hv]at hs a;obtain⟨f,a0,c,hc,i⟩:=hs;have p:=hc.lt;have c0:w.cell? ⟨g,0,none⟩=some (.slice (some ⟨g-1,0,none⟩) d.size c):=hc.cell 0;have c1:w.cell? ⟨g,1,none⟩=some (.bool false):=hc.cell 1;simp only at a;subst a;have a2:=FM w b (g-1) d.size c base f i;have HL:=Qa f;clear h hD hb hr ho hc i f;go_enter func171,ntmps171;go_wp2_with (go_at_call 92;refine(V0 HD.o (by omega)).mono ?_;rintro e w' ⟨rfl,rfl⟩);go_ret2;have hm:=I6 (w:=(w.alloc (.cells (JI d.size) 5)).setRow w.heap.size (b.map Ks).toArray) (l:=b) (g:=w.heap.size) (base:=w.heap.size) (setRow_heap _ _ _ _ _ _ (heap_alloc_new w _)) nR (by rw[HL.o];simp[maxLen];omega);rw[HL.o]at hm;exact⟨.inl ⟨rfl,_,rfl,hm⟩,below_setRow (bR.alloc nR _) nR _⟩
end
variable {base':Nat} {w':World}
theorem OF.keeps{ts:List TypeId}{v:XR}(h:OF w base size g v)(k:Qd base' ts w w')(h1:169∉ts)(h2:5∉ts):OF w' base size g v:=by
 cases v with
 |zero=>exact h
 |torn=>exact⟨h.1,h.2.keeps k h1⟩
 |data b t=>
  obtain⟨a,b',c,hb,ho⟩:=h;exact⟨a,b',c,hb.keeps k h1,QF ho k h2⟩
theorem OF.lt{v:XR}(h:OF w base size g v):g<w.heap.size:=by
 cases v with
 |zero=>exact absurd h (by simp[OF])
 |torn=>exact h.2.lt
 |data b t=>obtain⟨_,_,c,hb,_⟩:=h;exact hb.lt
theorem IX.keeps{ts:List TypeId}{o:Option Nat}{v:XR}(h:IX w base size o v)(k:Qd base' ts w w')(h1:169∉ts)(h2:5∉ts):IX w' base size o v:=by
 cases o with
 |none=>exact h
 |some g=>exact OF.keeps (show OF w base size g v from h) k h1 h2
theorem Yc.keeps{ts:List TypeId}{m:Jf}(h:Yc w base B d m)(k:Qd base' ts w w')(h1:121∉ts)(h2:165∉ts)(h3:167∉ts)(h4:169∉ts)(h5:5∉ts):Yc w' base B d m:=
 { h with blk:=h.blk.keeps k h1,lb:=h.lb.keeps k h2,tb:=h.tb.keeps k h2,own:=QF h.own k h3,last:=fun i hi=>(h.last i hi).keeps k h4 h5,wait:=fun i a b=>(h.wait i a b).keeps k h4 h5 }
theorem VK.keeps{ts:List TypeId}(h:VK w base B d)(k:Qd base' ts w w')(h1:121∉ts)(h2:165∉ts)(h3:167∉ts)(h4:169∉ts)(h5:5∉ts):VK w' base B d:=by
 obtain⟨m,h⟩:=h;exact⟨m,h.keeps k h1 h2 h3 h4 h5⟩
theorem VK.below(h:VK w base B d)(k:Below w.heap.size w w'):VK w' base B d:=
 h.keeps (ts:=[]) (Qd.Qe (base:=0) k (Nat.zero_le _)) (by simp) (by simp) (by simp) (by simp) (by simp)
theorem Yc.CC{m:Jf}(h:Yc w base B d m):∀g∈m.wi.map (·.2)++m.li.filterMap id,g<w.heap.size:=by
 intro g hg;have hl:m.wi.length=d.waits.length:=by have:=congrArg List.length h.wl;simpa using this
 rcases List.mem_append.1 hg with hg|hg
 ·obtain⟨x,hx,rfl⟩:=List.mem_map.1 hg;obtain⟨k,hk,rfl⟩:=List.mem_iff_getElem.1 hx;exact(h.wait k hk (by omega)).lt
 rw[List.mem_filterMap]at hg;obtain⟨o,ho,he⟩:=hg;simp only[id]at he;subst he;obtain⟨k,hk,he⟩:=List.mem_iff_getElem.1 ho;have:=h.last k (by rw[←h.ll];exact hk);have e:m.last k=some g:=by unfold Jf.last;rw[List.getD,List.getElem?_eq_getElem hk,he];rfl
 rw[e]at this;exact OF.lt (show OF w base d.size g _ from this)
def Jf.wrote(m:Jf)(n g:Nat)(A:Option Addr)(c:Nat):Jf:={ m with wi:=m.wi++[(n,g)],A:=A,c:=c }
theorem Jf.M8(m:Jf)(n g:Nat)(A:Option Addr)(c k:Nat):(m.wrote n g A c).told k=if n=k then some g else m.told k:=by
 unfold Jf.told Jf.wrote;rw[List.reverse_append,List.reverse_singleton,List.singleton_append,List.find?_cons];by_cases hk:n=k
 ·simp[hk]
 have:(n==k)=false:=by simpa using hk
 simp only[this,if_neg hk];rfl
variable {A:Option Addr} {b:List UInt8} {c:Nat}
theorem Yc.wrote{m:Jf}(h:Yc w base B d m)(hn:n<d.Qk.length)(hlo:w.heap.size≤g)
  (hk:Qd base [121,165,167] w w')(hblk:Qh w' B 121 (Yv { d with waits:=d.waits++[(n,.data b false)] } (m.wrote n g A c)))(hlb:Qh w' m.LB 165 (m.li.map Ko).toArray)
  (htb:Qh w' m.TB 165 (((List.range d.Qk.length).map fun k=>Ko (m.told k)).toArray.setIfInBounds n (Ko (some g))))
  (hown:w'.ownsRow base 167 2 (.slice A (m.wi.length+1) c) (m.wi.length+1) ((m.wi.flatMap fun x=>[.int .i64 x.1,Ko (some x.2)])++[.int .i64 n,Ko (some g)]))
  (hc:OF w' base d.size g (.data b false)):Yc w' base B { d with waits:=d.waits++[(n,.data b false)] } (m.wrote n g A c):=by
 have hl:m.wi.length=d.waits.length:=by have:=congrArg List.length h.wl;simpa using this
 refine⟨h.low,h.ne,h.sz,h.n1,hblk,hlb, ?_, ?_,h.ll, ?_, ?_,fun k hk'=>(h.last k hk').keeps hk (by simp) (by simp), ?_, ?_⟩
 ·have:((List.range d.Qk.length).map fun k=>Ko ((m.wrote n g A c).told k)).toArray=((List.range d.Qk.length).map fun k=>Ko (m.told k)).toArray.setIfInBounds n (Ko (some g)):=by
   apply Array.ext
   ·simp
   intro i h1 h2;simp only[Jf.M8,List.getElem_toArray,List.getElem_map,List.getElem_range];by_cases hi:n=i
   ·simp[hi]
   simp[hi]
  show Qh w' m.TB 165 _;rw[this];exact htb
 ·simp only[Jf.wrote,List.length_append,List.length_singleton,List.flatMap_append,List.flatMap_singleton];exact hown
 ·simp[Jf.wrote,h.wl]
 ·intro x hx;simp only[Jf.wrote,List.mem_append,List.mem_singleton]at hx;rcases hx with hx|rfl
  ·exact h.Bn x hx
  exact hn
 ·intro k h1 h2;simp only[Jf.wrote,List.length_append,List.length_singleton]at h1 h2;by_cases hlt:k<m.wi.length
  ·have e1:(m.wrote n g A c).wi[k]'(by simpa [Jf.wrote]using h1)=m.wi[k]:=by simp[Jf.wrote,List.getElem_append_left hlt]
   have e2:(d.waits++[(n,XR.data b false)])[k]'(by simpa using h2)=d.waits[k]'(by omega):=by rw[List.getElem_append_left (by omega)]
   simp only[e1,e2];exact(h.wait k hlt (by omega)).keeps hk (by simp) (by simp)
  obtain rfl:k=m.wi.length:=by omega
  have e1:(m.wrote n g A c).wi[m.wi.length]'(by simp[Jf.wrote])=(n,g):=by simp[Jf.wrote]
  have e2:(d.waits++[(n,XR.data b false)])[m.wi.length]'(by simp;omega)=(n,XR.data b false):=by
   rw[List.getElem_append_right (by omega)];simp
  simp only[e1,e2];exact hc
 have l:=h.CC;have f:g∉m.wi.map (·.2)++m.li.filterMap id:=fun hg=>by have:=l g hg;omega
 have j:=h.nd;simp only[Jf.wrote,List.map_append,List.map_cons,List.map_nil,List.append_assoc,List.singleton_append];rw[List.nodup_append]at j ⊢;simp only[List.mem_append,not_or]at f;refine⟨j.1,List.nodup_cons.2 ⟨f.2,j.2.1⟩,fun a ha c' hc'=> ?_⟩;rcases List.mem_cons.1 hc' with rfl|hc'
 ·intro e;subst e;exact f.1 ha
 exact j.2.2 a ha c' hc'
theorem Ei:prog.underlying 119=some (.slice 167):=by kernel_rfl
theorem Dv:(prog.info? 167).map (fun i=>(i.zero,i.size,i.bytes))=some (some (.agg #[.int .i64 0,.pointer none]),2,16):=by kernel_rfl
theorem MI(w:World)(ty:TypeId)(b:List UInt8)(A:Option Addr)(c B:Nat)(h0:0<b.length)(h1:b.length≤65536)(hr:Rd w B 1 A b.length (b.map Ks)):
  ∃c' w1,(Builtin.append_ #[43,43] ty #[.slice none 0 0,.slice A b.length c]).run prog w=.ok (.slice (some ⟨w.heap.size,0,none⟩) b.length c') w1∧w1.heap.size=w.heap.size+1∧
   w1.ownsRow w.heap.size 5 1 (.slice (some ⟨w.heap.size,0,none⟩) b.length c') b.length (b.map Ks)∧Below w.heap.size w w1:=by
 obtain⟨i,hi,k,g,f⟩:=info_parts Tu;obtain⟨bb,o,rfl,hb,hc⟩:=hr.2 h0;have a:∀j v,(b.map Ks)[j]? =some v→w.cell? ((⟨bb,o,none⟩:Addr).add j)=some v:=fun j u hu=>by
  obtain⟨hj,rfl⟩:=List.getElem?_eq_some_iff.1 hu;rw[J3];exact hc j hj
 have d:=run_append_nil (P:=prog) w 43 ty 5 i _ VI hi k ⟨bb,o,none⟩ b.length c (b.map Ks) (by simp[g]) a h0 (by omega) (by rw[f];omega);have e:=grownCap_ge w b.length 0 5;have h:grownCap w b.length 0 5≤maxLen:=grownCap_le_maxLen w b.length 0 5 (by simp[maxLen];omega);refine⟨_,_,d,by simp,⟨by simp,.inr ⟨w.heap.size,_,_,rfl,nR,heap_alloc_new w.drew _,e,h, ?_, ?_⟩⟩,(bR.drew.alloc (by simp) _)⟩
 ·simp only[Array.size_append,List.size_toArray,size_zeroCells,List.length_map];simp[Value.cells];omega
 simp only[Array.toList_append,Nat.mul_one];rw[List.take_append_of_le_length (by simp)];exact List.take_of_length_le (by simp)
theorem YY{P:Program}(w w1:World){ops:Array Oper}{rest:List Oper}{o:Oper}{a:Act}{Q:Exit→Act→World→Prop}(hgd:o.guard=none)(s x:Operand)(t:TypeId)
  (ho:o.op=.call { callee:=.builtin .append,args:=#[s,x],argTypes:=#[t,t] })(vs vx v:Value)(hs:a.eval s=vs)(hx:a.eval x=vx)(hrun:(Builtin.append_ #[t,t] o.type #[vs,vx]).run P w=.ok v w1)
  (h:wpList P ops Q rest (a.put o.dst v) w1):wpList P ops Q (o::rest) a w:=by
 refine wpList_plain hgd fun K hK=> ?_
 unfold Oper.wp execOp;simp only[ho,resolve,invoke,builtin,Sem.run_bind,Sem.run_pure,Result.andThen_ok,List.map_toArray,List.map_cons,List.map_nil,hs,hx,hrun];exact hK _ _ h
variable {w4:World}
theorem Yc.grown{w2:World}{m:Jf}(h:Yc w2 base B d m)(hb:base≤w2.heap.size){o:Obj}(hg:(w2.alloc o).grownBy w4 (Value.slice m.A m.wi.length m.c).ownBlock):
  Qh w4 B 121 (Yv d m)∧Qh w4 m.TB 165 ((List.range d.Qk.length).map fun k=>Ko (m.told k)).toArray∧Qh w4 m.LB 165 (m.li.map Ko).toArray∧m.TB≠B∧m.LB≠B∧Qd base [121,165,167] w2 w4:=by
 have ho:=Qu h.own o;have b3:=Xl ho (h.blk.alloc o) (by decide);have t3:=Xl ho (h.tb.alloc o) (by decide);have l3:=Xl ho (h.lb.alloc o) (by decide);refine⟨(h.blk.alloc o).grown hg b3,(h.tb.alloc o).grown hg t3,(h.lb.alloc o).grown hg l3,h.tb.ne h.blk (by decide),h.lb.ne h.blk (by decide), ?_⟩;refine((Qd.refl base _ w2).alloc hb o).trans (Qd.JY hg (by simp;omega) fun g hgg=>⟨?_,fun t ht=> ?_⟩)
 ·rcases ho.2 with⟨hv,_⟩|⟨gg,cp,cu,hv,hbb,_⟩
  ·rw[hv]at hgg;simp[Value.ownBlock]at hgg
  rw[hv]at hgg;simp[Value.ownBlock]at hgg;omega
 have:=Pk ho hgg;rw[this]at ht;injection ht with ht;simp[←ht]
def UW(w w':World)(base B:Nat)(r:Nat × Qq)(e:Ending):Prop:=e=.returned (.int .i64 r.1)∧VK w' base B r.2∧Qd base [121,165,167] w w'
theorem OR(h:VK w base B d)(n:Nat)(b:List UInt8)(A:Option Addr)(c:Nat)(hr:Rd w w.heap.size 1 A b.length (b.map Ks))(hb:b.length≤65536)(hw:d.waits.length<2^40):
  Calls prog 163 #[.pointer (some ⟨B,0,none⟩),.int .i64 n,.slice A b.length c] w fun e w'=>UW w w' base B (Jz d n b) e:=by
 have hD:=h;obtain⟨m,h⟩:=h;have a:=h.blk;have q:=a.lt;have e0:w.cell? ⟨B,0,none⟩=some (.int .i64 d.size):=a.cell 0;have e2:w.cell? ⟨B,2,none⟩=some (.slice (some ⟨m.TB,0,none⟩) d.Qk.length d.Qk.length):=a.cell 2;have e3:w.cell? ⟨B,3,none⟩=some (.slice m.A m.wi.length m.c):=a.cell 3;have e4:w.cell? ⟨B,4,none⟩=some (.bool d.off):=a.cell 4;have HD:=Qa hD;obtain⟨r,f⟩:=eX (Jz d n b);rw[←f];by_cases hn:d.Qk.length≤n
 ·have i:r=(1,d):=by rw[f];unfold Jz;rw[if_pos (.inl hn)]
  subst i;clear h hD a f hr;go_enter func163,ntmps163;go_wp2_with (go_at_call 92;refine(Rm HD.o hn).mono ?_;rintro e w' ⟨rfl,rfl⟩)
  all_goals (go_ret;exact⟨rfl,HD.o,Qd.refl _ _ _⟩)
 by_cases hs:b.length=d.size
 ·by_cases ho:d.off=true
  ·have i:r=(10,d):=by rw[f];unfold Jz;rw[if_neg (by simp[hs];omega),if_pos ho]
   subst i;rw[ho]at e4;clear h hD a f hr;go_enter func163,ntmps163;go_wp2_with (go_at_call 92;refine(V0 HD.o (by omega)).mono ?_;rintro e w' ⟨rfl,rfl⟩);go_ret;exact⟨rfl,HD.o,Qd.refl _ _ _⟩
  have i:r=(0,{ d with waits:=d.waits++[(n,.data b false)] }):=by rw[f];unfold Jz;rw[if_neg (by simp[hs];omega),if_neg ho]
  have W:d.off=false:=by simpa using ho
  have H:n<d.Qk.length:=by omega
  rw[W]at e4;obtain⟨c1,w1,L,s,l,t⟩:=MI w 43 b A c w.heap.size (by have:=h.sz.1;omega) hb hr;have f2:w1.cell? ⟨B,2,none⟩=some (.slice (some ⟨m.TB,0,none⟩) d.Qk.length d.Qk.length):=(t.cell q).trans e2;have f3:w1.cell? ⟨B,3,none⟩=some (.slice m.A m.wi.length m.c):=(t.cell q).trans e3;have a0:B<w1.heap.size:=by omega
  have HH:=Qa h;have Bd:=h.sz.1;have N:=Qa L;have HR:=Qa i;have HS:=Qa hs;have C:=Qa l;have J:=Qa t;have U:=Qa s;have a5:((b.length:Nat):Int)=(d.size:Int):=by omega
  clear h hD a f hr i l t L hs;go_enter func163,ntmps163
  go_upto_region 8 with(first
   |(go_at_call 92;refine(V0 HD.o (by omega)).mono ?_;rintro e w' ⟨rfl,rfl⟩)
   |(at_builtin;refine YY _ _ rfl _ _ 43 rfl _ _ _ rfl rfl N.o ?_))
  have p:Below w.heap.size w (w1.alloc (.cells #[.slice (some ⟨w.heap.size,0,none⟩) b.length c1,.bool false,.bool false] 169)):=J.o.alloc (by omega) _;have z:OF (w1.alloc (.cells #[.slice (some ⟨w.heap.size,0,none⟩) b.length c1,.bool false,.bool false] 169)) base d.size (w.heap.size+1) (.data b false):=by
   have h3:=HH.o.low.1;refine⟨HS.o,by omega,c1, ?_, ?_⟩
   ·rw[←HS.o,Nat.add_sub_cancel];exact Qh.Qz s
   rw[Nat.add_sub_cancel,←HS.o];exact Qu (Xe C.o (by omega)) _
  have E:(w1.alloc (.cells #[.slice (some ⟨w.heap.size,0,none⟩) b.length c1,.bool false,.bool false] 169)).heap.size=w.heap.size+2:=by simp[s]
  have a4:(w1.alloc (.cells #[.slice (some ⟨w.heap.size,0,none⟩) b.length c1,.bool false,.bool false] 169)).cell? ⟨B,2,none⟩=some (.slice (some ⟨m.TB,0,none⟩) d.Qk.length d.Qk.length):=(p.cell q).trans e2;have a2:(w1.alloc (.cells #[.slice (some ⟨w.heap.size,0,none⟩) b.length c1,.bool false,.bool false] 169)).cell? ⟨B,3,none⟩=some (.slice m.A m.wi.length m.c):=(p.cell q).trans e3;clear f2 f3;generalize w1.alloc (.cells #[.slice (some ⟨w.heap.size,0,none⟩) b.length c1,.bool false,.bool false] 169)=w2 at*
  clear N C J U s;have v:Qd base [] w w2:=Qd.Qe p (by have:=HH.o.low.1;omega);have h2:Yc w2 base B d m:=HH.o.keeps v (by simp) (by simp) (by simp) (by simp) (by simp);obtain⟨i0,hi,T,X,K⟩:=info_parts Dv;have Z:=Qa v;have H2:=Qa h2;have Y:=Qa z;have a7:=Qa p;have a3:=Qa E;have a1:B<w2.heap.size:=by omega
  have O:=Qa (Qu h2.own (.cells #[.int .i64 n,.pointer (some ⟨w.heap.size+1,0,none⟩)] 167))
  have R:=@Qa (Rd (w2.alloc (.cells #[.int .i64 n,.pointer (some ⟨w.heap.size+1,0,none⟩)] 167)) (w2.heap.size+1) 2 (some ⟨w2.heap.size,0,none⟩) 1 [.int .i64 n,.pointer (some ⟨w.heap.size+1,0,none⟩)]) (by
   refine⟨rfl,fun _=>⟨_,_,rfl,by omega,fun j hj=> ?_⟩⟩;rw[(Qh.new w2 167 _).cell];simp at hj ⊢)
  have a6:m.wi.length<2^40:=by have:=congrArg List.length h2.wl;simp at this;omega
  have P:base≤w2.heap.size:=by have:=HH.o.low.1;omega
  clear v h2 z p E;go_wp2_with (at_builtin;refine Qv _ rfl _ _ 119 rfl base 167 i0 (.agg #[.int .i64 0,.pointer none]) 2 16 Ei hi T X K rfl (by decide) (.slice m.A m.wi.length m.c) m.wi.length _ rfl O.o (some ⟨w2.heap.size,0,none⟩) 1 1 _ _ rfl R.o (by simp[Value.oneCell']) (by unfold maxLen;omega) (by omega) (by simp;omega) ?_;intro A4 c4 w4 hown4 hgrow4 hnc4 hat4;obtain⟨k,u,M,x,S,k4⟩:=Yc.grown H2.o P hgrow4;have x2:w4.cell? ⟨B,2,none⟩=some (.slice (some ⟨m.TB,0,none⟩) d.Qk.length d.Qk.length):=k.cell 2;have x3:w4.cell? ⟨B,3,none⟩=some (.slice m.A m.wi.length m.c):=k.cell 3;have z3:=k.free 3;have xt:w4.cell? ⟨m.TB,n,none⟩=some (Ko (m.told n)):=(by rw[u.cell n];simp[H]);have zt:=u.free n;have F:=Qa k4;have V:=Qa hown4;have I:=Qa k;have G:=Qa u;have Q:=Qa M;clear hgrow4 hown4 k u M k4 hat4);go_ret
  have y:Qd base [121,165] w4 ((w4.setCell ⟨B,3,none⟩ (.slice A4 (m.wi.length+1) c4)).setCell ⟨m.TB,n,none⟩ (.pointer (some ⟨w.heap.size+1,0,none⟩))):=
   ((Qd.refl base _ w4).set I.o HH.o.low.1 (by simp) _).set (G.o.Yq x _) HH.o.low.2.2 (by simp) _
  have kw:Qd base [121,165,167] w ((w4.setCell ⟨B,3,none⟩ (.slice A4 (m.wi.length+1) c4)).setCell ⟨m.TB,n,none⟩ (.pointer (some ⟨w.heap.size+1,0,none⟩))):=
   ((Z.o.mono nR (by simp)).trans F.o).trans (y.mono nR (by simp))
  have D:=HH.o.wrote (g:=w.heap.size+1) (b:=b) (A:=A4) (c:=c4) H (by omega) kw
   (by
    have:=(I.o.set 3 (.slice A4 (m.wi.length+1) c4)).Yq (b:=m.TB) (o:=n) (Ne.symm x) (.pointer (some ⟨w.heap.size+1,0,none⟩));have e:Yv { d with waits:=d.waits++[(n,.data b false)] } (m.wrote n (w.heap.size+1) A4 c4)=(Yv d m).setIfInBounds 3 (.slice A4 (m.wi.length+1) c4):=by
     simp[Yv,Jf.wrote]
    rw[e];exact this)
   ((Q.o.Yq S _).Yq HH.o.ne _) ((G.o.Yq x _).set n _) (QF V.o y (by simp)) ((Y.o.keeps F.o (by simp) (by simp)).keeps y (by simp) (by simp))
  refine⟨?_, ?_,kw⟩
  ·rw[HR.o];rfl
  rw[HR.o];exact⟨_,D⟩
 have i:r=(1,d):=by rw[f];unfold Jz;rw[if_pos (.inr hs)]
 subst i;clear h hD a f hr;go_enter func163,ntmps163;go_wp2_with (go_at_call 92;refine(V0 HD.o (by omega)).mono ?_;rintro e w' ⟨rfl,rfl⟩)
 all_goals (go_ret;exact⟨rfl,HD.o,Qd.refl _ _ _⟩)
theorem Lc(h:VK w base B d):
  Calls prog 24 #[.pointer (some ⟨B,0,none⟩)] w fun e w'=>e=.returned (.tuple #[])∧VK w' base B (Dc d)∧Qd base [121,165,167] w w':=by
 obtain⟨m,h⟩:=h;have e4:w.cell? ⟨B,4,none⟩=some (.bool d.off):=h.blk.cell 4;have z4:=h.blk.free 4;have a0:=h.blk.lt;have HH:=Qa h;clear h;go_enter func24,ntmps24;go_wp2
 go_end0
 have k:Qd base [121] w (w.setCell ⟨B,4,none⟩ (.bool false)):=(Qd.refl base _ w).set HH.o.blk HH.o.low.1 (by simp) _;have hb:=HH.o.blk.set 4 (.bool false);have n1:=HH.o.lb.ne HH.o.blk (by decide);have n2:=HH.o.tb.ne HH.o.blk (by decide);refine⟨rfl,⟨m,{ HH.o with blk:= ?_,lb:=HH.o.lb.Yq n1 _,tb:=HH.o.tb.Yq n2 _,own:=QF HH.o.own k (by simp),last:=fun i hi=>(HH.o.last i hi).keeps k (by simp) (by simp),wait:=fun i a b=>(HH.o.wait i a b).keeps k (by simp) (by simp) }⟩,k.mono nR (by simp)⟩;have e:Yv (Dc d) m=(Yv d m).setIfInBounds 4 (.bool false):=by simp[Yv,Dc]
 rw[e];exact hb
theorem Fp(s n:Nat)(h:19≤s):((n:Int)+((s:Int)-18)-1)/((s:Int)-18)=(((n+(s-18)-1)/(s-18):Nat):Int):=by
 have e1:((s:Int)-18)=((s-18:Nat):Int):=by omega
 rw[e1];have e2:(n:Int)+((s-18:Nat):Int)-1=((n+(s-18)-1:Nat):Int):=by omega
 rw[e2];exact(Int.natCast_ediv _ _).symm
theorem JP(s n:Nat)(hs:s<2^62)(hn:n<2^62)(w:World):
  Calls prog 56 #[.int .i64 s,.int .i64 n] w fun e w'=>e=.returned (.int .i64 (Qf s n:Nat))∧w=w':=by
 by_cases h:s<19∨4096<s∨2^30<n
 ·have e:Qf s n=0:=by unfold Qf;rw[if_pos h]
  rw[e];go_enter func56,ntmps56;go_wp2
  all_goals first
   |(go_ret;exact⟨rfl,rfl⟩)
   |(exfalso;omega)
 have e:Qf s n=max ((n+(s-18)-1)/(s-18)) 1:=by unfold Qf;rw[if_neg h]
 rw[e];go_enter func56,ntmps56;go_wp2
 all_goals
  go_ret;refine⟨US ?_,rfl⟩;have hq:=Fp s n (by omega);generalize (n+(s-18)-1)/(s-18)=q at*
  generalize ((n:Int)+((s:Int)-18)-1)/((s:Int)-18)=z at*
  omega
theorem Tq(l:List UInt8)(k:Nat)(h:k<l.length):num (l.take (k+1))=num (l.take k)*256+l[k].toNat:=by
 rw[List.take_succ_eq_append_getElem h,Uu]
theorem NM(l:List UInt8)(k:Nat)(h:k≤7):num (l.take k)<2^56:=by
 have h1:=W6 (l.take k);have h2:(l.take k).length≤7:=by rw[List.length_take];omega
 have h3:(256:Nat)^(l.take k).length≤256^7:=Nat.pow_le_pow_right (by decide) h2;have h4:(256:Nat)^7=2^56:=by decide
 omega
theorem GB(a:Nat)(c:UInt8)(h:a<2^56):bits .or .u64 ((a:Int)*256) (c.toNat:Int)=((a*256+c.toNat:Nat):Int):=by
 have hc:=c.toNat_lt;have:=bits_join .u64 64 (by decide) (fun n h0 h1=>by rw[IntKind.wrap_u64];omega) 8 ((a:Int)*256) (c.toNat:Int) (by omega) (by omega) (by omega) (by omega) (by omega) (by omega);rw[this];omega
theorem Ua(l:List UInt8)(A:Option Addr)(c B:Nat)(w:World)(hl:l.length≤8)(hb:Rd w B 1 A l.length (l.map Ks)):
  Calls prog 195 #[.slice A l.length c] w fun e w'=>e=.returned (.int .u64 (num l:Nat))∧w=w':=by
 go_enter func195,ntmps195;go_wp2
 go_loop [3,8] (fun s i=>∃k:Nat,k≤l.length∧i=.int .i64 k∧s=.int .u64 (num (l.take k):Nat)) (fun _ i=>l.length-(intOf i).toNat)
 case atStart=>exact⟨0,Nat.zero_le _,rfl,rfl⟩
 obtain⟨k,hk,rfl,rfl⟩:=hrel;by_cases hlt:k<l.length
 ·obtain⟨b,o,rfl,hB,hc⟩:=hb.2 (by omega);have h1:w.cell? ⟨b,o+k,none⟩=some (.int .u8 (l[k].toNat:Int)):=by
   have:=hc k (by simpa using hlt);simpa [Ks]using this
  clear hc;have hs:=NM l k (by omega);have hr:=Tq l k hlt;have hx:=GB (num (l.take k)) l[k] hs;have a0:=l[k].toNat_lt;generalize num (l.take k)=s at*
  go_wp2;exact⟨⟨k+1,by omega,by go_num,by rw[hr];exact congrArg (Value.int IntKind.u64) (by omega)⟩,by simp[intOf];omega⟩
 obtain rfl:k=l.length:=by omega
 rw[List.take_length]at*
 go_wp2;go_ret;exact⟨rfl,rfl⟩
theorem Wj(l:List UInt8)(k:Nat)(h:k<l.length):Vc (l.take (k+1))=(Vc (l.take k)&&(l[k]==0)):=by
 rw[List.take_succ_eq_append_getElem h];unfold Vc;rw[List.all_append];simp only[List.all_cons,List.all_nil,Bool.and_true]
theorem TG(l:List UInt8)(A:Option Addr)(c B:Nat)(w:World)(hl:l.length≤65536)(hb:Rd w B 1 A l.length (l.map Ks)):
  Calls prog 172 #[.slice A l.length c] w fun e w'=>e=.returned (.bool (Vc l))∧w=w':=by
 obtain⟨r,hr⟩:=eX (Vc l);rw[←hr];go_enter func172,ntmps172;go_wp2
 go_loop [7] (fun i=>∃k:Nat,k≤l.length∧i=.int .i64 k∧Vc (l.take k)=true) (fun i=>l.length-(intOf i).toNat)
 case atStart=>exact⟨0,Nat.zero_le _,rfl,rfl⟩
 obtain⟨k,hk,rfl,hp⟩:=hrel;by_cases hlt:k<l.length
 ·obtain⟨b,o,rfl,hB,hc⟩:=hb.2 (by omega);have h1:w.cell? ⟨b,o+k,none⟩=some (.int .u8 (l[k].toNat:Int)):=by
   have:=hc k (by simpa using hlt);simpa [Ks]using this
  clear hc;have hs:=Wj l k hlt;by_cases hz:l[k]=0
  ·have a0:w.cell? ⟨b,o+k,none⟩=some (.int .u8 0):=by rw[h1,hz];rfl
   have HS:=Qa (show Vc (l.take (k+1))=true by rw[hs,hp,hz];rfl);clear h1 hs hz hp;go_wp2;exact⟨⟨k+1,by omega,by go_num,HS.o⟩,by simp[intOf];omega⟩
  have d:l[k].toNat≠0:=fun e=>hz (UInt8.toNat_inj.1 (by simpa using e))
  have a:r=false:=by
   rw[hr];unfold Vc;rw[List.all_eq_false];exact⟨l[k],List.getElem_mem _,by simpa using hz⟩
  subst a;generalize l[k].toNat=q at h1 d;clear hz hs hp hr;go_wp2;go_ret;exact⟨rfl,rfl⟩
 obtain rfl:k=l.length:=by omega
 rw[List.take_length]at hp;rw[hp]at hr;go_wp2;go_ret;exact⟨rfl,rfl⟩
def Rg(d:Qq)(a n:Nat):Bool:=decide (a<d.Qk.length∧1≤Qf d.size n∧Qf d.size n≤d.Qk.length-a)
theorem U3(h:VK w base B d)(a n:Nat)(ha:a<2^62)(hn:n<2^62):
  Calls prog 160 #[.pointer (some ⟨B,0,none⟩),.int .i64 a,.int .i64 n] w fun e w'=>e=.returned (.bool (Rg d a n))∧Below w.heap.size w w':=by
 have b:d.size<2^62:=by obtain⟨m,h⟩:=h;have:=h.sz.2;omega
 have a0:d.Qk.length≤65536:=by obtain⟨m,h⟩:=h;exact h.n1.2
 have a1:Qf d.size n<2^62:=by
  unfold Qf;split
  ·omega
  have:(n+(d.size-18)-1)/(d.size-18)≤n+(d.size-18)-1:=Nat.div_le_self _ _;omega
 obtain⟨r,hr⟩:=eX (Rg d a n);rw[←hr];unfold Rg at hr;have HR:=Qa hr;clear hr;go_enter func160,ntmps160
 go_wp2_with (first
  |(go_at_call 55;refine(Kk h).mono ?_;rintro e w1 ⟨rfl,hb⟩)
  |(go_at_call 56;refine(JP _ _ b hn _).mono ?_;rintro e w2 ⟨rfl,rfl⟩))
 all_goals (go_ret;refine⟨UG ?_,hb⟩;rw[HR.o,Bool.eq_iff_iff];simp;omega)
theorem EJ(L:List Value)(o j k n:Nat)(hj:j<k)(ho:o+k≤L.length):
  (splice L o (((be k n).take j).map Ks)).toArray.setIfInBounds (o+j) (.int .u8 ((n:Int)/2^(8*(k-1-j))%256))=(splice L o (((be k n).take (j+1)).map Ks)).toArray:=by
 have a:j<(be k n).length:=by rw[KQ];exact hj
 have e:(be k n)[j]=UInt8.ofNat (n >>> (8*(k-1-j))):=by simp[be]
 have ev:Value.int .u8 ((n:Int)/2^(8*(k-1-j))%256)=Ks (be k n)[j]:=by
  rw[e];unfold Ks;rw[Nat.shiftRight_eq_div_pow];simp
 rw[ev,List.take_succ_eq_append_getElem a,List.map_append,List.map_singleton];unfold splice;have h1:(L.take o).length=o:=by rw[List.length_take];omega
 have h2:(((be k n).take j).map Ks).length=j:=by rw[List.length_map,List.length_take];omega
 rw[h2,List.length_append,h2,List.length_singleton];have h3:L.drop (o+j)=L[o+j]::L.drop (o+(j+1)):=by rw[List.drop_eq_getElem_cons (by omega)];rfl
 rw[h3];simp only[List.setIfInBounds_toArray];congr 1;rw[List.set_append_right _ _ (by omega),h1,show o+j-o=j by omega,List.set_append_right _ _ (by omega),h2,Nat.sub_self,List.set_cons_zero];simp
theorem MA(n k g o c:Nat)(L:List Value)(w:World)(hk:k≤8)(hb:Qh w g 5 L.toArray)(ho:o+k≤L.length):
  Calls prog 161 #[.slice (some ⟨g,o,none⟩) k c,.int .u64 n] w fun e w'=>e=.returned (.tuple #[])∧Qh w' g 5 (splice L o ((be k n).map Ks)).toArray∧w.grownBy w' (some g):=by
 have a0:=hb.lt;have HB:=Qa hb;clear hb;go_enter func161,ntmps161;go_wp2;go_loopw [7] (fun i wr=>∃j:Nat,j≤k∧i=.int .i64 j∧Qh wr g 5 (splice L o (((be k n).take j).map Ks)).toArray∧w.grownBy wr (some g)) (fun i _=>k-(intOf i).toNat)
 case atStart=>exact⟨0,Nat.zero_le _,rfl,by simpa [splice]using HB.o,UP _ _⟩
 obtain⟨j,hj,rfl,a,d⟩:=hrel;by_cases hjk:j<k
 ·have b:∃v,wr.cell? ⟨g,o+j,none⟩=some v:=by
   rw[a.cell];have:o+j<(splice L o (((be k n).take j).map Ks)).length:=by
    rw[length_splice _ _ _ (by simp[KQ];omega)];omega
   exact⟨_,by rw[List.getElem?_toArray];exact List.getElem?_eq_getElem this⟩
  obtain⟨v,b⟩:=b;have a1:=a.free (o+j);have f:=Qa a;have h:=Qa d;clear a d;go_wp2;refine⟨⟨j+1,by omega,by go_num, ?_,LX h.o _ _⟩,by simp[intOf];omega⟩;rw[←EJ L o j k n hjk ho];exact f.o.set _ _
 obtain rfl:j=k:=by omega
 rw[List.take_of_length_le (by simp[KQ])]at a;have f:=Qa a;have h:=Qa d;clear a d;go_wp2
 go_end0
 exact⟨rfl,f.o,h.o⟩
def laid{α β:Type}(f:β→α)(ws:List (Nat × β))(l:List α):List α:=ws.foldl (fun l w=>l.set w.1 (f w.2)) l
theorem Y7{α β:Type}(f:β→α):∀(ws:List (Nat × β)) (l:List α),(laid f ws l).length=l.length
 |[],_=>rfl
 |w::ws,l=>by unfold laid;rw[List.foldl_cons];have:=Y7 f ws (l.set w.1 (f w.2));unfold laid at this;rw[this,List.length_set]
theorem Tx{α β:Type}(f:β→α)(ws:List (Nat × β))(x:Nat × β)(l:List α):laid f (ws++[x]) l=(laid f ws l).set x.1 (f x.2):=by simp[laid]
theorem WT{α β:Type}(f:β→α)(z:α)(l:List α)(k:Nat)(hk:k<l.length):∀(n:Nat) (ws:List (Nat × β)),ws.length=n→
  (laid f ws l).getD k z=(match ws.reverse.find? (fun x=>x.1==k)with|some x=>f x.2|none=>l.getD k z)
 |0,ws,h=>by obtain rfl:=List.eq_nil_of_length_eq_zero h;rfl
 |n+1,ws,h=>by
  obtain⟨ws',x,rfl⟩:∃ws' x,ws=ws'++[x]:=⟨ws.dropLast,ws.getLast (fun e=>by simp[e]at h),(List.dropLast_concat_getLast _).symm⟩;have ih:=WT f z l k hk n ws' (by simpa using h);rw[Tx,List.reverse_append,List.reverse_singleton,List.singleton_append,List.find?_cons];by_cases hx:x.1=k
  ·have:(x.1==k)=true:=by simpa using hx
   rw[this,hx];have a:k<(laid f ws' l).length:=by rw[Y7];exact hk
   simp[List.getD,a]
  have:(x.1==k)=false:=by simpa using hx
  rw[this];have e:((laid f ws' l).set x.1 (f x.2)).getD k z=(laid f ws' l).getD k z:=by
   simp only[List.getD];rw[List.getElem?_set_ne hx]
  rw[e,ih]
theorem Z2(g:Nat):∀(l:List (Option Nat)) (n a:Nat),a∈(l.set n (some g)).filterMap id→a=g∨a∈l.filterMap id
 |[],_,_,h=>by simp at h
 |x::l,0,a,h=>by
  rw[List.set_cons_zero,List.filterMap_cons]at h;simp only[id,List.mem_cons]at h;rcases h with h|h
  ·exact .inl h
  refine .inr ?_;rw[List.mem_filterMap]at h ⊢;obtain⟨o,h1,h2⟩:=h;exact⟨o,List.mem_cons_of_mem _ h1,h2⟩
 |x::l,n+1,a,h=>by
  rw[List.set_cons_succ]at h;rw[List.mem_filterMap]at h;obtain⟨o,h1,h2⟩:=h;rcases List.mem_cons.1 h1 with rfl|h1
  ·exact .inr (List.mem_filterMap.2 ⟨_,List.mem_cons_self,h2⟩)
  rcases Z2 g l n a (List.mem_filterMap.2 ⟨o,h1,h2⟩)with h|h
  ·exact .inl h
  refine .inr ?_;rw[List.mem_filterMap]at h ⊢;obtain⟨o,h1,h2⟩:=h;exact⟨o,List.mem_cons_of_mem _ h1,h2⟩
theorem U7(g:Nat):∀(l:List (Option Nat)) (n:Nat),(l.filterMap id).Nodup→g∉l.filterMap id→((l.set n (some g)).filterMap id).Nodup
 |[],_,_,_=>by simp
 |x::l,0,h,hg=>by
  rw[List.set_cons_zero,List.filterMap_cons];simp only[id];cases x with
  |none=>exact List.nodup_cons.2 ⟨by simpa using hg,by simpa using h⟩
  |some y=>
   rw[List.filterMap_cons]at h hg;simp only[id,List.nodup_cons,List.mem_cons,not_or]at h hg;exact List.nodup_cons.2 ⟨hg.2,h.2⟩
 |x::l,n+1,h,hg=>by
  rw[List.set_cons_succ];cases x with
  |none=>
   have:=U7 g l n (by simpa using h) (by simpa using hg);simpa using this
  |some y=>
   rw[List.filterMap_cons]at h hg ⊢;simp only[id,List.nodup_cons,List.mem_cons,not_or]at h hg ⊢;refine⟨fun hy=> ?_,U7 g l n h.2 hg.2⟩;rcases Z2 g l n y hy with e|e
   ·exact hg.1 e.symm
   exact h.1 e
theorem WA:∀(ws:List (Nat × Nat)) (l:List (Option Nat)),(ws.map (·.2)++l.filterMap id).Nodup→((laid some ws l).filterMap id).Nodup
 |[],_,h=>by simpa [laid]using h
 |w::ws,l,h=>by
  show((laid some ws (l.set w.1 (some w.2))).filterMap id).Nodup;refine WA ws _ ?_;rw[List.map_cons,List.cons_append,List.nodup_cons,List.mem_append,not_or,List.nodup_append]at h;obtain⟨⟨h1,h2⟩,h3,h4,h5⟩:=h;rw[List.nodup_append];refine⟨h3,U7 w.2 l w.1 h4 h2,fun a ha b hb=> ?_⟩;rcases Z2 w.2 l w.1 b hb with rfl|hb
  ·intro e;subst e;exact h1 ha
  exact h5 a ha b hb
def Xd(d:Qq):Qq:={ d with Qk:=d.waits.foldl (fun l w=>l.set w.1 w.2) d.Qk,waits:=[] }
theorem YV(d:Qq):(Xd d).Qk=laid id d.waits d.Qk:=rfl
def Jf.KH(m:Jf):Jf:={ m with li:=laid some m.wi m.li,wi:=[],A:=none,c:=0 }
theorem Jf.Ye(m:Jf)(k:Nat)(hk:k<m.li.length):(m.KH).told k=m.told k:=by
 unfold Jf.told Jf.KH Jf.last;simp only[List.reverse_nil,List.find?_nil];rw[WT some none m.li k hk _ m.wi rfl];split<;>(rename_i hh;rw[hh];first|rfl|skip)
theorem Ye(d:Qq)(k:Nat)(hk:k<d.Qk.length):(Xd d).Qk.getD k .zero=d.told k:=by
 rw[YV,WT id .zero d.Qk k hk _ d.waits rfl];unfold Qq.told;split<;>(rename_i hh;rw[hh];first|rfl|skip)
theorem Yc.KH{m:Jf}(h:Yc w base B d m)(hk:Qd base [121,165] w w')(hblk:Qh w' B 121 (Yv (Xd d) m.KH))(hlb:Qh w' m.LB 165 ((laid some m.wi m.li).map Ko).toArray)
  (htb:Qh w' m.TB 165 ((List.range d.Qk.length).map fun k=>Ko (m.told k)).toArray):Yc w' base B (Xd d) m.KH:=by
 have hl:(Xd d).Qk.length=d.Qk.length:=by rw[YV,Y7]
 have a:(laid some m.wi m.li).length=d.Qk.length:=by rw[Y7,h.ll]
 refine⟨h.low,h.ne,h.sz,by rw[hl];exact h.n1,hblk,hlb, ?_,⟨by simp[Jf.KH],.inl ⟨rfl,rfl⟩⟩,by rw[hl];exact a,rfl,by simp[Jf.KH],fun k hk'=> ?_,fun k h1 _=>by simp[Jf.KH]at h1, ?_⟩
 ·rw[hl];have:((List.range d.Qk.length).map fun k=>Ko (m.KH.told k))=((List.range d.Qk.length).map fun k=>Ko (m.told k)):=by
   refine List.map_congr_left fun k hk'=> ?_
   rw[List.mem_range]at hk';rw[m.Ye k (by rw[h.ll];exact hk')]
  rw[this];exact htb
 ·rw[hl]at hk';have e1:m.KH.last k=m.told k:=by
   have:=m.Ye k (by rw[h.ll];exact hk');rw[←this];rfl
  rw[e1,Ye d k hk'];exact(h.SQ k hk').keeps hk (by simp) (by simp)
 simp only[Jf.KH,List.map_nil,List.nil_append];exact WA _ _ h.nd
structure Bc (w wr:World) (base B:Nat) (d:Qq) (m:Jf) (j:Nat):Prop where
 keep:Qd base [165] w wr
 blk:Qh wr B 121 (Yv d m)
 lb:Qh wr m.LB 165 ((laid some (m.wi.take j) m.li).map Ko).toArray
 tb:Qh wr m.TB 165 ((List.range d.Qk.length).map fun k=>Ko (m.told k)).toArray
 own:wr.ownsRow base 167 2 (.slice m.A m.wi.length m.c) m.wi.length (m.wi.flatMap fun x=>[.int .i64 x.1,Ko (some x.2)])
variable {j:Nat} {wr:World}
theorem Bc.step{m:Jf}(h0:Yc w base B d m)(h:Bc w wr base B d m j)(hb:base≤wr.heap.size)(hj:j<m.wi.length)(o:Obj):
  Bc w ((wr.setCell ⟨m.LB,m.wi[j].1,none⟩ (.pointer (some ⟨m.wi[j].2,0,none⟩))).alloc o).drew base B d m (j+1):=by
 have n1:=h.blk.ne h.lb (by decide);have k:Qd base [165] wr (wr.setCell ⟨m.LB,m.wi[j].1,none⟩ (.pointer (some ⟨m.wi[j].2,0,none⟩))):=(Qd.refl base _ wr).set h.lb h0.low.2.1 (by simp) _;refine⟨?_,((h.blk.Yq n1 _).alloc o).drew, ?_,((h.tb.Yq (Ne.symm h0.ne) _).alloc o).drew, ?_⟩
 ·exact(((h.keep.trans k).alloc (by simpa [World.setCell]using hb) o).trans ⟨⟨rfl,rfl,rfl,nR,fun _ _=>rfl⟩,fun _ _ _ _=>rfl⟩)
 ·have e:((laid some (m.wi.take (j+1)) m.li).map Ko).toArray=((laid some (m.wi.take j) m.li).map Ko).toArray.setIfInBounds m.wi[j].1 (.pointer (some ⟨m.wi[j].2,0,none⟩)):=by
   rw[List.take_succ_eq_append_getElem hj,Tx,List.map_set];simp[Ko]
  rw[e];exact((h.lb.set _ _).alloc o).drew
 exact Qu (QF h.own k (by simp)) o
theorem Vf{α:Type}(f g:α→Value):∀(l:List α)(j:Nat)(h:j<l.length),(l.flatMap fun x=>[f x,g x])[j*2]? =some (f l[j])∧(l.flatMap fun x=>[f x,g x])[j*2+1]? =some (g l[j])
 |[],_,h=>by simp at h
 |x::l,0,_=>⟨rfl,rfl⟩
 |x::l,j+1,h=>by
  have:=Vf f g l j (by simpa using h);rw[List.flatMap_cons];have e1:(j+1)*2=j*2+2:=by omega
  rw[e1];exact this
theorem YJ(h:VK w base B d):
  Calls prog 130 #[.pointer (some ⟨B,0,none⟩)] w fun e w'=>UW w w' base B (Q4 d) e:=by
 have hD:=h;obtain⟨m,h⟩:=h;have a4:=h.blk.lt;have e3:w.cell? ⟨B,3,none⟩=some (.slice m.A m.wi.length m.c):=h.blk.cell 3;have e4:w.cell? ⟨B,4,none⟩=some (.bool d.off):=h.blk.cell 4;have HD:=Qa hD;have HH:=Qa h;obtain⟨r,a⟩:=eX (Q4 d);rw[←a];by_cases ho:d.off=true
 ·have f:r=(10,d):=by rw[a];unfold Q4;rw[if_pos ho]
  subst f;rw[ho]at e4;clear h hD a;go_enter func130,ntmps130;go_wp2;go_ret;exact⟨rfl,HD.o,Qd.refl _ _ _⟩
 have f:r=(0,Xd d):=by rw[a];unfold Q4;rw[if_neg ho];rfl
 have HR:=Qa f;have p:d.off=false:=by simpa using ho
 rw[p]at e4;clear h hD a f;go_enter func130,ntmps130;go_wp2_with fail;go_loopw [16] (fun i wr=>∃j:Nat,j≤m.wi.length∧i=.int .i64 j∧Bc w wr base B d m j) (fun i _=>m.wi.length-(intOf i).toNat)
 case atStart=>exact⟨0,Nat.zero_le _,rfl,Qd.refl _ _ _,HH.o.blk,HH.o.lb,HH.o.tb,HH.o.own⟩
 obtain⟨j,hj,rfl,hf⟩:=hrel;have HF:=Qa hf;by_cases hjk:j<m.wi.length
 ·obtain⟨wg,hA⟩:∃wg,m.A=some ⟨wg,0,none⟩:=by
   obtain⟨g,hg⟩:=Uf hf.own (by omega);exact⟨g,hg.1⟩
  have hc:=Vf (fun x:Nat × Nat=>Value.int .i64 x.1) (fun x=>Ko (some x.2)) m.wi j hjk;have y0:wr.cell? ⟨wg,j*2,none⟩=some (.int .i64 (m.wi[j].1:Nat)):=by
   have:=(hA▸hf.own).cells (g:=wg) rfl (j*2) _ hc.1;simpa [J3]using this
  have y1:wr.cell? ⟨wg,j*2+1,none⟩=some (.pointer (some ⟨m.wi[j].2,0,none⟩)):=by
   have:=(hA▸hf.own).cells (g:=wg) rfl (j*2+1) _ hc.2;simpa [J3,Ko]using this
  have x1:wr.cell? ⟨B,1,none⟩=some (.slice (some ⟨m.LB,0,none⟩) d.Qk.length d.Qk.length):=hf.blk.cell 1;have n:m.wi[j].1<d.Qk.length:=HH.o.Bn _ (List.getElem_mem _);obtain⟨vl,hvl⟩:∃v,wr.cell? ⟨m.LB,m.wi[j].1,none⟩=some v:=by
   rw[hf.lb.cell,List.getElem?_toArray];exact⟨_,List.getElem?_eq_getElem (by rw[List.length_map,Y7,HH.o.ll];exact n)⟩
  have zl:=hf.lb.free m.wi[j].1;have a0:=hf.blk.lt;have a3:=hf.lb.lt;have a1:m.wi.length≤9223372036854775807:=by
   rcases hf.own.2 with⟨_,h0⟩|⟨_,cap,_,hv,_,_,h1,h2,_⟩
   ·omega
   simp only[maxLen]at h2;omega
  have HA:=Qa hA;rw[hA];clear hf hc hA;generalize hx:m.wi[j]=xj at y0 y1 n hvl zl;have HX:=Qa hx;clear hx;go_wp2_with fail
  go_region
  all_goals (try go_wp2_with fail)
  refine⟨⟨j+1,by omega,by go_num, ?_⟩,by simp[intOf];omega⟩;rw[←HX.o];exact HF.o.step HH.o (by have:=HF.o.keep.below.size;have:=HH.o.low.1;omega) hjk _
 obtain rfl:j=m.wi.length:=by omega
 have x3:wr.cell? ⟨B,3,none⟩=some (.slice m.A m.wi.length m.c):=hf.blk.cell 3;have z3:=hf.blk.free 3;have a2:=hf.blk.lt;clear hf;go_wp2_with fail;go_ret;have hb:=HF.o.blk.set 3 (.slice none 0 0);have k:Qd base [121] wr (wr.setCell ⟨B,3,none⟩ (.slice none 0 0)):=(Qd.refl base _ wr).set HF.o.blk HH.o.low.1 (by simp) _;have kw:Qd base [121,165] w (wr.setCell ⟨B,3,none⟩ (.slice none 0 0)):=(HF.o.keep.mono nR (by simp)).trans (k.mono nR (by simp));have n1:=HF.o.lb.ne HF.o.blk (by decide);have n2:=HF.o.tb.ne HF.o.blk (by decide);have hl:(Xd d).Qk.length=d.Qk.length:=by rw[YV,Y7]
 have l:=HH.o.KH kw (by
   have e:Yv (Xd d) m.KH=(Yv d m).setIfInBounds 3 (.slice none 0 0):=by
    unfold Yv;rw[hl];simp[Xd,Jf.KH]
   rw[e];exact hb) (by
   have:=HF.o.lb.Yq (b:=B) (o:=3) n1 (.slice none 0 0);rw[List.take_length]at this;exact this) (HF.o.tb.Yq n2 _)
 rw[HR.o];exact⟨rfl,⟨_,l⟩,kw.mono nR (by simp)⟩
def Kb(w:World)(A:Option Addr)(l:List UInt8):Prop:=Rd w w.heap.size 1 A l.length (l.map Ks)∧(0<l.length→∀a,A=some a→VG w a.block=some 5)
theorem Kb.keeps{ts:List TypeId}{l:List UInt8}(h:Kb w A l)(k:Qd base ts w w')(ht:5∉ts):Kb w' A l:=by
 refine⟨⟨h.1.1,fun hn=> ?_⟩,fun hn a ha=> ?_⟩
 ·obtain⟨b,o,rfl,hb,hc⟩:=h.1.2 hn;have e:=k.old b 5 (h.2 hn _ rfl) ht;exact⟨b,o,rfl,Nat.lt_of_lt_of_le hb k.below.size,fun j hj=>by rw[←hc j hj];simp only[World.cell?, e]⟩
 have:=h.2 hn a ha;have e:=k.old a.block 5 this ht;unfold VG at this ⊢;rw[e];exact this
theorem Kb.below{l:List UInt8}(h:Kb w A l)(k:Below w.heap.size w w'):Kb w' A l:=h.keeps (ts:=[]) (Qd.Qe (base:=0) k (Nat.zero_le _)) (by simp)
theorem MX{α β:Type}(f:α→β)(L:List α)(o:Nat)(cs:List α):splice (L.map f) o (cs.map f)=(splice L o cs).map f:=by simp[splice]
theorem YH(n k g o c:Nat)(L:List UInt8)(w:World)(hk:k≤8)(hb:Qh w g 5 (L.map Ks).toArray)(ho:o+k≤L.length):
  Calls prog 161 #[.slice (some ⟨g,o,none⟩) k c,.int .u64 n] w fun e w'=>e=.returned (.tuple #[])∧Qh w' g 5 ((splice L o (be k n)).map Ks).toArray∧w.grownBy w' (some g):=
 (MA n k g o c (L.map Ks) w hk hb (by simpa using ho)).mono fun e w' ⟨h1,h2,h3⟩=>⟨h1,by rw[←MX];exact h2,h3⟩
theorem Uo(a b:Nat):List.replicate (a+b) (0:UInt8)=List.replicate a 0++List.replicate b 0:=List.replicate_append_replicate.symm
theorem Zn{α:Type}(a old r cs:List α)(h:old.length=cs.length)(hn:n=a.length):splice (a++(old++r)) n cs=a++(cs++r):=by
 subst hn;unfold splice;rw[List.take_left,←h,List.drop_append,List.drop_of_length_le (by omega)];simp
def X1(size kind:Nat):List UInt8:=(List.replicate size 0).set 0 (UInt8.ofNat kind)
def X2(size kind mark:Nat):List UInt8:=splice (X1 size kind) 1 (be 8 mark)
def X3(size kind mark n:Nat):List UInt8:=splice (X2 size kind mark) 9 (be 4 n)
def X4(size kind mark n:Nat)(first:Bool):List UInt8:=if first then(X3 size kind mark n).set 13 1 else X3 size kind mark n
def X5(size kind mark:Nat)(b:List UInt8)(first:Bool):List UInt8:=splice (X4 size kind mark b.length first) 14 (b.take (size-18))
theorem CS(h:19≤size)(kind:Nat):X1 size kind=[UInt8.ofNat kind]++(List.replicate 8 0++(List.replicate 4 0++([0]++List.replicate (size-14) 0))):=by
 unfold X1;obtain⟨m,rfl⟩:∃m,size=m+14:=⟨size-14,by omega⟩;rw[show m+14=(8+(4+(1+m)))+1 by omega,List.replicate_succ,List.set_cons_zero,Uo,Uo,Uo];rw[show 8+(4+(1+m))+1-14=m by omega];rfl
theorem D5(h:19≤size)(kind mark:Nat):X2 size kind mark=[UInt8.ofNat kind]++(be 8 mark++(List.replicate 4 0++([0]++List.replicate (size-14) 0))):=by
 unfold X2;rw[CS h];exact Zn _ _ _ _ (by simp[KQ]) (by simp)
theorem E5(h:19≤size)(kind mark n:Nat):X3 size kind mark n=[UInt8.ofNat kind]++(be 8 mark++(be 4 n++([0]++List.replicate (size-14) 0))):=by
 unfold X3;rw[D5 h,←List.append_assoc];rw[Zn ([UInt8.ofNat kind]++be 8 mark) (List.replicate 4 0) _ (be 4 n) (by simp[KQ]) (by simp[KQ]),List.append_assoc]
theorem D1(h:19≤size)(kind mark n:Nat)(first:Bool):X4 size kind mark n first=[UInt8.ofNat kind]++(be 8 mark++(be 4 n++([if first then 1 else 0]++List.replicate (size-14) 0))):=by
 unfold X4;cases first with
 |false=>simp only[Bool.false_eq_true,if_false];exact E5 h _ _ _
 |true=>
  simp only[if_true];rw[E5 h,List.set_append_right _ _ (by simp),List.set_append_right _ _ (by simp[KQ]),List.set_append_right _ _ (by simp[KQ])];simp[KQ]
theorem EH(h:19≤size)(kind mark:Nat)(b:List UInt8)(first:Bool):X5 size kind mark b first=VO size kind mark b first++List.replicate 4 0:=by
 unfold X5;rw[D1 h];have e:List.replicate (size-14) (0:UInt8)=List.replicate (min (size-18) b.length) 0++(List.replicate (size-18-b.length) 0++List.replicate 4 0):=by
  rw[←Uo,←Uo];congr 1;omega
 rw[e];have:=Zn ([UInt8.ofNat kind]++(be 8 mark++(be 4 b.length++[if first then 1 else 0]))) (List.replicate (min (size-18) b.length) (0:UInt8)) (List.replicate (size-18-b.length) 0++List.replicate 4 0) (b.take (size-18)) (by simp) (n:=14) (by simp[KQ]);simp only[List.append_assoc]at this ⊢;rw[this];unfold VO;simp
theorem DD(h:19≤size)(kind mark:Nat)(b:List UInt8)(first:Bool):(X5 size kind mark b first).take (size-4)=VO size kind mark b first:=by
 rw[EH h,←Zg (kind:=kind) (mark:=mark) (b:=b) (first:=first) (by omega:18≤size),List.take_left]
theorem C8(h:19≤size)(kind mark:Nat)(b:List UInt8)(first:Bool):splice (X5 size kind mark b first) (size-4) (be 4 (VP ((X5 size kind mark b first).take (size-4))))=JZ size kind mark b first:=by
 rw[DD h,EH h];have:=Zn (VO size kind mark b first) (List.replicate 4 (0:UInt8)) [] (be 4 (VP (VO size kind mark b first))) (by simp[KQ]) (n:=size-4) (by rw[Zg (by omega)]);simp only[List.append_nil]at this;rw[this];rfl
theorem Cj(size kind:Nat):(X1 size kind).length=size:=by simp[X1]
theorem Ct(h:19≤size)(kind mark:Nat):(X2 size kind mark).length=size:=by rw[D5 h];simp[KQ];omega
theorem Ce(h:19≤size)(kind mark n:Nat):(X3 size kind mark n).length=size:=by rw[E5 h];simp[KQ];omega
theorem CA(h:19≤size)(kind mark n:Nat)(first:Bool):(X4 size kind mark n first).length=size:=by rw[D1 h];simp[KQ];omega
theorem Cz(h:19≤size)(kind mark:Nat)(b:List UInt8)(first:Bool):(X5 size kind mark b first).length=size:=by rw[EH h,List.length_append,Zg (by omega)];simp;omega
theorem TL:∀(ws:List (Nat × XR)) (i:Nat) (l:List XR),Gf [] (-1) i ws l=l
 |[],_,_=>rfl
 |w::r,i,l=>by
  unfold Gf;rw[if_neg (by omega),if_neg (by simp),TL r]
def RA(d:Qq):Qq:={ d with waits:=[],off:=true }
theorem DL(h:d.off=false):Iy d [] (-1)=RA d:=by
 unfold Iy RA;rw[TL,h];rfl
def Jf.lost(m:Jf):Jf:={ m with wi:=[],A:=none,c:=0 }
theorem Jf.G0(m:Jf)(k:Nat):m.lost.told k=m.last k:=rfl
theorem Jf.GL(m:Jf)(k:Nat)(h:k∉m.wi.map (·.1)):m.told k=m.last k:=by
 unfold Jf.told;have:m.wi.reverse.find? (fun x=>x.1==k)=none:=by
  rw[List.find?_eq_none];intro x hx hk;rw[List.mem_reverse]at hx;exact h (List.mem_map.2 ⟨x,hx,by simpa using hk⟩)
 rw[this]
def Jf.back(m:Jf)(j k:Nat):Option Nat:=if k∈(m.wi.take j).map (·.1)then m.last k else m.told k
def YQ(m:Jf)(n j:Nat):Array Value:=((List.range n).map fun k=>Ko (m.back j k)).toArray
theorem Mp(m:Jf)(n:Nat):YQ m n 0=((List.range n).map fun k=>Ko (m.told k)).toArray:=by
 unfold YQ Jf.back;simp
theorem M5(m:Jf)(n:Nat):YQ m n m.wi.length=((List.range n).map fun k=>Ko (m.lost.told k)).toArray:=by
 unfold YQ;congr 1;refine List.map_congr_left fun k _=> ?_
 unfold Jf.back;rw[List.take_length,Jf.G0];split
 ·rfl
 rename_i h;rw[m.GL k h]
theorem N2(m:Jf)(n j:Nat)(hj:j<m.wi.length):(YQ m n j).setIfInBounds m.wi[j].1 (Ko (m.last m.wi[j].1))=YQ m n (j+1):=by
 unfold YQ;apply Array.ext
 ·simp
 intro i h1 h2;have e:(m.wi.take (j+1)).map (·.1)=(m.wi.take j).map (·.1)++[m.wi[j].1]:=by rw[List.take_succ_eq_append_getElem hj,List.map_append];rfl
 have e2:∀k,k≠m.wi[j].1→m.back (j+1) k=m.back j k:=fun k hk=>by
  unfold Jf.back;rw[e];simp only[List.mem_append,List.mem_singleton,hk,or_false]
 have e3:m.back (j+1) m.wi[j].1=m.last m.wi[j].1:=by
  unfold Jf.back;rw[if_pos (by rw[e];simp)]
 by_cases hi:m.wi[j].1=i
 ·subst hi;simp[e3]
 simp[hi,e2 i (Ne.symm hi)]
theorem Yc.lost{m:Jf}(h:Yc w base B d m)(hk:Qd base [121,165] w w')(hblk:Qh w' B 121 (Yv (RA d) m.lost))(hlb:Qh w' m.LB 165 (m.li.map Ko).toArray)
  (htb:Qh w' m.TB 165 (YQ m d.Qk.length m.wi.length)):Yc w' base B (RA d) m.lost:=by
 refine⟨h.low,h.ne,h.sz,h.n1,hblk,hlb, ?_,⟨by simp[Jf.lost],.inl ⟨rfl,rfl⟩⟩,h.ll,rfl,by simp[Jf.lost],fun k hk'=> ?_,fun k h1 _=>by simp[Jf.lost]at h1, ?_⟩
 ·rw[M5]at htb;exact htb
 ·exact(h.last k hk').keeps hk (by simp) (by simp)
 simp only[Jf.lost,List.map_nil,List.nil_append];have:=h.nd;rw[List.nodup_append]at this;exact this.2.1
def Sl(w:World)(e sz:Nat)(A:Option Addr)(n:Nat)(xs:List Value):Prop:=Rd w w.heap.size sz A n xs∧(0<n→∀a,A=some a→VG w a.block=some e)
variable {sz:Nat}
theorem Sl.keeps{ts:List TypeId}(h:Sl w e sz A n xs)(k:Qd base ts w w')(ht:e∉ts):Sl w' e sz A n xs:=by
 refine⟨⟨h.1.1,fun hn=> ?_⟩,fun hn a ha=> ?_⟩
 ·obtain⟨b,o,rfl,hb,hc⟩:=h.1.2 hn;have e:=k.old b _ (h.2 hn _ rfl) ht;exact⟨b,o,rfl,Nat.lt_of_lt_of_le hb k.below.size,fun j hj=>by rw[←hc j hj];simp only[World.cell?, e]⟩
 have:=h.2 hn a ha;have e:=k.old a.block _ this ht;unfold VG at this ⊢;rw[e];exact this
theorem Sl.below(h:Sl w e sz A n xs)(k:Below w.heap.size w w'):Sl w' e sz A n xs:=h.keeps (ts:=[]) (Qd.Qe (base:=0) k (Nat.zero_le _)) (by simp)
theorem Sl.nil:Sl w e sz A 0 []:=⟨⟨by simp,fun h=>absurd h (by omega)⟩,fun h=>absurd h (by omega)⟩
theorem Sl.Jl(h:w.ownsRow base e size (.slice A n c) n xs):Sl w e size A n xs:=
 ⟨Zy h,fun _ a ha=>by subst ha;exact Pk h (g:=a.block) (by
  rcases h.2 with⟨hv,_⟩|⟨g,cap,cur,hv,_⟩
  ·cases hv
  injection hv with hA;injection hA with hA;subst hA;rfl)⟩
theorem Sl.Ja(h:Qh w g e xs.toArray)(hn:xs.length=n*sz):Sl w e sz (some ⟨g,0,none⟩) n xs:=by
 refine⟨⟨hn,fun _=>⟨g,0,rfl,h.lt,fun j hj=> ?_⟩⟩,fun _ a ha=>by injection ha with ha;subst ha;exact h.ty⟩;rw[h.cell];simp[hj]
theorem Kb.sl{l:List UInt8}(h:Kb w A l):Sl w 5 1 A l.length (l.map Ks):=h
theorem Kb.Ja{l:List UInt8}(h:Qh w g 5 (l.map Ks).toArray):Kb w (some ⟨g,0,none⟩) l:=Sl.Ja h (by simp)
theorem Kb.Jl{l:List UInt8}(h:w.ownsRow base 5 1 (.slice A l.length c) l.length (l.map Ks)):Kb w A l:=Sl.Jl h
theorem Kb.nil:Kb w A []:=Sl.nil
variable {i k o:Nat}
theorem Kb.sub{b:Nat}{l:List UInt8}(h:Kb w (some ⟨b,o,none⟩) l)(hk:i+k≤l.length):Kb w (some ⟨b,o+i,none⟩) ((l.drop i).take k):=by
 have hl:((l.drop i).take k).length=k:=by rw[List.length_take,List.length_drop];omega
 refine⟨⟨by simp,fun hn=> ?_⟩,fun hn a ha=> ?_⟩
 ·rw[hl]at hn;obtain⟨b',o',hA,hb,hc⟩:=h.1.2 (by omega);injection hA with hA;injection hA with h1 h2 h3;subst h1;subst h2;refine⟨b,o+i,rfl,hb,fun j hj=> ?_⟩;rw[List.length_map,hl]at hj;have:=hc (i+j) (by rw[List.length_map];omega);rw[Nat.add_assoc,this];simp
 rw[hl]at hn;injection ha with ha;subst ha;exact h.2 (by omega) ⟨b,o,none⟩ rfl
theorem Kb.at{l:List UInt8}(h:Kb w A l)(hn:0<l.length):∃b o,A=some ⟨b,o,none⟩∧b<w.heap.size∧VG w b=some 5∧∀j (hj:j<l.length),w.cell? ⟨b,o+j,none⟩=some (.int .u8 l[j].toNat):=by
 obtain⟨b,o,rfl,hb,hc⟩:=h.1.2 hn;refine⟨b,o,rfl,hb,h.2 hn _ rfl,fun j hj=> ?_⟩;have:=hc j (by simpa using hj);simpa [Ks]using this
theorem Kb.rd{l:List UInt8}(h:Kb w A l):Rd w w.heap.size 1 A l.length (l.map Ks):=h.1
def Wp(base:Nat)(w:World)(A:Option Addr)(l:List UInt8):Prop:=Rd w w.heap.size 1 A l.length (l.map Ks)∧(0<l.length→∀a,A=some a→VG w a.block=some 5∨a.block<base)
theorem Wp.stay{l:List UInt8}(h:Wp base w A l)(hz:w.heap.size≤w'.heap.size)(hs:∀a,A=some a→0<l.length→w'.heap[a.block]? =w.heap[a.block]?):Wp base w' A l:=by
 refine⟨⟨h.1.1,fun hn=> ?_⟩,fun hn a ha=> ?_⟩
 ·obtain⟨b,o,rfl,hb,hc⟩:=h.1.2 hn;have e:=hs _ rfl hn;exact⟨b,o,rfl,Nat.lt_of_lt_of_le hb hz,fun j hj=>by rw[←hc j hj];simp only[World.cell?, e]⟩
 have e:=hs a ha hn;refine(h.2 hn a ha).imp (fun h=> ?_) id;unfold VG at h ⊢;rw[e];exact h
theorem Wp.keeps{ts:List TypeId}{l:List UInt8}(h:Wp base w A l)(k:Qd base ts w w')(ht:5∉ts):Wp base w' A l:=
 h.stay k.below.size fun a ha hn=>by
  rcases h.2 hn a ha with e|e
  ·exact k.old a.block 5 e ht
  exact k.below.block a.block e
theorem Wp.below{l:List UInt8}(h:Wp base w A l)(k:Below w.heap.size w w'):Wp base w' A l:=
 h.stay k.size fun a ha hn=>by
  obtain⟨b,o,rfl,hb,_⟩:=h.1.2 hn;injection ha with ha;subst ha;exact k.block b hb
theorem Kb.D3{l:List UInt8}(h:Kb w A l):Wp base w A l:=⟨h.1,fun hn a ha=>.inl (h.2 hn a ha)⟩
theorem Wp.sub{b:Nat}{l:List UInt8}(h:Wp base w (some ⟨b,o,none⟩) l)(hk:i+k≤l.length):Wp base w (some ⟨b,o+i,none⟩) ((l.drop i).take k):=by
 have hl:((l.drop i).take k).length=k:=by rw[List.length_take,List.length_drop];omega
 refine⟨⟨by simp,fun hn=> ?_⟩,fun hn a ha=> ?_⟩
 ·rw[hl]at hn;obtain⟨b',o',hA,hb,hc⟩:=h.1.2 (by omega);injection hA with hA;injection hA with h1 h2 h3;subst h1;subst h2;refine⟨b,o+i,rfl,hb,fun j hj=> ?_⟩;rw[List.length_map,hl]at hj;have:=hc (i+j) (by rw[List.length_map];omega);rw[Nat.add_assoc,this];simp
 rw[hl]at hn;injection ha with ha;subst ha;exact h.2 (by omega) ⟨b,o,none⟩ rfl
theorem Wp.at{l:List UInt8}(h:Wp base w A l)(hn:0<l.length):∃b o,A=some ⟨b,o,none⟩∧b<w.heap.size∧∀j (hj:j<l.length),w.cell? ⟨b,o+j,none⟩=some (.int .u8 l[j].toNat):=by
 obtain⟨b,o,rfl,hb,hc⟩:=h.1.2 hn;refine⟨b,o,rfl,hb,fun j hj=> ?_⟩;have:=hc j (by simpa using hj);simpa [Ks]using this
theorem LM(w:World)(g:Nat)(cs:Array Value):w.grownBy (w.setRow g cs) (some g):=⟨rfl,rfl,rfl,by simp,fun k _ hk=>setRow_other w g k _ (fun e=>hk (by rw[e]))⟩
theorem LP(w:World)(g o k c:Nat)(X b:List UInt8)(A:Option Addr)(c2:Nat)(hg:Qh w g 5 (X.map Ks).toArray)(hb:Wp base w A b)(ho:o+k≤X.length):
  ∃w1,(Builtin.copy_ #[43,43] 3 #[.slice (some ⟨g,o,none⟩) k c,.slice A b.length c2]).run prog w=.ok (.int .i64 (min b.length k:Nat)) w1∧Qh w1 g 5 ((splice X o (b.take k)).map Ks).toArray∧w.grownBy w1 (some g):=by
 have d:((b.take k).map Ks).length=Nat.min b.length k:=by rw[List.length_map,List.length_take,Nat.min_comm]
 have f:∀a:Addr,(∀j v,((b.take k).map Ks)[j]? =some v→w.cell? (a.add j)=some v)→∃w1,(Builtin.copy_ #[43,43] 3 #[.slice (some ⟨g,o,none⟩) k c,.slice (some a) b.length c2]).run prog w=.ok (.int .i64 (min b.length k:Nat)) w1∧Qh w1 g 5 ((splice X o (b.take k)).map Ks).toArray∧w.grownBy w1 (some g):=by
  intro a hsrc;have h:=run_copy_row (P:=prog) w 43 43 3 5 g o k c a b.length c2 _ 5 ((b.take k).map Ks) VI (by kernel_rfl) hg d hsrc (by rw[d];simp;have:Nat.min b.length k≤k:=Nat.min_le_right _ _;omega) (Oo _);refine⟨_,h.trans (congrArg (fun n:Nat=>Result.ok (goInt n) _) d), ?_,LM w g _⟩;have:=setRow_heap w g ((X.map Ks).toArray) (((X.map Ks).toArray.toList.take o++(b.take k).map Ks++(X.map Ks).toArray.toList.drop (o+((b.take k).map Ks).length)).toArray) 5 (0,0) hg;have e:((X.map Ks).toArray.toList.take o++(b.take k).map Ks++(X.map Ks).toArray.toList.drop (o+((b.take k).map Ks).length)).toArray=((splice X o (b.take k)).map Ks).toArray:=by
   simp[splice]
  rw[e]at this ⊢;exact this
 by_cases hz:0<b.length
 ·obtain⟨bb,oo,rfl,a0,hc⟩:=hb.at hz;refine f _ fun j v hv=> ?_
  obtain⟨hj,rfl⟩:=List.getElem?_eq_some_iff.1 hv;rw[J3];rw[List.length_map,List.length_take]at hj;rw[hc j (by omega)];simp[Ks]
 obtain rfl:b=[]:=List.eq_nil_of_length_eq_zero (by omega);cases A with
 |some a=>exact f a fun j v hv=>by simp at hv
 |none=>
  refine⟨w, ?_,by simpa [splice]using hg,UP _ _⟩;simp[Builtin.copy_,run_underlying VI,Builtin.lenOf,Builtin.firstCells];rfl
theorem Lw(h:0<n):(JI n)[0]? =some (.int .u8 0):=by
 obtain⟨m,rfl⟩:∃m,n=m+1:=⟨n-1,by omega⟩;simp[JI,List.replicate_succ,Ks]
theorem J9.keeps{ts:List TypeId}(h:J9 w)(k:Qd base ts w w')(hb:2<base):J9 w':=fun i hi=>by
 rw[k.below.cell (p:=⟨2,i,none⟩) hb];exact h i hi
theorem CH(size kind:Nat)(hk:kind<256):(JI size).setIfInBounds 0 (.int .u8 kind)=((X1 size kind).map Ks).toArray:=by
 have e:Value.int .u8 (kind:Int)=Ks (UInt8.ofNat kind):=by
  unfold Ks;congr 1;simp;omega
 unfold JI X1;rw[e,List.setIfInBounds_toArray,List.map_set]
theorem EN(l:List UInt8)(k:Nat):(l.drop (min l.length k)).take (l.length-min l.length k)=l.drop k:=by
 by_cases h:l.length≤k
 ·rw[Nat.min_eq_left h,Nat.sub_self,List.take_zero,List.drop_eq_nil_of_le h]
 rw[Nat.min_eq_right (by omega),List.take_of_length_le (by rw[List.length_drop];omega)]
theorem J9.drew(h:J9 w):J9 w.drew:=h
variable {d':Qq}
theorem IE(h:Jz d n b=(e,d')):d'.size=d.size∧d'.Qk.length=d.Qk.length∧d'.waits.length≤d.waits.length+1:=by
 unfold Jz at h;split at h
 ·cases h;exact⟨rfl,rfl,by omega⟩
 split at h
 ·cases h;exact⟨rfl,rfl,by omega⟩
 cases h;exact⟨rfl,rfl,by simp⟩
def Cs(w w':World)(base B:Nat)(r:Nat × Nat × Qq)(e:Ending):Prop:=e=.returned (.tuple #[.int .i64 r.1,.int .i64 r.2.1])∧VK w' base B r.2.2∧Qd base [121,165,167] w w'
structure DN (w wr:World) (base B:Nat) (d:Qq) (a kind mark:Nat) (b:List UInt8) (j:Nat) (bs:Value) (dj:Qq):Prop where
 Ul:VK wr base B dj
 keep:Qd base [121,165,167] w wr
 same:dj.size=d.size∧dj.Qk.length=d.Qk.length∧dj.waits.length≤d.waits.length+j
 go:Vl kind mark b d.size a (Qf d.size b.length) 0 d=Vl kind mark b d.size a (Qf d.size b.length-j) j dj
 slc:∃A c,bs=.slice A (b.drop (j*(d.size-18))).length c∧(b.drop (j*(d.size-18))).length≤c∧Wp base wr A (b.drop (j*(d.size-18)))
variable {a kind mark:Nat}
theorem GM(hq:Jz d (a+i) (JZ size kind mark (b.drop (i*(size-18))) (i==0))=(0,d')):Vl kind mark b size a (k+1) i d=Vl kind mark b size a k (i+1) d':=by
 conv=>lhs;unfold Vl
 rw[hq];rfl
theorem Fk(he:e≠0)(hq:Jz d (a+i) (JZ size kind mark (b.drop (i*(size-18))) (i==0))=(e,d')):Vl kind mark b size a (k+1) i d=(e,d'):=by
 conv=>lhs;unfold Vl
 rw[hq];cases e with
 |zero=>exact absurd rfl he
 |succ n=>rfl
variable {dj:Qq}
theorem DN.next{w11 w12:World}{qd:Qq}{bs bs':Value}(h:DN w wr base B d a kind mark b j bs dj)(hj:j<Qf d.size b.length)
  (hq:Jz dj (a+j) (JZ d.size kind mark (b.drop (j*(d.size-18))) (j==0))=(0,qd))(hD:VK w12 base B qd)(hb:Below wr.heap.size wr w11)(hk:Qd base [121,165,167] w11 w12)(hbw:base≤wr.heap.size)
  (hs:∃A c,bs'=.slice A (b.drop ((j+1)*(d.size-18))).length c∧(b.drop ((j+1)*(d.size-18))).length≤c∧Wp base w12 A (b.drop ((j+1)*(d.size-18)))):DN w w12 base B d a kind mark b (j+1) bs' qd:=by
 obtain⟨s1,s2,s3⟩:=IE hq;obtain⟨t1,t2,t3⟩:=h.same;refine⟨hD,(h.keep.trans (Qd.Qe hb hbw)).trans hk,⟨s1.trans t1,s2.trans t2,by omega⟩, ?_,hs⟩;rw[h.go,show Qf d.size b.length-j=(Qf d.size b.length-(j+1))+1 by omega,GM hq]
section
attribute [local go_sem ↓] Yl
theorem ZE(h:VK w base B d)(hs:J9 w)(hb2:2<base)(a kind mark:Nat)(ha:a<2^62)(hkd:kind<256)(hmk:mark<2^63)(b:List UInt8)(hbl:b.length<2^62)(A:Option Addr)(c:Nat)(hb:Wp base w A b)(hbc:b.length≤c)
  (hw:d.waits.length+65536<2^40):
  Calls prog 107 #[.pointer (some ⟨B,0,none⟩),.int .i64 a,.int .u8 kind,.int .i64 mark,.slice A b.length c] w fun e w'=>Cs w w' base B (KN d a kind mark b) e:=by
 have HD:=Qa h;have b5:d.size≤4096:=by obtain⟨m,h⟩:=h;exact h.sz.2
 have aT:d.Qk.length≤65536:=by obtain⟨m,h⟩:=h;exact h.n1.2
 have q:base≤w.heap.size:=by obtain⟨m,h⟩:=h;have:=h.low.1;have:=h.blk.lt;omega
 obtain⟨r,hr⟩:=eX (KN d a kind mark b);rw[←hr];by_cases h1:d.Qk.length≤a∨kind=0
 ·have C:r=(0,1,d):=by rw[hr];unfold KN;rw[if_pos h1]
  subst C;clear h hr;by_cases ay:d.Qk.length≤a
  ·clear h1;go_enter func107,ntmps107;go_wp2_with (go_at_call 55;refine(Kk HD.o).mono ?_;rintro e w1 ⟨rfl,f⟩)
   all_goals (go_ret2;exact⟨rfl,HD.o.below f,Qd.Qe f q⟩)
  obtain rfl:kind=0:=by omega
  clear h1;go_enter func107,ntmps107;go_wp2_with (go_at_call 55;refine(Kk HD.o).mono ?_;rintro e w1 ⟨rfl,f⟩)
  all_goals (go_ret2;exact⟨rfl,HD.o.below f,Qd.Qe f q⟩)
 by_cases h2:Rg d a b.length=true
 ·have hf:=h2;unfold Rg at hf;rw[decide_eq_true_iff]at hf;obtain⟨ay,aO,aF⟩:=hf;have aK:((kind:Int)==0)=false:=by simp;omega
  have C:r=match Vl kind mark b d.size a (Qf d.size b.length) 0 d with|(0,d')=>(Qf d.size b.length,0,d')|(e,d')=>(0,e,d'):=by
   rw[hr];unfold KN;rw[if_neg h1,if_neg (by omega)];rcases Vl kind mark b d.size a (Qf d.size b.length) 0 d with⟨_|e,d'⟩<;>rfl
  have HR:=Qa C;obtain⟨nd,au⟩:=eX (Qf d.size b.length);rw[←au]at aO aF;have P:=Qa au;have HB:=Qa hb;clear h hr h1 C hb;go_enter func107,ntmps107
  go_wp2_with (first
   |(go_at_call 55;refine(Kk HD.o).mono ?_;rintro e w1 ⟨rfl,f⟩)
   |(go_at_call 160;refine(U3 (HD.o.below f) a b.length ha hbl).mono ?_;rintro e w2 ⟨rfl,p⟩;rw[h2])
   |(go_at_call 56;refine(JP d.size b.length (by omega) hbl _).mono ?_;rintro e w3 ⟨rfl,rfl⟩;rw[←P.o]))
  go_loopw [4,48] (fun bs i wr=>∃j dj,j≤nd∧i=.int .i64 (j:Nat)∧DN w wr base B d a kind mark b j bs dj) (fun _ i _=>nd-(intOf i).toNat)
  case atStart=>exact⟨0,d,Nat.zero_le _,rfl,HD.o.below (f.trans (p.mono f.size)),Qd.Qe (f.trans (p.mono f.size)) q,⟨rfl,rfl,nR⟩,by rw[Nat.sub_zero],A,c,by simp,by simpa using hbc,by simpa using HB.o.below (f.trans (p.mono f.size))⟩
  obtain⟨j,dj,hj,rfl,hp⟩:=hrel;by_cases hjn:j<nd
  ·obtain⟨A1,c1,rfl,aZ,U⟩:=hp.slc;have HP:=Qa hp;have a0:=Qa U;have aV:(0:Int)≤d.size:=by omega
   have aU:(d.size:Int)≤65536:=by omega
   have l:19≤d.size:=by
    apply Decidable.byContradiction;intro g;have:Qf d.size b.length=0:=by unfold Qf;rw[if_pos (by omega)]
    omega
   have a1:Qh (wr.alloc (.cells (JI d.size) 5)) wr.heap.size 5 (JI d.size):=Qh.Qz rfl;have aI:(wr.alloc (.cells (JI d.size) 5)).cell? ⟨wr.heap.size,0,none⟩=some (.int .u8 0):=by
    rw[a1.cell];exact Lw (by omega)
   have az:(wr.alloc (.cells (JI d.size) 5)).frozen? ⟨wr.heap.size,0,none⟩=false:=a1.free 0;have a2:Qh (wr.alloc (.cells ((JI d.size).setIfInBounds 0 (.int .u8 kind)) 5)) wr.heap.size 5 ((X1 d.size kind).map Ks).toArray:=by
    rw[←CH d.size kind hkd];exact Qh.Qz rfl
   have X:Below wr.heap.size wr (wr.alloc (.cells ((JI d.size).setIfInBounds 0 (.int .u8 kind)) 5)):=bR.alloc nR _;have aP:j<65536:=by omega
   clear hp U;generalize hb':b.drop (j*(d.size-18))=bj at*
   have aS:bj.length<2^62:=by rw[←hb',List.length_drop];omega
   have a7:=Qa hb';clear hb';go_upto_region 14 with fail;generalize wr.alloc (.cells ((JI d.size).setIfInBounds 0 (.int .u8 kind)) 5)=w5 at*
   clear a1 aI az;obtain⟨G,hG⟩:=eX wr.heap.size;rw[←hG]at a2 X ⊢;have HG:=Qa hG;clear hG;have aD:=Qa a2;have ap:=Qa X;clear a2 X;have l1:=Cj d.size kind;have l2:=Ct l kind mark;have l3:=Ce l kind mark bj.length
   go_upto_if 68 with(first
    |(go_at_call 161;refine(YH bj.length 4 G 9 _ (X2 d.size kind mark) _ (by decide) aj (by omega)).mono ?_;rintro e w7 ⟨rfl,J,ar⟩)
    |(go_at_call 161;refine(YH mark 8 G 1 _ (X1 d.size kind) _ (by decide) aD.o (by omega)).mono ?_;rintro e w6 ⟨rfl,aj,ac⟩))
   have ag:=Qa J;have ak:=Qa (ac.trans ar);have aX:=J.lt;have S:∃v,w7.cell? ⟨G,13,none⟩=some v:=by
    rw[J.cell,List.getElem?_toArray];exact⟨_,List.getElem?_eq_getElem (by rw[List.length_map];change 13<(X3 d.size kind mark bj.length).length;omega)⟩
   obtain⟨b2,S⟩:=S;have aR:=J.free 13;clear aj J ac ar;go_cut [68,69,70] (fun _ _ _ wx=>Qh wx G 5 ((X4 d.size kind mark bj.length (j==0)).map Ks).toArray∧w5.grownBy wx (some G))
   case first=>
    by_cases hj0:j=0
    ·subst hj0;go_wp2_with fail;go_meet;refine⟨?_,LX ak.o _ _⟩;have e:((X4 d.size kind mark bj.length (0==0)).map Ks).toArray=((X3 d.size kind mark bj.length).map Ks).toArray.setIfInBounds 13 (.int .u8 1):=by
      unfold X4;simp[List.map_set,Ks]
     rw[e];exact ag.o.set 13 _
    have aY:((j:Int)==0)=false:=by simp;omega
    go_wp2_with fail;go_meet;refine⟨?_,ak.o⟩;have e:(j==0)=false:=by simpa using hj0
    rw[e];exact ag.o
   obtain⟨aw,av⟩:=hcut;have l4:=CA l kind mark bj.length (j==0);have aG:=Qa aw;have aM:=Qa av;clear aw av;have O:Below G wr wc:=ap.o.grown aM.o (by have:=ap.o.size;have:=HG.o;omega) (fun k e=>by injection e with e;omega);have Q:Wp base wc A1 bj:=a0.o.below (by rw[←HG.o];exact O);obtain⟨w9,K,Z,ah⟩:=LP wc G 14 (d.size-4-14) (d.size-14) (X4 d.size kind mark bj.length (j==0)) bj A1 c1 aG.o Q (by omega);have e5:splice (X4 d.size kind mark bj.length (j==0)) 14 (bj.take (d.size-4-14))=X5 d.size kind mark bj (j==0):=by unfold X5;rw[show d.size-4-14=d.size-18 by omega]
   rw[e5]at Z;have a9:Below G wr w9:=O.grown ah (by have:=O.size;have:=HG.o;omega) (fun k e=>by injection e with e;omega);have V:Wp base w9 A1 bj:=a0.o.below (by rw[←HG.o];exact a9);have a5:=Qa Z;have a8:=Qa a9;have aq:=Qa V;have l5:=Cz l kind mark bj (j==0);obtain⟨mn,a4⟩:=eX (min bj.length (d.size-4-14));rw[←a4]at K;have aC:mn≤bj.length:=by omega
   have Y:=Qa a4;clear O Q Z ah a9 V e5 a4;go_upto_region 19 with fail;go_cut [77,78,79,4] (fun _ _ _ s wx=>wx=w9∧∃A' c',s=.slice A' (bj.drop (d.size-18)).length c'∧(bj.drop (d.size-18)).length≤c'∧Wp base wr A' (bj.drop (d.size-18)))
   case first=>
    by_cases hbe:bj=[]
    ·subst hbe;have aJ:mn=0:=by simpa using aC
     subst aJ;go_wp2_with fail;go_meet;exact⟨rfl,A1,c1,by simp,by simp,by simpa using Kb.nil.D3⟩
    obtain⟨bb,oo,rfl,_⟩:=aq.o.at (List.length_pos_iff.2 hbe);have am:(bj.drop (d.size-18)).length=bj.length-mn:=by rw[List.length_drop,Y.o];omega
    have F:=Qa am;clear am;go_wp2_with fail
    ·go_meet;refine⟨rfl,some ⟨bb,oo,none⟩,0,by rw[F.o],by rw[F.o];omega, ?_⟩;have:bj.drop (d.size-18)=[]:=List.eq_nil_of_length_eq_zero (by rw[F.o];omega);rw[this];exact Kb.nil.D3
    go_meet;refine⟨rfl,some ⟨bb,oo+mn,none⟩,c1-mn,by rw[F.o],by rw[F.o];omega, ?_⟩;have h:=a0.o.sub (i:=mn) (k:=bj.length-mn) (by omega);rw[Y.o,EN,show d.size-4-14=d.size-18 by omega]at h;rw[Y.o];exact h
   obtain⟨rfl,A2,c2,rfl,aN,E⟩:=hcut;have ai:=Qa E;have aQ:=Qa K;clear E K;generalize wc=w10 at*
   go_upto_region 20 with fail;obtain⟨I,z⟩:=eX (VP ((X5 d.size kind mark bj (j==0)).take (d.size-4)));obtain⟨n4,a3⟩:=eX (d.size-4);have q1:IntKind.i64.wrap ((d.size:Int)-4)=(n4:Int):=by rw[IntKind.wrap_i64];omega
   have q2:n4≤d.size:=by omega
   have q3:¬d.size=n4:=by omega
   have q4:d.size-n4=4:=by omega
   have b4:I<2^32:=by rw[z];exact Rj _
   have q5:IntKind.u64.wrap (I:Int)=(I:Int):=by rw[IntKind.wrap_u64];omega
   have al:=@Qa (∀wy c,Qh wy G 5 ((X5 d.size kind mark bj (j==0)).map Ks).toArray→J9 wy→Calls prog 162 #[.slice (some ⟨G,0,none⟩) n4 c] wy fun e w'=>e=.returned (.int .u32 I)∧wy=w') (fun wy c hwy hst=>by
    have ae:=(Kb.Ja hwy).sub (i:=0) (k:=d.size-4) (by omega);rw[Nat.add_zero,List.drop_zero]at ae;have hl:((X5 d.size kind mark bj (j==0)).take (d.size-4)).length=d.size-4:=by rw[List.length_take];omega
    have h:=Sy ((X5 d.size kind mark bj (j==0)).take (d.size-4)) (some ⟨G,0,none⟩) c wy hst (by rw[hl];omega) (fun h0=>by obtain⟨b1,o1,h1,h2,_,h4⟩:=ae.at h0;exact⟨b1,o1,h1,h2,h4⟩);rw[hl,←z,←a3]at h;exact h)
   have af:=Qa z;have aE:=Qa a3;clear z a3;have b3:=a5.o.lt;have aA:=Qa (hs.keeps (HP.o.keep.trans (Qd.Qe (HG.o▸a8.o) (by have:=HP.o.keep.below.size;omega))) hb2)
   go_region_law (first
    |(go_simp;go_at_call 161;refine(YH I 4 G n4 _ (X5 d.size kind mark bj (j==0)) _ (by decide) a5.o.drew (by omega)).mono ?_;rintro e a6 ⟨rfl,ao,T⟩;(have ax:=Qa ao);(have W:=Qa T);clear ao T)
    |(go_simp;go_at_call 162;refine(al.o _ d.size a5.o.drew aA.o.drew).mono ?_;rintro e w' ⟨rfl,rfl⟩))
   have ad:Qh a6 G 5 ((JZ d.size kind mark bj (j==0)).map Ks).toArray:=by
    have:=ax.o;rw[af.o,aE.o,C8 l]at this;exact this
   have M:Below G wr a6:=a8.o.drew.grown W.o (by have:=a8.o.size;have:=HG.o;simp;omega) (fun k e=>by injection e with e;omega);have t:=ZZ (size:=d.size) (kind:=kind) (mark:=mark) (b:=bj) (first:=j==0) (by omega);have R:VK a6 base B dj:=HP.o.Ul.below (HG.o▸M);have H:=(Kb.Ja ad).rd;have b0:=HP.o.same.2.2;obtain⟨qe,qd,hq⟩:∃qe qd,Jz dj (a+j) (JZ d.size kind mark bj (j==0))=(qe,qd):=⟨_,_,rfl⟩;have aa:=OR R (a+j) (JZ d.size kind mark bj (j==0)) (some ⟨G,0,none⟩) d.size H (by rw[t];omega) (by omega);rw[t,hq,Int.natCast_add]at aa;have an:=Qa aa;have HQ:=Qa hq;have L:=Qa M;have b6:=Qa t;have N:=IE hq;have aH:=Qa N;clear aa hq M t R H ad ax W N;by_cases hqe:qe=0
   ·subst hqe;go_wp2_with (go_at_call 163;refine an.o.mono ?_;rintro e aB ⟨rfl,u,x⟩;(have D:=Qa u);(have y:=Qa x);clear u x);go_roundw
    case rel=>
     refine⟨j+1,qd,by omega,by go_num, ?_⟩;have e1:bj.drop (d.size-18)=b.drop ((j+1)*(d.size-18)):=by rw[←a7.o,List.drop_drop,Nat.succ_mul]
     refine HP.o.next (by omega) (by rw[a7.o];exact HQ.o) D.o (HG.o▸L.o) y.o (by have:=HP.o.keep.below.size;omega) ⟨A2,c2, ?_, ?_, ?_⟩
     ·rw[←e1,List.length_drop]
     ·rw[←e1];exact aN
     rw[←e1];exact(ai.o.below (HG.o▸L.o)).keeps y.o (by simp)
    case measure=>simp[intOf];omega
   have aW:((qe:Int) != 0)=true:=by simp;exact hqe
   go_wp2_with (go_at_call 163;refine an.o.mono ?_;rintro e aB ⟨rfl,u,x⟩;(have D:=Qa u);(have y:=Qa x);clear u x);go_ret2;have hg:=HP.o.go;rw[show Qf d.size b.length-j=(Qf d.size b.length-(j+1))+1 by omega,Fk hqe (by rw[a7.o];exact HQ.o)]at hg;have ab:r=(0,qe,qd):=by
    rw[HR.o,hg];cases qe with
    |zero=>exact absurd rfl hqe
    |succ n=>rfl
   rw[ab];exact⟨rfl,D.o,(HP.o.keep.trans (Qd.Qe (HG.o▸L.o) (by have:=HP.o.keep.below.size;omega))).trans y.o⟩
  obtain rfl:nd=j:=by omega
  have HP:=Qa hp;clear hp;go_wp2_with fail;go_ret2;have hg:=HP.o.go;rw[←P.o,Nat.sub_self]at hg;have ab:r=(nd,0,dj):=by rw[HR.o,←P.o,hg];rfl
  rw[ab];refine⟨?_,HP.o.Ul,HP.o.keep⟩;show _=Ending.returned (.tuple #[.int .i64 (nd:Nat),.int .i64 0]);rw[P.o];rfl
 have C:r=(0,5,d):=by
  rw[hr];unfold KN;rw[if_neg h1,if_pos];intro g;apply h2;unfold Rg;rw[decide_eq_true_iff];omega
 subst C;have aL:Rg d a b.length=false:=by simpa using h2
 have ay:a<d.Qk.length:=by omega
 have aK:((kind:Int)==0)=false:=by simp;omega
 clear h hr h1;go_enter func107,ntmps107
 go_wp2_with (first
  |(go_at_call 55;refine(Kk HD.o).mono ?_;rintro e w1 ⟨rfl,f⟩)
  |(go_at_call 160;refine(U3 (HD.o.below f) a b.length ha hbl).mono ?_;rintro e w2 ⟨rfl,p⟩;rw[aL]))
 all_goals (go_ret2;exact⟨rfl,HD.o.below (f.trans (p.mono f.size)),Qd.Qe (f.trans (p.mono f.size)) q⟩)
end
variable {t:TypeId}
theorem Qp{old:Array Value}(h:Qh w g t old)(cs:Array Value):Qh (w.setRow g cs) g t cs:=setRow_heap w g old cs t (0,0) h
theorem Qm(w:World)(g:Nat)(cs:Array Value):w.grownBy (w.setRow g cs) (some g):=⟨rfl,rfl,rfl,by simp,fun k _ hk=>setRow_other w g k _ (fun e=>hk (by rw[e]))⟩
theorem Ql{P:Program}{fn:Func}{p q:Tmp}{ty:TypeId}(h:fn.results=#[.cell p ty,.tmp q])(tmps:Array Value)(w:World)(g:Nat)(t:TypeId)(cs:Array Value)(fr:Nat × Nat)(d:TypeDesc)
  (hp:tmps.getD p undef=.pointer (some ⟨g,0,none⟩))(hg:w.heap[g]? =some (.cells cs t fr))
  (hu:P.underlying ty=some d)(hd:(match d with|.struct _|.array _ _=>true|_=>false)=true)(hi:(P.info? ty).map (·.size)=some cs.size):
  (results fn tmps).run P w=.ok (.tuple #[.agg cs,tmps.getD q undef]) w:=by
 have a:tmps[p]?.getD undef=.pointer (some ⟨g,0,none⟩):=by simpa using hp
 simp[results,h,a,asAddr,run_loadVar_row w g t ty cs fr d hg hu hd hi]
theorem O7{P:Program}{f:FuncId}{args:Array Value}
  (h:Calls P f args (w.drewN n) fun e w'=>e=.returned v∧w.drewN n=w'):Calls P f args (w.drewN n) fun e w''=>e=.returned v∧∃m,w''=w.drewN m:=
 h.mono fun _ _ ⟨he,hm⟩=>⟨he,n,hm.symm⟩
theorem QK{a:World}(h:Below B a w)(n:Nat):Below B a (w.drewN n):=h.trans (Z4 B w n)
theorem J9.below(h:J9 w)(hb:Below w.heap.size w w'):J9 w':=fun i hi=>by
 have e:=h i hi;have a:2<w.heap.size:=by
  apply Decidable.byContradiction;intro hc;have:w.heap[2]? =none:=Array.getElem?_eq_none (by omega);simp[World.cell?, this]at e
 rw[hb.cell (p:=⟨2,i,none⟩) a];exact e
theorem Ws:(prog.info? 275).map (·.size)=some 5:=by kernel_rfl
def JD:Array Value:=#[.int .u8 0,.int .i64 0,.int .u64 0,.bool false,.slice none 0 0]
def Cw(x:P7)(A:Option Addr)(c:Nat):Array Value:=#[.int .u8 x.kind,.int .i64 (IntKind.i64.wrap x.mark),.int .u64 x.left,.bool x.first,.slice A x.bytes.length c]
def Ee(g:Nat)(r:Option P7)(e:Ending):Prop:=match r with
 |none=>e=.returned (.tuple #[.agg JD,.bool false])
 |some x=>∃c,e=.returned (.tuple #[.agg (Cw x (some ⟨g,14,none⟩) c),.bool true])∧x.bytes.length≤c
theorem EP(hs:J9 w)(s:List UInt8)(g c:Nat)(hb:Kb w (some ⟨g,0,none⟩) s)(h16:16≤s.length)(hn:s.length≤4096)(hc:s.length≤c):
  Calls prog 173 #[.slice (some ⟨g,0,none⟩) s.length c] w fun e w'=>Ee g (J4 s) e∧Below w.heap.size w w':=by
 have q:Below w.heap.size w (w.alloc (.cells JD 275)):=bR.alloc nR _;have U:=Qh.new w 275 JD;have b:=Qa q;have R:=Qa U;clear q U;obtain⟨r,hr⟩:=eX (J4 s);rw[←hr];have HI:Qb ((prog.info? 275).map (·.size)=some JD.size):=Ws;by_cases h19:s.length<19
 ·have O:r=none:=by rw[hr];unfold J4;rw[if_pos h19]
  subst O;clear hr;go_enter func173,ntmps173;go_wp2_with fail;exact bodyPost_ret (v:=.tuple #[.agg JD,.bool false]) (Ql results173 _ _ w.heap.size 275 JD (0,0) _ rfl R.o underlying275 rfl HI.o) rfl ⟨rfl,b.o⟩
 obtain⟨n4,Y⟩:=eX (s.length-4);have q1:IntKind.i64.wrap ((s.length:Int)-4)=(n4:Int):=by rw[IntKind.wrap_i64];omega
 have q2:n4≤s.length:=by omega
 have q3:s.length-n4=4:=by omega
 have q4:(n4:Int)≤c:=by omega
 have ad:=hb.1;obtain⟨u,z⟩:=eX (VP (s.take n4));obtain⟨C,E⟩:=eX (num (s.drop n4))
 have H:=@Qa (∀m k,Calls prog 195 #[.slice (some ⟨g,n4,none⟩) 4 k] ((w.alloc (.cells JD 275)).drewN m) fun e w'=>e=.returned (.int .u64 (C:Nat))∧((w.alloc (.cells JD 275)).drewN m)=w') (fun m k=>by
  have h:=(hb.below b.o).sub (i:=n4) (k:=4) (by omega);rw[Nat.zero_add]at h;have hl:((s.drop n4).take 4).length=4:=by rw[List.length_take,List.length_drop];omega
  have e:(s.drop n4).take 4=s.drop n4:=List.take_of_length_le (by rw[List.length_drop];omega);have:=Ua _ _ k _ ((w.alloc (.cells JD 275)).drewN m) (by rw[hl];omega) h.rd;rw[hl,e,←E]at this;exact this)
 have I:=@Qa (∀m k,Calls prog 162 #[.slice (some ⟨g,0,none⟩) n4 k] ((w.alloc (.cells JD 275)).drewN m) fun e w'=>e=.returned (.int .u32 (u:Nat))∧((w.alloc (.cells JD 275)).drewN m)=w') (fun m k=>by
  have h:=(hb.below b.o).sub (i:=0) (k:=n4) (by omega);rw[Nat.add_zero,List.drop_zero]at h;have hl:(s.take n4).length=n4:=by rw[List.length_take];omega
  have:=Sy (s.take n4) (some ⟨g,0,none⟩) k ((w.alloc (.cells JD 275)).drewN m) (show J9 (w.alloc (.cells JD 275))from hs.below b.o) (by rw[hl];omega) (fun h0=>by obtain⟨b1,o1,h1,h2,_,h4⟩:=h.at h0;exact⟨b1,o1,h1,h2,h4⟩);rw[hl,←z]at this;exact this)
 have ah:u<2^32:=by rw[z];exact Rj _
 have q6:¬c=n4:=by omega
 have q7:¬s.length=n4:=by omega
 have B:=Qa Y;have G:=Qa z;have L:=Qa E;clear Y z E ad;have q5:IntKind.u64.wrap (u:Int)=(u:Int):=by rw[IntKind.wrap_u64];omega
 go_enter func173,ntmps173;go_upto_region 4 with fail
 go_quiet ((first
  |(go_at_call 195;exact O7 (H.o _ _))
  |(go_at_call 162;exact O7 (I.o _ _))))
 have j:Below w.heap.size w ((w.alloc (.cells JD 275)).drewN nq):=QK b.o nq;have l:Qh ((w.alloc (.cells JD 275)).drewN nq) w.heap.size 275 JD:=R.o.drewN nq;change Exit.then _ _ _ _ ((w.alloc (.cells JD 275)).drewN nq)
 generalize (w.alloc (.cells JD 275)).drewN nq=w1 at j l ⊢;clear H I b R;by_cases hgc:C=u
 ·subst hgc;have ak:((C:Int) != (C:Int))=false:=by simp
  obtain⟨kn,hkn⟩:∃kn:Nat,kn=(s[0]'(by omega)).toNat:=⟨_,rfl⟩;obtain⟨f,hf⟩:∃f:Nat,f=(s[13]'(by omega)).toNat:=⟨_,rfl⟩;obtain⟨tf,hmk,hlf⟩:∃tf:Nat→Nat,tf 1=num ((s.drop 1).take 8)∧tf 9=num ((s.drop 9).take 4):=⟨fun o=>if o=1 then num ((s.drop 1).take 8)else num ((s.drop 9).take 4),rfl,rfl⟩;have A:=Qa j;have a:=Qa l;have x:∀wy,Below w.heap.size w wy→wy.cell? ⟨g,0,none⟩=some (.int .u8 kn)∧wy.cell? ⟨g,13,none⟩=some (.int .u8 f):=fun wy hy=>by
   obtain⟨b0,o0,h1,_,_,h4⟩:=(hb.below hy).at (by omega);injection h1 with h1;injection h1 with h1 h2;subst h1;subst h2;rw[hkn,hf];exact⟨by simpa using h4 0 (by omega),by simpa using h4 13 (by omega)⟩
  have a7:=@Qa (∀wy o n k,Below w.heap.size w wy→(o=1∧n=8)∨(o=9∧n=4)→Calls prog 195 #[.slice (some ⟨g,o,none⟩) n k] wy fun e w'=>e=.returned (.int .u64 (tf o:Nat))∧wy=w') (fun wy o n k hy ho=>by
   rcases ho with⟨rfl,rfl⟩|⟨rfl,rfl⟩
   ·have h:=(hb.below hy).sub (i:=1) (k:=8) (by omega);have hl:((s.drop 1).take 8).length=8:=by rw[List.length_take,List.length_drop];omega
    have:=Ua _ _ k _ wy (by rw[hl];omega) h.rd;rw[hl,←hmk]at this;exact this
   have h:=(hb.below hy).sub (i:=9) (k:=4) (by omega);have hl:((s.drop 9).take 4).length=4:=by rw[List.length_take,List.length_drop];omega
   have:=Ua _ _ k _ wy (by rw[hl];omega) h.rd;rw[hl,←hlf]at this;exact this)
  have V:=Qa x;have a9:=Qa hkn;have HF:=Qa hf;have Z:=Qa hmk;have T:=Qa hlf;have aq:kn<256:=by rw[hkn];exact UInt8.toNat_lt _
  have ao:f<256:=by rw[hf];exact UInt8.toNat_lt _
  have ar:tf 1<18446744073709551616:=by
   rw[hmk];have:=W6 ((s.drop 1).take 8);have hl:((s.drop 1).take 8).length=8:=by rw[List.length_take,List.length_drop];omega
   rw[hl]at this;omega
  have au:tf 9<4294967296:=by
   rw[hlf];have:=W6 ((s.drop 9).take 4);have hl:((s.drop 9).take 4).length=4:=by rw[List.length_take,List.length_drop];omega
   rw[hl]at this;omega
  have S0:=Qa (x _ j.drew);have S1:=@Qa (∀row,(w1.alloc (.cells row 275)).drew.cell? ⟨g,0,none⟩=some (.int .u8 kn)∧(w1.alloc (.cells row 275)).drew.cell? ⟨g,13,none⟩=some (.int .u8 f)) (fun row=>x _ (j.alloc (by have:=j.size;omega) (.cells row 275)).drew);have an:g<w.heap.size:=by
   obtain⟨b0,o0,h1,h2,_⟩:=hb.at (by omega);injection h1 with h1;injection h1 with h1;subst h1;exact h2
  have z0:0<s.length:=by omega
  have av:(13:Int)<s.length:=by omega
  have z1:(1:Int)≤c:=by omega
  have z9:(9:Int)≤c:=by omega
  have aj:(13:Int)≤c:=by omega
  have y1:¬c=1:=by omega
  have y9:¬c=9:=by omega
  clear hkn hf hmk hlf x;clear j l;go_upto_region 6 with fail;go_cut [5,25,26,27,28,29,30,31,32,33,34,35,36,37,38,39] (fun p _ _ _ _ _ _ _ _ _ _ _ _ _ _ _ wx=>p=.pointer (some ⟨w1.heap.size,0,none⟩)∧Qh wx w1.heap.size 275 #[.int .u8 kn,.int .i64 (IntKind.i64.wrap (tf 1:Nat)),.int .u64 (tf 9:Nat),.bool ((f:Int)==1),.slice none 0 0]∧Below w.heap.size w wx∧Qh wx w.heap.size 275 JD)
  case first=>
   go_region_held3 (fun wy=>wy.cell? ⟨g,0,none⟩=some (.int .u8 kn)∧wy.cell? ⟨g,13,none⟩=some (.int .u8 f))
    (first|exact S0.o|exact S1.o _)
    (first
    |(go_at_call 195;refine(a7.o _ _ _ _ (by first|exact A.o.drew|exact(A.o.alloc (by have:=A.o.size;omega) (.cells JD 275)).drew) (by decide)).mono ?_;rintro e w' ⟨rfl,rfl⟩))
   all_goals
    go_wp2_with fail;go_meet;exact⟨rfl,Qh.WD rfl,(A.o.alloc (by have:=A.o.size;omega) _).drew,(a.o.alloc _).drew⟩
  obtain⟨rfl,d,D,q⟩:=hcut;obtain⟨gx,X⟩:=eX w1.heap.size;have ai:w.heap.size<gx:=by have:=a.o.lt;omega
  rw[←X]at d ⊢;clear S0 S1 A a X;generalize w1=w1' at*
  clear w1';have c0:wc.cell? ⟨gx,0,none⟩=some (.int .u8 kn):=d.cell 0;have c2:wc.cell? ⟨gx,2,none⟩=some (.int .u64 (tf 9:Nat)):=d.cell 2;have c3:wc.cell? ⟨gx,3,none⟩=some (.bool ((f:Int)==1)):=d.cell 3;have c4:wc.cell? ⟨gx,4,none⟩=some (.slice none 0 0):=d.cell 4;have f4:=d.free 4;have af:=d.lt;have al:=(V.o wc D).2;obtain⟨many,t⟩:=eX (min (tf 9) (n4-14));have ae:14≤n4:=by have:=B.o;omega
  have ag:(if(n4:Int)-14<(tf 9:Int)then(n4:Int)-14 else(tf 9:Int))=(many:Int):=by
   rw[t];split<;>omega
  have a5:many≤n4-14:=by omega
  have a1:(14:Int)+many≤n4:=by omega
  have F:=Qa t;have ap:IntKind.i64.wrap (14+(many:Int))=((14+many:Nat):Int):=by rw[IntKind.wrap_i64];omega
  obtain⟨p,hp⟩:=eX (Vc ((s.drop (14+many)).take (n4-(14+many))))
  have a6:=@Qa (∀k,Calls prog 172 #[.slice (some ⟨g,14+many,none⟩) (n4-(14+many)) k] wc fun e w'=>e=.returned (.bool p)∧wc=w') (fun k=>by
   have h:=(hb.below D).sub (i:=14+many) (k:=n4-(14+many)) (by omega);rw[Nat.zero_add]at h;have hl:((s.drop (14+many)).take (n4-(14+many))).length=n4-(14+many):=by rw[List.length_take,List.length_drop];omega
   have:=TG _ _ k _ wc (by rw[hl];omega) h.rd;rw[hl,←hp]at this;exact this)
  have HP:=Qa hp;have v1:((14+many:Nat):Int)≤n4:=by omega
  have v2:(n4:Int)≤c:=by omega
  have v3:¬c=14+many:=by omega
  clear t hp a5 a1;obtain⟨bb,hbb⟩:∃bb:Bool,bb=(decide (kn=0)||(decide (1<f)||(decide (2^30<tf 9)||((decide (f≠1)&&decide (tf 9=0))|| !p)))):=⟨_,rfl⟩;have Q:=Qa hbb;clear hbb;go_upto_region 8 with fail;go_cut [79] (fun v wx=>wx=wc∧v=.bool bb)
  case first=>
   go_wp2_with (go_at_call 172;refine(a6.o _).mono ?_;rintro e w' ⟨rfl,rfl⟩)
   all_goals
    go_meet;refine⟨rfl,congrArg Value.bool ?_⟩;rw[Q.o];cases p<;>(rw[Bool.eq_iff_iff];simp;try omega)
  obtain⟨rfl,rfl⟩:=hcut;have y:r=if bb then none else some ⟨kn,tf 1,tf 9,f==1,(s.drop 14).take many⟩:=by
   have e1:num (s.take 1)=kn:=by
    have:s.take 1=[s[0]'(by omega)]:=by rw[List.take_succ_eq_append_getElem (by omega)];rfl
    rw[this,Uq,a9.o]
   have a8:num ((s.drop 13).take 1)=f:=by
    have:(s.drop 13).take 1=[s[13]'(by omega)]:=by rw[List.drop_eq_getElem_cons (by omega)];rfl
    rw[this,Uq,HF.o]
   rw[hr];unfold J4;rw[if_neg h19,if_neg (by rw[←B.o,←L.o,←G.o];simp)];simp only[e1,a8,←Z.o,←T.o];have e4:s.length-18=n4-14:=by rw[B.o];omega
   rw[e4,←F.o,←B.o,←HP.o];cases hb2:bb with
   |true=>
    rw[if_pos];rfl;have:=Q.o;rw[hb2]at this;simp at this;cases p<;>simp_all<;>omega
   |false=>
    rw[if_neg];rfl;have:=Q.o;rw[hb2]at this;simp at this;cases p<;>simp_all<;>omega
  have aa:=Qa D;have b:=Qa q;have H1:Qb (JD.all (·.oneCell')=true):=by show JD.all (·.oneCell')=true;simp[JD,Value.oneCell']
  by_cases hbt:bb=true
  ·rw[if_pos hbt]at y;subst y;subst hbt;clear D q hr
   go_wp2_with (first
    |(refine wpList_store_row rfl 275 _ _ rfl w.heap.size JD rfl rfl 275 JD b.o HI.o rfl H1.o ?_))
   exact bodyPost_ret (v:=.tuple #[.agg JD,.bool false]) (Ql results173 _ _ w.heap.size 275 JD (0,0) _ rfl (Qp b.o _) underlying275 rfl HI.o) rfl ⟨rfl,aa.o.trans (Qg (Qm _ _ _) (by have:=b.o.lt;omega) (gB (by omega)))⟩
  have ab:bb=false:=by simpa using hbt
  rw[if_neg hbt]at y;subst ab;have K:((s.drop 14).take many).length=many:=by rw[List.length_take,List.length_drop];have:=F.o;have:=B.o;omega
  have ef:((f:Int)==1)=(f==1):=by rw[Bool.eq_iff_iff];simp;omega
  have M:Cw ⟨kn,tf 1,tf 9,f==1,(s.drop 14).take many⟩ (some ⟨g,14,none⟩) (c-14)=#[.int .u8 kn,.int .i64 (IntKind.i64.wrap (tf 1:Nat)),.int .u64 (tf 9:Nat),.bool ((f:Int)==1),.slice (some ⟨g,14,none⟩) many (c-14)]:=by
   unfold Cw;simp only[K,ef]
  have W:=Qa M;obtain⟨row,hrw⟩:∃row:Array Value,row=#[.int .u8 kn,.int .i64 (IntKind.i64.wrap (tf 1:Nat)),.int .u64 (tf 9:Nat),.bool ((f:Int)==1),.slice (some ⟨g,14,none⟩) many (c-14)]:=⟨_,rfl⟩;have J:=d.set 4 (.slice (some ⟨g,14,none⟩) many (c-14));have N:Qh (wc.setCell ⟨gx,4,none⟩ (.slice (some ⟨g,14,none⟩) many (c-14))) gx 275 row:=by rw[hrw];exact J
  have a3:=Qa N;have S:=Qa (q.Yq (o:=4) (show w.heap.size≠gx by omega) (.slice (some ⟨g,14,none⟩) many (c-14)));have a0:=Qa (Jo D (o:=4) (show w.heap.size≤gx by omega) (.slice (some ⟨g,14,none⟩) many (c-14)));have P:Qb ((prog.info? 275).map (·.size)=some row.size):=by
   show _=some row.size;rw[hrw];exact Ws
  have a2:Qb (JD.size=row.size):=by
   show JD.size=row.size;rw[hrw];rfl
  have a4:Qb (row.all (·.oneCell')=true):=by show row.all (·.oneCell')=true;rw[hrw];simp[Value.oneCell']
  have ac:=Qa hrw;have v4:(14:Int)≤c:=by omega
  have v5:¬c=14:=by omega
  have v6:(14:Int)≤((14+many:Nat):Int):=by omega
  have v7:((14+many:Nat):Int)≤c:=by omega
  subst y;clear D q hr J N d hrw M ef
  go_wp2_with (first
   |(refine wpList_load_row rfl 275 _ rfl gx rfl 275 row (0,0) _ a3.o underlying275 rfl P.o ?_)
   |(refine wpList_store_row rfl 275 _ _ rfl w.heap.size row rfl rfl 275 JD S.o P.o a2.o a4.o ?_))
  refine bodyPost_ret (v:=.tuple #[.agg row,.bool true]) (Ql results173 _ _ w.heap.size 275 row (0,0) _ rfl (Qp S.o _) underlying275 rfl P.o) rfl ⟨⟨c-14,by rw[W.o,←ac.o], ?_⟩,a0.o.trans (Qg (Qm _ _ _) (by have:=S.o.lt;omega) (gB (by omega)))⟩;show((s.drop 14).take many).length≤c-14;rw[K];omega
 have O:r=none:=by
  rw[hr];unfold J4;rw[if_neg h19,if_pos];rw[←B.o,←L.o,←G.o];exact hgc
 subst O;have am:((C:Int) != (u:Int))=true:=by simpa using fun h:(C:Int)=u=>hgc (by omega)
 have HW:=Qa j;have a:=Qa l;have H1:Qb (JD.all (·.oneCell')=true):=by show JD.all (·.oneCell')=true;simp[JD,Value.oneCell']
 clear j l hr
 go_wp2_with (first
  |(refine wpList_store_row rfl 275 _ _ rfl w.heap.size JD rfl rfl 275 JD a.o HI.o rfl H1.o ?_))
 exact bodyPost_ret (v:=.tuple #[.agg JD,.bool false]) (Ql results173 _ _ w.heap.size 275 JD (0,0) _ rfl (Qp a.o _) underlying275 rfl HI.o) rfl ⟨rfl,HW.o.trans (Qg (Qm _ _ _) (by have:=a.o.lt;omega) (gB (by omega)))⟩
end Go.Proofs.YtmgmfnimaafkdaaGreatDoor
