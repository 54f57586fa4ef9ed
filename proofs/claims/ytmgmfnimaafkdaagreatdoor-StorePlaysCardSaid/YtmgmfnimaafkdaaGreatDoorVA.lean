/- What is found on a disk whose marks aren't great; what opening a log, and acts on a store, do to a disk. No program in sight. -/
import Derived.Test.YtmgmfnimaafkdaaGreatDoorAL
import Derived.KernelRfl
import Derived.Lib.ItoaNum
import Derived.Lib.ParseIntB
import Derived.Lib.Join
import Derived.Lib.Split
import Derived.Lib.ItoaLen
namespace Go.Proofs.YtmgmfnimaafkdaaGreatDoor
set_option maxRecDepth 100000
set_option maxHeartbeats 0
def YS:List Nat:=[0x00000000,0x1DB71064,0x3B6E20C8,0x26D930AC,0x76DC4190,0x6B6B51F4,0x4DB26158,0x5005713C,0xEDB88320,0xF00F9344,0xD6D6A3E8,0xCB61B38C,0x9B64C2B0,0x86D3D2D4,0xA00AE278,0xBDBDF21C]
def LU(s:Nat):Nat:=YS.getD (s%16) 0 ^^^ (s/16)
def IN(s:Nat):Nat:=LU (LU s)
def Xr(s:Nat)(l:List UInt8):Nat:=l.foldl (fun s c=>IN (s ^^^ c.toNat)) s
def Ga(s:Nat)(l:List UInt8):Nat:=Xr (s ^^^ 0xFFFFFFFF) l ^^^ 0xFFFFFFFF
def VP(l:List UInt8):Nat:=Ga 0 l
theorem Em:∀i,i<16→YS.getD i 0<2^32:=by decide
theorem Dm:∀i,i<16→∀j,j<16→YS.getD i 0/2^28=YS.getD j 0/2^28→i=j:=by decide
theorem Rl{s:Nat}(h:s<2^32):LU s<2^32:=by
 unfold LU;exact Nat.xor_lt_two_pow (Em _ (Nat.mod_lt _ (by omega))) (by omega)
theorem LW{s:Nat}(h:s<2^32):LU s/2^28=YS.getD (s%16) 0/2^28:=by
 unfold LU;rw[←Nat.shiftRight_eq_div_pow,Nat.shiftRight_xor_distrib,Nat.shiftRight_eq_div_pow,Nat.shiftRight_eq_div_pow];have:s/16/2^28=0:=by omega
 rw[this,Nat.xor_zero]
variable {a c:Nat}
theorem O6{b:Nat}(h:a ^^^ b=a ^^^ c):b=c:=by
 have:=congrArg (a ^^^ ·) h;simpa [←Nat.xor_assoc]using this
theorem Zh{b:Nat}(h:b ^^^ a=c ^^^ a):b=c:=O6 (a:=a) (by rw[Nat.xor_comm a b,Nat.xor_comm a c];exact h)
theorem Gb{s t:Nat}(hs:s<2^32)(ht:t<2^32)(h:LU s=LU t):s=t:=by
 have h1:s%16=t%16:=Dm _ (Nat.mod_lt _ (by omega)) _ (Nat.mod_lt _ (by omega)) (by rw[←LW hs,←LW ht,h]);unfold LU at h;rw[h1]at h;have h2:=O6 h;omega
theorem ZP{s:Nat}(h:s<2^32):IN s<2^32:=Rl (Rl h)
theorem TP{s t:Nat}(hs:s<2^32)(ht:t<2^32)(h:IN s=IN t):s=t:=Gb hs ht (Gb (Rl hs) (Rl ht) h)
theorem VY(c:UInt8):c.toNat<2^32:=by have:=c.toNat_lt;omega
theorem Up:∀(l:List UInt8) {s:Nat},s<2^32→Xr s l<2^32
 |[],_,h=>h
 |c::l,_,h=>Up l (ZP (Nat.xor_lt_two_pow h (VY c)))
theorem T3:∀(l:List UInt8) {s t:Nat},s<2^32→t<2^32→Xr s l=Xr t l→s=t
 |[],_,_,_,_,h=>h
 |c::l,_,_,hs,ht,h=>Zh (TP (Nat.xor_lt_two_pow hs (VY c)) (Nat.xor_lt_two_pow ht (VY c)) (T3 l (ZP (Nat.xor_lt_two_pow hs (VY c))) (ZP (Nat.xor_lt_two_pow ht (VY c))) h))
theorem Zr(s:Nat)(a b:List UInt8):Xr s (a++b)=Xr (Xr s a) b:=by unfold Xr;rw[List.foldl_append]
theorem Px(a b:List UInt8){c d:UInt8}(h:c≠d):VP (a++c::b)≠VP (a++d::b):=by
 intro he;unfold VP Ga at he;have h1:=Zh he;have h0:(0 ^^^ 0xFFFFFFFF:Nat)<2^32:=by decide
 rw[Zr,Zr]at h1;have hp:=Up a h0;generalize Xr (0 ^^^ 0xFFFFFFFF) a=p at*
 have h2:Xr (IN (p ^^^ c.toNat)) b=Xr (IN (p ^^^ d.toNat)) b:=h1;have h3:=T3 b (ZP (Nat.xor_lt_two_pow hp (VY c))) (ZP (Nat.xor_lt_two_pow hp (VY d))) h2;have h4:=O6 (TP (Nat.xor_lt_two_pow hp (VY c)) (Nat.xor_lt_two_pow hp (VY d)) h3);exact h (UInt8.toNat_inj.1 h4)
theorem Rj(l:List UInt8):VP l<2^32:=Nat.xor_lt_two_pow (Up l (by decide)) (by decide)
def be(k n:Nat):List UInt8:=(List.range k).map fun i=>UInt8.ofNat (n >>> (8*(k-1-i)))
def num(l:List UInt8):Nat:=l.foldl (fun n c=>n*256+c.toNat) 0
theorem KQ(k n:Nat):(be k n).length=k:=by simp[be]
theorem Uu(l:List UInt8)(c:UInt8):num (l++[c])=num l*256+c.toNat:=by simp[num]
theorem DH(k n:Nat):be (k+1) n=be k (n/256)++[UInt8.ofNat n]:=by
 unfold be;rw[List.range_succ,List.map_append,List.map_singleton];congr 1
 ·refine List.map_congr_left fun i hi=> ?_
  rw[List.mem_range]at hi;have e:8*(k+1-1-i)=8+8*(k-1-i):=by omega
  rw[e,Nat.shiftRight_add,Nat.shiftRight_eq_div_pow n 8]
 have e:8*(k+1-1-k)=0:=by omega
 rw[e,Nat.shiftRight_zero]
theorem RP:∀(k n:Nat),n<256^k→num (be k n)=n
 |0,n,h=>by simp at h;subst h;rfl
 |k+1,n,h=>by
  rw[DH,Uu,RP k (n/256) (by rw[Nat.pow_succ]at h;omega)];have:(UInt8.ofNat n).toNat=n%256:=by simp
  rw[this];omega
theorem Tz:∀(l:List UInt8)(a k:Nat),a<256^k→l.foldl (fun n c=>n*256+c.toNat) a<256^(k+l.length)
 |[],a,k,h=>h
 |c::l,a,k,h=>by
  have hc:=c.toNat_lt;have:=Tz l (a*256+c.toNat) (k+1) (by rw[Nat.pow_succ];omega);rw[List.length_cons,show k+(l.length+1)=k+1+l.length by omega];exact this
theorem W6(l:List UInt8):num l<256^l.length:=by
 have:=Tz l 0 0 (by decide);rw[Nat.zero_add]at this;exact this
theorem Dn:∀(a b:List UInt8),a.length=b.length→num a=num b→a=b:=by
 intro a
 suffices h:∀(n:Nat)(a b:List UInt8),a.length=n→b.length=n→num a=num b→a=b from fun b hl he=>h _ a b rfl hl.symm he
 intro n
 induction n with
 |zero=>intro a b ha hb _;rw[List.eq_nil_of_length_eq_zero ha,List.eq_nil_of_length_eq_zero hb]
 |succ n ih=>
  intro a b ha hb he;obtain⟨a',c,rfl⟩:∃a' c,a=a'++[c]:=⟨a.dropLast,a.getLast (fun e=>by simp[e]at ha),(List.dropLast_concat_getLast _).symm⟩;obtain⟨b',d,rfl⟩:∃b' d,b=b'++[d]:=⟨b.dropLast,b.getLast (fun e=>by simp[e]at hb),(List.dropLast_concat_getLast _).symm⟩;rw[Uu,Uu]at he;have hc:=c.toNat_lt;have hd:=d.toNat_lt;have h1:num a'=num b':=by omega
  have h2:c.toNat=d.toNat:=by omega
  rw[ih a' b' (by simpa using ha) (by simpa using hb) h1,UInt8.toNat_inj.1 h2]
/-! ### a sector of a record -/
structure P7 where
 kind:Nat
 mark:Nat
 left:Nat
 first:Bool
 bytes:List UInt8
 deriving DecidableEq
def VO(size kind mark:Nat)(b:List UInt8)(first:Bool):List UInt8:=
 UInt8.ofNat kind::(be 8 mark++(be 4 b.length++((if first then 1 else 0)::(b.take (size-18)++List.replicate (size-18-b.length) 0))))
def JZ(size kind mark:Nat)(b:List UInt8)(first:Bool):List UInt8:=VO size kind mark b first++be 4 (VP (VO size kind mark b first))
variable {b:List UInt8} {kind mark size:Nat}
theorem Zg{first:Bool}(h:18≤size):(VO size kind mark b first).length=size-4:=by
 simp[VO,KQ];omega
theorem ZZ{first:Bool}(h:18≤size):(JZ size kind mark b first).length=size:=by
 simp[JZ,KQ,Zg h];omega
def Vc(l:List UInt8):Bool:=l.all (· ==0)
def J4(s:List UInt8):Option P7:=
 if s.length<19 then none
 else if num (s.drop (s.length-4))≠VP (s.take (s.length-4))then none
 else
  let kind:=num (s.take 1)
  let mark:=num ((s.drop 1).take 8)
  let left:=num ((s.drop 9).take 4)
  let f:=num ((s.drop 13).take 1)
  let many:=min left (s.length-18)
  if kind=0∨1<f∨2^30<left∨(f≠1∧left=0)∨Vc ((s.drop (14+many)).take (s.length-4-(14+many)))=false then none
  else some ⟨kind,mark,left,f==1,(s.drop 14).take many⟩
theorem Uq(c:UInt8):num [c]=c.toNat:=by simp[num]
theorem MB(a f:UInt8)(m n r:List UInt8)(hm:m.length=8)(hn:n.length=4):
  let l:=a::(m++(n++(f::r)))
  l.take 1=[a]∧(l.drop 1).take 8=m∧(l.drop 9).take 4=n∧(l.drop 13).take 1=[f]∧l.drop 14=r:=by
 intro l;have h1:l.drop 1=m++(n++(f::r)):=rfl;have h9:l.drop 9=n++(f::r):=by
  show(m++(n++(f::r))).drop 8=_;rw[List.drop_append,hm,List.drop_eq_nil_of_le (by omega)];simp
 have b:l.drop 13=f::r:=by
  have:l.drop 13=(l.drop 9).drop 4:=by rw[List.drop_drop]
  rw[this,h9,List.drop_append,hn,List.drop_eq_nil_of_le (by omega)];simp
 have c:l.drop 14=r:=by
  have:l.drop 14=(l.drop 13).drop 1:=by rw[List.drop_drop]
  rw[this,b];rfl
 refine⟨rfl, ?_, ?_, ?_,c⟩
 ·rw[h1,List.take_append_of_le_length (by omega),List.take_of_length_le (by omega)]
 ·rw[h9,List.take_append_of_le_length (by omega),List.take_of_length_le (by omega)]
 rw[b];rfl
theorem Rp(n:Nat):Vc (List.replicate n 0)=true:=by
 unfold Vc;rw[List.all_replicate];split<;>rfl
theorem ZG{first:Bool}(hs:19≤size)(hk:0<kind)(hk2:kind<256)(hm:mark<2^64)(hb:b.length≤2^30)(hf:first=true∨b≠[]):
  J4 (JZ size kind mark b first)=some ⟨kind,mark,b.length,first,b.take (size-18)⟩:=by
 have hl:=ZZ (size:=size) (kind:=kind) (mark:=mark) (b:=b) (first:=first) (by omega);have hh:=Zg (size:=size) (kind:=kind) (mark:=mark) (b:=b) (first:=first) (by omega);have hc:VP (VO size kind mark b first)<256^4:=Rj _;have c:(JZ size kind mark b first).take (size-4)=VO size kind mark b first:=by
  unfold JZ;rw[List.take_append_of_le_length (by omega),List.take_of_length_le (by omega)]
 have f:(JZ size kind mark b first).drop (size-4)=be 4 (VP (VO size kind mark b first)):=by
  unfold JZ;rw[List.drop_append_of_le_length (by omega),List.drop_eq_nil_of_le (by omega),List.nil_append]
 unfold J4;rw[hl,if_neg (by omega),c,f,RP 4 _ hc,if_neg (by simp)];have a:JZ size kind mark b first=UInt8.ofNat kind::(be 8 mark++(be 4 b.length++((if first then 1 else 0)::((b.take (size-18)++List.replicate (size-18-b.length) 0)++be 4 (VP (VO size kind mark b first)))))):=by
  conv=>lhs;unfold JZ
  conv=>lhs;lhs;unfold VO
  simp
 obtain⟨p1,p2,p3,p4,p5⟩:=MB (UInt8.ofNat kind) (if first then 1 else 0) (be 8 mark) (be 4 b.length) ((b.take (size-18)++List.replicate (size-18-b.length) 0)++be 4 (VP (VO size kind mark b first))) (KQ _ _) (KQ _ _);rw[←a]at p1 p2 p3 p4 p5;have d:b.length<256^4:=by omega
 have n1:num ((JZ size kind mark b first).take 1)=kind:=by rw[p1,Uq];simp;omega
 have n2:num (((JZ size kind mark b first).drop 1).take 8)=mark:=by rw[p2,RP 8 _ (by omega)]
 have n3:num (((JZ size kind mark b first).drop 9).take 4)=b.length:=by rw[p3,RP 4 _ d]
 have n4:num (((JZ size kind mark b first).drop 13).take 1)=(if first then 1 else 0):=by rw[p4,Uq];cases first<;>rfl
 have n5:((JZ size kind mark b first).drop 14).take (min b.length (size-18))=b.take (size-18):=by
  rw[p5,List.append_assoc,List.take_append_of_le_length (by rw[List.length_take];omega),List.take_take,Nat.min_assoc,Nat.min_self,Nat.min_comm,←List.take_take,List.take_of_length_le nR]
 have n6:Vc (((JZ size kind mark b first).drop (14+min b.length (size-18))).take (size-4-(14+min b.length (size-18))))=true:=by
  have e:(JZ size kind mark b first).drop (14+min b.length (size-18))=List.replicate (size-18-b.length) 0++be 4 (VP (VO size kind mark b first)):=by
   rw[←List.drop_drop,p5,List.append_assoc,List.drop_append,List.length_take,List.drop_eq_nil_of_le (by rw[List.length_take];omega)];simp[Nat.min_comm]
  rw[e,List.take_append_of_le_length (by rw[List.length_replicate];omega),List.take_of_length_le (by rw[List.length_replicate];omega)];exact Rp _
 simp only[n1,n2,n3,n4,n5,n6];rw[if_neg ?_]
 ·cases first<;>rfl
 rintro(h|h|h|⟨h1,h2⟩|h)
 ·omega
 ·cases first<;>simp at h
 ·omega
 ·rcases hf with rfl|hf
  ·exact h1 rfl
  exact hf (List.eq_nil_of_length_eq_zero h2)
 cases h
theorem Ut{a:List UInt8}{c d:UInt8}(h:c≠d){x:P7}(hx:J4 (a++c::b)=some x):J4 (a++d::b)=none:=by
 have hl:(a++d::b).length=(a++c::b).length:=by simp
 have g:¬(a++c::b).length<19:=by
  intro h1;unfold J4 at hx;rw[if_pos h1]at hx;cases hx
 have f:num ((a++c::b).drop ((a++c::b).length-4))=VP ((a++c::b).take ((a++c::b).length-4)):=by
  unfold J4 at hx;rw[if_neg g]at hx;by_cases h2:num ((a++c::b).drop ((a++c::b).length-4))=VP ((a++c::b).take ((a++c::b).length-4))
  ·exact h2
  rw[if_pos h2]at hx;cases hx
 unfold J4;rw[hl,if_neg g,if_pos];generalize hn:(a++c::b).length-4=n at*
 have a0:(a++c::b).length=a.length+b.length+1:=by simp;omega
 by_cases hi:a.length<n
 ·have e:∀y:UInt8,(a++y::b).take n=a++y::b.take (n-a.length-1)∧(a++y::b).drop n=b.drop (n-a.length-1):=fun y=>by
   obtain⟨m,hm⟩:∃m,n-a.length=m+1:=⟨n-a.length-1,by omega⟩;rw[List.take_append,List.drop_append,List.take_of_length_le (by omega),List.drop_eq_nil_of_le (by omega),hm];exact⟨rfl,by simp⟩
  rw[(e d).1,(e d).2];rw[(e c).1,(e c).2]at f;rw[f];exact Px a _ h
 have e:∀y:UInt8,(a++y::b).take n=a.take n∧(a++y::b).drop n=a.drop n++y::b:=fun y=>
  ⟨by rw[List.take_append_of_le_length (by omega)],by rw[List.drop_append_of_le_length (by omega)]⟩
 rw[(e d).1,(e d).2];rw[(e c).1,(e c).2]at f;rw[←f];intro h3;have h4:=Dn _ _ (by simp) h3;have h5:=List.append_cancel_left h4;injection h5 with h5;exact h h5.symm
/-! ### the DC -/
inductive XR where
 |zero
 |torn
 |data (b:List UInt8) (YT:Bool)
 deriving DecidableEq
structure Qq where
 size:Nat
 Qk:List XR
 waits:List (Nat × XR)
 off:Bool
 deriving DecidableEq
def Qq.told(d:Qq)(n:Nat):XR:=match d.waits.reverse.find? (fun w=>w.1==n)with
 |some w=>w.2
 |none=>d.Qk.getD n .zero
def Vh(d:Qq)(n:Nat):Nat × List UInt8:=
 if d.Qk.length≤n then(1,[])else if d.off then(10,[])else match d.told n with
  |.torn=>(9,[])
  |.zero=>(0,List.replicate d.size 0)
  |.data b _=>(0,b)
def Jz(d:Qq)(n:Nat)(b:List UInt8):Nat × Qq:=
 if d.Qk.length≤n∨b.length≠d.size then(1,d)else if d.off then(10,d)else(0,{ d with waits:=d.waits++[(n,.data b false)] })
def Q4(d:Qq):Nat × Qq:=if d.off then(10,d)else(0,{ d with Qk:=d.waits.foldl (fun l w=>l.set w.1 w.2) d.Qk,waits:=[] })
def Gf(keep:List Bool)(torn:Int):Nat→List (Nat × XR)→List XR→List XR
 |_,[],l=>l
 |i,w::r,l=>Gf keep torn (i+1) r (if(i:Int)=torn then l.set w.1 .torn else if keep.getD i false then l.set w.1 w.2 else l)
def Iy(d:Qq)(keep:List Bool)(torn:Int):Qq:=if d.off then d else { d with Qk:=Gf keep torn 0 d.waits d.Qk,waits:=[],off:=true }
def Dc(d:Qq):Qq:={ d with off:=false }
def JA(QJ size:Nat):Qq:=⟨size,List.replicate QJ .zero,[],false⟩
/-! ### records in QJ -/
def Qf(size bytes:Nat):Nat:=if size<19∨4096<size∨2^30<bytes then 0 else max ((bytes+(size-18)-1)/(size-18)) 1
def Vl(kind mark:Nat)(b:List UInt8)(size at':Nat):Nat→Nat→Qq→Nat × Qq
 |0,_,d=>(0,d)
 |k+1,i,d=>match Jz d (at'+i) (JZ size kind mark (b.drop (i*(size-18))) (i==0))with
  |(0,d')=>Vl kind mark b size at' k (i+1) d'
  |(e,d')=>(e,d')
def KN(d:Qq)(at' kind mark:Nat)(b:List UInt8):Nat × Nat × Qq:=
 if d.Qk.length≤at'∨kind=0 then(0,1,d)
 else if ¬(1≤Qf d.size b.length∧Qf d.size b.length≤d.Qk.length-at')then(0,5,d)
 else match Vl kind mark b d.size at' (Qf d.size b.length) 0 d with
  |(0,d')=>(Qf d.size b.length,0,d')
  |(e,d')=>(0,e,d')
structure Yn where
 kind:Nat
 mark:Nat
 bytes:List UInt8
 many:Nat
 deriving DecidableEq
def Va(d:Qq)(at':Nat):Nat→Nat→P7→List UInt8→Nat × Yn
 |0,_,_,_=>(8,⟨0,0,[],0⟩)
 |k+1,i,head,out=>
  match Vh d (at'+i)with
  |(0,s)=>
   if i=0∧Vc s=true then(2,⟨0,0,[],0⟩)
   else match J4 s with
    |none=>(8,⟨0,0,[],0⟩)
    |some x=>
     if i=0∧x.first=false then(2,⟨0,0,[],0⟩)
     else if 0<i∧(x.first=true∨x.kind≠head.kind∨x.mark≠head.mark∨x.left+out.length≠head.left)then(8,⟨0,0,[],0⟩)
     else
      let h:=if i=0 then x else head
      if(out++x.bytes).length=h.left then(0,⟨h.kind,h.mark,out++x.bytes,i+1⟩)else Va d at' k (i+1) h (out++x.bytes)
  |(e,_)=>(e,⟨0,0,[],0⟩)
def KE(d:Qq)(at':Nat):Nat × Yn:=if d.Qk.length≤at' then(1,⟨0,0,[],0⟩)else Va d at' (d.Qk.length-at') 0 ⟨0,0,0,false,[]⟩ []
/-! ### the log -/
structure QD where
 Ky:Nat
 half:Nat
 size:Nat
 use:Nat
 epoch:Nat
 at':Nat
 Qo:List (Nat × List UInt8)
 deriving DecidableEq
def QD.begin(l:QD)(h:Nat):Nat:=l.Ky+h*l.half
def QD.Jb(l:QD)(r:Nat × List UInt8):Nat:=Qf l.size (1+r.2.length)
def QD.left(l:QD):Nat:=l.begin l.use+l.half-l.at'
def J7(r:Nat × List UInt8):List UInt8:=UInt8.ofNat r.1::r.2
def J6:Nat:=1048576
def VN(d:Qq)(l:QD)(r:Nat × List UInt8):Nat × Qq × QD:=
 if 4000<r.2.length then(1,d,l)
 else if l.left<l.Jb r∨l.Qo.length=1000000 then(5,d,l)
 else match KN d l.at' 82 (l.epoch*J6+l.Qo.length+1) (J7 r)with
  |(n,0,d')=>(0,d',{ l with at':=l.at'+n,Qo:=l.Qo++[r] })
  |(_,e,d')=>(e,d',l)
def JB(size epoch:Nat):List (Nat × List UInt8)→Nat→Nat→Qq→Nat × Nat × Qq
 |[],_,at',d=>(0,at',d)
 |r::rs,i,at',d=>match KN d at' 82 (epoch*J6+i+1) (J7 r)with
  |(n,0,d')=>JB size epoch rs (i+1) (at'+n) d'
  |(_,e,d')=>(e,at',d')
def Vx:Nat→Nat→Qq→Nat × Qq
 |0,_,d=>(0,d)
 |k+1,n,d=>match Jz d n (List.replicate d.size 0)with
  |(0,d')=>Vx k (n+1) d'
  |(e,d')=>(e,d')
def Ku(d:Qq)(l:QD)(keep:List (Nat × List UInt8)):Nat × Qq × QD:=
 let half:=1-l.use
 let epoch:=l.epoch+1
 let b:=l.begin half
 match JB l.size epoch keep 0 (b+Qf l.size 0) d with
 |(0,at',d1)=>match Vx (b+l.half-at') at' d1 with
  |(0,d2)=>match Q4 d2 with
   |(0,d3)=>match KN d3 b 72 epoch []with
    |(_,0,d4)=>match Q4 d4 with
     |(0,d5)=>(0,d5,{ l with use:=half,epoch:=epoch,at':=at',Qo:=keep })
     |(e,d5)=>(e,d5,l)
    |(_,e,d4)=>(e,d4,l)
   |(e,d3)=>(e,d3,l)
  |(e,d2)=>(e,d2,l)
 |(e,_,d1)=>(e,d1,l)
def Ju(d:Qq)(l:QD)(keep:List (Nat × List UInt8)):Nat × Qq × QD:=
 if keep.any (fun r=>4000<r.2.length)then(1,d,l)
 else if l.half<Qf l.size 0+(keep.map l.Jb).sum∨1000000<keep.length then(5,d,l)
 else Ku d l keep
def Kt(d:Qq):Nat→QD→Nat × QD
 |0,l=>(0,l)
 |k+1,l=>
  if l.begin l.use+l.half≤l.at' then(0,l)
  else match KE d l.at' with
   |(10,_)=>(10,l)
   |(0,r)=>
    if r.kind≠82∨r.mark≠l.epoch*J6+l.Qo.length+1∨r.bytes=[]∨l.begin l.use+l.half-l.at'<r.many then(0,l)
    else Kt d k { l with Qo:=l.Qo++[((r.bytes.headD 0).toNat,r.bytes.drop 1)],at':=l.at'+r.many }
   |(_,_)=>(0,l)
def Jm(d:Qq)(l:QD)(h:Nat)(found:Bool):Nat × QD × Bool:=
 match KE d (l.begin h)with
 |(10,_)=>(10,l,found)
 |(0,r)=>if r.kind≠72∨r.bytes≠[]then(0,l,found)else if found=false∨l.epoch<r.mark then(0,{ l with use:=h,epoch:=r.mark },true)else(0,l,found)
 |(_,_)=>(0,l,found)
def On(d:Qq)(l0:QD):Nat × QD:=
 match Jm d { l0 with use:=1,epoch:=0 } 0 false with
 |(0,l1,f1)=>match Jm d l1 1 f1 with
  |(0,l2,f2)=>if f2 then Kt d (l2.half+1) { l2 with at':=l2.begin l2.use+Qf l2.size 0 }else(0,{ l2 with at':=l2.begin l2.use })
  |(e,l2,_)=>(e,l2)
 |(e,l1,_)=>(e,l1)
def ZR(d:Qq)(Ky QJ:Nat):Nat × Qq × QD:=
 let l:QD:=⟨Ky,QJ/2,d.size,0,0,0,[]⟩
 if d.size<19∨QJ<4∨d.Qk.length<QJ∨d.Qk.length-QJ<Ky then(1,d,l)
 else match On d l with
  |(0,l1)=>Ku d l1 l1.Qo
  |(e,l1)=>(e,d,l1)
/-! ### which QJ are free -/
structure Jt where
 Ky:Nat
 QJ:Nat
 free:List (Nat × Nat)
 deriving DecidableEq
def Kl(f:List (Nat × Nat))(i at' len:Nat):List (Nat × Nat):=
 let x:=f.getD i (0,0)
 f.take i++((if x.1<at' then[(x.1,at'-x.1)]else[])++(if at'+len<x.1+x.2 then[(at'+len,x.1+x.2-(at'+len))]else[]))++f.drop (i+1)
def XZ(m:Jt)(n:Nat):Nat × (Nat × Nat) × Jt:=
 if n<1 then(1,(0,0),m)else match m.free.findIdx? (fun f=>n≤f.2)with
  |some i=>(0,((m.free.getD i (0,0)).1,n),{ m with free:=Kl m.free i (m.free.getD i (0,0)).1 n })
  |none=>(5,(0,0),m)
def X6(m:Jt)(at' len:Nat):Bool:=1≤len&&len≤m.QJ&&m.Ky≤at'&&at'-m.Ky≤m.QJ-len
def Vg(m:Jt)(at':Nat):Nat:=(m.free.findIdx? (fun f=>at'<f.1+f.2)).getD m.free.length
def KA(m:Jt)(at' len:Nat):Nat × Jt:=
 if X6 m at' len=false then(1,m)
 else
  let i:=Vg m at'
  if i=m.free.length∨at'<(m.free.getD i (0,0)).1∨(m.free.getD i (0,0)).1+(m.free.getD i (0,0)).2<at'+len then(7,m)
  else(0,{ m with free:=Kl m.free i at' len })
def JF(m:Jt)(at' len:Nat):Nat × Jt:=
 if X6 m at' len=false then(1,m)
 else
  let i:=Vg m at'
  if i<m.free.length∧(m.free.getD i (0,0)).1<at'+len then(6,m)
  else
   let back:=0<i∧(m.free.getD (i-1) (0,0)).1+(m.free.getD (i-1) (0,0)).2=at'
   let e1:Nat × Nat:=if back then((m.free.getD (i-1) (0,0)).1,(m.free.getD (i-1) (0,0)).2+len)else(at',len)
   let i1:=if back then i-1 else i
   let on:=i<m.free.length∧(m.free.getD i (0,0)).1=at'+len
   let e2:Nat × Nat:=if on then(e1.1,e1.2+(m.free.getD i (0,0)).2)else e1
   let j:=if on then i+1 else i
   (0,{ m with free:=m.free.take i1++e2::m.free.drop j })
/-! ### the store -/
abbrev Qj:=Int × Int
structure Qx where
 at':Int
 len:Nat
 bytes:Nat
 mark:Int
 deriving DecidableEq
structure QM where
 d:Qq
 log:QD
 map:Jt
 notes:List (Int × List UInt8)
 Qc:List (Qj × Qx)
 marks:List (List UInt8)
 epoch:Nat
 QA:Nat
 deriving DecidableEq
def KM{α:Type}(k:Int)(v:α):List (Int × α)→List (Int × α)
 |[]=>[(k,v)]
 |(a,x)::l=>if k<a then(k,v)::(a,x)::l else if a=k then(k,v)::l else(a,x)::KM k v l
def Wq(a b:Qj):Bool:=a.1<b.1||(a.1==b.1&&a.2<b.2)
def JL{α:Type}(k:Qj)(v:α):List (Qj × α)→List (Qj × α)
 |[]=>[(k,v)]
 |(a,x)::l=>if Wq k a then(k,v)::(a,x)::l else if a=k then(k,v)::l else(a,x)::JL k v l
def Qs(n:Int):Bool:=0≤n&&n≤1099511627776
def Qi(l:List Int):List UInt8:=Lib.join (l.map Lib.itoa) [32]
def F9(l:List UInt8):Option Int:=match Lib.parseIntB 64 l with
 |.ok v=>some v
 |_=>none
def XP(s:List UInt8)(many:Nat):Option (List Int):=
 match (Lib.split s [32]).mapM F9 with
 |some l=>if l.length=many∧Qi l=s then some l else none
 |none=>none
def Bh(s:List UInt8):Option (List UInt8 × List UInt8):=if 32∈s then some (s.takeWhile (· != 32),(s.dropWhile (· != 32)).drop 1)else none
abbrev QN:=Nat × List UInt8
def Ka(n:Qj)(x:Qx):QN:=(83,Qi [n.1,n.2,x.at',x.bytes,x.mark])
def Qn(s:QM):List QN:=
 (s.notes.map fun n=>(78,Qi [n.1]++32::n.2))++(s.Qc.map fun n=>Ka n.1 n.2)++(s.marks.map fun m=>(77,m))
def Zf(s:QM)(r:QN):QM:=
 if r.1=78 then match Bh r.2 with
  |some (first,note)=>match XP first 1 with
   |some [v]=>if Qs v then { s with notes:=KM v note s.notes }else s
   |_=>s
  |none=>s
 else if r.1=77 then { s with marks:=s.marks++[r.2] }
 else if r.1=83 then match XP r.2 5 with
  |some [v,n,a,b,m]=>if Qs v&&Qs n&&1≤b&&b≤1048576 then { s with Qc:=JL (v,n) ⟨a,Qf s.d.size b.toNat,b.toNat,m⟩ s.Qc }else s
  |_=>s
 else if r.1=68 then match XP r.2 2 with
  |some [v,n]=>{ s with Qc:=s.Qc.filter fun x=>x.1≠(v,n) }
  |_=>s
 else if r.1=70 then match XP r.2 1 with
  |some [v]=>{ s with notes:=s.notes.filter (fun x=>x.1≠v),Qc:=s.Qc.filter fun x=>x.1.1≠v }
  |_=>s
 else if r.1=84 then match XP r.2 1 with
  |some [k]=>if 0≤k∧k<s.marks.length then { s with marks:=s.marks.drop (s.marks.length-k.toNat) }else s
  |_=>s
 else s
def Jj(d:Qq)(x:Qx):Nat × List UInt8:=
 if x.at'<0 then(8,[])else match KE d x.at'.toNat with
 |(10,_)=>(10,[])
 |(0,r)=>if r.kind≠83∨(r.mark:Int)≠x.mark∨r.bytes.length≠x.bytes then(8,[])else(0,r.bytes)
 |(_,_)=>(8,[])
def Kg(d:Qq):List (Qj × Qx)→Jt→Nat × List (Qj × Qx) × Jt
 |[],m=>(0,[],m)
 |(n,x)::l,m=>match Jj d x with
  |(10,_)=>(10,[],m)
  |(0,_)=>if x.at'<0 then match Kg d l m with
     |(e,r,m')=>(e,r,m')
    else match KA m x.at'.toNat x.len with
    |(0,m1)=>match Kg d l m1 with
     |(e,r,m')=>(e,(n,x)::r,m')
    |(_,_)=>Kg d l m
  |(_,_)=>Kg d l m
def Wf(d:Qq):Nat × Qq × Option QM:=
 let all:=d.Qk.length
 let quarter:=all/4
 let need:=Qf d.size 201
 if quarter<4∨need=0∨quarter/2-Qf d.size 0<need∨quarter/2<Qf d.size 0 then(1,d,none)
 else match ZR d 0 quarter with
  |(0,d1,l1)=>
   let s0:QM:=⟨d1,l1,⟨quarter,all-quarter,if 0<all-quarter then[(quarter,all-quarter)]else[]⟩,[],[],[],0,0⟩
   let s1:=l1.Qo.foldl Zf s0
   match Kg d1 s1.Qc s1.map with
   |(0,sl,m)=>
    let s2:={ s1 with Qc:=sl,map:=m }
    match Ju d1 l1 (Qn s2)with
    |(0,d2,l2)=>(0,d2,some { s2 with d:=d2,log:=l2 })
    |(e,d2,_)=>(e,d2,none)
   |(e,_,_)=>(e,d1,none)
  |(e,d1,_)=>(e,d1,none)
def Qy(s was:QM)(r:QN):Nat × QM:=
 match VN s.d s.log r with
 |(0,d1,l1)=>(0,{ s with d:=d1,log:=l1 })
 |(5,d1,l1)=>match Ju d1 l1 (Qn s)with
  |(0,d2,l2)=>(0,{ s with d:=d2,log:=l2 })
  |(e,d2,l2)=>(e,{ was with d:=d2,log:=l2 })
 |(e,d1,l1)=>(e,{ was with d:=d1,log:=l1 })
def YD(s:QM):Nat × Int × QM:=
 let go:=fun(s:QM)=>let s:=if s.epoch≠s.log.epoch then { s with epoch:=s.log.epoch,QA:=0 }else s
  (0,(s.epoch*1048576+(s.QA+1):Int),{ s with QA:=s.QA+1 })
 if s.epoch=s.log.epoch∧s.QA=1048575 then match Ju s.d s.log (Qn s)with
  |(0,d1,l1)=>go { s with d:=d1,log:=l1 }
  |(e,d1,l1)=>(e,0,{ s with d:=d1,log:=l1 })
 else go s
def MP(s:QM)(n:Qj):Option Qx:=(s.Qc.find? (fun x=>x.1==n)).map (·.2)
def Vr(s:QM):Nat × QM:=match Q4 s.d with
 |(e,d)=>(e,{ s with d:=d })
def Q6(s:QM)(n:Qj)(b:List UInt8):Nat × QM:=
 if Qs n.1=false∨Qs n.2=false∨b.length<1∨1048576<b.length then(1,s)
 else if(MP s n).isSome then(7,s)
 else match XZ s.map (Qf s.d.size b.length)with
  |(0,a,m1)=>match YD { s with map:=m1 }with
   |(0,mark,s1)=>match KN s1.d a.1 83 mark.toNat b with
    |(_,0,d1)=>
     let x:Qx:=⟨a.1,a.2,b.length,mark⟩
     let s2:={ s1 with d:=d1 }
     Qy { s2 with Qc:=JL n x s2.Qc } { s2 with map:=(JF s2.map a.1 a.2).2 } (Ka n x)
    |(_,e,d1)=>(e,{ s1 with d:=d1,map:=(JF s1.map a.1 a.2).2 })
   |(e,_,s1)=>(e,{ s1 with map:=(JF s1.map a.1 a.2).2 })
  |(e,_,_)=>(e,s)
def KC(s:QM)(v:Int)(t:List UInt8):Nat × QM:=
 if Qs v=false∨3000<t.length then(1,s)
 else match Qy { s with notes:=KM v t s.notes } s (78,Qi [v]++32::t)with
  |(0,s1)=>Vr s1
  |(e,s1)=>(e,s1)
def KO(s:QM)(t:List UInt8):Nat × QM:=
 if 3000<t.length then(1,s)
 else match Qy { s with marks:=s.marks++[t] } s (77,t)with
  |(0,s1)=>Vr s1
  |(e,s1)=>(e,s1)
def Jk(m:Jt)(x:Qx):Jt:=if x.at'<0 then m else(JF m x.at'.toNat x.len).2
def KB(s:QM)(n:Qj):Nat × QM:=
 match MP s n with
 |none=>(6,s)
 |some x=>match Qy { s with Qc:=s.Qc.filter fun y=>y.1≠n } s (68,Qi [n.1,n.2])with
  |(0,s1)=>(0,{ s1 with map:=Jk s1.map x })
  |(e,s1)=>(e,s1)
def KT(s:QM)(keep:Int):Nat × QM:=
 if keep<0 then(1,s)
 else
  let k:=min keep.toNat s.marks.length
  Qy { s with marks:=s.marks.drop (s.marks.length-k) } s (84,Qi [k])
def Mf(b:List UInt8)(bit:Nat):List UInt8:=b.set (bit/8) (b.getD (bit/8) 0 ^^^ UInt8.ofNat (2^(bit%8)))
def Qq.V2(d d':Qq):Prop:=d'.size=d.size∧d'.Qk.length=d.Qk.length∧d'.off=d.off
theorem Qq.V2.refl(d:Qq):d.V2 d:=⟨rfl,rfl,rfl⟩
theorem Qq.V2.trans{a b c:Qq}(h:a.V2 b)(k:b.V2 c):a.V2 c:=⟨k.1.trans h.1,k.2.1.trans h.2.1,k.2.2.trans h.2.2⟩
variable {d:Qq} {n:Nat}
theorem Sd(hn:n<d.Qk.length)(hb:b.length=d.size)(ho:d.off=false):∃d',Jz d n b=(0,d')∧d.V2 d':=by
 unfold Jz;rw[if_neg (by omega),if_neg (by rw[ho];simp)];exact⟨_,rfl,rfl,rfl,rfl⟩
theorem Xw(ws:List (Nat × XR)):∀l:List XR,(ws.foldl (fun l w=>l.set w.1 w.2) l).length=l.length:=by
 induction ws with
 |nil=>intro l;rfl
 |cons w ws ih=>intro l;rw[List.foldl_cons,ih,List.length_set]
theorem Yg(ho:d.off=false):∃d',Q4 d=(0,d')∧d.V2 d':=by
 unfold Q4;rw[if_neg (by rw[ho];simp)];exact⟨_,rfl,rfl,Xw _ _,rfl⟩
theorem Ma{kind mark size at':Nat}{b:List UInt8}(hs:18≤size):∀(k i:Nat)(d:Qq),d.size=size→d.off=false→at'+i+k≤d.Qk.length→∃d',Vl kind mark b size at' k i d=(0,d')∧d.V2 d'
 |0,i,d,_,_,_=>⟨d,rfl,Qq.V2.refl d⟩
 |k+1,i,d,hz,ho,hl=>by
  obtain⟨d1,h1,hL⟩:=Sd (d:=d) (n:=at'+i) (b:=JZ size kind mark (b.drop (i*(size-18))) (i==0)) (by omega) (by rw[ZZ hs,hz]) ho;obtain⟨d2,h2,a⟩:=Ma (kind:=kind) (mark:=mark) (at':=at') (b:=b) hs k (i+1) d1 (hL.1.trans hz) (hL.2.2.trans ho) (by rw[hL.2.1];omega);refine⟨d2, ?_,hL.trans a⟩;unfold Vl;rw[h1];exact h2
variable {at':Nat}
theorem Xi(hs:19≤d.size)(hk:0<kind)(ho:d.off=false)(h1:1≤Qf d.size b.length)(hl:at'+Qf d.size b.length≤d.Qk.length):
  ∃d',KN d at' kind mark b=(Qf d.size b.length,0,d')∧d.V2 d':=by
 obtain⟨d',h,hL⟩:=Ma (kind:=kind) (mark:=mark) (b:=b) (size:=d.size) (at':=at') (by omega) (Qf d.size b.length) 0 d rfl ho (by omega);refine⟨d', ?_,hL⟩;unfold KN;rw[if_neg (by omega),if_neg (by omega),h];rfl
theorem RF:∀(k n:Nat)(d:Qq),d.off=false→n+k≤d.Qk.length→∃d',Vx k n d=(0,d')∧d.V2 d'
 |0,n,d,_,_=>⟨d,rfl,Qq.V2.refl d⟩
 |k+1,n,d,ho,hl=>by
  obtain⟨d1,h1,hL⟩:=Sd (d:=d) (n:=n) (b:=List.replicate d.size 0) (by omega) (by simp) ho;obtain⟨d2,h2,a⟩:=RF k (n+1) d1 (hL.2.2.trans ho) (by rw[hL.2.1];omega);refine⟨d2, ?_,hL.trans a⟩;unfold Vx;rw[h1];exact h2
variable {bytes:Nat}
theorem JQ(h1:19≤size)(h2:size≤4096)(h3:bytes≤2^30):1≤Qf size bytes:=by
 unfold Qf;rw[if_neg (by omega)];omega
theorem Yz{size epoch:Nat}(h1:19≤size)(h2:size≤4096):∀(rs:List QN)(i at':Nat)(d:Qq),d.size=size→d.off=false→(∀r∈rs,r.2.length≤4000)→at'+(rs.map fun r=>Qf size (1+r.2.length)).sum≤d.Qk.length→
  ∃d',JB size epoch rs i at' d=(0,at'+(rs.map fun r=>Qf size (1+r.2.length)).sum,d')∧d.V2 d'
 |[],i,at',d,_,_,_,_=>⟨d,rfl,Qq.V2.refl d⟩
 |r::rs,i,at',d,hz,ho,hr,hl=>by
  have hb:(J7 r).length=1+r.2.length:=by unfold J7;simp;omega
  have h4:=hr r (by simp);have hp:1≤Qf size (1+r.2.length):=JQ h1 h2 (by omega);rw[List.map_cons,List.sum_cons]at hl;obtain⟨d1,e1,hL⟩:=Xi (d:=d) (at':=at') (kind:=82) (mark:=epoch*J6+i+1) (b:=J7 r) (by omega) (by omega) ho (by rw[hz,hb];exact hp) (by rw[hz,hb];omega);rw[hz,hb]at e1;obtain⟨d2,e2,a⟩:=Yz h1 h2 rs (i+1) (at'+Qf size (1+r.2.length)) d1 (hL.1.trans hz) (hL.2.2.trans ho) (fun x hx=>hr x (by simp[hx])) (by rw[hL.2.1];omega);refine⟨d2, ?_,hL.trans a⟩;unfold JB;rw[e1];rw[List.map_cons,List.sum_cons,←Nat.add_assoc];exact e2
variable {l:QD}
theorem OD{keep:List QN}(h1:19≤d.size)(h2:d.size≤4096)(hz:l.size=d.size)(ho:d.off=false)(hr:∀r∈keep,r.2.length≤4000)
  (hfit:Qf l.size 0+(keep.map l.Jb).sum≤l.half)(hin:l.Ky+2*l.half≤d.Qk.length):
  ∃d',Ku d l keep=(0,d',{ l with use:=1-l.use,epoch:=l.epoch+1,at':=l.begin (1-l.use)+Qf l.size 0+(keep.map l.Jb).sum,Qo:=keep })∧d.V2 d':=by
 have hb:l.begin (1-l.use)+l.half≤d.Qk.length:=by
  unfold QD.begin;have:(1-l.use)*l.half≤1*l.half:=Nat.mul_le_mul_right _ (by omega);omega
 have hn:(keep.map l.Jb).sum=(keep.map fun r=>Qf l.size (1+r.2.length)).sum:=rfl;rw[hn]at hfit ⊢;obtain⟨d1,e1,L1⟩:=Yz (size:=l.size) (epoch:=l.epoch+1) (by omega) (by omega) keep 0 (l.begin (1-l.use)+Qf l.size 0) d hz.symm ho hr (by omega);obtain⟨d2,e2,L2⟩:=RF (l.begin (1-l.use)+l.half-(l.begin (1-l.use)+Qf l.size 0+(keep.map fun r=>Qf l.size (1+r.2.length)).sum)) (l.begin (1-l.use)+Qf l.size 0+(keep.map fun r=>Qf l.size (1+r.2.length)).sum) d1 (L1.2.2.trans ho) (by rw[L1.2.1];omega);have c:=L1.trans L2;obtain⟨d3,e3,L3⟩:=Yg (d:=d2) (c.2.2.trans ho);have a:=c.trans L3;have hp:1≤Qf d.size 0:=JQ h1 h2 (by omega);obtain⟨d4,e4,L4⟩:=Xi (d:=d3) (at':=l.begin (1-l.use)) (kind:=72) (mark:=l.epoch+1) (b:=[]) (by rw[a.1];omega) (by omega) (a.2.2.trans ho) (by rw[a.1];exact hp) (by rw[a.1,a.2.1];rw[hz]at hfit;simp;omega);have e:=a.trans L4;obtain⟨d5,e5,L5⟩:=Yg (d:=d4) (e.2.2.trans ho);refine⟨d5, ?_,e.trans L5⟩;unfold Ku;simp only[e1,e2,e3,e4,e5]
/-! ### an empty DC -/
theorem O0(n k i:Nat):(JA n k).told i=.zero:=by
 unfold Qq.told JA;simp only[List.reverse_nil,List.find?_nil];rw[List.getD_eq_getElem?_getD,List.getElem?_replicate];split<;>rfl
variable {i k:Nat}
theorem Rk(h:i<n):KE (JA n k) i=(2,⟨0,0,[],0⟩):=by
 have hl:(JA n k).Qk.length=n:=by simp[JA]
 unfold KE;rw[hl,if_neg (by omega)];obtain⟨m,hm⟩:∃m,n-i=m+1:=⟨n-i-1,by omega⟩;rw[hm];unfold Va;have hr:Vh (JA n k) (i+0)=(0,List.replicate k 0):=by
  unfold Vh;rw[hl,if_neg (by omega),O0];rfl
 simp only[hr,Rp,and_self,if_true]
theorem O5(h1:19≤size)(h2:size≤4096):Qf size 0=1:=by
 unfold Qf;rw[if_neg (by omega)];have:(0+(size-18)-1)/(size-18)=0:=Nat.div_eq_of_lt (by omega);rw[this];rfl
theorem ZH(h:Qf size bytes≠0):19≤size∧size≤4096:=by
 unfold Qf at h;by_cases hc:size<19∨4096<size∨2^30<bytes
 ·rw[if_pos hc]at h;exact absurd rfl h
 omega
def KJ(n k:Nat):Bool:= !(n/4<4||Qf k 201==0||n/4/2-Qf k 0<Qf k 201||n/4/2<Qf k 0)
theorem Nl{q:Nat}(h1:19≤k)(h2:k≤4096)(hq:4≤q)(hqn:q≤n):
  ∃d,ZR (JA n k) 0 q=(0,d,⟨0,q/2,k,0,1,1,[]⟩)∧(JA n k).V2 d:=by
 have hl:(JA n k).Qk.length=n:=by simp[JA]
 have hz:(JA n k).size=k:=rfl;have a:=O5 h1 h2;have hf:On (JA n k) ⟨0,q/2,k,0,0,0,[]⟩=(0,⟨0,q/2,k,1,0,q/2,[]⟩):=by
  have g0:KE (JA n k) 0=(2,⟨0,0,[],0⟩):=Rk (by omega);have g1:KE (JA n k) (q/2)=(2,⟨0,0,[],0⟩):=Rk (by omega);simp[On,Jm,QD.begin,g0,g1]
 obtain⟨d',e,L⟩:=OD (d:=JA n k) (l:=⟨0,q/2,k,1,0,q/2,[]⟩) (keep:=[]) (by rw[hz];exact h1) (by rw[hz];exact h2) rfl rfl (fun r hr=>by cases hr) (by simp[a];omega) (by rw[hl];simp;omega);refine⟨d', ?_,L⟩;unfold ZR;simp only[hz,hl];rw[if_neg (by omega),hf];simp only[e];simp[QD.begin,a]
def TE(Qk:List XR)(ws:List (Nat × XR))(n:Nat):XR:=match ws.reverse.find? (fun w=>w.1==n)with
 |some w=>w.2
 |none=>Qk.getD n .zero
theorem Wo(d:Qq)(n:Nat):d.told n=TE d.Qk d.waits n:=rfl
theorem WU(l:List XR)(ws:List (Nat × XR))(w:Nat × XR)(n:Nat):TE l (ws++[w]) n=if w.1=n then w.2 else TE l ws n:=by
 unfold TE;rw[List.reverse_append,List.reverse_singleton,List.singleton_append,List.find?_cons];by_cases h:w.1=n
 ·simp[h]
 have:(w.1==n)=false:=by simpa using h
 simp[this,h]
theorem EG{α:Type}{P:List α→Prop}(h0:P [])(h1:∀l a,P l→P (l++[a]))(l:List α):P l:=by
 suffices h:∀n (l:List α),l.length=n→P l from h _ l rfl
 intro n
 induction n with
 |zero=>intro l hl;rw[List.eq_nil_of_length_eq_zero hl];exact h0
 |succ n ih=>
  intro l hl;have b:l≠[]:=fun e=>by simp[e]at hl
  rw[←List.dropLast_concat_getLast b];exact h1 _ _ (ih _ (by rw[List.length_dropLast];omega))
theorem Nr(l:List XR)(ws:List (Nat × XR))(n:Nat)(hn:n<l.length):TE (ws.foldl (fun l w=>l.set w.1 w.2) l) [] n=TE l ws n:=by
 induction ws using EG with
 |h0=>rfl
 |h1 ws w ih=>
  rw[List.foldl_append,WU];show(((ws.foldl (fun l w=>l.set w.1 w.2) l).set w.1 w.2).getD n .zero)=_;have a0:=Xw ws l;by_cases h:w.1=n
  ·rw[if_pos h,h,List.getD_eq_getElem?_getD,List.getElem?_set_self (by omega)];rfl
  rw[if_neg h,List.getD_eq_getElem?_getD,List.getElem?_set_ne h,←List.getD_eq_getElem?_getD];exact ih
variable {d':Qq}
theorem Uc(h:Jz d n b=(0,d'))(m:Nat):d'.told m=if n=m then .data b false else d.told m:=by
 unfold Jz at h;split at h
 ·simp at h
 split at h
 ·simp at h
 injection h with _ h;rw[←h,Wo,Wo];exact WU _ _ _ _
theorem Zw(h:Q4 d=(0,d'))(m:Nat)(hm:m<d.Qk.length):d'.told m=d.told m:=by
 unfold Q4 at h;split at h
 ·simp at h
 injection h with _ h;rw[←h,Wo,Wo];exact Nr _ _ _ hm
def OL(d:Qq)(at' kind mark:Nat)(t:List UInt8):Prop:=∀i,i<Qf d.size t.length→d.told (at'+i)=.data (JZ d.size kind mark (t.drop (i*(d.size-18))) (i==0)) false
theorem YF(h1:19≤size)(h2:size≤4096)(h3:bytes≤2^30):bytes≤Qf size bytes*(size-18)∧(0<bytes→(Qf size bytes-1)*(size-18)<bytes):=by
 unfold Qf;rw[if_neg (by omega)];have hp:0<size-18:=by omega
 generalize size-18=k at*
 have h4:=Nat.div_add_mod (bytes+k-1) k;have h5:=Nat.mod_lt (bytes+k-1) hp;generalize (bytes+k-1)/k=q at*
 constructor
 ·by_cases hb:bytes=0
  ·subst hb;simp
  have hq:1≤q:=by
   rcases Nat.eq_zero_or_pos q with h|h
   ·subst h;omega
   exact h
  rw[Nat.max_eq_left hq,Nat.mul_comm];omega
 intro hb;have hq:1≤q:=by
  rcases Nat.eq_zero_or_pos q with h|h
  ·subst h;omega
  exact h
 rw[Nat.max_eq_left hq];obtain⟨r,rfl⟩:∃r,q=r+1:=⟨q-1,by omega⟩;rw[Nat.add_sub_cancel,Nat.mul_comm];rw[Nat.mul_add]at h4;omega
theorem Z8{d:Qq}{at' kind mark:Nat}{t:List UInt8}(h:OL d at' kind mark t)(hs:19≤d.size)(hs2:d.size≤4096)(hk:0<kind)(hk2:kind<256)(hm:mark<2^64)(ht:t.length≤2^30)(h0:0<t.length)
  (ho:d.off=false)(hl:at'+Qf d.size t.length≤d.Qk.length):∀(k i:Nat)(head:P7),i+k=d.Qk.length-at'→i<Qf d.size t.length→(0<i→head=⟨kind,mark,t.length,true,t.take (d.size-18)⟩)→
  Va d at' k i head (t.take (i*(d.size-18)))=(0,⟨kind,mark,t,Qf d.size t.length⟩)
 |0,i,head,hk',hi,_=>by omega
 |k+1,i,head,hk',hi,hh=>by
  obtain⟨n1,n2⟩:=YF hs hs2 ht;have n2:=n2 h0;have a0:i*(d.size-18)<t.length:=by
   have:i*(d.size-18)≤(Qf d.size t.length-1)*(d.size-18):=Nat.mul_le_mul_right _ (by omega);omega
  have hr:Vh d (at'+i)=(0,JZ d.size kind mark (t.drop (i*(d.size-18))) (i==0)):=by
   unfold Vh;rw[if_neg (by omega),if_neg (by rw[ho];simp),h i hi]
  have j:J4 (JZ d.size kind mark (t.drop (i*(d.size-18))) (i==0))=some ⟨kind,mark,t.length-i*(d.size-18),i==0,(t.drop (i*(d.size-18))).take (d.size-18)⟩:=by
   have:=ZG (size:=d.size) (kind:=kind) (mark:=mark) (b:=t.drop (i*(d.size-18))) (first:=i==0) hs hk hk2 hm (by rw[List.length_drop];omega) (.inr (fun e=>by have:=congrArg List.length e;rw[List.length_drop]at this;simp at this;omega));rw[List.length_drop]at this;exact this
  have n:Vc (JZ d.size kind mark (t.drop (i*(d.size-18))) (i==0))=false:=by
   have e:∃r,JZ d.size kind mark (t.drop (i*(d.size-18))) (i==0)=UInt8.ofNat kind::r:=by
    unfold JZ VO;exact⟨_,rfl⟩
   obtain⟨r,e⟩:=e;rw[e];unfold Vc;rw[List.all_cons];have:(UInt8.ofNat kind==0)=false:=by
    rw[beq_eq_false_iff_ne];intro hz;have:=congrArg UInt8.toNat hz;simp at this;omega
   rw[this];rfl
  have c:t.take (i*(d.size-18))++(t.drop (i*(d.size-18))).take (d.size-18)=t.take ((i+1)*(d.size-18)):=by
   rw[←List.take_add,Nat.add_mul,Nat.one_mul]
  unfold Va;simp only[hr,n,j];have g:(t.take (i*(d.size-18))).length=i*(d.size-18):=by rw[List.length_take];omega
  by_cases hi0:i=0
  ·subst hi0;simp only[Nat.zero_mul,List.take_zero,List.drop_zero,List.nil_append,Nat.sub_zero]at c ⊢;simp only[Bool.false_eq_true,and_false,if_false,Nat.lt_irrefl,false_and,if_true,beq_self_eq_true,Bool.true_eq_false];by_cases hone:t.length≤d.size-18
   ·have a:Qf d.size t.length=1:=by
     have hp:=JQ hs hs2 ht;rcases Nat.lt_or_ge 1 (Qf d.size t.length)with h|h
     ·have:1*(d.size-18)≤(Qf d.size t.length-1)*(d.size-18):=Nat.mul_le_mul_right _ (by omega);omega
     omega
    rw[if_pos (by rw[List.length_take];omega),List.take_of_length_le hone,a]
   rw[if_neg (by rw[List.length_take];omega)];have a:1<Qf d.size t.length:=by
    rcases Nat.lt_or_ge 1 (Qf d.size t.length)with h|h
    ·exact h
    have:Qf d.size t.length*(d.size-18)≤1*(d.size-18):=Nat.mul_le_mul_right _ h;omega
   have:=Z8 h hs hs2 hk hk2 hm ht h0 ho hl k 1 ⟨kind,mark,t.length,true,t.take (d.size-18)⟩ (by omega) a (fun _=>rfl);rw[Nat.one_mul]at this;exact this
  have m:=hh (by omega);subst m;have hb:(i==0)=false:=by simpa using hi0
  have f:¬(0<i∧((i==0)=true∨kind≠kind∨mark≠mark∨t.length-i*(d.size-18)+(t.take (i*(d.size-18))).length≠t.length)):=by
   rintro⟨_,h|h|h|h⟩
   ·rw[hb]at h;cases h
   ·exact h rfl
   ·exact h rfl
   rw[g]at h;omega
  simp only[hi0,false_and,if_false];rw[if_neg f,c];by_cases hfin:t.length≤(i+1)*(d.size-18)
  ·rw[if_pos (by rw[List.length_take];omega),List.take_of_length_le hfin];have:Qf d.size t.length=i+1:=by
    rcases Nat.lt_or_ge (i+1) (Qf d.size t.length)with h|h
    ·have:(i+1)*(d.size-18)≤(Qf d.size t.length-1)*(d.size-18):=Nat.mul_le_mul_right _ (by omega);omega
    omega
   rw[this]
  rw[if_neg (by rw[List.length_take];omega)];have l:i+1<Qf d.size t.length:=by
   rcases Nat.lt_or_ge (i+1) (Qf d.size t.length)with h|h
   ·exact h
   have:Qf d.size t.length*(d.size-18)≤(i+1)*(d.size-18):=Nat.mul_le_mul_right _ h;omega
  exact Z8 h hs hs2 hk hk2 hm ht h0 ho hl k (i+1) _ (by omega) l (fun _=>rfl)
theorem La{t:List UInt8}(h:OL d at' kind mark t)(hs:19≤d.size)(hs2:d.size≤4096)(hk:0<kind)(hk2:kind<256)(hm:mark<2^64)(ht:t.length≤2^30)(h0:0<t.length)
  (ho:d.off=false)(hl:at'+Qf d.size t.length≤d.Qk.length):KE d at'=(0,⟨kind,mark,t,Qf d.size t.length⟩):=by
 have hp:=JQ hs hs2 ht;unfold KE;rw[if_neg (by omega)];have:=Z8 h hs hs2 hk hk2 hm ht h0 ho hl (d.Qk.length-at') 0 ⟨0,0,0,false,[]⟩ (by omega) hp (fun h=>absurd h (by omega));rw[Nat.zero_mul,List.take_zero]at this;exact this
/-! ### a record that is put stands there -/
theorem WB{kind mark size at':Nat}{b:List UInt8}:∀(k i:Nat)(d d':Qq),Vl kind mark b size at' k i d=(0,d')→
  (∀m,(m<at'+i∨at'+i+k≤m)→d'.told m=d.told m)∧∀j,i≤j→j<i+k→d'.told (at'+j)=.data (JZ size kind mark (b.drop (j*(size-18))) (j==0)) false
 |0,i,d,d',h=>by
  unfold Vl at h;injection h with _ h;subst h;exact⟨fun _ _=>rfl,fun j h1 h2=>by omega⟩
 |k+1,i,d,d',h=>by
  unfold Vl at h;cases hw:Jz d (at'+i) (JZ size kind mark (b.drop (i*(size-18))) (i==0))with
  |mk e d1=>
   rw[hw]at h;cases e with
   |succ e=>simp at h
   |zero=>
    simp only at h;obtain⟨h1,h2⟩:=WB k (i+1) d1 d' h;have a:=Uc hw;refine⟨fun m hm=> ?_,fun j hj1 hj2=> ?_⟩
    ·rw[h1 m (by omega),a,if_neg (by omega)]
    by_cases hji:j=i
    ·subst hji;rw[h1 _ (by omega),a,if_pos rfl]
    exact h2 j (by omega) (by omega)
theorem Oy(h:KN d at' kind mark b=(n,0,d'))(hz:d'.size=d.size):
  n=Qf d.size b.length∧OL d' at' kind mark b∧∀m,(m<at'∨at'+n≤m)→d'.told m=d.told m:=by
 unfold KN at h;split at h
 ·simp at h
 split at h
 ·simp at h
 cases hg:Vl kind mark b d.size at' (Qf d.size b.length) 0 d with
 |mk e d1=>
  rw[hg]at h;cases e with
  |succ e=>simp at h
  |zero=>
   simp only[Prod.mk.injEq,true_and]at h;obtain⟨h1,h2⟩:=h;subst h1 h2;obtain⟨g1,g2⟩:=WB _ _ _ _ hg;refine⟨rfl,fun i hi=> ?_,fun m hm=>g1 m (by omega)⟩;rw[hz]at hi ⊢;exact g2 i (by omega) (by omega)
theorem OL.keep{t:List UInt8}(h:OL d at' kind mark t)(hz:d'.size=d.size)(hk:∀m,at'≤m→m<at'+Qf d.size t.length→d'.told m=d.told m):OL d' at' kind mark t:=fun i hi=>by
 rw[hz]at hi ⊢;rw[hk _ (by omega) (by omega)];exact h i hi
/-! ### a bit is YT -/
theorem N8{bit:Nat}(h:bit/8<b.length):∃a c r c',b=a++c::r∧Mf b bit=a++c'::r∧c≠c':=by
 refine⟨b.take (bit/8),b[bit/8],b.drop (bit/8+1),b[bit/8] ^^^ UInt8.ofNat (2^(bit%8)), ?_, ?_,fun e=> ?_⟩
 ·rw[←List.drop_eq_getElem_cons h,List.take_append_drop]
 ·unfold Mf;rw[List.set_eq_take_append_cons_drop,if_pos h,List.getD_eq_getElem?_getD,List.getElem?_eq_getElem h];rfl
 have h1:b[bit/8] ^^^ b[bit/8]=b[bit/8] ^^^ (b[bit/8] ^^^ UInt8.ofNat (2^(bit%8))):=by rw[←e]
 rw[←UInt8.xor_assoc,UInt8.xor_self,UInt8.zero_xor]at h1;have h2:∀k,k<8→(0:UInt8)≠UInt8.ofNat (2^k):=by decide
 exact h2 _ (Nat.mod_lt _ (by omega)) h1
theorem LJ{first:Bool}(hk:0<kind)(hk2:kind<256):Vc (JZ size kind mark b first)=false:=by
 have e:∃r,JZ size kind mark b first=UInt8.ofNat kind::r:=by
  unfold JZ VO;exact⟨_,rfl⟩
 obtain⟨r,e⟩:=e;rw[e];unfold Vc;rw[List.all_cons];have:(UInt8.ofNat kind==0)=false:=by
  rw[beq_eq_false_iff_ne];intro hz;have:=congrArg UInt8.toNat hz;simp at this;omega
 rw[this];rfl
variable {x:Qx}
theorem Wc{t:List UInt8}(h:OL d a 83 mark t)(hx:x=⟨a,Qf d.size t.length,t.length,mark⟩)(hs:19≤d.size)(hs2:d.size≤4096)(hm:mark<2^64)(ht:t.length≤2^30)(h0:0<t.length)
  (ho:d.off=false)(hl:a+Qf d.size t.length≤d.Qk.length):Jj d x=(0,t):=by
 subst hx;unfold Jj;rw[if_neg (by simp)];simp only[Int.toNat_natCast];rw[La h hs hs2 (by omega) (by omega) hm ht h0 ho hl];simp
theorem WV:∀(k n:Nat)(d d':Qq),Vx k n d=(0,d')→∀m,(m<n∨n+k≤m)→d'.told m=d.told m
 |0,n,d,d',h,m,_=>by
  unfold Vx at h;injection h with _ h;rw[h]
 |k+1,n,d,d',h,m,hm=>by
  unfold Vx at h;cases hw:Jz d n (List.replicate d.size 0)with
  |mk e d1=>
   rw[hw]at h;cases e with
   |succ e=>simp at h
   |zero=>
    simp only at h;rw[WV k (n+1) d1 d' h m (by omega),Uc hw,if_neg (by omega)]
theorem OJ{size epoch:Nat}(h1:19≤size)(h2:size≤4096):∀(rs:List QN)(i at' b:Nat)(d d':Qq),d.size=size→d.off=false→(∀r∈rs,r.2.length≤4000)→at'+(rs.map fun r=>Qf size (1+r.2.length)).sum≤d.Qk.length→
  JB size epoch rs i at' d=(0,b,d')→∀m,(m<at'∨b≤m)→d'.told m=d.told m
 |[],i,at',b,d,d',_,_,_,_,h,m,_=>by
  unfold JB at h;simp only[Prod.mk.injEq,true_and]at h;rw[h.2]
 |r::rs,i,at',b,d,d',hz,ho,hr,hl,h,m,hm=>by
  have hb:(J7 r).length=1+r.2.length:=by unfold J7;simp;omega
  have h4:=hr r (by simp);have hp:1≤Qf size (1+r.2.length):=JQ h1 h2 (by omega);rw[List.map_cons,List.sum_cons]at hl;obtain⟨d1,e1,hL⟩:=Xi (d:=d) (at':=at') (kind:=82) (mark:=epoch*J6+i+1) (b:=J7 r) (by omega) (by omega) ho (by rw[hz,hb];exact hp) (by rw[hz,hb];omega);obtain⟨_,_,ht⟩:=Oy e1 hL.1;rw[hz,hb]at e1 ht;unfold JB at h;rw[e1]at h;simp only at h;obtain⟨d2,e2,_⟩:=Yz (epoch:=epoch) h1 h2 rs (i+1) (at'+Qf size (1+r.2.length)) d1 (hL.1.trans hz) (hL.2.2.trans ho) (fun x hx=>hr x (by simp[hx])) (by rw[hL.2.1];omega);have a0:b=at'+Qf size (1+r.2.length)+(rs.map fun r=>Qf size (1+r.2.length)).sum:=by
   rw[h]at e2;simp only[Prod.mk.injEq,true_and]at e2;exact e2.1
  rw[OJ h1 h2 rs (i+1) _ b d1 d' (hL.1.trans hz) (hL.2.2.trans ho) (fun x hx=>hr x (by simp[hx])) (by rw[hL.2.1];omega) h m (by omega)];exact ht m (by omega)
variable {l':QD}
theorem NV{keep:List QN}(h1:19≤d.size)(h2:d.size≤4096)(hz:l.size=d.size)(ho:d.off=false)(hr:∀r∈keep,r.2.length≤4000)
  (hfit:Qf l.size 0+(keep.map l.Jb).sum≤l.half)(hin:l.Ky+2*l.half≤d.Qk.length)(h:Ku d l keep=(0,d',l')):
  ∀m,m<d.Qk.length→(m<l.begin (1-l.use)∨l.begin (1-l.use)+l.half≤m)→d'.told m=d.told m:=by
 intro m hml hm;have hb:l.begin (1-l.use)+l.half≤d.Qk.length:=by
  unfold QD.begin;have:(1-l.use)*l.half≤1*l.half:=Nat.mul_le_mul_right _ (by omega);omega
 have hn:(keep.map l.Jb).sum=(keep.map fun r=>Qf l.size (1+r.2.length)).sum:=rfl;rw[hn]at hfit;obtain⟨d1,e1,L1⟩:=Yz (size:=l.size) (epoch:=l.epoch+1) (by omega) (by omega) keep 0 (l.begin (1-l.use)+Qf l.size 0) d hz.symm ho hr (by omega);obtain⟨d2,e2,L2⟩:=RF (l.begin (1-l.use)+l.half-(l.begin (1-l.use)+Qf l.size 0+(keep.map fun r=>Qf l.size (1+r.2.length)).sum)) (l.begin (1-l.use)+Qf l.size 0+(keep.map fun r=>Qf l.size (1+r.2.length)).sum) d1 (L1.2.2.trans ho) (by rw[L1.2.1];omega);have c:=L1.trans L2;obtain⟨d3,e3,L3⟩:=Yg (d:=d2) (c.2.2.trans ho);have a:=c.trans L3;have hp:1≤Qf d.size 0:=JQ h1 h2 (by omega);obtain⟨d4,e4,L4⟩:=Xi (d:=d3) (at':=l.begin (1-l.use)) (kind:=72) (mark:=l.epoch+1) (b:=[]) (by rw[a.1];omega) (by omega) (a.2.2.trans ho) (by rw[a.1];exact hp) (by rw[a.1,a.2.1];rw[hz]at hfit;simp;omega);have e:=a.trans L4;obtain⟨d5,e5,L5⟩:=Yg (d:=d4) (e.2.2.trans ho);have f:=(Oy e4 L4.1).2.2;unfold Ku at h;simp only[e1,e2,e3,e4,e5,Prod.mk.injEq,true_and]at h;rw[←h.1];rw[Zw e5 m (by rw[e.2.1];exact hml)];rw[f m (by rw[a.1];rw[hz]at hfit;simp;omega)];rw[Zw e3 m (by rw[c.2.1];exact hml)];rw[WV _ _ _ _ e2 m (by omega)];exact OJ (size:=l.size) (epoch:=l.epoch+1) (by omega) (by omega) keep 0 _ _ d d1 hz.symm ho hr (by omega) e1 m (by omega)
structure JU (d:Qq) (l:QD) (lo:Nat):Prop where
 s1:19≤d.size
 s2:d.size≤4096
 on:d.off=false
 sz:l.size=d.size
 Ky:l.Ky=0
 half:2*l.half≤lo
 lo:lo≤d.Qk.length
 use:l.use≤1
 C0:l.begin l.use+1≤l.at'
 TY:l.at'≤l.begin l.use+l.half
def Vk(lo:Nat)(d d':Qq):Prop:=d.V2 d'∧∀m,lo≤m→m<d.Qk.length→d'.told m=d.told m
theorem Vk.refl(lo:Nat)(d:Qq):Vk lo d d:=⟨Qq.V2.refl d,fun _ _ _=>rfl⟩
variable {lo:Nat}
theorem Z5(h:JU d l lo):Qf l.size 0=1:=by rw[h.sz];exact O5 h.s1 h.s2
theorem JU.XS(h:JU d l lo)(u:Nat)(hu:u≤1):l.begin u+l.half≤lo:=by
 have:=h.half;unfold QD.begin;rw[h.Ky];have:u*l.half≤1*l.half:=Nat.mul_le_mul_right _ hu;omega
theorem T4{keep:List QN}(h:JU d l lo)(hr:∀r∈keep,r.2.length≤4000):
  Ju d l keep=(5,d,l)∨∃d' l',Ju d l keep=(0,d',l')∧JU d' l' lo∧Vk lo d d'∧l'.Qo=keep∧l'.epoch=l.epoch+1:=by
 unfold Ju;have ha:keep.any (fun r=>decide (4000<r.2.length))=false:=by
  rw[List.any_eq_false];intro r hr';have:=hr r hr';simp;omega
 rw[ha];rw[if_neg (by simp)];split
 ·exact .inl rfl
 rename_i hfit;have h0:=Z5 h;have a:l.Ky+2*l.half≤d.Qk.length:=by rw[h.Ky];have:=h.half;have:=h.lo;omega
 obtain⟨d',e,L⟩:=OD h.s1 h.s2 h.sz h.on hr (by omega) a;have hb:=h.XS (1-l.use) (by omega);refine .inr ⟨d',_,e,⟨by rw[L.1];exact h.s1,by rw[L.1];exact h.s2,L.2.2.trans h.on,by rw[L.1];exact h.sz,h.Ky,h.half,by rw[L.2.1];exact h.lo,by show 1-l.use≤1;omega, ?_, ?_⟩,⟨L,fun m h1 h2=> ?_⟩,rfl,rfl⟩
 ·show l.begin (1-l.use)+1≤l.begin (1-l.use)+Qf l.size 0+(keep.map l.Jb).sum;omega
 ·show l.begin (1-l.use)+Qf l.size 0+(keep.map l.Jb).sum≤l.begin (1-l.use)+l.half;omega
 exact NV h.s1 h.s2 h.sz h.on hr (by omega) a e m h2 (by omega)
theorem Mw{r:QN}(h:JU d l lo)(hr:r.2.length≤4000):
  VN d l r=(5,d,l)∨∃d' l',VN d l r=(0,d',l')∧JU d' l' lo∧Vk lo d d'∧l'.Qo=l.Qo++[r]∧l'.epoch=l.epoch:=by
 unfold VN;rw[if_neg (by omega)];split
 ·exact .inl rfl
 rename_i hfit;have hb:(J7 r).length=1+r.2.length:=by unfold J7;simp;omega
 have hp:1≤Qf d.size (1+r.2.length):=JQ h.s1 h.s2 (by omega);have a1:=h.XS l.use h.use;have a2:=h.lo;have h1:=h.C0;have h2:=h.TY;have a:l.Jb r=Qf d.size (1+r.2.length):=by unfold QD.Jb;rw[h.sz]
 have a0:Qf d.size (1+r.2.length)≤l.begin l.use+l.half-l.at':=by
  rw[←a];have:l.left=l.begin l.use+l.half-l.at':=rfl;omega
 obtain⟨d',e,L⟩:=Xi (d:=d) (at':=l.at') (kind:=82) (mark:=l.epoch*J6+l.Qo.length+1) (b:=J7 r) h.s1 (by omega) h.on (by rw[hb];exact hp) (by rw[hb];omega);have ht:=(Oy e L.1).2.2;rw[hb]at e ht;rw[e];refine .inr ⟨d',_,rfl,⟨by rw[L.1];exact h.s1,by rw[L.1];exact h.s2,L.2.2.trans h.on,by rw[L.1];exact h.sz,h.Ky,h.half,by rw[L.2.1];exact h.lo,h.use, ?_, ?_⟩,⟨L,fun m g1 g2=>ht m (by omega)⟩,rfl,rfl⟩
 ·show l.begin l.use+1≤l.at'+Qf d.size (1+r.2.length);omega
 show l.at'+Qf d.size (1+r.2.length)≤l.begin l.use+l.half;omega
def Rb(f:List (Nat × Nat)):Prop:=f.Pairwise (fun x y=>x.1+x.2≤y.1)∧∀e∈f,1≤e.2
def Jp(f:List (Nat × Nat))(k:Nat):Prop:=∃e∈f,e.1≤k∧k<e.1+e.2
theorem Rb.split{A B:List (Nat × Nat)}{x:Nat × Nat}(h:Rb (A++x::B)):Rb A∧Rb B∧1≤x.2∧(∀a∈A,a.1+a.2≤x.1)∧(∀b∈B,x.1+x.2≤b.1)∧∀a∈A,∀b∈B,a.1+a.2≤b.1:=by
 obtain⟨h1,h2⟩:=h;rw[List.pairwise_append,List.pairwise_cons]at h1;obtain⟨p1,⟨p2,p3⟩,p4⟩:=h1;exact⟨⟨p1,fun e he=>h2 e (by simp[he])⟩,⟨p3,fun e he=>h2 e (by simp[he])⟩,h2 x (by simp),fun a ha=>p4 a ha x (by simp),p2,fun a ha b hb=>p4 a ha b (by simp[hb])⟩
theorem Rb.join{A M B:List (Nat × Nat)}(hA:Rb A)(hM:Rb M)(hB:Rb B)(h1:∀a∈A,∀m∈M,a.1+a.2≤m.1)(h2:∀m∈M,∀b∈B,m.1+m.2≤b.1)(h3:∀a∈A,∀b∈B,a.1+a.2≤b.1):Rb (A++M++B):=by
 refine⟨?_,fun e he=> ?_⟩
 ·rw[List.pairwise_append,List.pairwise_append];refine⟨⟨hA.1,hM.1,h1⟩,hB.1,fun a ha b hb=> ?_⟩;rcases List.mem_append.1 ha with ha|ha
  ·exact h3 a ha b hb
  exact h2 a ha b hb
 rcases List.mem_append.1 he with he|he
 ·rcases List.mem_append.1 he with he|he
  ·exact hA.2 e he
  exact hM.2 e he
 exact hB.2 e he
theorem XG{A B:List (Nat × Nat)}:Jp (A++B) k↔Jp A k∨Jp B k:=by
 unfold Jp;constructor
 ·rintro⟨e,he,h⟩;rcases List.mem_append.1 he with he|he
  ·exact .inl ⟨e,he,h⟩
  exact .inr ⟨e,he,h⟩
 rintro(⟨e,he,h⟩|⟨e,he,h⟩)
 ·exact⟨e,List.mem_append.2 (.inl he),h⟩
 exact⟨e,List.mem_append.2 (.inr he),h⟩
theorem Ys{x:Nat × Nat}{B:List (Nat × Nat)}:Jp (x::B) k↔(x.1≤k∧k<x.1+x.2)∨Jp B k:=by
 unfold Jp;constructor
 ·rintro⟨e,he,h⟩;rcases List.mem_cons.1 he with rfl|he
  ·exact .inl h
  exact .inr ⟨e,he,h⟩
 rintro(h|⟨e,he,h⟩)
 ·exact⟨x,by simp,h⟩
 exact⟨e,by simp[he],h⟩
theorem Sq:¬Jp [] k:=by rintro⟨e,he,_⟩;cases he
theorem MD{f:List (Nat × Nat)}(hi:i<f.length):f=f.take i++f.getD i (0,0)::f.drop (i+1)∧(f.take i).length=i:=by
 refine⟨?_,by rw[List.length_take];omega⟩;rw[List.getD_eq_getElem?_getD,List.getElem?_eq_getElem hi];show f=f.take i++f[i]::f.drop (i+1);rw[←List.drop_eq_getElem_cons hi,List.take_append_drop]
theorem Ze{f:List (Nat × Nat)}(h:Rb f)(hi:i<f.length)(hn:1≤n)(h1:(f.getD i (0,0)).1≤a)(h2:a+n≤(f.getD i (0,0)).1+(f.getD i (0,0)).2):
  Rb (Kl f i a n)∧(∀k,Jp (Kl f i a n) k↔Jp f k∧¬(a≤k∧k<a+n))∧(∀k,a≤k→k<a+n→Jp f k)∧(∀e∈Kl f i a n,∃e'∈f,e'.1≤e.1∧e.1+e.2≤e'.1+e'.2):=by
 obtain⟨hf,hl⟩:=MD hi;have d:f.getD i (0,0)∈f:=by
  rw[List.getD_eq_getElem?_getD,List.getElem?_eq_getElem hi];exact List.getElem_mem hi
 unfold Kl;simp only;generalize hA:f.take i=A at*
 generalize hB:f.drop (i+1)=B at*
 generalize hx:f.getD i (0,0)=x at*
 have hS:Rb (A++x::B):=by rw[←hf];exact h
 obtain⟨sA,sB,sx,s1,s2,s3⟩:=hS.split;generalize hM:((if x.1<a then[(x.1,a-x.1)]else[])++(if a+n<x.1+x.2 then[(a+n,x.1+x.2-(a+n))]else[]))=M;have j:∀e∈M,(e=(x.1,a-x.1)∧x.1<a)∨(e=(a+n,x.1+x.2-(a+n))∧a+n<x.1+x.2):=by
  rw[←hM];intro e he;rcases List.mem_append.1 he with he|he
  ·split at he
   ·exact .inl ⟨by simpa using he,by assumption⟩
   cases he
  split at he
  ·exact .inr ⟨by simpa using he,by assumption⟩
  cases he
 have c:∀e∈M,x.1≤e.1∧e.1+e.2≤x.1+x.2∧1≤e.2:=by
  intro e he;rcases j e he with⟨rfl,h3⟩|⟨rfl,h3⟩<;>simp only<;>omega
 have l:Rb M:=by
  refine⟨?_,fun e he=>(c e he).2.2⟩;rw[←hM];split<;>split<;>simp<;>omega
 have g:∀k,Jp M k↔(x.1≤k∧k<x.1+x.2)∧¬(a≤k∧k<a+n):=by
  intro k;rw[←hM,XG];by_cases q1:x.1<a<;>by_cases q2:a+n<x.1+x.2<;>simp only[q1,q2,if_true,if_false,Ys,Sq,or_false,false_or,false_iff,not_and]<;>omega
 refine⟨sA.join l sB (fun a' ha m hm=>Nat.le_trans (s1 a' ha) (c m hm).1) (fun m hm b hb=>Nat.le_trans (c m hm).2.1 (s2 b hb)) s3,fun k=> ?_,fun k h3 h4=> ?_,fun e he=> ?_⟩
 ·rw[XG,XG,g];have e1:Jp f k↔Jp A k∨(x.1≤k∧k<x.1+x.2)∨Jp B k:=by rw[hf,XG,Ys]
  rw[e1];constructor
  ·rintro((h5|⟨h5,h6⟩)|h5)
   ·refine⟨.inl h5,fun h6=> ?_⟩;obtain⟨e,he,h7⟩:=h5;have:=s1 e he;omega
   ·exact⟨.inr (.inl h5),h6⟩
   refine⟨.inr (.inr h5),fun h6=> ?_⟩;obtain⟨e,he,h7⟩:=h5;have:=s2 e he;omega
  rintro⟨h5|h5|h5,h6⟩
  ·exact .inl (.inl h5)
  ·exact .inl (.inr ⟨h5,h6⟩)
  exact .inr h5
 ·exact⟨x,d,by omega,by omega⟩
 rcases List.mem_append.1 he with he|he
 ·rcases List.mem_append.1 he with he|he
  ·exact⟨e,by rw[hf];simp[he],nR,nR⟩
  exact⟨x,d,(c e he).1,(c e he).2.1⟩
 exact⟨e,by rw[hf];simp[he],nR,nR⟩
structure JC (m:Jt) (lo n:Nat):Prop where
 Ky:m.Ky=lo
 QJ:m.QJ=n-lo
 le:lo≤n
 Iq:Rb m.free
 R6:∀e∈m.free,lo≤e.1∧e.1+e.2≤n
theorem RG{m:Jt}(h:JC m lo n):(∃e,XZ m c=(e,(0,0),m)∧e≠0)∨∃a m',XZ m c=(0,(a,c),m')∧1≤c∧JC m' lo n∧lo≤a∧a+c≤n∧(∀k,Jp m'.free k↔Jp m.free k∧¬(a≤k∧k<a+c))∧∀k,a≤k→k<a+c→Jp m.free k:=by
 unfold XZ;by_cases hc:c<1
 ·rw[if_pos hc];exact .inl ⟨1,rfl,by omega⟩
 rw[if_neg hc];cases hf:m.free.findIdx? (fun f=>decide (c≤f.2))with
 |none=>exact .inl ⟨5,rfl,by omega⟩
 |some i=>
  rw[List.findIdx?_eq_some_iff_getElem]at hf;obtain⟨hi,hp,_⟩:=hf;have hg:m.free.getD i (0,0)=m.free[i]:=by rw[List.getD_eq_getElem?_getD,List.getElem?_eq_getElem hi];rfl
  have a0:c≤(m.free.getD i (0,0)).2:=by rw[hg];simpa using hp
  have d:=h.R6 (m.free.getD i (0,0)) (by rw[hg];exact List.getElem_mem hi);obtain⟨t1,t2,t3,t4⟩:=Ze (a:=(m.free.getD i (0,0)).1) (n:=c) h.Iq hi (by omega) nR (by omega);refine .inr ⟨_,_,rfl,by omega,⟨h.Ky,h.QJ,h.le,t1,fun e he=> ?_⟩,d.1,by omega,t2,t3⟩;obtain⟨e',b,h5,h6⟩:=t4 e he;have:=h.R6 e' b;omega
theorem JW{f:List (Nat × Nat)}(hi:i<f.length):f.getD i (0,0)=f[i]:=by rw[List.getD_eq_getElem?_getD,List.getElem?_eq_getElem hi];rfl
theorem Yi{m:Jt}(h:JC m lo n):Vg m at'≤m.free.length∧(∀e∈m.free.take (Vg m at'),e.1+e.2≤at')∧(∀e∈m.free.drop (Vg m at'),at'<e.1+e.2):=by
 unfold Vg;cases hf:m.free.findIdx? (fun f=>decide (at'<f.1+f.2))with
 |none=>
  rw[List.findIdx?_eq_none_iff]at hf;simp only[Option.getD_none];refine⟨nR,fun e he=> ?_,fun e he=>by simp at he⟩;have:=hf e (List.mem_of_mem_take he);simpa using this
 |some i=>
  rw[List.findIdx?_eq_some_iff_getElem]at hf;obtain⟨hi,hp,hb⟩:=hf;simp only[Option.getD_some];refine⟨by omega,fun e he=> ?_,fun e he=> ?_⟩
  ·obtain⟨k,hk,rfl⟩:=List.mem_iff_getElem.1 he;rw[List.length_take]at hk;rw[List.getElem_take];have:=hb k (by omega);simpa using this
  rw[List.drop_eq_getElem_cons hi]at he;have a:at'<m.free[i].1+m.free[i].2:=by simpa using hp
  rcases List.mem_cons.1 he with rfl|he
  ·exact a
  obtain⟨k,hk,rfl⟩:=List.mem_iff_getElem.1 he;rw[List.length_drop]at hk;rw[List.getElem_drop];have:=(List.pairwise_iff_getElem.1 h.Iq.1) i (i+1+k) hi (by omega) (by omega);omega
theorem UL{m:Jt}(h:JC m lo n)(hg:(JF m a c).1=0):JC (JF m a c).2 lo n∧∀k,Jp (JF m a c).2.free k↔Jp m.free k∨(a≤k∧k<a+c):=by
 unfold JF at hg ⊢;split at hg
 ·simp at hg
 rename_i hours;rw[if_neg hours];simp only at hg ⊢;obtain⟨ml,m1,m2⟩:=Yi (at':=a) h;generalize Vg m a=i at*
 split at hg
 ·simp at hg
 rename_i hfree;rw[if_neg hfree];have o:1≤c∧lo≤a∧a+c≤n:=by
  unfold X6 at hours;simp only[Bool.not_eq_false,Bool.and_eq_true,decide_eq_true_eq,h.Ky,h.QJ]at hours;have:=h.le;omega
 have hA:Rb (m.free.take i):=⟨h.Iq.1.sublist (List.take_sublist _ _),fun e he=>h.Iq.2 e (List.mem_of_mem_take he)⟩;have hB:Rb (m.free.drop i):=⟨h.Iq.1.sublist (List.drop_sublist _ _),fun e he=>h.Iq.2 e (List.mem_of_mem_drop he)⟩;have g:∀x∈m.free.take i,∀y∈m.free.drop i,x.1+x.2≤y.1:=by
  have:=h.Iq.1;rw[←List.take_append_drop i m.free,List.pairwise_append]at this;exact this.2.2
 have l:∀y∈m.free.drop i,a+c≤y.1:=by
  intro y hy;by_cases hi:i<m.free.length
  ·have h3:a+c≤(m.free.getD i (0,0)).1:=by omega
   rw[List.drop_eq_getElem_cons hi]at hy;rcases List.mem_cons.1 hy with rfl|hy
   ·rw[←JW hi];exact h3
   obtain⟨k,hk,rfl⟩:=List.mem_iff_getElem.1 hy;rw[List.length_drop]at hk;rw[List.getElem_drop];have:=(List.pairwise_iff_getElem.1 h.Iq.1) i (i+1+k) hi (by omega) (by omega);rw[JW hi]at h3;omega
  rw[List.drop_eq_nil_of_le (by omega)]at hy;cases hy
 have j:∀k,Jp m.free k↔Jp (m.free.take i) k∨Jp (m.free.drop i) k:=fun k=>by rw[←XG,List.take_append_drop]
 -- the part ahead
 obtain⟨A1,e1,hA1,hA1s,hA1k,hA1e,hA1m⟩:∃(A1:List (Nat × Nat)) (e1:Nat × Nat),(A1=m.free.take (if 0<i∧(m.free.getD (i-1) (0,0)).1+(m.free.getD (i-1) (0,0)).2=a then i-1 else i)∧e1=(if 0<i∧(m.free.getD (i-1) (0,0)).1+(m.free.getD (i-1) (0,0)).2=a then((m.free.getD (i-1) (0,0)).1,(m.free.getD (i-1) (0,0)).2+c)else(a,c)))∧Rb A1∧(∀k,Jp A1 k∨(e1.1≤k∧k<e1.1+e1.2)↔Jp (m.free.take i) k∨(a≤k∧k<a+c))∧(e1.1≤a∧e1.1+e1.2=a+c∧lo≤e1.1∧∀x∈A1,x.1+x.2≤e1.1)∧∀x∈A1,x∈m.free.take i:=by
  by_cases hb:0<i∧(m.free.getD (i-1) (0,0)).1+(m.free.getD (i-1) (0,0)).2=a
  ·have d:i-1<m.free.length:=by omega
   have b:m.free.take i=m.free.take (i-1)++[m.free.getD (i-1) (0,0)]:=by
    have e:i=i-1+1:=by omega
    conv=>lhs;rw[e,List.take_succ_eq_append_getElem d]
    rw[JW d]
   refine⟨m.free.take (i-1),((m.free.getD (i-1) (0,0)).1,(m.free.getD (i-1) (0,0)).2+c),⟨by rw[if_pos hb],by rw[if_pos hb]⟩,⟨h.Iq.1.sublist (List.take_sublist _ _),fun e he=>h.Iq.2 e (List.mem_of_mem_take he)⟩,fun k=> ?_,⟨?_, ?_, ?_,fun x hx=> ?_⟩,fun x hx=> ?_⟩
   ·rw[b,XG,Ys];have:=Sq (k:=k);simp only;constructor
    ·rintro(h1|h1)
     ·exact .inl (.inl h1)
     by_cases h2:a≤k
     ·exact .inr ⟨h2,by omega⟩
     exact .inl (.inr (.inl ⟨h1.1,by omega⟩))
    rintro((h1|h1|h1)|h1)
    ·exact .inl h1
    ·exact .inr ⟨h1.1,by omega⟩
    ·exact absurd h1 this
    exact .inr ⟨by omega,by omega⟩
   ·simp only;omega
   ·simp only;omega
   ·have:=(h.R6 (m.free.getD (i-1) (0,0)) (by rw[JW d];exact List.getElem_mem d)).1;exact this
   ·have:=hA.1;rw[b,List.pairwise_append]at this;exact this.2.2 x hx (m.free.getD (i-1) (0,0)) (List.mem_singleton.2 rfl)
   rw[b];simp[hx]
  refine⟨m.free.take i,(a,c),⟨by rw[if_neg hb],by rw[if_neg hb]⟩,hA,fun k=>Iff.rfl,⟨nR,rfl,o.2.1,m1⟩,fun x hx=>hx⟩
 -- the part behind
 obtain⟨B1,e2,hB1,hB1s,hB1k,hB1e,hB1m⟩:∃(B1:List (Nat × Nat)) (e2:Nat × Nat),(B1=m.free.drop (if i<m.free.length∧(m.free.getD i (0,0)).1=a+c then i+1 else i)∧e2=(if i<m.free.length∧(m.free.getD i (0,0)).1=a+c then(e1.1,e1.2+(m.free.getD i (0,0)).2)else e1))∧Rb B1∧(∀k,Jp B1 k∨(e2.1≤k∧k<e2.1+e2.2)↔Jp (m.free.drop i) k∨(e1.1≤k∧k<e1.1+e1.2))∧(e2.1=e1.1∧1≤e2.2∧e2.1+e2.2≤n∧∀x∈B1,e2.1+e2.2≤x.1)∧∀x∈B1,x∈m.free.drop i:=by
  by_cases hb:i<m.free.length∧(m.free.getD i (0,0)).1=a+c
  ·have b:m.free.drop i=m.free.getD i (0,0)::m.free.drop (i+1):=(List.drop_eq_getElem_cons hb.1).trans (congrArg (fun y=>y::m.free.drop (i+1)) (JW hb.1).symm);have a0:=h.R6 (m.free.getD i (0,0)) (by rw[JW hb.1];exact List.getElem_mem hb.1);have h1:=hB.1;rw[b,List.pairwise_cons]at h1;refine⟨m.free.drop (i+1),(e1.1,e1.2+(m.free.getD i (0,0)).2),⟨by rw[if_pos hb],by rw[if_pos hb]⟩,⟨h1.2,fun e he=>h.Iq.2 e (List.mem_of_mem_drop he)⟩,fun k=> ?_,⟨rfl, ?_, ?_,fun x hx=> ?_⟩,fun x hx=>by rw[b];simp[hx]⟩
   ·rw[b,Ys];simp only;constructor
    ·rintro(h1|h1)
     ·exact .inl (.inr h1)
     by_cases h2:a+c≤k
     ·exact .inl (.inl ⟨by omega,by omega⟩)
     exact .inr ⟨h1.1,by omega⟩
    rintro((h1|h1)|h1)
    ·exact .inr ⟨by omega,by omega⟩
    ·exact .inl h1
    exact .inr ⟨h1.1,by omega⟩
   ·simp only;omega
   ·simp only;omega
   have:=h1.1 x hx;simp only;omega
  refine⟨m.free.drop i,e1,⟨by rw[if_neg hb],by rw[if_neg hb]⟩,hB,fun k=>Iff.rfl,⟨rfl,by omega,by omega,fun x hx=> ?_⟩,fun x hx=>hx⟩;have:=l x hx;omega
 rw[←hA1.1,←hB1.1,←hA1.2,←hB1.2];have hM:Rb [e2]:=⟨by simp,fun e he=>by rw[List.mem_singleton]at he;subst he;exact hB1e.2.1⟩;have f:=hA1s.join hM hB1s (fun x hx y hy=>by rw[List.mem_singleton]at hy;subst hy;rw[hB1e.1];exact hA1e.2.2.2 x hx) (fun y hy x hx=>by rw[List.mem_singleton]at hy;subst hy;exact hB1e.2.2.2 x hx) (fun x hx y hy=>g x (hA1m x hx) y (hB1m y hy));rw[List.append_assoc,List.singleton_append]at f;refine⟨⟨h.Ky,h.QJ,h.le,f,fun e he=> ?_⟩,fun k=> ?_⟩
 ·rcases List.mem_append.1 he with he|he
  ·exact h.R6 e (List.mem_of_mem_take (hA1m e he))
  rcases List.mem_cons.1 he with rfl|he
  ·exact⟨by rw[hB1e.1];exact hA1e.2.2.1,hB1e.2.2.1⟩
  exact h.R6 e (List.mem_of_mem_drop (hB1m e he))
 show Jp (A1++e2::B1) k↔_;rw[XG,Ys,j];have h1:=hA1k k;have h2:=hB1k k;rw[hB1e.1]at h2 ⊢;constructor
 ·rintro(h3|h3|h3)
  ·rcases h1.1 (.inl h3)with h4|h4
   ·exact .inl (.inl h4)
   exact .inr h4
  ·rcases h2.1 (.inr h3)with h4|h4
   ·exact .inl (.inr h4)
   rcases h1.1 (.inr h4)with h5|h5
   ·exact .inl (.inl h5)
   exact .inr h5
  rcases h2.1 (.inl h3)with h4|h4
  ·exact .inl (.inr h4)
  rcases h1.1 (.inr h4)with h5|h5
  ·exact .inl (.inl h5)
  exact .inr h5
 rintro((h3|h3)|h3)
 ·rcases h1.2 (.inl h3)with h4|h4
  ·exact .inl h4
  rcases h2.2 (.inr h4)with h5|h5
  ·exact .inr (.inr h5)
  exact .inr (.inl h5)
 ·rcases h2.2 (.inl h3)with h5|h5
  ·exact .inr (.inr h5)
  exact .inr (.inl h5)
 rcases h1.2 (.inr h3)with h4|h4
 ·exact .inl h4
 rcases h2.2 (.inr h4)with h5|h5
 ·exact .inr (.inr h5)
 exact .inr (.inl h5)
theorem Mm{m:Jt}(hg:(JF m a c).1≠0):(JF m a c).2=m:=by
 unfold JF at hg ⊢;split
 ·rfl
 rename_i h1;rw[if_neg h1]at hg;simp only at hg ⊢;split
 ·rfl
 rename_i h2;rw[if_neg h2]at hg;exact absurd rfl hg
variable {s was:QM}
theorem Oc{r:QN}(h:JU s.d s.log lo)(hr:r.2.length≤4000)(hrs:∀r∈Qn s,r.2.length≤4000):
  ∃d' l',JU d' l' lo∧Vk lo s.d d'∧(s.log.epoch≤l'.epoch∧l'.epoch≤s.log.epoch+1)∧(Qy s was r=(0,{ s with d:=d',log:=l' })∨Qy s was r=(5,{ was with d:=d',log:=l' })):=by
 unfold Qy;rcases Mw h hr with e|⟨d',l',e,hi,hk,_,hep⟩
 ·rw[e];simp only;rcases T4 h hrs with e2|⟨d',l',e2,hi,hk,_,hep⟩
  ·rw[e2];exact⟨s.d,s.log,h,Vk.refl _ _,⟨nR,by omega⟩,.inr rfl⟩
  rw[e2];exact⟨d',l',hi,hk,⟨by omega,by omega⟩,.inl rfl⟩
 rw[e];exact⟨d',l',hi,hk,⟨by omega,by omega⟩,.inl rfl⟩
theorem Fy(h:JU s.d s.log lo)(hrs:∀r∈Qn s,r.2.length≤4000)(hp:s.QA<1048576)(he:s.epoch≤s.log.epoch):
  (∃d' l',YD s=(5,0,{ s with d:=d',log:=l' })∧JU d' l' lo∧Vk lo s.d d'∧s.log.epoch≤l'.epoch∧l'.epoch≤s.log.epoch+1)∨
  ∃d' l' p mark,YD s=(0,((mark:Nat):Int),{ s with d:=d',log:=l',epoch:=l'.epoch,QA:=p })∧JU d' l' lo∧Vk lo s.d d'∧s.log.epoch≤l'.epoch∧l'.epoch≤s.log.epoch+1∧p<1048576∧mark=l'.epoch*1048576+p:=by
 have a:∀(q:QM),q.epoch≤q.log.epoch→(q.epoch=q.log.epoch→q.QA+1<1048576)→∃p mark:Nat,((0,((if q.epoch≠q.log.epoch then { q with epoch:=q.log.epoch,QA:=0 }else q).epoch*1048576+((if q.epoch≠q.log.epoch then { q with epoch:=q.log.epoch,QA:=0 }else q).QA+1):Int),{ (if q.epoch≠q.log.epoch then { q with epoch:=q.log.epoch,QA:=0 }else q)with QA:=(if q.epoch≠q.log.epoch then { q with epoch:=q.log.epoch,QA:=0 }else q).QA+1 }):Nat × Int × QM)=(0,((mark:Nat):Int),{ q with epoch:=q.log.epoch,QA:=p })∧p<1048576∧mark=q.log.epoch*1048576+p:=by
  intro q h1 h2;by_cases hq:q.epoch=q.log.epoch
  ·refine⟨q.QA+1,q.log.epoch*1048576+(q.QA+1), ?_,h2 hq,rfl⟩;rw[if_neg (by simpa using hq)];simp only[Prod.mk.injEq,true_and];refine⟨by omega, ?_⟩;rw[←hq]
  refine⟨1,q.log.epoch*1048576+1, ?_,by omega,rfl⟩;rw[if_pos hq];simp only[Prod.mk.injEq,true_and];refine⟨by omega, ?_⟩
  first
   |trivial
   |rfl
 unfold YD;simp only;split
 ·rename_i hc;rcases T4 h hrs with e|⟨d',l',e,hi,hk,_,hep⟩
  ·rw[e];exact .inl ⟨s.d,s.log,rfl,h,Vk.refl _ _,nR,by omega⟩
  rw[e];obtain⟨p,mark,g1,g2,g3⟩:=a { s with d:=d',log:=l' } (by simp only;omega) (by simp only;omega);refine .inr ⟨d',l',p,mark,g1,hi,hk,by omega,by omega,g2,g3⟩
 rename_i hc;obtain⟨p,mark,g1,g2,g3⟩:=a s he (by omega);exact .inr ⟨s.d,s.log,p,mark,g1,h,Vk.refl _ _,nR,by omega,g2,g3⟩
structure Cq (d:Qq) (lo:Nat) (x:Qx) (t:List UInt8):Prop where
 intro'::
 Bq:∃a mark:Nat,x=⟨a,Qf d.size t.length,t.length,mark⟩∧OL d a 83 mark t∧mark<2^63∧lo≤a∧a+Qf d.size t.length≤d.Qk.length
 some:0<t.length
 Yp:t.length≤1048576
def JS(x:Qx)(k:Nat):Prop:=x.at'≤k∧(k:Int)<x.at'+x.len
inductive V3 {α β:Type} (R:α→β→Prop):List α→List β→Prop where
 |nil:V3 R [] []
 |cons {a b l m}:R a b→V3 R l m→V3 R (a::l) (b::m)
theorem V3.len{α β:Type}{R:α→β→Prop}{l:List α}{m:List β}(h:V3 R l m):l.length=m.length:=by
 induction h with
 |nil=>rfl
 |cons _ _ ih=>simp[ih]
theorem V3.mono{α β:Type}{R S:α→β→Prop}{l:List α}{m:List β}(h:V3 R l m):(∀a∈l,∀b,R a b→S a b)→V3 S l m:=by
 induction h with
 |nil=>exact fun _=>.nil
 |cons hr _ ih=>exact fun hs=>.cons (hs _ List.mem_cons_self _ hr) (ih fun a ha b hb=>hs a (List.mem_cons_of_mem _ ha) b hb)
theorem V3.put{α β:Type}{R:Qj × α→Qj × β→Prop}{l:List (Qj × α)}{m:List (Qj × β)}(h:V3 R l m)(hk:∀a b,R a b→a.1=b.1){k:Qj}{v:α}{u:β}(hr:R (k,v) (k,u)):V3 R (JL k v l) (JL k u m):=by
 induction h with
 |nil=>exact .cons hr .nil
 |cons hab ht ih=>
  rename_i a b l m;have e:=hk _ _ hab;obtain⟨a1,a2⟩:=a;obtain⟨b1,b2⟩:=b;simp only at e;subst e;unfold JL;split
  ·exact .cons hr (.cons hab ht)
  split
  ·exact .cons hr ht
  exact .cons hab ih
theorem Sa{α:Type}{k:Qj}{v:α}:∀{l:List (Qj × α)},k∉l.map (·.1)→(JL k v l).Perm ((k,v)::l)
 |[],_=>List.Perm.refl _
 |(a,x)::l,h=>by
  simp only[List.map_cons,List.mem_cons,not_or]at h;unfold JL;split
  ·exact List.Perm.refl _
  rw[if_neg (fun e=>h.1 e.symm)];exact((Sa h.2).cons _).trans (List.Perm.swap _ _ _)
theorem FC{n:Qj}(h:(MP s n).isSome=false):n∉s.Qc.map (·.1):=by
 intro hm;obtain⟨x,hx,rfl⟩:=List.mem_map.1 hm;unfold MP at h;rw[Option.isSome_map,←Bool.not_eq_true]at h;apply h;rw[List.find?_isSome];exact⟨x,hx,by simp⟩
theorem C6(a b c d e:List UInt8):(Lib.join [a,b,c,d,e] [32]).length=a.length+b.length+c.length+d.length+e.length+4:=by
 simp[Lib.join];omega
theorem NC{n:Qj}(h1: -9223372036854775808≤n.1∧n.1≤9223372036854775807)(h2: -9223372036854775808≤n.2∧n.2≤9223372036854775807)(h3: -9223372036854775808≤x.at'∧x.at'≤9223372036854775807)(h4:x.bytes≤9223372036854775807)(h5: -9223372036854775808≤x.mark∧x.mark≤9223372036854775807):(Ka n x).2.length≤109:=by
 unfold Ka Qi;simp only[List.map_cons,List.map_nil];rw[C6];have:=Lib.itoa_length_le n.1 h1.1 h1.2;have:=Lib.itoa_length_le n.2 h2.1 h2.2;have:=Lib.itoa_length_le x.at' h3.1 h3.2;have:=Lib.itoa_length_le x.bytes (by omega) (by omega);have:=Lib.itoa_length_le x.mark h5.1 h5.2;omega
def Kf(x:Qj × Qx):Prop:=Qs x.1.1=true∧Qs x.1.2=true∧(0≤x.2.at'∧x.2.at'≤65536)∧x.2.bytes≤1048576∧0≤x.2.mark∧x.2.mark<9223372036854775808
theorem Zp{x:Qj × Qx}(h:Kf x):(Ka x.1 x.2).2.length≤4000:=by
 obtain⟨h1,h2,h3,h4,h5,h6⟩:=h;unfold Qs at h1 h2;simp only[Bool.and_eq_true,decide_eq_true_eq]at h1 h2;have:=NC (n:=x.1) (x:=x.2) (by omega) (by omega) (by omega) (by omega) (by omega);omega
theorem VR{α:Type}{k:Qj}{v:α}:∀{l:List (Qj × α)} {x:Qj × α},x∈JL k v l→x=(k,v)∨x∈l
 |[],x,h=>by unfold JL at h;simpa using h
 |(a,y)::l,x,h=>by
  unfold JL at h;split at h
  ·rcases List.mem_cons.1 h with h|h
   ·exact .inl h
   exact .inr h
  split at h
  ·rcases List.mem_cons.1 h with h|h
   ·exact .inl h
   exact .inr (List.mem_cons_of_mem _ h)
  rcases List.mem_cons.1 h with h|h
  ·exact .inr (by rw[h];exact List.mem_cons_self)
  rcases VR h with h|h
  ·exact .inl h
  exact .inr (List.mem_cons_of_mem _ h)
theorem V3.mem{α β:Type}{R:α→β→Prop}{l:List α}{m:List β}(h:V3 R l m):∀x∈l,∃y∈m,R x y:=by
 induction h with
 |nil=>intro x hx;cases hx
 |cons hr _ ih=>
  intro x hx;rcases List.mem_cons.1 hx with rfl|hx
  ·exact⟨_,List.mem_cons_self,hr⟩
  obtain⟨y,hy,a⟩:=ih x hx;exact⟨y,List.mem_cons_of_mem _ hy,a⟩
theorem JU.like(h:JU d l lo)(k:d.V2 d'):JU d' l lo:=
 ⟨by rw[k.1];exact h.s1,by rw[k.1];exact h.s2,by rw[k.2.2];exact h.on,by rw[k.1];exact h.sz,h.Ky,h.half,by rw[k.2.1];exact h.lo,h.use,h.C0,h.TY⟩
variable {m':Jt}
theorem Sv{m:Jt}(h':JC m' lo n)(hf1:∀k,Jp m'.free k↔Jp m.free k∧¬(a≤k∧k<a+c))(hf2:∀k,a≤k→k<a+c→Jp m.free k):
  JC (JF m' a c).2 lo n∧∀k,Jp (JF m' a c).2.free k→Jp m.free k:=by
 by_cases hg:(JF m' a c).1=0
 ·obtain⟨g1,g2⟩:=UL h' hg;refine⟨g1,fun k hk=> ?_⟩;rcases(g2 k).1 hk with h|h
  ·exact((hf1 k).1 h).1
  exact hf2 k h.1 h.2
 rw[Mm hg];exact⟨h',fun k hk=>((hf1 k).1 hk).1⟩
inductive ZV (P:List UInt8→Prop):Nat→Qq→Qq→Prop where
 |refl (d:Qq):ZV P 0 d d
 |write {k n:Nat} {d d1 d2:Qq} {b:List UInt8}:ZV P k d d1→P b→Jz d1 n b=(0,d2)→ZV P (k+1) d d2
 |flush {k:Nat} {d d1 d2:Qq}:ZV P k d d1→Q4 d1=(0,d2)→ZV P k d d2
theorem ZV.trans{P:List UInt8→Prop}{l:Nat}{a b c:Qq}(h:ZV P k a b)(g:ZV P l b c):ZV P (k+l) a c:=by
 induction g with
 |refl=>exact h
 |write _ hp hw ih=>exact .write (ih h) hp hw
 |flush _ hf ih=>exact .flush (ih h) hf
theorem ZV.mono{P Q:List UInt8→Prop}(hpq:∀b,P b→Q b){a b:Qq}(h:ZV P k a b):ZV Q k a b:=by
 induction h with
 |refl=>exact .refl _
 |write _ hp hw ih=>exact .write ih (hpq _ hp) hw
 |flush _ hf ih=>exact .flush ih hf
def Q2(P:List UInt8→Prop)(K:Nat)(d d':Qq):Prop:=∃k,k≤K∧ZV P k d d'
variable {K:Nat}
theorem Q2.refl{P:List UInt8→Prop}(d:Qq):Q2 P K d d:=⟨0,Nat.zero_le _,.refl d⟩
theorem Q2.trans{P:List UInt8→Prop}{l:Nat}{a b c:Qq}(h:Q2 P k a b)(g:Q2 P l b c)(hK:k+l≤K):Q2 P K a c:=by
 obtain⟨i,hi,h⟩:=h;obtain⟨j,hj,g⟩:=g;exact⟨i+j,by omega,h.trans g⟩
theorem Q2.le{P:List UInt8→Prop}{a b:Qq}(h:Q2 P k a b)(hK:k≤K):Q2 P K a b:=by
 obtain⟨i,hi,h⟩:=h;exact⟨i,by omega,h⟩
theorem Q2.mono{P Q:List UInt8→Prop}(hpq:∀b,P b→Q b){a b:Qq}(h:Q2 P K a b):Q2 Q K a b:=by
 obtain⟨i,hi,h⟩:=h;exact⟨i,hi,h.mono hpq⟩
theorem Of(h:Jz d n b=(0,d')):d.V2 d'∧d'.waits.length=d.waits.length+1:=by
 unfold Jz at h;split at h
 ·simp at h
 split at h
 ·simp at h
 injection h with _ h;subst h;exact⟨⟨rfl,rfl,rfl⟩,by simp⟩
theorem ZO(h:Q4 d=(0,d')):d.V2 d'∧d'.waits.length=0:=by
 unfold Q4 at h;split at h
 ·simp at h
 injection h with _ h;subst h;exact⟨⟨rfl,Xw _ _,rfl⟩,rfl⟩
theorem ZV.like{P:List UInt8→Prop}{a b:Qq}(h:ZV P k a b):a.V2 b∧b.waits.length≤a.waits.length+k:=by
 induction h with
 |refl d=>exact⟨Qq.V2.refl d,by omega⟩
 |write _ _ hw ih=>have:=Of hw;exact⟨ih.1.trans this.1,by omega⟩
 |flush _ hf ih=>have:=ZO hf;exact⟨ih.1.trans this.1,by omega⟩
theorem ZV.told{P:List UInt8→Prop}{a b:Qq}(h:ZV P k a b){m:Nat}(hm:m<a.Qk.length):b.told m=a.told m∨∃x,P x∧b.told m=.data x false:=by
 induction h with
 |refl d=>exact .inl rfl
 |write h1 hp hw ih=>
  rw[Uc hw];split
  ·exact .inr ⟨_,hp,rfl⟩
  exact ih hm
 |flush h1 hf ih=>
  rw[Zw hf m (by rw[h1.like.1.2.1];exact hm)];exact ih hm
theorem Q2.like{P:List UInt8→Prop}{a b:Qq}(h:Q2 P K a b):a.V2 b∧b.waits.length≤a.waits.length+K:=by
 obtain⟨i,hi,h⟩:=h;have:=h.like;exact⟨this.1,by omega⟩
theorem Q2.told{P:List UInt8→Prop}{a b:Qq}(h:Q2 P K a b){m:Nat}(hm:m<a.Qk.length):b.told m=a.told m∨∃x,P x∧b.told m=.data x false:=by
 obtain⟨i,hi,h⟩:=h;exact h.told hm
variable {e:Nat}
theorem UM(h:Jz d n b=(e+1,d')):d'=d:=by
 unfold Jz at h;split at h
 ·injection h with _ h;exact h.symm
 split at h
 ·injection h with _ h;exact h.symm
 simp at h
theorem SS(h:Q4 d=(e+1,d')):d'=d:=by
 unfold Q4 at h;split at h
 ·injection h with _ h;exact h.symm
 simp at h
theorem RQ{P:List UInt8→Prop}(hP:∀i,P (JZ size kind mark (b.drop (i*(size-18))) (i==0))):∀(k i e:Nat)(d d':Qq),Vl kind mark b size at' k i d=(e,d')→Q2 P k d d'
 |0,i,e,d,d',h=>by
  unfold Vl at h;injection h with _ h;subst h;exact Q2.refl _
 |k+1,i,e,d,d',h=>by
  unfold Vl at h;cases hw:Jz d (at'+i) (JZ size kind mark (b.drop (i*(size-18))) (i==0))with
  |mk e1 d1=>
   rw[hw]at h;cases e1 with
   |zero=>exact Q2.trans (k:=1) (l:=k) ⟨1,nR,.write (.refl d) (hP i) hw⟩ (RQ hP k (i+1) e d1 d' h) (by omega)
   |succ e1=>
    have:=UM hw;simp only at h;injection h with _ h;subst h;subst this;exact Q2.refl _
theorem Zk{P:List UInt8→Prop}(hP:∀i,P (JZ d.size kind mark (b.drop (i*(d.size-18))) (i==0)))(hl:d.Qk.length≤65536)(h:KN d at' kind mark b=(n,e,d')):Q2 P 65536 d d':=by
 unfold KN at h;split at h
 ·injection h with _ h;injection h with _ h;subst h;exact Q2.refl _
 split at h
 ·injection h with _ h;injection h with _ h;subst h;exact Q2.refl _
 rename_i h2;have hn:Qf d.size b.length≤65536:=by omega
 cases hg:Vl kind mark b d.size at' (Qf d.size b.length) 0 d with
 |mk e1 d1=>
  rw[hg]at h;have:=(RQ hP _ _ _ _ _ hg).le hn;cases e1 with
  |zero=>injection h with _ h;injection h with _ h;subst h;exact this
  |succ e1=>injection h with _ h;injection h with _ h;subst h;exact this
/-! ### what is written -/
theorem MZ{first:Bool}(hk2:kind<256)(hm:mark<2^64){x:P7}(h:J4 (JZ size kind mark b first)=some x):x.kind=kind∧x.mark=mark:=by
 obtain⟨p1,p2,_,_,_⟩:=MB (UInt8.ofNat kind) (if first then 1 else 0) (be 8 mark) (be 4 b.length) ((b.take (size-18)++List.replicate (size-18-b.length) 0)++be 4 (VP (VO size kind mark b first))) (KQ _ _) (KQ _ _);have a:JZ size kind mark b first=UInt8.ofNat kind::(be 8 mark++(be 4 b.length++((if first then 1 else 0)::((b.take (size-18)++List.replicate (size-18-b.length) 0)++be 4 (VP (VO size kind mark b first)))))):=by
  conv=>lhs;unfold JZ
  conv=>lhs;lhs;unfold VO
  simp
 rw[←a]at p1 p2;unfold J4 at h;split at h
 ·cases h
 split at h
 ·cases h
 simp only at h;split at h
 ·cases h
 injection h with h;subst h;refine⟨?_, ?_⟩
 ·simp only;rw[p1,Uq];simp;omega
 simp only;rw[p2,RP 8 _ (by omega)]
theorem NH{x:P7}:¬J4 (List.replicate n 0)=some x:=by
 intro h;unfold J4 at h;split at h
 ·cases h
 rename_i hn;split at h
 ·cases h
 simp only at h;split at h
 ·cases h
 rename_i hc;apply hc;left;obtain⟨m,hm⟩:∃m,n=m+1:=⟨n-1,by simp at hn;omega⟩;subst hm;simp[List.replicate_succ,num]
def KG(E:Nat)(b:List UInt8):Prop:=∀x,J4 b=some x→x.mark<2^60∧(x.kind=72→x.mark≤E)
variable {E E':Nat}
theorem KG.le(h:E≤E')(hb:KG E b):KG E' b:=fun x hx=>⟨(hb x hx).1,fun hk=>Nat.le_trans ((hb x hx).2 hk) h⟩
theorem I1(E n:Nat):KG E (List.replicate n 0):=fun _ hx=>absurd hx NH
theorem Ov{first:Bool}(hk:kind<256)(hm:mark<2^60)(hE:kind=72→mark≤E):KG E (JZ size kind mark b first):=fun x hx=>by
 obtain⟨h1,h2⟩:=MZ hk (by omega) hx;rw[h1,h2];exact⟨hm,hE⟩
/-! ### the log -/
theorem WN{P:List UInt8→Prop}(hP:P (List.replicate size 0)):∀(k n e:Nat)(d d':Qq),d.size=size→Vx k n d=(e,d')→Q2 P k d d'
 |0,n,e,d,d',_,h=>by
  unfold Vx at h;injection h with _ h;subst h;exact Q2.refl _
 |k+1,n,e,d,d',hz,h=>by
  unfold Vx at h;cases hw:Jz d n (List.replicate d.size 0)with
  |mk e1 d1=>
   rw[hw]at h;cases e1 with
   |zero=>exact Q2.trans (k:=1) (l:=k) ⟨1,nR,.write (.refl d) (by rw[hz];exact hP) hw⟩ (WN hP k (n+1) e d1 d' ((Of hw).1.1.trans hz) h) (by omega)
   |succ e1=>
    have:=UM hw;simp only at h;injection h with _ h;subst h;subst this;exact Q2.refl _
theorem OU{E size epoch:Nat}(h19:19≤size)(he:epoch<2^39):∀(rs:List QN)(i at' e b:Nat)(d d':Qq),d.size=size→d.Qk.length≤65536→i+rs.length<2^20→JB size epoch rs i at' d=(e,b,d')→Q2 (KG E) (rs.length*65536) d d'
 |[],i,at',e,b,d,d',_,_,_,h=>by
  unfold JB at h;injection h with _ h;injection h with _ h;subst h;exact Q2.refl _
 |r::rs,i,at',e,b,d,d',hz,hl,hi,h=>by
  unfold JB at h;rw[List.length_cons]at hi;have a:epoch*J6+i+1<2^60:=by unfold J6;omega
  cases hw:KN d at' 82 (epoch*J6+i+1) (J7 r)with
  |mk n q=>
   obtain⟨e1,d1⟩:=q;have hr:=Zk (P:=KG E) (fun i=>Ov (by decide) a (fun h=>absurd h (by decide))) hl hw;rw[hw]at h;cases e1 with
   |zero=>
    exact Q2.trans hr (OU h19 he rs (i+1) (at'+n) e b d1 d' (hr.like.1.1.trans hz) (by rw[hr.like.1.2.1];exact hl) (by omega) h) (by rw[List.length_cons];omega)
   |succ e1=>
    simp only at h;injection h with _ h;injection h with _ h;subst h;exact hr.le (by rw[List.length_cons];omega)
theorem Oi{P:List UInt8→Prop}(h:Q4 d=(e,d')):Q2 P K d d':=by
 cases e with
 |zero=>exact⟨0,Nat.zero_le _,.flush (.refl d) h⟩
 |succ e=>rw[SS h];exact Q2.refl _
theorem IG{keep:List QN}(h19:19≤d.size)(hz:l.size=d.size)(hl:d.Qk.length≤65536)(he:l.epoch+1<2^39)(hk:keep.length≤32768)(hh:l.half≤32768)(hf:l.Ky=0)(h:Ku d l keep=(e,d',l')):Q2 (KG (l.epoch+1)) 4294967296 d d':=by
 unfold Ku at h;simp only at h;cases h1:JB l.size (l.epoch+1) keep 0 (l.begin (1-l.use)+Qf l.size 0) d with
 |mk e1 q=>
  obtain⟨a1,d1⟩:=q;rw[h1]at h;have r1:=OU (E:=l.epoch+1) (by omega) (by omega) keep 0 _ _ _ _ _ hz.symm hl (by omega) h1;have c:keep.length*65536≤2147483648:=by omega
  cases e1 with
  |succ e1=>
   simp only at h;injection h with _ h;injection h with h _;subst h;exact r1.le (by omega)
  |zero=>
   simp only at h;cases h2:Vx (l.begin (1-l.use)+l.half-a1) a1 d1 with
   |mk e2 d2=>
    rw[h2]at h;have r2:=WN (P:=KG (l.epoch+1)) (size:=d.size) (I1 _ _) _ _ _ _ _ (r1.like.1.1) h2;have a0:l.begin (1-l.use)≤32768:=by
     unfold QD.begin;rw[hf];have:(1-l.use)*l.half≤1*l.half:=Nat.mul_le_mul_right _ (by omega);omega
    have b:l.begin (1-l.use)+l.half-a1≤65536:=by omega
    have a:=Q2.trans (K:=2147549184) (r1.le c) (r2.le b) nR;cases e2 with
    |succ e2=>
     simp only at h;injection h with _ h;injection h with h _;subst h;exact a.le (by omega)
    |zero=>
     simp only at h;cases h3:Q4 d2 with
     |mk e3 d3=>
      rw[h3]at h;have r3:=Q2.trans (K:=2147549184) a (Oi (K:=0) h3) (by omega);cases e3 with
      |succ e3=>
       simp only at h;injection h with _ h;injection h with h _;subst h;exact r3.le (by omega)
      |zero=>
       simp only at h;cases h4:KN d3 (l.begin (1-l.use)) 72 (l.epoch+1) []with
       |mk n4 q4=>
        obtain⟨e4,d4⟩:=q4;rw[h4]at h;have r4:=Q2.trans (K:=2147614720) r3 (Zk (P:=KG (l.epoch+1)) (fun i=>Ov (by decide) (by omega) (fun _=>nR)) (by rw[r3.like.1.2.1];exact hl) h4) (by omega);cases e4 with
        |succ e4=>
         simp only at h;injection h with _ h;injection h with h _;subst h;exact r4.le (by omega)
        |zero=>
         simp only at h;cases h5:Q4 d4 with
         |mk e5 d5=>
          rw[h5]at h;have r5:=Q2.trans (K:=2147614720) r4 (Oi (K:=0) h5) (by omega);cases e5 with
          |succ e5=>
           simp only at h;injection h with _ h;injection h with h _;subst h;exact r5.le (by omega)
          |zero=>
           simp only at h;injection h with _ h;injection h with h _;subst h;exact r5.le (by omega)
theorem RU{α:Type}(f:α→Nat):∀(l:List α),(∀x∈l,1≤f x)→l.length≤(l.map f).sum
 |[],_=>by simp
 |a::l,h=>by
  have:=RU f l fun x hx=>h x (by simp[hx])
  have:=h a (by simp);simp only[List.length_cons,List.map_cons,List.sum_cons];omega
theorem Ug{keep:List QN}(hi:JU d l lo)(hl:d.Qk.length≤65536)(he:l.epoch+1<2^39)(h:Ju d l keep=(e,d',l')):Q2 (KG (l.epoch+1)) 4294967296 d d':=by
 have a2:=hi.lo;have a1:=hi.half;unfold Ju at h;split at h
 ·injection h with _ h;injection h with h _;subst h;exact Q2.refl _
 rename_i ha;split at h
 ·injection h with _ h;injection h with h _;subst h;exact Q2.refl _
 rename_i hfit;have hs:=RU l.Jb keep fun r hr=>by
  have a0:r.2.length≤4000:=by
   apply Decidable.byContradiction;intro hcon;apply ha;rw[List.any_eq_true];exact⟨r,hr,by simp;omega⟩
  unfold QD.Jb;rw[hi.sz];exact JQ hi.s1 hi.s2 (by omega)
 exact IG hi.s1 hi.sz hl he (by omega) (by omega) hi.Ky h
theorem FK{r:QN}(hl:d.Qk.length≤65536)(he:l.epoch<2^39)(hn:l.Qo.length≤1000000)(h:VN d l r=(e,d',l')):Q2 (KG l.epoch) 65536 d d':=by
 unfold VN at h;split at h
 ·injection h with _ h;injection h with h _;subst h;exact Q2.refl _
 split at h
 ·injection h with _ h;injection h with h _;subst h;exact Q2.refl _
 have a:l.epoch*J6+l.Qo.length+1<2^60:=by unfold J6;omega
 cases hw:KN d l.at' 82 (l.epoch*J6+l.Qo.length+1) (J7 r)with
 |mk n q=>
  obtain⟨e1,d1⟩:=q;have hr:=Zk (P:=KG l.epoch) (fun i=>Ov (by decide) a (fun h=>absurd h (by decide))) hl hw;rw[hw]at h;cases e1 with
  |zero=>simp only at h;injection h with _ h;injection h with h _;subst h;exact hr
  |succ e1=>simp only at h;injection h with _ h;injection h with h _;subst h;exact hr
theorem V3.mem'{α β:Type}{R:α→β→Prop}{l:List α}{m:List β}(h:V3 R l m):∀y∈m,∃x∈l,R x y:=by
 induction h with
 |nil=>intro x hx;cases hx
 |cons hr _ ih=>
  intro x hx;rcases List.mem_cons.1 hx with rfl|hx
  ·exact⟨_,List.mem_cons_self,hr⟩
  obtain⟨y,hy,a⟩:=ih x hx;exact⟨y,List.mem_cons_of_mem _ hy,a⟩
def Ol(d:Qq)(E:Nat):Prop:=∀m,m<d.Qk.length→∀b t,d.told m=.data b t→KG E b
theorem Ol.read{s:List UInt8}(h:Ol d E)(hr:Vh d n=(0,s)):KG E s:=by
 unfold Vh at hr;split at hr
 ·simp at hr
 rename_i hn;split at hr
 ·simp at hr
 cases ht:d.told n with
 |torn=>rw[ht]at hr;simp at hr
 |zero=>rw[ht]at hr;injection hr with _ hr;subst hr;exact I1 _ _
 |data b t=>rw[ht]at hr;injection hr with _ hr;subst hr;exact h n (by omega) b t ht
theorem Ui(n k E:Nat):Ol (JA n k) E:=fun m _ b t h=>by rw[O0]at h;cases h
theorem O9{d:Qq}{at' E:Nat}(h:Ol d E):∀(k i:Nat)(head:P7)(out:List UInt8)(r:Yn),(0<i→head.mark<2^60∧(head.kind=72→head.mark≤E))→Va d at' k i head out=(0,r)→r.mark<2^60∧(r.kind=72→r.mark≤E)
 |0,i,head,out,r,_,hg=>by unfold Va at hg;simp at hg
 |k+1,i,head,out,r,hh,hg=>by
  unfold Va at hg;cases hr:Vh d (at'+i)with
  |mk e s=>
   rw[hr]at hg;cases e with
   |succ e=>simp at hg
   |zero=>
    have hs:=h.read hr;simp only at hg;split at hg
    ·simp at hg
    cases hx:J4 s with
    |none=>rw[hx]at hg;simp at hg
    |some x=>
     rw[hx]at hg;have a:=hs x hx;simp only at hg;split at hg
     ·simp at hg
     split at hg
     ·simp at hg
     by_cases hi:i=0
     ·subst hi;simp only[if_pos]at hg;split at hg
      ·injection hg with _ hg;subst hg;exact a
      exact O9 h k _ _ _ _ (fun _=>a) hg
     simp only[if_neg hi]at hg;split at hg
     ·injection hg with _ hg;subst hg;exact hh (by omega)
     exact O9 h k _ _ _ _ (fun _=>hh (by omega)) hg
theorem Y4{r:Yn}(h:Ol d E)(hg:KE d at'=(0,r)):r.mark<2^60∧(r.kind=72→r.mark≤E):=by
 unfold KE at hg;split at hg
 ·simp at hg
 exact O9 h _ _ _ _ _ (fun h=>absurd h (by omega)) hg
structure Mz (l0 l:QD) (E:Nat):Prop where
 Ky:l.Ky=l0.Ky
 half:l.half=l0.half
 size:l.size=l0.size
 use:l.use≤1
 epoch:l.epoch≤E
theorem UD{d:Qq}:∀(k e:Nat)(l l':QD),Kt d k l=(e,l')→l'.Ky=l.Ky∧l'.half=l.half∧l'.size=l.size∧l'.use=l.use∧l'.epoch=l.epoch∧l'.Qo.length≤l.Qo.length+k
 |0,e,l,l',h=>by unfold Kt at h;injection h with _ h;subst h;exact⟨rfl,rfl,rfl,rfl,rfl,by omega⟩
 |k+1,e,l,l',h=>by
  unfold Kt at h;split at h
  ·injection h with _ h;subst h;exact⟨rfl,rfl,rfl,rfl,rfl,by omega⟩
  split at h
  ·injection h with _ h;subst h;exact⟨rfl,rfl,rfl,rfl,rfl,by omega⟩
  ·split at h
   ·injection h with _ h;subst h;exact⟨rfl,rfl,rfl,rfl,rfl,by omega⟩
   obtain⟨h1,h2,h3,h4,h5,h6⟩:=UD k e _ l' h;refine⟨h1,h2,h3,h4,h5, ?_⟩;simp only[List.length_append,List.length_cons,List.length_nil]at h6;omega
  injection h with _ h;subst h;exact⟨rfl,rfl,rfl,rfl,rfl,by omega⟩
variable {hf:Nat}
theorem Om{f f':Bool}(hF:Ol d E)(hh:hf≤1)(h:Jm d l hf f=(e,l',f'))(hu:l.use≤1)(he:l.epoch≤E):Mz l l' E∧l'.Qo=l.Qo:=by
 unfold Jm at h;split at h
 ·injection h with _ h;injection h with h _;subst h;exact⟨⟨rfl,rfl,rfl,hu,he⟩,rfl⟩
 ·rename_i r hr;split at h
  ·injection h with _ h;injection h with h _;subst h;exact⟨⟨rfl,rfl,rfl,hu,he⟩,rfl⟩
  rename_i hk;split at h
  ·injection h with _ h;injection h with h _;subst h;refine⟨⟨rfl,rfl,rfl,hh,(Y4 hF hr).2 ?_⟩,rfl⟩;apply Decidable.byContradiction;intro hc;exact hk (.inl hc)
  injection h with _ h;injection h with h _;subst h;exact⟨⟨rfl,rfl,rfl,hu,he⟩,rfl⟩
 injection h with _ h;injection h with h _;subst h;exact⟨⟨rfl,rfl,rfl,hu,he⟩,rfl⟩
theorem IS{l0:QD}(hF:Ol d E)(h0:l0.Qo=[])(h:On d l0=(e,l')):Mz l0 l' E∧l'.Qo.length≤l0.half+1:=by
 unfold On at h;cases h1:Jm d { l0 with use:=1,epoch:=0 } 0 false with
 |mk e1 q=>
  obtain⟨l1,f1⟩:=q;obtain⟨k1,r1⟩:=Om hF (by omega) h1 (by simp) (by simp);rw[h1]at h;cases e1 with
  |succ e1=>
   injection h with _ h;subst h;exact⟨⟨k1.Ky,k1.half,k1.size,k1.use,k1.epoch⟩,by rw[r1];simp[h0]⟩
  |zero=>
   simp only at h;cases h2:Jm d l1 1 f1 with
   |mk e2 q=>
    obtain⟨l2,f2⟩:=q;obtain⟨k2,r2⟩:=Om hF (by omega) h2 k1.use k1.epoch;rw[h2]at h;have hn:l2.Qo.length=0:=by rw[r2,r1];simp[h0]
    have k:Mz l0 l2 E:=⟨k2.Ky.trans k1.Ky,k2.half.trans k1.half,k2.size.trans k1.size,k2.use,k2.epoch⟩;cases e2 with
    |succ e2=>
     injection h with _ h;subst h;exact⟨k,by omega⟩
    |zero=>
     simp only at h;split at h
     ·obtain⟨g1,g2,g3,g4,g5,g6⟩:=UD _ _ _ _ h;simp only at g1 g2 g3 g4 g5 g6;refine⟨⟨g1.trans k.Ky,g2.trans k.half,g3.trans k.size,by rw[g4];exact k.use,by rw[g5];exact k.epoch⟩, ?_⟩;rw[k.half]at g6;omega
     injection h with _ h;subst h;exact⟨⟨k.Ky,k.half,k.size,k.use,k.epoch⟩,by simp only;omega⟩
theorem RI{QJ:Nat}(hF:Ol d E)(hl:d.Qk.length≤65536)(hs:QJ≤65000)(hE:E+1<2^39)(h:ZR d 0 QJ=(e,d',l')):Q2 (KG (E+1)) 4294967296 d d':=by
 unfold ZR at h;simp only at h;split at h
 ·injection h with _ h;injection h with h _;subst h;exact Q2.refl _
 rename_i hc;cases h1:On d ⟨0,QJ/2,d.size,0,0,0,[]⟩with
 |mk e1 l1=>
  rw[h1]at h;obtain⟨k,hn⟩:=IS hF rfl h1;cases e1 with
  |succ e1=>injection h with _ h;injection h with h _;subst h;exact Q2.refl _
  |zero=>
   simp only at h;have a:l1.half=QJ/2:=k.half;have:=IG (by omega) k.size hl (by have:=k.epoch;omega) (by simp only at hn;omega) (by rw[a];omega) k.Ky h;exact this.mono fun b hb=>hb.le (by have:=k.epoch;omega)
end Go.Proofs.YtmgmfnimaafkdaaGreatDoor
