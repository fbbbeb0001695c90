/- Texts of the proof, joined: TextD, WordD, WText, NumD, ReadD, ReadS, ReadP, WordE, AgainD, One, Awake17, ClockF. -/
import Derived.Lib.ItoaLen
import Derived.Test.YtabadfkikdefeaaGreatMake
import Derived.Test.YtabadfkikdefeaaGreatDraftW
set_option linter.all false
set_option maxRecDepth 100000
set_option maxHeartbeats 6400000
namespace Go.Proofs.YtabadfkikdefeaaGreat
open Go.RowKit Go.Lib
abbrev S (l:List UInt8):ByteArray:=ByteArray.mk (List.toArray l)
theorem pwb7 (a b:List UInt8):S a++S b=S (a++b):=ByteArray.mk_append_mk a b
theorem wpb7 (l:List UInt8):(S l).size=l.length:=rfl
theorem nw7 (u:Nat):0<(decDigits u).length:=by rw[decDigits_length];exact nDigits_pos u
theorem mkb7 {n:Int}(h:za7 n):(itoa n).length≤21:=itoa_length_le n (by unfold za7 at h;omega) (by unfold za7 at h;omega)
def ci7 (b:List UInt8) (n:Int):List UInt8:=(if 0<b.length then b++[32] else b)++itoa n
def lnS (nm:List UInt8) (l:List Int):List UInt8:=l.foldl ci7 nm
def wi7 (nm:List UInt8) (l:List Int):List UInt8:=lnS nm l++[10]
theorem fwb7 (nm:List UInt8) (l:List Int) {i:Nat}(h:i<l.length):lnS nm (l.take (i+1))=ci7 (lnS nm (l.take i)) (l.getD i 0):=by
 unfold lnS
 rw[List.take_succ_eq_append_getElem h,List.foldl_append,List.getD_eq_getElem?_getD,List.getElem?_eq_getElem h]
 rfl
theorem eib7:∀(l:List Int) (nm:List UInt8),(∀n∈l,za7 n)→(lnS nm l).length≤nm.length+22*l.length
 | [],nm,_=>by simp[lnS]
 | n::l,nm,h=>by
  have h1:=eib7 l (ci7 nm n) fun m hm=>h m (List.mem_cons_of_mem _ hm)
  have h2:=mkb7 (h n (List.mem_cons_self ..))
  have h3:(ci7 nm n).length≤nm.length+1+(itoa n).length:=by
   unfold ci7
   split <;> simp <;> omega
  show (lnS (ci7 nm n) l).length≤_
  rw[List.length_cons]
  omega
theorem lv7 {l:List Int}{nm:List UInt8}(h:∀n∈l,za7 n):(wi7 nm l).length≤nm.length+22*l.length+1:=by
 have:=eib7 l nm h
 unfold wi7
 rw[List.length_append,List.length_singleton]
 omega
theorem hfb7 (nm:List UInt8) (l:List Int):0<(wi7 nm l).length:=by unfold wi7;simp
def tItem (t:List ea7) (u:List Int) (j:Nat):List Int:=[(t.getD j ⟨0,0⟩).sat,(t.getD j ⟨0,0⟩).load,u.getD j 0]
def tCells (t:List ea7) (u:List Int) (k:Nat):List Int:=(t.length:Int)::(List.range k).flatMap (tItem t u)
def bItem (b:ga7) (r:qa7) (j:Nat):List Int:=[b.stops.getD j 0,r.starts.getD j 0]
def kCells (b:ga7) (r:qa7) (k:Nat):List Int:=b.sat::r.out::(b.stops.length:Int)::(List.range k).flatMap (bItem b r)
theorem cp7 (t:List ea7) (u:List Int) (k:Nat):tCells t u (k+1)=tCells t u k++tItem t u k:=by
 unfold tCells
 rw[List.range_succ,List.flatMap_append]
 simp
theorem to7 (b:ga7) (r:qa7) (k:Nat):kCells b r (k+1)=kCells b r k++bItem b r k:=by
 unfold kCells
 rw[List.range_succ,List.flatMap_append]
 simp
theorem qk7 (t:List ea7) (u:List Int):∀k,(tCells t u k).length=1+3*k
 | 0=>rfl
 | k+1=>by rw[cp7,List.length_append,qk7 t u k];simp[tItem];omega
theorem jk7 (b:ga7) (r:qa7):∀k,(kCells b r k).length=3+2*k
 | 0=>rfl
 | k+1=>by rw[to7,List.length_append,jk7 b r k];simp[bItem];omega
def hq7 (t:qb7) (i:Nat):qa7:=t.bikes.getD i ⟨0,[],0⟩
def er7 (p:ab7) (i:Nat):ga7:=p.bikes.getD i ⟨0,[]⟩
def pk7 (p:ab7) (i:Nat):List ea7:=p.trucks.getD i []
def mfb7 (p:ab7) (t:qb7) (i:Nat):List UInt8:=wi7 [] (tCells (pk7 p i) (t.trucks.getD i []) (pk7 p i).length)
def rxb7 (p:ab7) (t:qb7) (i:Nat):List UInt8:=wi7 [] (kCells (er7 p i) (hq7 t i) (er7 p i).stops.length++[(hq7 t i).back])
def rg7 (p:ab7) (t:qb7) (k:Nat):List UInt8:=(List.range k).flatMap (mfb7 p t)
def mi7 (p:ab7) (t:qb7) (k:Nat):List UInt8:=(List.range k).flatMap (rxb7 p t)
theorem qs7 (p:ab7) (t:qb7) (k:Nat):rg7 p t (k+1)=rg7 p t k++mfb7 p t k:=by
 unfold rg7
 rw[List.range_succ,List.flatMap_append]
 simp
theorem ou7 (p:ab7) (t:qb7) (k:Nat):mi7 p t (k+1)=mi7 p t k++rxb7 p t k:=by
 unfold mi7
 rw[List.range_succ,List.flatMap_append]
 simp
def vi7 (p:ab7) (c:Int):List UInt8:=wi7 [112,108,97,110] [c]++wi7 [116,114,117,99,107,115] [(p.trucks.length:Int)]
def ylb7 (p:ab7) (t:qb7) (c:Int):List UInt8:=vi7 p c++rg7 p t p.trucks.length++wi7 [98,105,107,101,115] [(p.bikes.length:Int)]
def nj7 (p:ab7) (t:qb7) (c:Int):List UInt8:=ylb7 p t c++mi7 p t p.bikes.length++[101,110,100,10]
structure ye7 (p:ab7) (t:qb7) (c:Int):Prop where
 nt:p.trucks.length≤100000
 nb:p.bikes.length≤100000
 st:∀l∈p.trucks,l.length≤30000∧∀s∈l,za7 s.sat∧za7 s.load
 sb:∀b∈p.bikes,b.stops.length≤30000∧za7 b.sat∧∀c∈b.stops,za7 c
 tt:∀l∈t.trucks,∀v∈l,za7 v
 tb:∀r∈t.bikes,za7 r.out∧za7 r.back∧∀v∈r.starts,za7 v
 c:za7 c
theorem wf7 {α:Type}{P:α→Prop}{l:List α}{d:α}(h:∀x∈l,P x) (hd:P d) (i:Nat):P (l.getD i d):=by
 rw[List.getD_eq_getElem?_getD]
 by_cases hi:i<l.length
 ·rw[List.getElem?_eq_getElem hi];exact h _ (List.getElem_mem hi)
 ·rw[List.getElem?_eq_none (by omega)];exact hd
theorem w0:za7 0:=by unfold za7;omega
theorem wn {n:Nat}(h:n≤100000):za7 (n:Int):=by unfold za7;omega
theorem zw7 {n:Int}(hn:za7 n) (nm:List UInt8):(wi7 nm [n]).length≤nm.length+23:=by
 have:=lv7 (nm:=nm) (l:=[n]) fun m hm=>by rw[List.mem_singleton.1 hm];exact hn
 simpa using this
section
variable {p:ab7} {t:qb7} {c:Int} (h:ye7 p t c)
include h
theorem ye7.truck (i:Nat):(pk7 p i).length≤30000∧∀s∈pk7 p i,za7 s.sat∧za7 s.load:=wf7 (P:=fun l:List ea7=>l.length≤30000∧∀s∈l,za7 s.sat∧za7 s.load) h.st ⟨by simp,fun s hs=>by cases hs⟩ i
theorem ye7.bike (i:Nat):(er7 p i).stops.length≤30000∧za7 (er7 p i).sat∧∀c∈(er7 p i).stops,za7 c:=wf7 (P:=fun b:ga7=>b.stops.length≤30000∧za7 b.sat∧∀c∈b.stops,za7 c) h.sb ⟨by simp,w0,fun s hs=>by cases hs⟩ i
theorem ye7.ride (i:Nat):za7 (hq7 t i).out∧za7 (hq7 t i).back∧∀v∈(hq7 t i).starts,za7 v:=wf7 (P:=fun r:qa7=>za7 r.out∧za7 r.back∧∀v∈r.starts,za7 v) h.tb ⟨w0,w0,fun s hs=>by cases hs⟩ i
theorem ye7.time (i:Nat):∀v∈t.trucks.getD i [],za7 v:=wf7 (P:=fun l:List Int=>∀v∈l,za7 v) h.tt (fun s hs=>by cases hs) i
theorem ye7.tItem (i j:Nat):∀n∈tItem (pk7 p i) (t.trucks.getD i []) j,za7 n:=by
 have h1:=wf7 (P:=fun s:ea7=>za7 s.sat∧za7 s.load) (d:=⟨0,0⟩) (h.truck i).2 ⟨w0,w0⟩ j
 have h2:=wf7 (P:=za7) (d:=0) (h.time i) w0 j
 intro n hn
 simp only[Go.Proofs.YtabadfkikdefeaaGreat.tItem,List.mem_cons,List.not_mem_nil,or_false]at hn
 rcases hn with rfl | rfl | rfl
 ·exact h1.1
 ·exact h1.2
 ·exact h2
theorem ye7.bItem (i j:Nat):∀n∈bItem (er7 p i) (hq7 t i) j,za7 n:=by
 have h1:=wf7 (P:=za7) (d:=0) (h.bike i).2.2 w0 j
 have h2:=wf7 (P:=za7) (d:=0) (h.ride i).2.2 w0 j
 intro n hn
 simp only[Go.Proofs.YtabadfkikdefeaaGreat.bItem,List.mem_cons,List.not_mem_nil,or_false]at hn
 rcases hn with rfl | rfl
 ·exact h1
 ·exact h2
theorem ye7.tCells (i:Nat):∀k,∀n∈tCells (pk7 p i) (t.trucks.getD i []) k,za7 n
 | 0,n,hn=>by
  simp only[Go.Proofs.YtabadfkikdefeaaGreat.tCells,List.range_zero,List.flatMap_nil,List.mem_cons,List.not_mem_nil,or_false]at hn
  rw[hn];exact wn (by have:=(h.truck i).1;omega)
 | k+1,n,hn=>by
  rw[cp7,List.mem_append]at hn
  exact hn.elim (ye7.tCells i k n) (h.tItem i k n)
theorem ye7.kCells (i:Nat):∀k,∀n∈kCells (er7 p i) (hq7 t i) k,za7 n
 | 0,n,hn=>by
  simp only[Go.Proofs.YtabadfkikdefeaaGreat.kCells,List.range_zero,List.flatMap_nil,List.mem_cons,List.not_mem_nil,or_false]at hn
  rcases hn with rfl | rfl | rfl
  ·exact (h.bike i).2.1
  ·exact (h.ride i).1
  ·exact wn (by have:=(h.bike i).1;omega)
 | k+1,n,hn=>by
  rw[to7,List.mem_append]at hn
  exact hn.elim (ye7.kCells i k n) (h.bItem i k n)
theorem ye7.truckL (i:Nat):(mfb7 p t i).length≤1980023:=by
 have h1:=lv7 (nm:=[]) (h.tCells i (pk7 p i).length)
 rw[qk7]at h1
 have:=(h.truck i).1
 unfold mfb7
 simp only[List.length_nil]at h1
 omega
theorem ye7.bikeL (i:Nat):(rxb7 p t i).length≤1320089:=by
 have h1:=lv7 (nm:=[]) (l:=Go.Proofs.YtabadfkikdefeaaGreat.kCells (er7 p i) (hq7 t i) (er7 p i).stops.length++[(hq7 t i).back]) fun n hn=>by
  rcases List.mem_append.1 hn with hn | hn
  ·exact h.kCells i _ n hn
  ·rw[List.mem_singleton.1 hn];exact (h.ride i).2.1
 rw[List.length_append,jk7,List.length_singleton]at h1
 have:=(h.bike i).1
 unfold rxb7
 simp only[List.length_nil]at h1
 omega
theorem ye7.trucksL:∀k,(rg7 p t k).length≤1980023*k
 | 0=>Nat.zero_le _
 | k+1=>by
  have:=ye7.trucksL k
  have:=h.truckL k
  rw[qs7,List.length_append]
  omega
theorem ye7.bikesL:∀k,(mi7 p t k).length≤1320089*k
 | 0=>Nat.zero_le _
 | k+1=>by
  have:=ye7.bikesL k
  have:=h.bikeL k
  rw[ou7,List.length_append]
  omega
theorem ye7.headL:(vi7 p c).length≤56:=by
 have h1:=zw7 h.c [112,108,97,110]
 have h2:=zw7 (wn h.nt) [116,114,117,99,107,115]
 unfold vi7
 rw[List.length_append]
 simp only[List.length_cons,List.length_nil]at h1 h2
 omega
theorem ye7.midL:(ylb7 p t c).length≤198002300100:=by
 have h1:=h.headL
 have h2:=h.trucksL p.trucks.length
 have h3:=zw7 (wn h.nb) [98,105,107,101,115]
 have h4:=h.nt
 unfold ylb7
 rw[List.length_append,List.length_append]
 simp only[List.length_cons,List.length_nil]at h3
 omega
end
end Go.Proofs.YtabadfkikdefeaaGreat
namespace Go.Proofs.YtabadfkikdefeaaGreat
open Go.RowKit
def lqb7 (c:UInt8):Bool:=decide (c≠10)&&(decide (c<32) || decide (126<c))
structure Sc where
 out:List (List UInt8×Nat)
 fr:Option Nat
 note:Bool
def lgb7 (s:List UInt8) (a b:Nat):List UInt8:=(s.drop a).take (b-a)
def jgb7 (c:UInt8):Bool:=decide (c=32) || decide (c=10) || decide (c=35)
def tp7 (s:List UInt8) (i:Nat) (c:UInt8) (σ:Sc):Sc :=
 if σ.note then ⟨σ.out,σ.fr,decide (c≠10)⟩
 else if jgb7 c then ⟨match σ.fr with | some a=>σ.out++[(lgb7 s a i,a)] | none=>σ.out,none,decide (c=35)⟩
 else match σ.fr with
  | some _=>σ
  | none=>⟨σ.out,some i,false⟩
def scan (s:List UInt8):Nat→Sc
 | 0=>⟨[],none,false⟩
 | k+1=>tp7 s k (s.getD k 10) (scan s k)
def jb7 (s:List UInt8):List (List UInt8×Nat):=(scan s (s.length+1)).out
def cjb7 (s:List UInt8) (k:Nat):Prop:=∀i,i<k→lqb7 (s.getD i 10)=false
theorem sdb7 (s:List UInt8):cjb7 s 0:=fun _ h=>absurd h (Nat.not_lt_zero _)
theorem dfb7 {s:List UInt8}{k:Nat}(h:cjb7 s k) (hc:lqb7 (s.getD k 10)=false):cjb7 s (k+1):=fun i hi=>by
 by_cases e:i=k
 ·rw[e];exact hc
 ·exact h i (by omega)
def np7 (s:List UInt8):Nat:=(s.takeWhile fun c => !lqb7 c).length
theorem djb7 (s:List UInt8):∀k,∀a,(scan s k).fr=some a→a<k∧(scan s k).note=false
 | 0,a,h=>by cases h
 | k+1,a,h=>by
  unfold scan tp7 at h ⊢
  have ih:=djb7 s k
  split at h
  ·rename_i hn
   exact absurd (ih a h).2 (by rw[hn];simp)
  ·rename_i hn
   split at h
   ·cases h
   ·rename_i hd
    cases hf:(scan s k).fr with
    | some b =>
     rw[hf]at h
     simp only at h
     have:=ih a h
     rw[if_neg hn,if_neg hd]
     exact⟨by omega,this.2⟩
    | none =>
     rw[hf]at h
     simp only at h
     cases h
     rw[if_neg hn,if_neg hd]
     exact⟨by omega,rfl⟩
theorem tt7 (s:List UInt8):∀k,(scan s k).out.length≤k
 | 0=>Nat.le_refl _
 | k+1=>by
  have ih:=tt7 s k
  unfold scan tp7
  split
  ·show (scan s k).out.length≤k+1;omega
  ·split
   ·cases (scan s k).fr with
    | some a=>simp;omega
    | none=>show (scan s k).out.length≤k+1;omega
   ·cases (scan s k).fr with
    | some a=>show (scan s k).out.length≤k+1;omega
    | none=>show (scan s k).out.length≤k+1;omega
def jxb7 (v:Int):Bool:=decide (¬v=10)&&(decide (v<32) || decide (126<v))
def bpb7 (v:Int):Bool:=decide (v=32) || decide (v=10) || decide (v=35)
def ocb7 (s:List UInt8) (i:Nat) (v:Int) (σ:Sc):Sc :=
 if σ.note then ⟨σ.out,σ.fr,decide (¬v=10)⟩
 else if bpb7 v then ⟨match σ.fr with | some a=>σ.out++[(lgb7 s a i,a)] | none=>σ.out,none,decide (v=35)⟩
 else match σ.fr with
  | some _=>σ
  | none=>⟨σ.out,some i,false⟩
theorem zrb7 (c d:UInt8):(c=d)=((c.toNat:Int)=(d.toNat:Int)):=propext ⟨fun h=>by rw[h],fun h=>UInt8.toNat_inj.1 (by omega)⟩
theorem slc7 (c d:UInt8):(c<d)=((c.toNat:Int)<(d.toNat:Int)):=propext ⟨fun h=>by have:=UInt8.lt_iff_toNat_lt.1 h;omega,fun h=>UInt8.lt_iff_toNat_lt.2 (by omega)⟩
theorem qlb7 (c:UInt8):lqb7 c=jxb7 (c.toNat:Int):=by
 unfold lqb7 jxb7
 simp only[ne_eq,zrb7,slc7];rfl
theorem yeb7 (c:UInt8):jgb7 c=bpb7 (c.toNat:Int):=by
 unfold jgb7 bpb7
 simp only[zrb7];rfl
theorem gbc7 (s:List UInt8) (i:Nat) (c:UInt8) (σ:Sc):tp7 s i c σ=ocb7 s i (c.toNat:Int) σ:=by
 unfold tp7 ocb7
 rw[yeb7]
 simp only[ne_eq,zrb7];rfl
theorem vhc7 (s:List UInt8) (k:Nat):scan s (k+1)=ocb7 s k ((s.getD k 10).toNat:Int) (scan s k):=gbc7 _ _ _ _
theorem peb7 {a:UInt8}{s:List UInt8}{k:Nat}(h:cjb7 (a::s) (k+1)):lqb7 a=false∧cjb7 s k :=
 ⟨h 0 (by omega),fun i hi=>h (i+1) (by omega)⟩
theorem ajb7:∀{s:List UInt8}{k:Nat},cjb7 s k→k<s.length→lqb7 (s.getD k 10)=true→np7 s=k
 | a::s,0,_,_,hc=>by
  have hc:lqb7 a=true:=hc
  unfold np7
  rw[List.takeWhile_cons,hc];rfl
 | a::s,k+1,h,hk,hc=>by
  obtain⟨h1,h2⟩:=peb7 h
  have:=ajb7 h2 (by simpa using hk) hc
  unfold np7 at this ⊢
  rw[List.takeWhile_cons,h1]
  simpa using this
theorem iu7:∀{s:List UInt8},cjb7 s s.length→np7 s=s.length
 | [],_=>rfl
 | a::s,h=>by
  obtain⟨h1,h2⟩:=peb7 h
  have:=iu7 h2
  unfold np7 at this ⊢
  rw[List.takeWhile_cons,h1]
  simpa using this
def qd7 (s:List UInt8) (k:Nat):List (List UInt8×Nat) :=
 match (scan s k).fr with
 | some a=>(scan s k).out++[(lgb7 s a k,a)]
 | none=>(scan s k).out
def dy7 (s:List UInt8) (k:Nat):Prop :=
 ((scan s k).note=false∧(scan s k).fr=none)∨((scan s k).note=true∧(scan s k).fr=none∧s.getD k 10=10)∨∃a,(scan s k).fr=some a∧(scan s k).note=false∧jgb7 (s.getD k 10)=true
theorem ypb7 (s:List UInt8):dy7 s 0:=.inl ⟨rfl,rfl⟩
section
variable {s:List UInt8} {k:Nat}
theorem yr7:scan s (k+1)=tp7 s k (s.getD k 10) (scan s k):=rfl
theorem xq7 (hg:dy7 s k) (hc:jgb7 (s.getD k 10)=true) (hn:(scan s k).note=false):scan s (k+1)=⟨qd7 s k,none,decide (s.getD k 10=35)⟩:=by
 rw[yr7]
 unfold tp7 qd7
 rw[if_neg (by rw[hn];simp),if_pos hc]
theorem wob7 (hg:dy7 s k) (hc:s.getD k 10=35):scan s (k+1)=⟨qd7 s k,none,true⟩:=by
 rcases hg with ⟨h1,h2⟩ | ⟨h1,h2,h3⟩ | ⟨a,h1,h2,h3⟩
 ·rw[xq7 (.inl ⟨h1,h2⟩) (by rw[hc];rfl) h1,hc];rfl
 ·rw[hc]at h3;exact absurd h3 (by decide)
 ·rw[xq7 (.inr (.inr ⟨a,h1,h2,h3⟩)) h3 h2,hc];rfl
theorem pr7 (hg:dy7 s k) (hc:s.getD k 10=32∨s.getD k 10=10):dy7 s (k+1)∧qd7 s (k+1)=qd7 s k:=by
 have key:scan s (k+1)=⟨qd7 s k,none,false⟩:=by
  have hd:jgb7 (s.getD k 10)=true:=by rcases hc with h | h <;> rw[h] <;> rfl
  have hf:decide (s.getD k 10=35)=false:=by rcases hc with h | h <;> rw[h] <;> rfl
  rcases hg with ⟨h1,h2⟩ | ⟨h1,h2,h3⟩ | ⟨a,h1,h2,h3⟩
  ·rw[xq7 (.inl ⟨h1,h2⟩) hd h1,hf]
  ·rw[yr7]
   unfold tp7 qd7
   rw[if_pos h1,h2,h3];rfl
  ·rw[xq7 (.inr (.inr ⟨a,h1,h2,h3⟩)) hd h2,hf]
 exact⟨.inl (by rw[key];exact⟨rfl,rfl⟩),by rw[show qd7 s (k+1)=(match (scan s (k+1)).fr with | some a=>(scan s (k+1)).out++[(lgb7 s a (k+1),a)] | none=>(scan s (k+1)).out) from rfl,key]⟩
theorem ueb7 (hg:dy7 s k) (hc:jgb7 (s.getD k 10)=false):scan s (k+1)=⟨qd7 s k,some k,false⟩:=by
 rcases hg with ⟨h1,h2⟩ | ⟨h1,h2,h3⟩ | ⟨a,h1,h2,h3⟩
 ·rw[yr7]
  unfold tp7 qd7
  rw[if_neg (by rw[h1];simp),if_neg (by rw[hc];simp),h2]
 ·rw[h3]at hc;exact absurd hc (by decide)
 ·rw[h3]at hc;cases hc
theorem hub7 {o:List (List UInt8×Nat)}(h:scan s k=⟨o,none,true⟩) (hc:¬s.getD k 10=10):scan s (k+1)=⟨o,none,true⟩:=by
 rw[yr7,h]
 unfold tp7
 rw[if_pos rfl]
 show (⟨o,none,decide (s.getD k 10≠10)⟩:Sc)=_
 rw[decide_eq_true hc]
theorem pcb7 {o:List (List UInt8×Nat)}{a:Nat}(h:scan s k=⟨o,some a,false⟩) (hc:jgb7 (s.getD k 10)=false):scan s (k+1)=⟨o,some a,false⟩:=by
 rw[yr7,h]
 unfold tp7
 rw[if_neg (by simp),if_neg (by rw[hc];simp)]
theorem rwb7 {o:List (List UInt8×Nat)}(h:scan s k=⟨o,none,true⟩) (hc:s.getD k 10=10):dy7 s k∧qd7 s k=o :=
 ⟨.inr (.inl ⟨by rw[h],by rw[h],hc⟩),by unfold qd7;rw[h]⟩
theorem wlb7 {o:List (List UInt8×Nat)}{a:Nat}(h:scan s k=⟨o,some a,false⟩) (hc:jgb7 (s.getD k 10)=true):dy7 s k∧qd7 s k=o++[(lgb7 s a k,a)] :=
 ⟨.inr (.inr ⟨a,by rw[h],by rw[h],hc⟩),by unfold qd7;rw[h]⟩
theorem clb7 (hg:dy7 s s.length):qd7 s s.length=jb7 s:=by
 have e:s.getD s.length 10=10:=by rw[List.getD_eq_getElem?_getD,List.getElem?_eq_none (Nat.le_refl _)];rfl
 have:=(pr7 hg (.inr e)).2
 rw[← this]
 unfold jb7
 obtain⟨h,-⟩:=pr7 hg (.inr e)
 show qd7 s (s.length+1)=(scan s (s.length+1)).out
 unfold qd7
 have hn:(scan s (s.length+1)).fr=none:=by
  cases hf:(scan s (s.length+1)).fr with
  | none=>rfl
  | some a =>
   have hs:=yr7 (s:=s) (k:=s.length)
   rw[e]at hs
   rw[hs]at hf
   unfold tp7 at hf
   rcases hg with ⟨h1,h2⟩ | ⟨h1,h2,h3⟩ | ⟨b,h1,h2,h3⟩
   ·rw[if_neg (by rw[h1];simp),if_pos (show jgb7 10=true from rfl)]at hf;cases hf
   ·rw[if_pos h1,h2]at hf;cases hf
   ·rw[if_neg (by rw[h2];simp),if_pos (show jgb7 10=true from rfl)]at hf;cases hf
 rw[hn]
end
theorem oob7 (s:List UInt8) (k:Nat):(qd7 s k).length≤k+1:=by
 have:=tt7 s k
 unfold qd7
 cases (scan s k).fr with
 | none=>show (scan s k).out.length≤k+1;omega
 | some a=>simp;omega
open Go.RowKit Go.Lib
def wib7 (n:Int):Int:=(n.natAbs:Int)
theorem ycc7 {n:Int}(hn:za7 n) (w:World):Calls Tryz.prog 179 #[.int .i64 n] w fun e w'=>e = .returned (.int .u64 (wib7 n))∧w'=w:=by
 unfold za7 at hn
 go_enter Tryz.func179,Tryz.ntmps179
 go_wp2
 ·rename_i h
  have e:IntKind.u64.wrap (-IntKind.u64.wrap n)=wib7 n:=by
   rw[IntKind.wrap_u64,IntKind.wrap_u64];unfold wib7;omega
  go_ret
  exact⟨by rw[e];rfl,rfl⟩
 ·rename_i h
  have e:n=wib7 n:=by unfold wib7;omega
  go_ret
  exact⟨by rw[← e];rfl,rfl⟩
def edb7 (ds:List UInt8):List Value:=List.replicate (20-ds.length) (.int .u8 0)++Lib.byteCells ds
theorem vkb7 {ds:List UInt8}(h:ds.length≤20):(edb7 ds).length=20:=by
 unfold edb7
 rw[List.length_append,List.length_replicate,Lib.byteCells_length];omega
theorem ykb7 {ds:List UInt8}(h:ds.length<20) (b:UInt8):(edb7 ds).set (19-ds.length) (.int .u8 b.toNat)=edb7 (b::ds):=by
 unfold edb7
 have e:20-ds.length=(19-ds.length)+1:=by omega
 rw[e,List.replicate_succ',List.append_assoc,List.set_append_right _ _ (by simp),List.length_replicate,Nat.sub_self]
 simp[Lib.byteCells]
theorem mxb7 {ds:List UInt8}(h:ds.length≤20) {j:Nat}(hj:j<ds.length):(edb7 ds)[20-ds.length+j]? = some (.int .u8 ((ds[j]).toNat:Int)):=by
 unfold edb7
 rw[List.getElem?_append_right (by simp),List.length_replicate,show 20-ds.length+j-(20-ds.length)=j by omega]
 simp[Lib.byteCells,hj]
theorem dqb7 {w:World}{q:Nat}{e:TypeId}{l:List UInt8}(h:Row w q e (edb7 l)) (hl:l.length≤20) {o c n:Nat}(ho:o+l.length=20) (hn:n=l.length) :
  (convert 24 9 (.slice (some ⟨q,o,none⟩) n c)).run Tryz.prog w = .ok (.string (S l)) w:=by
 subst hn
 refine run_convert_bytes_back w 24 9 5 ⟨q,o,none⟩ c l Tryz.underlying24 Tryz.underlying5 Tryz.underlying9 fun j hj=>?_
 rw[Addr.add_lit]
 have h1:=mxb7 hl hj
 rw[show 20-l.length+j=o+j by omega]at h1
 obtain⟨h2,h3⟩:=List.getElem?_eq_some_iff.1 h1
 rw[h.cell h2,h3]
theorem qyb7 {q i:Nat}{z:Int}(hz:z=(i:Int)) (hi:i≤19) (w:World) :
  (Instr.sliceAt 280 (.pointer (some ⟨q,0,none⟩)) (some (.int .i64 z)) none none).run Tryz.prog w = .ok (.slice (some ⟨q,i,none⟩) (20-i) (20-i)) w:=by
 subst hz
 simp[Instr.sliceAt,run_underlying Tryz.underlying280,Instr.sliceBounds,Instr.sliceBound,asIntOf,Instr.sureAddr]
 rw[if_pos (by omega),if_neg (by omega),Addr.add_lit,Nat.zero_add]
theorem ytb7:∀(k u:Nat),u<10 ^ (k+1)→nDigits u≤k+1
 | 0,u,h=>by rw[nDigits_small (by simpa using h)];exact Nat.le_refl _
 | k+1,u,h=>by
  by_cases h1:u<10
  ·rw[nDigits_small h1];omega
  ·rw[nDigits_big h1]
   have:=ytb7 k (u / 10) (by rw[Nat.pow_succ]at h;omega)
   omega
theorem ofc7 {m:Nat}(h:m≤9223372036854775808):(decDigits m).length≤19:=by
 rw[decDigits_length]
 exact ytb7 18 m (by have:(10:Nat) ^ (18+1)=10000000000000000000:=(by decide);omega)
theorem ek7 {u:Nat}(h:u<10):decDigits u=[UInt8.ofNat (48+u % 10)]:=by rw[decDigits,dif_pos h,Nat.mod_eq_of_lt h]
theorem tx7 {u:Nat}(h:¬u<10):decDigits u=decDigits (u / 10)++[UInt8.ofNat (48+u % 10)]:=by rw[decDigits,dif_neg h]
theorem nsb7 {n:Int}(hn:za7 n) (w:World):Calls Tryz.prog 126 #[.int .i64 n] w fun e w'=>e = .returned (.string (S (itoa n)))∧Below w.heap.size w w':=by
 obtain⟨m,hm⟩:∃m:Nat,m=n.natAbs:=⟨_,rfl⟩
 have hm19:(decDigits m).length≤19:=ofc7 (by rw[hm];unfold za7 at hn;omega)
 have R0:=Row.new (w:=w) (e:=280) (cs:=edb7 []) rfl
 have hb0:Below w.heap.size w (w.alloc (.cells (edb7 []).toArray 280)):=(Below.refl _ _).alloc (Nat.le_refl _) _
 have hz:(edb7 []).toArray = #[.int .u8 0,.int .u8 0,.int .u8 0,.int .u8 0,.int .u8 0,.int .u8 0,.int .u8 0,.int .u8 0,.int .u8 0,.int .u8 0,.int .u8 0,.int .u8 0,.int .u8 0,.int .u8 0,.int .u8 0,.int .u8 0,.int .u8 0,.int .u8 0,.int .u8 0,.int .u8 0]:=rfl
 have HR:=hid R0
 have HB:=hid hb0
 clear R0 hb0
 go_enter Tryz.func126,Tryz.ntmps126
 go_wp2_with (go_at_call 179;refine (ycc7 hn _).mono ?_)
 rintro e w1 ⟨rfl,rfl⟩
 rw[← hz]
 have HE:=hid hz
 clear hz
 generalize w.alloc (.cells (edb7 []).toArray 280)=w1 at HR HB ⊢
 obtain⟨q,hq⟩:∃q,q=w.heap.size:=⟨_,rfl⟩
 rw[← hq]at HR ⊢
 have hsz:wib7 n=(m:Int):=by unfold wib7;rw[hm]
 rw[hsz]
 have HM:=hid hm
 clear hsz HE hm
 have hm2:m≤9223372036854775808:=by have:=HM.out;unfold za7 at hn;omega
 have HQ:w.heap.size≤q:=by omega
 clear hq
 go_wp2
 go_loopw [4,5] (fun iv uv wr=>∃(ds:List UInt8) (u k:Nat),decDigits m=decDigits u++ds∧ds.length+k=19∧u≤9223372036854775808∧iv = .int .i64 ((k:Int)+1)∧uv = .int .u64 u∧Row wr q 280 (edb7 ds)∧Below w.heap.size w wr) (fun _ uv _=>(RowKit.intOf uv).toNat)
 case atStart=>exact⟨[],m,19,by simp,rfl,hm2,rfl,rfl,HR.out,HB.out⟩
 case round =>
  clear HR HB
  obtain⟨ds,u,k,hd,hdl,hu,rfl,rfl,hr,hb⟩:=hrel
  have HB:=hid hb
  have hk:k≤19:=by omega
  have hfz:=hr.frozen k
  have hkl:k<(edb7 ds).length:=by rw[vkb7 (by omega)];omega
  obtain⟨v0,hce⟩:∃v0,wr.cell? ⟨q,k,none⟩=some v0:=⟨_,hr.cell hkl⟩
  obtain⟨b,hbe⟩:∃b,b=UInt8.ofNat (48+u % 10):=⟨_,rfl⟩
  have hbv:(48:Int)+(u:Int) % 10=(b.toNat:Int):=by rw[hbe,UInt8.toNat_ofNat'];omega
  have hr2:Row (wr.setCell ⟨q,k,none⟩ (.int .u8 (48+(u:Int) % 10))) q 280 (edb7 (b::ds)):=by
   rw[hbv,← ykb7 (by omega),show 19-ds.length=k by omega]
   exact hr.set hkl _
  have hb2:Below w.heap.size w (wr.setCell ⟨q,k,none⟩ (.int .u8 (48+(u:Int) % 10))):=hb.setCell HQ _
  have HR:=hid hr2
  have HB2:=hid hb2
  have HBV:=hid hbv
  clear hr hb hkl hr2 hb2 hbv
  by_cases h10:u<10
  ·rw[ek7 h10,← hbe]at hd
   have hml:(b::ds).length≤19:=by have:=congrArg List.length hd;simp at this;simp;omega
   have hk1:1≤k:=by simp at hml;omega
   have HD:=hid hd
   clear hd hbe
   have h10':((u:Int)<10):=by omega
   by_cases hneg:n<0
   ·have hfz2:=HR.out.frozen (k-1)
    have hkl2:k-1<(edb7 (b::ds)).length:=by rw[vkb7 (by omega)];omega
    obtain⟨v1,hce2⟩:∃v1,(wr.setCell ⟨q,k,none⟩ (.int .u8 (48+(u:Int) % 10))).cell? ⟨q,k-1,none⟩=some v1:=⟨_,HR.out.cell hkl2⟩
    have hr3:=HR.out.set hkl2 (.int .u8 45)
    rw[show k-1=19-(b::ds).length by simp;omega]at hr3
    have hr4:Row ((wr.setCell ⟨q,k,none⟩ (.int .u8 (48+(u:Int) % 10))).setCell ⟨q,k-1,none⟩ (.int .u8 45)) q 280 (edb7 (45::b::ds)):=by
     rw[← ykb7 (ds:=b::ds) (by omega) 45,show k-1=19-(b::ds).length by simp;omega]
     exact hr3
    have hcv:=dqb7 hr4 (by simp at hml ⊢; omega) (o:=k-1) (c:=20-(k-1)) (n:=20-(k-1)) (by simp;omega) (by simp;omega)
    have hb3:Below w.heap.size w ((wr.setCell ⟨q,k,none⟩ (.int .u8 (48+(u:Int) % 10))).setCell ⟨q,k-1,none⟩ (.int .u8 45)):=HB2.out.setCell HQ _
    have hsl:=qyb7 (q:=q) (i:=k-1) (z:=(k:Int)-1) (by omega) (by omega)
    have HB3:=hid hb3
    clear hkl2 hr3 hr4 hb3
    go_wp2
    go_ret
    refine⟨?_,HB3.out⟩
    have hi:itoa n=45::b::ds:=by
     have hd:=HD.out
     unfold itoa
     rw[if_pos hneg,← HM.out,hd];rfl
    rw[hi];rfl
   ·have hcv:=dqb7 HR.out (by omega) (o:=k) (c:=20-k) (n:=20-k) (by simp;omega) (by simp;omega)
    have hsl:=qyb7 (q:=q) (i:=k) (z:=(k:Int)) rfl (by omega)
    go_wp2
    go_ret
    refine⟨?_,HB2.out⟩
    have hi:itoa n=b::ds:=by
     have hd:=HD.out
     unfold itoa
     rw[if_neg (by omega),show n.toNat=m by have:=HM.out;omega,hd];rfl
    rw[hi];rfl
  ·rw[tx7 h10,← hbe,List.append_assoc]at hd
   have hml:(b::ds).length≤18:=by
    have h1:=congrArg List.length hd
    have h2:=nw7 (u / 10)
    simp at h1;simp;omega
   have h10':¬((u:Int)<10):=by omega
   have HD:=hid hd
   clear hd hbe
   go_wp2
   go_roundw
   ·exact⟨b::ds,u / 10,k-1,HD.out,by simp at hml ⊢; omega,by omega,by congr 1;simp at hml;omega,by simp,HR.out,HB2.out⟩
   ·simp[RowKit.intOf];omega
end Go.Proofs.YtabadfkikdefeaaGreat
namespace Go.Proofs.YtabadfkikdefeaaGreat
open Go.RowKit Go.Lib
def hh7 (c:UInt8):Prop:=48≤c.toNat∧c.toNat≤57
instance (c:UInt8):Decidable (hh7 c):=by unfold hh7;infer_instance
def bwb7 (n:Nat) (c:UInt8):Nat:=n*10+(c.toNat-48)
def em7 (l:List UInt8):Nat:=l.foldl bwb7 0
def hib7 (l:List UInt8) (k:Nat):Prop:=∀i,i<k→hh7 (l.getD i 0)
theorem zr7 {l:List UInt8}{k:Nat}(h:hib7 l k) (hc:hh7 (l.getD k 0)):hib7 l (k+1):=fun i hi=>by
 by_cases e:i=k
 ·rw[e];exact hc
 ·exact h i (by omega)
theorem mv7 {l:List UInt8}(h:hib7 l l.length):∀c∈l,hh7 c:=fun c hc=>by
 obtain⟨i,hi,rfl⟩:=List.getElem_of_mem hc
 have:=h i hi
 rwa [List.getD_eq_getElem?_getD,List.getElem?_eq_getElem hi]at this
theorem ku7 {l:List UInt8}{k:Nat}(h:k<l.length):em7 (l.take (k+1))=bwb7 (em7 (l.take k)) (l.getD k 0):=by
 unfold em7
 rw[List.take_succ_eq_append_getElem h,List.foldl_append,List.getD_eq_getElem?_getD,List.getElem?_eq_getElem h];rfl
theorem elb7 {l:List UInt8}:∀k,k≤l.length→hib7 l k→em7 (l.take k)<10 ^ k
 | 0,_,_=>by simp[em7]
 | k+1,h,hd=>by
  have ih:=elb7 k (by omega) (fun i hi=>hd i (by omega))
  have hc:=hd k (by omega)
  rw[ku7 (by omega)]
  unfold bwb7
  unfold hh7 at hc
  rw[Nat.pow_succ]
  omega
def canon (l:List UInt8):Prop:=l≠[]∧(1<l.length→l.getD 0 0≠48)
theorem czb7 {c:UInt8}(h:hh7 c):UInt8.ofNat (48+(c.toNat-48))=c:=by
 have h2:48+(c.toNat-48)=c.toNat:=by unfold hh7 at h;omega
 rw[h2];simp
theorem ywb7 (m:List UInt8) (d:UInt8):em7 (m++[d])=em7 m*10+(d.toNat-48):=by
 unfold em7
 rw[List.foldl_append];rfl
theorem zcc7 {l:List UInt8}(hd:∀c∈l,hh7 c) (h0:l≠[]) (h:l.getD 0 0≠48):1≤em7 l:=by
 have key:∀(m:List UInt8) (n:Nat),1≤n→1≤m.foldl bwb7 n:=fun m=>by
  induction m with
  | nil=>intro n h;exact h
  | cons a m ih=>intro n h;exact ih _ (by unfold bwb7;omega)
 match l,h0 with
 | a::l,_ =>
  have ha:a≠48:=h
  have hd:=hd a (List.mem_cons_self ..)
  refine key l _ ?_
  unfold bwb7
  have:a.toNat≠48:=fun e=>ha (UInt8.toNat_inj.1 e)
  unfold hh7 at hd
  omega
theorem eac7:∀(l:List UInt8),(∀c∈l,hh7 c)→canon l→decDigits (em7 l)=l:=by
 intro l
 induction hn:l.length generalizing l with
 | zero=>intro _ hc;exact absurd (List.length_eq_zero_iff.1 hn) hc.1
 | succ n ih =>
  intro hd hc
  obtain⟨m,d,rfl⟩:∃m d,l=m++[d]:=⟨l.dropLast,l.getLast hc.1,(List.dropLast_concat_getLast hc.1).symm⟩
  have hdd:=hd d (by simp)
  have hdm:∀c∈m,hh7 c:=fun c h=>hd c (by simp[h])
  have hml:m.length=n:=by simpa using hn
  rw[ywb7]
  unfold hh7 at hdd
  by_cases hm:m=[]
  ·subst hm
   rw[show em7 []=0 from rfl,Nat.zero_mul,Nat.zero_add,ek7 (by omega),Nat.mod_eq_of_lt (by omega),czb7 hdd];rfl
  ·have h0:m.getD 0 0≠48:=by
    have h1:=hc.2 (by simp;exact List.length_pos_iff.2 hm)
    rwa [List.getD_eq_getElem?_getD,List.getElem?_append_left (List.length_pos_iff.2 hm),← List.getD_eq_getElem?_getD]at h1
   have hp:=zcc7 hdm hm h0
   rw[tx7 (by omega)]
   rw[show (em7 m*10+(d.toNat-48)) / 10=em7 m by omega,show (em7 m*10+(d.toNat-48)) % 10=d.toNat-48 by omega,czb7 hdd,ih m hml hdm ⟨hm,fun _=>h0⟩]
theorem hyb7:∀(u:Nat),1≤u→(decDigits u).getD 0 0≠48:=by
 intro u
 induction u using Nat.strongRecOn with
 | ind u ih =>
  intro hu
  by_cases h:u<10
  ·rw[ek7 h,Nat.mod_eq_of_lt h]
   show UInt8.ofNat (48+u)≠48
   intro e
   have:=congrArg UInt8.toNat e
   have h48:(48+u) % 256=48:=this
   omega
  ·rw[tx7 h,List.getD_eq_getElem?_getD,List.getElem?_append_left (nw7 _),← List.getD_eq_getElem?_getD]
   exact ih (u / 10) (by omega) (by omega)
theorem nqb7 (u:Nat):canon (decDigits u):=by
 refine⟨fun h=>by have:=nw7 u;rw[h]at this;simp at this,fun h=>?_⟩
 by_cases hu:1≤u
 ·exact hyb7 u hu
 ·rw[show u=0 by omega,ek7 (by omega)]at h
  simp at h
def fe7 (l:List UInt8):Option Nat :=
 if l.length≤16∧(∀c∈l,hh7 c)∧decDigits (em7 l)=l∧em7 l≤1000000000000000 then some (em7 l) else none
end Go.Proofs.YtabadfkikdefeaaGreat
namespace Go.Proofs.YtabadfkikdefeaaGreat
open Go.RowKit
def wdN (ws:List (List UInt8×Nat)) (i:Nat):List UInt8:=(ws.getD i ([],0)).1
def vz7 (ws:List (List UInt8×Nat)) (i:Nat) (code most:Int):Int×Nat×Int :=
 if ¬code=0 then (0,i,code)
 else if ws.length≤i then (0,i,3)
 else match fe7 (wdN ws i) with
  | none=>(0,i,3)
  | some x=>if most<(x:Int) then (0,i,2) else (x,i+1,0)
def ks7 (ws:List (List UInt8×Nat)) (i:Nat) (code:Int) (w:List UInt8):Nat×Int :=
 if ¬code=0 then (i,code) else if ws.length≤i∨¬wdN ws i=w then (i,5) else (i+1,0)
abbrev Stt:=Nat×Int
structure Sim {α β:Type} (f:α×Stt→β×Stt) (g:α×Nat→Except Stt (β×Nat)):Prop where
 ok:∀a i b j,g (a,i) = .ok (b,j)→f (a,(i,0))=(b,(j,0))
 er:∀a i e,g (a,i) = .error e→(f (a,(i,0))).2=e∧e.2≠0
 stay:∀a i c,c≠0→(f (a,(i,c))).2=(i,c)
def rep {α:Type} (f:α→α):Nat→α→α
 | 0,a=>a
 | n+1,a=>rep f n (f a)
def th7 {α:Type} (g:α×Nat→Except Stt (α×Nat)):Nat→α×Nat→Except Stt (α×Nat)
 | 0,a=>.ok a
 | n+1,a=>match g a with
  | .ok b=>th7 g n b
  | .error e=>.error e
theorem Sim.rep_stay {α:Type}{f:α×Stt→α×Stt}{g:α×Nat→Except Stt (α×Nat)}(h:Sim f g):∀n a i c,c≠0→(rep f n (a,(i,c))).2=(i,c)
 | 0,_,_,_,_=>rfl
 | n+1,a,i,c,hc=>by
  have e:f (a,(i,c))=((f (a,(i,c))).1,(i,c)):=Prod.ext rfl (h.stay a i c hc)
  show (rep f n (f (a,(i,c)))).2=(i,c)
  rw[e]
  exact Sim.rep_stay h n _ i c hc
theorem Sim.rep_ok {α:Type}{f:α×Stt→α×Stt}{g:α×Nat→Except Stt (α×Nat)}(h:Sim f g):∀n a i b j,th7 g n (a,i) = .ok (b,j)→rep f n (a,(i,0))=(b,(j,0))
 | 0,a,i,b,j,e=>by cases e;rfl
 | n+1,a,i,b,j,e=>by
  unfold th7 at e
  split at e
  ·rename_i y hy
   obtain⟨c,k⟩:=y
   show rep f n (f (a,(i,0)))=_
   rw[h.ok a i c k hy]
   exact Sim.rep_ok h n c k b j e
  ·cases e
theorem Sim.rep_er {α:Type}{f:α×Stt→α×Stt}{g:α×Nat→Except Stt (α×Nat)}(h:Sim f g):∀n a i e,th7 g n (a,i) = .error e→(rep f n (a,(i,0))).2=e∧e.2≠0
 | 0,a,i,e,h0=>by cases h0
 | n+1,a,i,e,h0=>by
  unfold th7 at h0
  split at h0
  ·rename_i y hy
   obtain⟨c,k⟩:=y
   show (rep f n (f (a,(i,0)))).2=e∧_
   rw[h.ok a i c k hy]
   exact Sim.rep_er h n c k e h0
  ·rename_i e2 hy
   cases h0
   obtain⟨h1,h2⟩:=h.er a i e hy
   refine⟨?_,h2⟩
   have e3:f (a,(i,0))=((f (a,(i,0))).1,(e.1,e.2)):=Prod.ext rfl h1
   show (rep f n (f (a,(i,0)))).2=e
   rw[e3]
   exact h.rep_stay n _ e.1 e.2 h2
structure Rd (α β:Type) where
 f:α×Stt→β×Stt
 g:α×Nat→Except Stt (β×Nat)
 sim:Sim f g
def Rd.map {α β:Type} (φ:α→β):Rd α β:=⟨fun a=>(φ a.1,a.2),fun a=>.ok (φ a.1,a.2),⟨(fun a i b j e=>by cases e;rfl),(fun a i e h=>by cases h),fun a i c _=>rfl⟩⟩
def Rd.seq {α β γ:Type} (r:Rd α β) (q:Rd β γ):Rd α γ where
 f:=fun a=>q.f (r.f a)
 g:=fun a=>match r.g a with
  | .ok b=>q.g b
  | .error e=>.error e
 sim:=by
  refine⟨fun a i b j e=>?_,fun a i e h=>?_,fun a i c hc=>?_⟩
  ·split at e
   ·rename_i y hy
    obtain⟨d,k⟩:=y
    show q.f (r.f (a,(i,0)))=_
    rw[r.sim.ok a i d k hy]
    exact q.sim.ok d k b j e
   ·cases e
  ·split at h
   ·rename_i y hy
    obtain⟨d,k⟩:=y
    show (q.f (r.f (a,(i,0)))).2=e∧_
    rw[r.sim.ok a i d k hy]
    exact q.sim.er d k e h
   ·rename_i e2 hy
    cases h
    obtain⟨h1,h2⟩:=r.sim.er a i e hy
    refine⟨?_,h2⟩
    have e3:r.f (a,(i,0))=((r.f (a,(i,0))).1,(e.1,e.2)):=Prod.ext rfl h1
    show (q.f (r.f (a,(i,0)))).2=e
    rw[e3]
    exact q.sim.stay _ e.1 e.2 h2
  ·have e3:r.f (a,(i,c))=((r.f (a,(i,c))).1,(i,c)):=Prod.ext rfl (r.sim.stay a i c hc)
   show (q.f (r.f (a,(i,c)))).2=(i,c)
   rw[e3]
   exact q.sim.stay _ i c hc
def Rd.rep {α:Type} (r:Rd α α):Rd (α×Int) α where
 f:=fun a=>Go.Proofs.YtabadfkikdefeaaGreat.rep r.f a.1.2.toNat (a.1.1,a.2)
 g:=fun a=>th7 r.g a.1.2.toNat (a.1.1,a.2)
 sim:=⟨fun a i b j e=>r.sim.rep_ok _ _ _ _ _ e,fun a i e h=>r.sim.rep_er _ _ _ _ h,fun a i c hc=>r.sim.rep_stay _ _ _ _ hc⟩
def tj7 (ws:List (List UInt8×Nat)) (most:Int) (i:Nat):Except Stt (Int×Nat) :=
 if ws.length≤i then .error (i,3)
 else match fe7 (wdN ws i) with
  | none=>.error (i,3)
  | some x=>if most<(x:Int) then .error (i,2) else .ok (x,i+1)
def fi7 (ws:List (List UInt8×Nat)) (w:List UInt8) (i:Nat):Except Stt Nat :=
 if ws.length≤i∨¬wdN ws i=w then .error (i,5) else .ok (i+1)
def Rd.num {α:Type} (ws:List (List UInt8×Nat)) (most:Int):Rd α (α×Int) where
 f:=fun a=>((a.1,(vz7 ws a.2.1 a.2.2 most).1),(vz7 ws a.2.1 a.2.2 most).2)
 g:=fun a=>match tj7 ws most a.2 with
  | .ok y=>.ok ((a.1,y.1),y.2)
  | .error e=>.error e
 sim:=by
  refine⟨fun a i b j e=>?_,fun a i e h=>?_,fun a i c hc=>?_⟩
  ·simp only[tj7]at e
   simp only[vz7]
   rw[if_neg (by simp)]
   split at e
   ·rename_i y hy
    split at hy
    ·cases hy
    ·rename_i h1
     rw[if_neg h1]
     cases hp:fe7 (wdN ws i) with
     | none=>rw[hp]at hy;cases hy
     | some x =>
      rw[hp]at hy
      simp only at hy ⊢
      split at hy
      ·cases hy
      ·rename_i h2
       cases hy
       cases e
       rw[if_neg h2]
   ·cases e
  ·simp only[tj7]at h
   simp only[vz7]
   rw[if_neg (by simp)]
   split at h
   ·cases h
   ·rename_i e2 hy
    cases h
    split at hy
    ·rename_i h1
     cases hy
     rw[if_pos h1]
     exact⟨rfl,by simp⟩
    ·rename_i h1
     rw[if_neg h1]
     cases hp:fe7 (wdN ws i) with
     | none=>rw[hp]at hy;cases hy;exact⟨rfl,by simp⟩
     | some x =>
      rw[hp]at hy
      simp only at hy ⊢
      split at hy
      ·rename_i h2
       cases hy
       rw[if_pos h2]
       exact⟨rfl,by simp⟩
      ·cases hy
  ·simp only[vz7]
   rw[if_pos hc]
def Rd.must {α:Type} (ws:List (List UInt8×Nat)) (w:List UInt8):Rd α α where
 f:=fun a=>(a.1,ks7 ws a.2.1 a.2.2 w)
 g:=fun a=>match fi7 ws w a.2 with
  | .ok y=>.ok (a.1,y)
  | .error e=>.error e
 sim:=by
  refine⟨fun a i b j e=>?_,fun a i e h=>?_,fun a i c hc=>?_⟩
  ·simp only[fi7]at e
   simp only[ks7]
   rw[if_neg (by simp)]
   split at e
   ·rename_i y hy
    split at hy
    ·cases hy
    ·rename_i h1
     cases hy
     cases e
     rw[if_neg h1]
   ·cases e
  ·simp only[fi7]at h
   simp only[ks7]
   rw[if_neg (by simp)]
   split at h
   ·cases h
   ·rename_i e2 hy
    cases h
    split at hy
    ·rename_i h1
     cases hy
     rw[if_pos h1]
     exact⟨rfl,by simp⟩
    ·cases hy
  ·simp only[ks7]
   rw[if_pos hc]
section
variable (ws:List (List UInt8×Nat))
def nkb7 (A:Type):Rd (A×(List ea7×List Int)) (A×(List ea7×List Int)) :=
 (((Rd.num ws 11).seq (Rd.num ws 1000000000)).seq (Rd.num ws 1000000000)).seq (Rd.map fun x=>(x.1.1.1.1,(x.1.1.1.2.1++[⟨x.1.1.2,x.1.2⟩],x.1.1.1.2.2++[x.2])))
def mw7 (A:Type):Rd (A×(List (List ea7)×List (List Int))) (A×(List (List ea7)×List (List Int))) :=
 (((Rd.num ws 12).seq (Rd.map fun x=>((x.1,(([],[]):List ea7×List Int)),x.2))).seq (nkb7 ws _).rep).seq (Rd.map fun x=>(x.1.1,(x.1.2.1++[x.2.1],x.1.2.2++[x.2.2])))
def nlb7 (A:Type):Rd (A×(List Int×List Int)) (A×(List Int×List Int)) :=
 ((Rd.num ws 47).seq (Rd.num ws 1000000000)).seq (Rd.map fun x=>(x.1.1.1,(x.1.1.2.1++[x.1.2],x.1.1.2.2++[x.2])))
def zeb7 (A:Type):Rd (A×(List ga7×List qa7)) (A×(List ga7×List qa7)) :=
 ((((((Rd.num ws 11).seq (Rd.num ws 1000000000)).seq (Rd.num ws 48)).seq (Rd.map fun x=>((x.1,(([],[]):List Int×List Int)),x.2))).seq (nlb7 ws _).rep).seq (Rd.num ws 1000000000)).seq
  (Rd.map fun x=>(x.1.1.1.1.1,(x.1.1.1.1.2.1++[⟨x.1.1.1.2,x.1.2.1⟩],x.1.1.1.1.2.2++[⟨x.1.1.2,x.1.2.2,x.2⟩])))
def rj7:Rd Unit ld7 :=
 ((((((((((Rd.must ws [112,108,97,110]).seq (Rd.num ws 1000000000000000)).seq (Rd.must ws [116,114,117,99,107,115])).seq (Rd.num ws 60)).seq (Rd.map fun x=>((x.1.2,(([],[]):List (List ea7)×List (List Int))),x.2))).seq (mw7 ws _).rep).seq
  (Rd.must ws [98,105,107,101,115])).seq (Rd.num ws 60)).seq (Rd.map fun x=>((x.1,(([],[]):List ga7×List qa7)),x.2))).seq (zeb7 ws _).rep).seq
  ((Rd.must ws [101,110,100]).seq (Rd.map fun x=>⟨⟨x.1.2.1,x.2.1⟩,⟨x.1.2.2,x.2.2⟩,x.1.1⟩))
def nf7:ld7:=⟨⟨[],[]⟩,⟨[],[]⟩,0⟩
def vf7 (len i:Nat):Int:=if i<ws.length then ((ws.getD i ([],0)).2:Int) else (len:Int)
def bjb7 (len:Nat) (x:ld7×Stt):ld7×Int×Int :=
 let c:=if x.2.2=0∧x.2.1<ws.length then 6 else x.2.2
 if ¬c=0 then (nf7,vf7 ws len x.2.1,c) else (x.1,0,0)
def hvb7 (len:Nat) (x:Except Stt (ld7×Nat)):ld7×Int×Int:=match x with
 | .ok (s,i)=>if i<ws.length then (nf7,vf7 ws len i,6) else (s,0,0)
 | .error (i,c)=>(nf7,vf7 ws len i,c)
theorem rqb7 (len:Nat):bjb7 ws len ((rj7 ws).f ((),(0,0)))=hvb7 ws len ((rj7 ws).g ((),0)):=by
 have h:=(rj7 ws).sim
 cases hg:(rj7 ws).g ((),0) with
 | ok y =>
  obtain⟨s,i⟩:=y
  rw[h.ok _ _ _ _ hg]
  unfold bjb7 hvb7
  by_cases hi:i<ws.length
  ·simp[hi]
  ·simp[hi]
 | error e =>
  obtain⟨i,c⟩:=e
  obtain⟨h1,h2⟩:=h.er _ _ _ hg
  have h2:¬c=0:=h2
  unfold bjb7 hvb7
  rw[h1]
  simp[h2]
end
def tf7 {α β:Type} (x:Except Stt α) (f:α→Except Stt β):Except Stt β:=match x with
 | .ok a=>f a
 | .error e=>.error e
section
variable (ws:List (List UInt8×Nat))
def lq7 (a:(List ea7×List Int)×Nat):Except Stt ((List ea7×List Int)×Nat) :=
 tf7 (tj7 ws 11 a.2) fun x=>tf7 (tj7 ws 1000000000 x.2) fun y=>tf7 (tj7 ws 1000000000 y.2) fun z=>.ok ((a.1.1++[⟨x.1,y.1⟩],a.1.2++[z.1]),z.2)
def it7 (i:Nat):Except Stt ((List ea7×List Int)×Nat):=tf7 (tj7 ws 12 i) fun x=>th7 (lq7 ws) x.1.toNat (([],[]),x.2)
def tg7 (a:(List (List ea7)×List (List Int))×Nat):Except Stt ((List (List ea7)×List (List Int))×Nat) :=
 tf7 (it7 ws a.2) fun x=>.ok ((a.1.1++[x.1.1],a.1.2++[x.1.2]),x.2)
def hp7 (a:(List Int×List Int)×Nat):Except Stt ((List Int×List Int)×Nat) :=
 tf7 (tj7 ws 47 a.2) fun x=>tf7 (tj7 ws 1000000000 x.2) fun y=>.ok ((a.1.1++[x.1],a.1.2++[y.1]),y.2)
def seb7 (i:Nat):Except Stt ((ga7×qa7)×Nat) :=
 tf7 (tj7 ws 11 i) fun s=>tf7 (tj7 ws 1000000000 s.2) fun o=>tf7 (tj7 ws 48 o.2) fun n=>tf7 (th7 (hp7 ws) n.1.toNat (([],[]),n.2)) fun l=>tf7 (tj7 ws 1000000000 l.2) fun b=>.ok ((⟨s.1,l.1.1⟩,⟨o.1,l.1.2,b.1⟩),b.2)
def dj7 (a:(List ga7×List qa7)×Nat):Except Stt ((List ga7×List qa7)×Nat) :=
 tf7 (seb7 ws a.2) fun x=>.ok ((a.1.1++[x.1.1],a.1.2++[x.1.2]),x.2)
def bh7:Except Stt (ld7×Nat) :=
 tf7 (fi7 ws [112,108,97,110] 0) fun i1=>tf7 (tj7 ws 1000000000000000 i1) fun c=>tf7 (fi7 ws [116,114,117,99,107,115] c.2) fun i3=>tf7 (tj7 ws 60 i3) fun n =>
 tf7 (th7 (tg7 ws) n.1.toNat (([],[]),n.2)) fun T=>tf7 (fi7 ws [98,105,107,101,115] T.2) fun i6=>tf7 (tj7 ws 60 i6) fun m =>
 tf7 (th7 (dj7 ws) m.1.toNat (([],[]),m.2)) fun B=>tf7 (fi7 ws [101,110,100] B.2) fun i9=>.ok (⟨⟨T.1.1,B.1.1⟩,⟨T.1.2,B.1.2⟩,c.1⟩,i9)
def carry {A α:Type} (a:A) (x:Except Stt (α×Nat)):Except Stt ((A×α)×Nat):=match x with
 | .ok y=>.ok ((a,y.1),y.2)
 | .error e=>.error e
theorem yk7 {A α:Type}{g:(A×α)×Nat→Except Stt ((A×α)×Nat)}{h:α×Nat→Except Stt (α×Nat)}(hg:∀a l i,g ((a,l),i)=carry a (h (l,i))):∀n a l i,th7 g n ((a,l),i)=carry a (th7 h n (l,i))
 | 0,_,_,_=>rfl
 | n+1,a,l,i=>by
  unfold th7
  rw[hg]
  cases h (l,i) with
  | ok y=>exact yk7 hg n a y.1 y.2
  | error e=>rfl
theorem qob7 (A:Type) (a:A) (l:List ea7×List Int) (i:Nat):(nkb7 ws A).g ((a,l),i)=carry a (lq7 ws (l,i)):=by
 simp only[nkb7,Rd.seq,Rd.num,Rd.map,lq7,tf7]
 cases tj7 ws 11 i with
 | error e=>rfl
 | ok x =>
  dsimp only
  cases tj7 ws 1000000000 x.2 with
  | error e=>rfl
  | ok y =>
   dsimp only
   cases tj7 ws 1000000000 y.2 with
   | error e=>rfl
   | ok z=>rfl
theorem vgb7 (A:Type) (a:A) (l:List (List ea7)×List (List Int)) (i:Nat):(mw7 ws A).g ((a,l),i)=carry a (tg7 ws (l,i)):=by
 simp only[mw7,Rd.seq,Rd.num,Rd.map,Rd.rep,tg7,it7,tf7]
 cases tj7 ws 12 i with
 | error e=>rfl
 | ok x =>
  dsimp only
  rw[yk7 (qob7 ws _)]
  cases th7 (lq7 ws) x.1.toNat (([],[]),x.2) with
  | error e=>rfl
  | ok y=>rfl
theorem xmb7 (A:Type) (a:A) (l:List Int×List Int) (i:Nat):(nlb7 ws A).g ((a,l),i)=carry a (hp7 ws (l,i)):=by
 simp only[nlb7,Rd.seq,Rd.num,Rd.map,hp7,tf7]
 cases tj7 ws 47 i with
 | error e=>rfl
 | ok x =>
  dsimp only
  cases tj7 ws 1000000000 x.2 with
  | error e=>rfl
  | ok y=>rfl
theorem bob7 (A:Type) (a:A) (l:List ga7×List qa7) (i:Nat):(zeb7 ws A).g ((a,l),i)=carry a (dj7 ws (l,i)):=by
 simp only[zeb7,Rd.seq,Rd.num,Rd.map,Rd.rep,dj7,seb7,tf7]
 cases tj7 ws 11 i with
 | error e=>rfl
 | ok x =>
  dsimp only
  cases tj7 ws 1000000000 x.2 with
  | error e=>rfl
  | ok y =>
   dsimp only
   cases tj7 ws 48 y.2 with
   | error e=>rfl
   | ok n =>
    dsimp only
    rw[yk7 (xmb7 ws _)]
    cases th7 (hp7 ws) n.1.toNat (([],[]),n.2) with
    | error e=>rfl
    | ok c =>
     dsimp only [carry]
     cases tj7 ws 1000000000 c.2 with
     | error e=>rfl
     | ok z=>rfl
theorem ur7:(rj7 ws).g ((),0)=bh7 ws:=by
 simp only[rj7,Rd.seq,Rd.num,Rd.map,Rd.must,Rd.rep,bh7,tf7]
 cases fi7 ws [112,108,97,110] 0 with
 | error e=>rfl
 | ok i1 =>
  dsimp only
  cases tj7 ws 1000000000000000 i1 with
  | error e=>rfl
  | ok c =>
   dsimp only
   cases fi7 ws [116,114,117,99,107,115] c.2 with
   | error e=>rfl
   | ok i3 =>
    dsimp only
    cases tj7 ws 60 i3 with
    | error e=>rfl
    | ok n =>
     dsimp only
     rw[yk7 (vgb7 ws _)]
     cases th7 (tg7 ws) n.1.toNat (([],[]),n.2) with
     | error e=>rfl
     | ok T =>
      dsimp only [carry]
      cases fi7 ws [98,105,107,101,115] T.2 with
      | error e=>rfl
      | ok i6 =>
       dsimp only
       cases tj7 ws 60 i6 with
       | error e=>rfl
       | ok m =>
        dsimp only
        rw[yk7 (bob7 ws _)]
        cases th7 (dj7 ws) m.1.toNat (([],[]),m.2) with
        | error e=>rfl
        | ok B =>
         dsimp only [carry]
         cases fi7 ws [101,110,100] B.2 with
         | error e=>rfl
         | ok i9=>rfl
end
theorem dcc7 {s:List UInt8}{a b:Nat}:(∀c∈lgb7 s a b,c∈s)∧(lgb7 s a b).length≤s.length:=by
 refine⟨fun c hc=>List.mem_of_mem_drop (List.mem_of_mem_take hc), ?_⟩
 unfold lgb7
 rw[List.length_take,List.length_drop];omega
theorem nbb7 (s:List UInt8):∀k,∀w∈(scan s k).out,(∀c∈w.1,c∈s)∧w.1.length≤s.length
 | 0,w,h=>by cases h
 | k+1,w,h=>by
  have ih:=nbb7 s k
  unfold scan tp7 at h
  split at h
  ·exact ih w h
  ·split at h
   ·cases hf:(scan s k).fr with
    | some a =>
     rw[hf]at h
     simp only[List.mem_append,List.mem_singleton]at h
     rcases h with h | rfl
     ·exact ih w h
     ·exact dcc7
    | none =>
     rw[hf]at h
     exact ih w h
   ·cases hf:(scan s k).fr with
    | some a=>rw[hf]at h;exact ih w h
    | none=>rw[hf]at h;exact ih w h
theorem ejc7 {s:List UInt8}(h:cjb7 s s.length):∀c∈s,c.toNat<128:=fun c hc=>by
 obtain⟨i,hi,rfl⟩:=List.getElem_of_mem hc
 have h1:=h i hi
 rw[List.getD_eq_getElem?_getD,List.getElem?_eq_getElem hi,Option.getD_some,qlb7]at h1
 unfold jxb7 at h1
 simp only[Bool.and_eq_false_iff,Bool.or_eq_false_iff,decide_eq_false_iff_not,Decidable.not_not]at h1
 omega
theorem nfb7 {s:List UInt8}(h:cjb7 s s.length):(∀w∈jb7 s,(∀c∈w.1,c.toNat<128)∧w.1.length≤s.length)∧(jb7 s).length≤s.length+1 :=
 ⟨fun w hw=>⟨fun c hc=>ejc7 h c ((nbb7 s _ w hw).1 c hc),(nbb7 s _ w hw).2⟩,tt7 s _⟩
theorem nrb7 {s:List UInt8}(h:¬np7 s<s.length):cjb7 s s.length:=by
 intro i hi
 have key:∀(l:List UInt8),¬np7 l<l.length→∀j,j<l.length→lqb7 (l.getD j 10)=false:=by
  intro l
  induction l with
  | nil=>intro _ j hj;simp at hj
  | cons a l ih =>
   intro h j hj
   unfold np7 at h ih
   rw[List.takeWhile_cons]at h
   cases ha:lqb7 a with
   | true=>rw[ha]at h;simp at h
   | false =>
    rw[ha]at h
    simp only[Bool.not_false,if_true,List.length_cons]at h
    cases j with
    | zero=>exact ha
    | succ j=>exact ih (by omega) j (by simpa using hj)
 exact key s h i hi
open Go.RowKit Go.Lib
def okC (c:UInt8):Prop:=lqb7 c=false∧jgb7 c=false
def okW (w:List UInt8):Prop:=w≠[]∧∀c∈w,okC c
instance (c:UInt8):Decidable (okC c):=by unfold okC;infer_instance
instance (w:List UInt8):Decidable (okW w):=by unfold okW;infer_instance
def okD (d:UInt8):Prop:=d=32∨d=10
def xe7 (l:List (List UInt8×UInt8)):List UInt8:=l.flatMap fun p=>p.1++[p.2]
def okL (l:List (List UInt8×UInt8)):Prop:=∀p∈l,okW p.1∧okD p.2
theorem gx7 (a b:List (List UInt8×UInt8)):xe7 (a++b)=xe7 a++xe7 b:=by unfold xe7;rw[List.flatMap_append]
theorem kib7 {a b:List (List UInt8×UInt8)}(ha:okL a) (hb:okL b):okL (a++b):=fun p hp=>(List.mem_append.1 hp).elim (ha p) (hb p)
theorem bkb7 (pre w suf:List UInt8) (i:Nat) (h:i<w.length):(pre++w++suf).getD (pre.length+i) 10=w[i]:=by
 rw[List.getD_eq_getElem?_getD,List.append_assoc,List.getElem?_append_right (by omega),show pre.length+i-pre.length=i by omega,List.getElem?_append_left h,List.getElem?_eq_getElem h];rfl
theorem occ7 (pre w suf:List UInt8):lgb7 (pre++w++suf) pre.length (pre.length+w.length)=w:=by
 unfold lgb7
 rw[List.append_assoc,List.drop_left,show pre.length+w.length-pre.length=w.length by omega,List.take_left]
theorem dvb7 {pre w suf:List UInt8}{d:UInt8}{o:List (List UInt8×Nat)}(hw:okW w) (hd:okD d) (h:scan (pre++(w++[d])++suf) pre.length=⟨o,none,false⟩) :
  scan (pre++(w++[d])++suf) (pre.length+(w++[d]).length)=⟨o++[(w,pre.length)],none,false⟩:=by
 have hin:∀i,0<i→i≤w.length→scan (pre++(w++[d])++suf) (pre.length+i)=⟨o,some pre.length,false⟩:=by
  intro i
  induction i with
  | zero=>intro h;omega
  | succ i ih =>
   intro _ hi
   have hg:jgb7 ((pre++(w++[d])++suf).getD (pre.length+i) 10)=false:=by
    rw[bkb7 pre (w++[d]) suf i (by simp;omega),List.getElem_append_left (by omega)]
    exact (hw.2 _ (List.getElem_mem _)).2
   by_cases h0:i=0
   ·subst h0
    have:=ueb7 (s:=pre++(w++[d])++suf) (k:=pre.length) (.inl (by rw[h];exact⟨rfl,rfl⟩)) hg
    rw[show pre.length+(0+1)=pre.length+1 from rfl,this]
    unfold qd7
    rw[h]
   ·exact pcb7 (ih (by omega) (by omega)) hg
 have hwl:0<w.length:=List.length_pos_iff.2 hw.1
 have h1:=hin w.length hwl (Nat.le_refl _)
 have hg:(pre++(w++[d])++suf).getD (pre.length+w.length) 10=d:=by
  rw[bkb7 pre (w++[d]) suf w.length (by simp),List.getElem_append_right (Nat.le_refl _)]
  simp
 have hdd:jgb7 d=true:=by rcases hd with rfl | rfl <;> rfl
 have h2:=(wlb7 h1 (by rw[hg];exact hdd))
 have h3:=xq7 h2.1 (by rw[hg];exact hdd) (by rw[h1])
 rw[List.length_append,List.length_singleton,← Nat.add_assoc,h3,h2.2,hg,show decide (d=35)=false by rcases hd with rfl | rfl <;> rfl]
 have:=occ7 pre w ([d]++suf)
 rw[show pre++w++([d]++suf)=pre++(w++[d])++suf by simp]at this
 rw[this]
theorem kdb7:∀(l:List (List UInt8×UInt8)) (pre:List UInt8) (suf:List UInt8) (o:List (List UInt8×Nat)),okL l→scan (pre++xe7 l++suf) pre.length=⟨o,none,false⟩ →
  ∃q,scan (pre++xe7 l++suf) (pre.length+(xe7 l).length)=⟨o++q,none,false⟩∧q.map (·.1)=l.map (·.1)
 | [],pre,suf,o,_,h=>⟨[],by simpa[xe7]using h,rfl⟩
 | p::l,pre,suf,o,hl,h=>by
  obtain⟨hw,hd⟩:=hl p (List.mem_cons_self ..)
  have e:pre++xe7 (p::l)++suf=pre++(p.1++[p.2])++(xe7 l++suf):=by simp[xe7]
  have e2:pre++xe7 (p::l)++suf=(pre++(p.1++[p.2]))++xe7 l++suf:=by simp[xe7]
  have h1:=dvb7 (suf:=xe7 l++suf) hw hd (by rw[← e];exact h)
  rw[← e,e2,← List.length_append]at h1
  obtain⟨q,h2,h3⟩:=kdb7 l (pre++(p.1++[p.2])) suf _ (fun x hx=>hl x (List.mem_cons_of_mem _ hx)) h1
  refine⟨(p.1,pre.length)::q, ?_,by simp[h3]⟩
  rw[e2,show pre.length+(xe7 (p::l)).length=(pre++(p.1++[p.2])).length+(xe7 l).length by simp[xe7];omega,h2]
  simp
theorem xqb7 {l:List (List UInt8×UInt8)}(h:okL l):cjb7 (xe7 l) (xe7 l).length:=fun i hi=>by
 rw[List.getD_eq_getElem?_getD,List.getElem?_eq_getElem hi]
 have hm:=List.getElem_mem hi
 unfold xe7 at hm
 obtain⟨p,hp,hc⟩:=List.mem_flatMap.1 hm
 obtain⟨hw,hd⟩:=h p hp
 rcases List.mem_append.1 hc with hc | hc
 ·exact (hw.2 _ hc).1
 ·rw[show (xe7 l)[i]=p.2 from List.mem_singleton.1 hc]
  rcases hd with e | e <;> rw[e] <;> rfl
theorem kob7 {l:List (List UInt8×UInt8)}(h:okL l):(jb7 (xe7 l)).map (·.1)=l.map (·.1)∧np7 (xe7 l)=(xe7 l).length:=by
 refine⟨?_,iu7 (xqb7 h)⟩
 obtain⟨q,h1,h2⟩:=kdb7 l [] [] [] h rfl
 simp only[List.nil_append,List.append_nil,List.length_nil,Nat.zero_add]at h1
 rw[← h2,← clb7 (s:=xe7 l) (.inl (by rw[h1];exact⟨rfl,rfl⟩))]
 unfold qd7
 rw[h1]
def go7 (T:List UInt8) (q:List (List UInt8)):Prop:=∃l,okL l∧xe7 l=T∧l.map (·.1)=q
theorem go7.app {A B:List UInt8}{a b:List (List UInt8)}(h1:go7 A a) (h2:go7 B b):go7 (A++B) (a++b):=by
 obtain⟨l,h1,rfl,rfl⟩:=h1
 obtain⟨m,h2,rfl,rfl⟩:=h2
 exact⟨l++m,kib7 h1 h2,gx7 _ _,List.map_append⟩
theorem rob7:go7 [] []:=⟨[],(fun _ h=>by cases h),rfl,rfl⟩
theorem ym7 {f:Nat→List UInt8}{g:Nat→List (List UInt8)}:∀n,(∀i,i<n→go7 (f i) (g i))→go7 ((List.range n).flatMap f) ((List.range n).flatMap g)
 | 0,_=>rob7
 | n+1,h=>by
  rw[List.range_succ,List.flatMap_append,List.flatMap_append]
  exact (ym7 n fun i hi=>h i (by omega)).app (by simpa using h n (by omega))
theorem afc7 {c:UInt8}(h:hh7 c):okC c:=by
 unfold hh7 at h
 unfold okC
 rw[qlb7,yeb7]
 unfold jxb7 bpb7
 constructor
 ·simp only[Bool.and_eq_false_iff,Bool.or_eq_false_iff,decide_eq_false_iff_not];right;constructor <;> omega
 ·simp only[Bool.or_eq_false_iff,decide_eq_false_iff_not];refine⟨⟨?_, ?_⟩, ?_⟩ <;> omega
theorem yzb7 (u:Nat):∀c∈decDigits u,hh7 c:=by
 induction u using Nat.strongRecOn with
 | ind u ih =>
  intro c hc
  have hd:∀v,v<10→hh7 (UInt8.ofNat (48+v)):=fun v hv=>by
   unfold hh7
   have:(UInt8.ofNat (48+v)).toNat=(48+v) % 256:=rfl
   omega
  by_cases h:u<10
  ·rw[ek7 h,Nat.mod_eq_of_lt h,List.mem_singleton]at hc
   rw[hc];exact hd u h
  ·rw[tx7 h,List.mem_append,List.mem_singleton]at hc
   rcases hc with hc | rfl
   ·exact ih _ (by omega) c hc
   ·exact hd _ (by omega)
theorem bvb7 {n:Int}(h:0≤n):itoa n=decDigits n.toNat:=by
 obtain⟨u,rfl⟩:=Int.eq_ofNat_of_zero_le h
 unfold itoa
 rw[if_neg (by omega)];try simp
theorem hrb7 {n:Int}(h:0≤n):okW (itoa n):=by
 rw[bvb7 h]
 exact⟨fun e=>by have:=nw7 n.toNat;rw[e]at this;simp at this,fun c hc=>afc7 (yzb7 _ c hc)⟩
def fo7 (nm:List UInt8) (l:List Int):List (List UInt8):=(if nm=[] then [] else [nm])++l.map itoa
theorem qw7:∀(l:List Int) (b:List UInt8) (q:List (List UInt8×UInt8)) (w:List UInt8),okL q→okW w→b=xe7 q++w→(∀n∈l,0≤n)→go7 (lnS b l++[10]) (q.map (·.1)++[w]++l.map itoa)
 | [],b,q,w,hq,hw,e,_=>⟨q++[(w,10)],kib7 hq (fun p hp=>by rw[List.mem_singleton.1 hp];exact⟨hw,.inr rfl⟩),by rw[gx7,e];simp[xe7,lnS],by simp⟩
 | n::l,b,q,w,hq,hw,e,hl=>by
  have hb:0<b.length:=by
   have:=List.length_pos_iff.2 hw.1
   rw[e,List.length_append];omega
  have:=qw7 l (ci7 b n) (q++[(w,32)]) (itoa n) (kib7 hq (fun p hp=>by rw[List.mem_singleton.1 hp];exact⟨hw,.inl rfl⟩)) (hrb7 (hl n (List.mem_cons_self ..))) (by unfold ci7;rw[if_pos hb,e,gx7];simp[xe7]) (fun m hm=>hl m (List.mem_cons_of_mem _ hm))
  simpa[lnS]using this
theorem rk7 {nm:List UInt8}{l:List Int}(hn:nm=[]∨okW nm) (h0:nm≠[]∨l≠[]) (hl:∀n∈l,0≤n):go7 (wi7 nm l) (fo7 nm l):=by
 unfold wi7 fo7
 by_cases e:nm=[]
 ·subst e
  rw[if_pos rfl]
  match l,h0.resolve_left (fun h=>h rfl) with
  | n::l,_ =>
   have:=qw7 l (ci7 [] n) [] (itoa n) (fun _ h=>by cases h) (hrb7 (hl n (List.mem_cons_self ..))) (by simp[ci7,xe7]) (fun m hm=>hl m (List.mem_cons_of_mem _ hm))
   simpa[lnS]using this
 ·rw[if_neg e]
  have:=qw7 l nm [] nm (fun _ h=>by cases h) (hn.resolve_left e) (by simp[xe7]) hl
  simpa using this
def jzb7 (p:ab7) (t:qb7) (i:Nat):List (List UInt8):=fo7 [] (tCells (pk7 p i) (t.trucks.getD i []) (pk7 p i).length)
def mic7 (p:ab7) (t:qb7) (i:Nat):List (List UInt8):=fo7 [] (kCells (er7 p i) (hq7 t i) (er7 p i).stops.length++[(hq7 t i).back])
def eeb7 (p:ab7) (t:qb7) (c:Int):List (List UInt8) :=
 fo7 [112,108,97,110] [c]++fo7 [116,114,117,99,107,115] [(p.trucks.length:Int)]++(List.range p.trucks.length).flatMap (jzb7 p t)++fo7 [98,105,107,101,115] [(p.bikes.length:Int)]++(List.range p.bikes.length).flatMap (mic7 p t)++[[101,110,100]]
def ry7 (ws:List (List UInt8×Nat)) (i j:Nat) (q:List (List UInt8)):Prop:=j=i+q.length∧j≤ws.length∧((ws.map (·.1)).drop i).take q.length=q
theorem ry7.nil {ws:List (List UInt8×Nat)}{i:Nat}(h:i≤ws.length):ry7 ws i i []:=⟨rfl,h,rfl⟩
theorem ry7.app {ws:List (List UInt8×Nat)}{i j k:Nat}{a b:List (List UInt8)}(h1:ry7 ws i j a) (h2:ry7 ws j k b):ry7 ws i k (a++b):=by
 obtain⟨e1,l1,t1⟩:=h1
 obtain⟨e2,l2,t2⟩:=h2
 refine⟨by rw[List.length_append];omega,l2, ?_⟩
 rw[List.length_append,List.take_add,t1,List.drop_drop,← e1,t2]
theorem ukb7 {ws:List (List UInt8×Nat)}{i:Nat}(h:i<ws.length):ry7 ws i (i+1) [wdN ws i]:=by
 refine⟨rfl,h, ?_⟩
 have hm:i<(ws.map (·.1)).length:=by rw[List.length_map];exact h
 rw[List.drop_eq_getElem_cons hm]
 unfold wdN
 rw[List.getD_eq_getElem?_getD,List.getElem?_eq_getElem h]
 simp
theorem ff7 {ws:List (List UInt8×Nat)}{most:Int}{i:Nat}{y:Int×Nat}(h:tj7 ws most i = .ok y):ry7 ws i y.2 [itoa y.1]∧0≤y.1∧y.1≤most:=by
 unfold tj7 at h
 split at h
 ·cases h
 ·rename_i hi
  split at h
  ·cases h
  ·rename_i x hx
   split at h
   ·cases h
   ·rename_i hm
    cases h
    unfold fe7 at hx
    split at hx
    ·rename_i hc
     cases hx
     refine⟨?_,by simp only;omega,by simp only;omega⟩
     have:=ukb7 (ws:=ws) (i:=i) (by omega)
     rw[show itoa ((em7 (wdN ws i):Nat):Int)=wdN ws i by rw[bvb7 (by omega)];exact hc.2.2.1]
     exact this
    ·cases hx
theorem vp7 {ws:List (List UInt8×Nat)}{w:List UInt8}{i j:Nat}(h:fi7 ws w i = .ok j):ry7 ws i j [w]:=by
 unfold fi7 at h
 split at h
 ·cases h
 ·rename_i hc
  cases h
  have h1:i<ws.length:=by omega
  have h2:wdN ws i=w:=Decidable.not_not.1 fun h=>hc (.inr h)
  rw[← h2]
  exact ukb7 h1
theorem bc7 {α β:Type}{x:Except Stt α}{f:α→Except Stt β}{b:β}(h:tf7 x f = .ok b):∃a,x = .ok a∧f a = .ok b:=by
 cases x with
 | ok a=>exact⟨a,rfl,h⟩
 | error e=>cases h
theorem yp7 {α:Type}{g:α×Nat→Except Stt (α×Nat)}{P:Nat→α×Nat→Prop}(hs:∀k a b,P k a→g a = .ok b→P (k+1) b):∀(n k:Nat) (a b:α×Nat),P k a→th7 g n a = .ok b→P (k+n) b
 | 0,k,a,b,hp,h=>by cases h;exact hp
 | n+1,k,a,b,hp,h=>by
  unfold th7 at h
  split at h
  ·rename_i c hc
   have:=yp7 hs n (k+1) c b (hs k a c hp hc) h
   rwa [show k+1+n=k+(n+1) by omega]at this
  ·cases h
theorem ee7 {α:Type}{a b:List α}{i:Nat}{d:α}(h:i<a.length):(a++b).getD i d=a.getD i d:=by
 rw[List.getD_eq_getElem?_getD,List.getElem?_append_left h,List.getD_eq_getElem?_getD]
theorem prb7 {α:Type}{a:List α}{x d:α}:(a++[x]).getD a.length d=x:=by
 rw[List.getD_eq_getElem?_getD,List.getElem?_append_right (Nat.le_refl _),Nat.sub_self];rfl
theorem yc7 {α:Type}{a:List α}{x d:α}{k:Nat}(h:a.length=k):(a++[x]).getD k d=x:=by rw[← h];exact prb7
theorem ir7 {β:Type}{f g:Nat→List β}{n:Nat}(h:∀i,i<n→f i=g i):(List.range n).flatMap f=(List.range n).flatMap g:=by
 induction n with
 | zero=>rfl
 | succ n ih=>rw[List.range_succ,List.flatMap_append,List.flatMap_append,ih fun i hi=>h i (by omega)];simp[h n (by omega)]
def nn (n:Int):Prop:=0≤n∧n≤1000000000000000
theorem nn0:nn 0:=by unfold nn;omega
theorem nn.wf {n:Int}(h:nn n):za7 n:=by unfold nn at h;unfold za7;omega
structure ukc7 (l:List ea7) (t:List Int):Prop where
 n:l.length≤12
 e:t.length=l.length
 s:∀x∈l,nn x.sat∧nn x.load
 t:∀x∈t,nn x
structure jlc7 (b:ga7) (r:qa7):Prop where
 n:b.stops.length≤48
 e:r.starts.length=b.stops.length
 s:nn b.sat∧nn r.out∧nn r.back
 c:∀x∈b.stops,nn x
 t:∀x∈r.starts,nn x
theorem eob7 {ws:List (List UInt8×Nat)}{i:Nat}{a:(List ea7×List Int)×Nat}(h:it7 ws i = .ok a):ry7 ws i a.2 (fo7 [] (tCells a.1.1 a.1.2 a.1.1.length))∧ukc7 a.1.1 a.1.2:=by
 obtain⟨x,h1,h2⟩:=bc7 h
 obtain⟨T0,p0,m0⟩:=ff7 h1
 have key:=yp7 (P:=fun k (a:(List ea7×List Int)×Nat)=>(a.1.1.length=k∧a.1.2.length=k)∧((∀x∈a.1.1,nn x.sat∧nn x.load)∧∀x∈a.1.2,nn x)∧ry7 ws x.2 a.2 (((List.range k).flatMap (tItem a.1.1 a.1.2)).map itoa)) (fun k a b hp hb=>by
  obtain⟨⟨l1,l2⟩,⟨q1,q2⟩,T⟩:=hp
  obtain⟨y1,g1,hb⟩:=bc7 hb
  obtain⟨y2,g2,hb⟩:=bc7 hb
  obtain⟨y3,g3,hb⟩:=bc7 hb
  cases hb
  obtain⟨T1,b1,c1⟩:=ff7 g1
  obtain⟨T2,b2,c2⟩:=ff7 g2
  obtain⟨T3,b3,c3⟩:=ff7 g3
  refine⟨⟨by simp[l1],by simp[l2]⟩,⟨fun x hx=>?_,fun x hx=>?_⟩, ?_⟩
  ·rcases List.mem_append.1 hx with hx | hx
   ·exact q1 x hx
   ·rw[List.mem_singleton.1 hx];unfold nn;simp only;omega
  ·rcases List.mem_append.1 hx with hx | hx
   ·exact q2 x hx
   ·rw[List.mem_singleton.1 hx];unfold nn;omega
  ·have:=T.app ((T1.app T2).app T3)
   rw[List.range_succ,List.flatMap_append,List.map_append]
   rw[ir7 (g:=tItem a.1.1 a.1.2) fun i hi=>by unfold tItem;simp only;rw[ee7 (by omega),ee7 (by omega)]]
   simpa only[tItem,yc7 l1,yc7 l2,List.flatMap_cons,List.flatMap_nil,List.append_nil,List.map_cons,List.map_nil,List.cons_append,List.nil_append]using this) x.1.toNat 0 _ _ ⟨⟨rfl,rfl⟩,⟨(fun _ h=>by cases h),fun _ h=>by cases h⟩,ry7.nil T0.2.1⟩ h2
 rw[Nat.zero_add]at key
 obtain⟨⟨l1,l2⟩,⟨q1,q2⟩,T⟩:=key
 refine⟨?_,by omega,by omega,q1,q2⟩
 have:=T0.app T
 unfold fo7 tCells
 rw[if_pos rfl,l1,show ((x.1.toNat:Nat):Int)=x.1 by omega]
 simpa using this
theorem vub7 {ws:List (List UInt8×Nat)}{i:Nat}{a:(ga7×qa7)×Nat}(h:seb7 ws i = .ok a):ry7 ws i a.2 (fo7 [] (kCells a.1.1 a.1.2 a.1.1.stops.length++[a.1.2.back]))∧jlc7 a.1.1 a.1.2:=by
 obtain⟨s,h1,h⟩:=bc7 h
 obtain⟨o,h2,h⟩:=bc7 h
 obtain⟨x,h3,h⟩:=bc7 h
 obtain⟨l,h4,h⟩:=bc7 h
 obtain⟨b,h5,h⟩:=bc7 h
 cases h
 obtain⟨T1,b1,c1⟩:=ff7 h1
 obtain⟨T2,b2,c2⟩:=ff7 h2
 obtain⟨T3,b3,c3⟩:=ff7 h3
 obtain⟨T5,b5,c5⟩:=ff7 h5
 have key:=yp7 (P:=fun k (a:(List Int×List Int)×Nat)=>(a.1.1.length=k∧a.1.2.length=k)∧((∀x∈a.1.1,nn x)∧∀x∈a.1.2,nn x)∧ry7 ws x.2 a.2 (((List.range k).flatMap fun j=>[a.1.1.getD j 0,a.1.2.getD j 0]).map itoa)) (fun k a b hp hb=>by
  obtain⟨⟨l1,l2⟩,⟨q1,q2⟩,T⟩:=hp
  obtain⟨y1,g1,hb⟩:=bc7 hb
  obtain⟨y2,g2,hb⟩:=bc7 hb
  cases hb
  obtain⟨T1,b1,c1⟩:=ff7 g1
  obtain⟨T2,b2,c2⟩:=ff7 g2
  refine⟨⟨by simp[l1],by simp[l2]⟩,⟨fun x hx=>?_,fun x hx=>?_⟩, ?_⟩
  ·rcases List.mem_append.1 hx with hx | hx
   ·exact q1 x hx
   ·rw[List.mem_singleton.1 hx];unfold nn;omega
  ·rcases List.mem_append.1 hx with hx | hx
   ·exact q2 x hx
   ·rw[List.mem_singleton.1 hx];unfold nn;omega
  ·have:=T.app (T1.app T2)
   rw[List.range_succ,List.flatMap_append,List.map_append]
   rw[ir7 (g:=fun j=>[a.1.1.getD j 0,a.1.2.getD j 0]) fun i hi=>by simp only;rw[ee7 (by omega),ee7 (by omega)]]
   simpa only[yc7 l1,yc7 l2,List.flatMap_cons,List.flatMap_nil,List.append_nil,List.map_cons,List.map_nil,List.cons_append,List.nil_append]using this) x.1.toNat 0 _ _ ⟨⟨rfl,rfl⟩,⟨(fun _ h=>by cases h),fun _ h=>by cases h⟩,ry7.nil T3.2.1⟩ h4
 rw[Nat.zero_add]at key
 obtain⟨⟨l1,l2⟩,⟨q1,q2⟩,T⟩:=key
 refine⟨?_,by simp only;omega,by simp only;omega,by unfold nn;simp only;omega,q1,q2⟩
 have:=(((T1.app T2).app T3).app T).app T5
 unfold fo7 kCells bItem
 rw[if_pos rfl]
 simp only
 rw[l1,show ((x.1.toNat:Nat):Int)=x.1 by omega]
 simpa using this
structure ewb7 (p:ab7) (t:qb7) (c:Int):Prop where
 nt:p.trucks.length≤60
 nb:p.bikes.length≤60
 et:t.trucks.length=p.trucks.length
 eb:t.bikes.length=p.bikes.length
 tr:∀i,i<p.trucks.length→ukc7 (pk7 p i) (t.trucks.getD i [])
 bk:∀i,i<p.bikes.length→jlc7 (er7 p i) (hq7 t i)
 c:nn c
theorem qz7 {ws:List (List UInt8×Nat)}{a:ld7×Nat}(h:bh7 ws = .ok a):ry7 ws 0 a.2 (eeb7 a.1.plan a.1.times a.1.cost)∧ewb7 a.1.plan a.1.times a.1.cost:=by
 obtain⟨i1,h1,h⟩:=bc7 h
 obtain⟨c,h2,h⟩:=bc7 h
 obtain⟨i3,h3,h⟩:=bc7 h
 obtain⟨n,h4,h⟩:=bc7 h
 obtain⟨X,h5,h⟩:=bc7 h
 obtain⟨i6,h6,h⟩:=bc7 h
 obtain⟨m,h7,h⟩:=bc7 h
 obtain⟨B,h8,h⟩:=bc7 h
 obtain⟨i9,h9,h⟩:=bc7 h
 cases h
 have T1:=vp7 h1
 obtain⟨T2,b2,c2⟩:=ff7 h2
 have T3:=vp7 h3
 obtain⟨T4,b4,c4⟩:=ff7 h4
 have T6:=vp7 h6
 obtain⟨T7,b7,c7⟩:=ff7 h7
 have T9:=vp7 h9
 have k5:=yp7 (P:=fun k (a:(List (List ea7)×List (List Int))×Nat)=>(a.1.1.length=k∧a.1.2.length=k)∧(∀i,i<k→ukc7 (a.1.1.getD i []) (a.1.2.getD i []))∧ry7 ws n.2 a.2 ((List.range k).flatMap fun i=>fo7 [] (tCells (a.1.1.getD i []) (a.1.2.getD i []) (a.1.1.getD i []).length))) (fun k a b hp hb=>by
  obtain⟨⟨l1,l2⟩,q,T⟩:=hp
  obtain⟨y,g,hb⟩:=bc7 hb
  cases hb
  obtain⟨U,hu⟩:=eob7 g
  refine⟨⟨by simp[l1],by simp[l2]⟩,fun i hi=>?_, ?_⟩
  ·by_cases e:i=k
   ·subst e
    simp only[yc7 l1,yc7 l2]
    exact hu
   ·simp only
    rw[ee7 (by omega),ee7 (by omega)]
    exact q i (by omega)
  ·have:=T.app U
   rw[List.range_succ,List.flatMap_append]
   rw[ir7 (g:=fun i=>fo7 [] (tCells (a.1.1.getD i []) (a.1.2.getD i []) (a.1.1.getD i []).length)) fun i hi=>by simp only;rw[ee7 (by omega),ee7 (by omega)]]
   simpa only[List.flatMap_cons,List.flatMap_nil,List.append_nil,yc7 l1,yc7 l2]using this) n.1.toNat 0 _ _ ⟨⟨rfl,rfl⟩,(fun i hi=>by omega),ry7.nil T4.2.1⟩ h5
 rw[Nat.zero_add]at k5
 obtain⟨⟨l1,l2⟩,q5,T5⟩:=k5
 have k8:=yp7 (P:=fun k (a:(List ga7×List qa7)×Nat)=>(a.1.1.length=k∧a.1.2.length=k)∧(∀i,i<k→jlc7 (a.1.1.getD i ⟨0,[]⟩) (a.1.2.getD i ⟨0,[],0⟩))∧ry7 ws m.2 a.2 ((List.range k).flatMap fun i=>fo7 [] (kCells (a.1.1.getD i ⟨0,[]⟩) (a.1.2.getD i ⟨0,[],0⟩) (a.1.1.getD i ⟨0,[]⟩).stops.length++[(a.1.2.getD i ⟨0,[],0⟩).back]))) (fun k a b hp hb=>by
  obtain⟨⟨l1,l2⟩,q,T⟩:=hp
  obtain⟨y,g,hb⟩:=bc7 hb
  cases hb
  obtain⟨U,hu⟩:=vub7 g
  refine⟨⟨by simp[l1],by simp[l2]⟩,fun i hi=>?_, ?_⟩
  ·by_cases e:i=k
   ·subst e
    simp only[yc7 l1,yc7 l2]
    exact hu
   ·simp only
    rw[ee7 (by omega),ee7 (by omega)]
    exact q i (by omega)
  ·have:=T.app U
   rw[List.range_succ,List.flatMap_append]
   rw[ir7 (g:=fun i=>fo7 [] (kCells (a.1.1.getD i ⟨0,[]⟩) (a.1.2.getD i ⟨0,[],0⟩) (a.1.1.getD i ⟨0,[]⟩).stops.length++[(a.1.2.getD i ⟨0,[],0⟩).back])) fun i hi=>by simp only;rw[ee7 (by omega),ee7 (by omega)]]
   simpa only[List.flatMap_cons,List.flatMap_nil,List.append_nil,yc7 l1,yc7 l2]using this) m.1.toNat 0 _ _ ⟨⟨rfl,rfl⟩,(fun i hi=>by omega),ry7.nil T7.2.1⟩ h8
 rw[Nat.zero_add]at k8
 obtain⟨⟨m1,m2⟩,q8,T8⟩:=k8
 refine⟨?_,by simp only;omega,by simp only;omega,by simp only;omega,by simp only;omega,fun i hi=>q5 i (by simp only at hi;omega),fun i hi=>q8 i (by simp only at hi;omega),by unfold nn;simp only;omega⟩
 have:=((((((((T1.app T2).app T3).app T4).app T5).app T6).app T7).app T8).app T9)
 unfold eeb7 jzb7 mic7 pk7 er7 hq7
 simp only
 rw[l1,m1,show ((n.1.toNat:Nat):Int)=n.1 by omega,show ((m.1.toNat:Nat):Int)=m.1 by omega]
 simpa[fo7]using this
section
variable {p:ab7} {t:qb7} {c:Int} (h:ewb7 p t c)
include h
theorem ewb7.text:ye7 p t c where
 nt:=by have:=h.nt;omega
 nb:=by have:=h.nb;omega
 st:=fun l hl=>by
  obtain⟨i,hi,rfl⟩:=List.getElem_of_mem hl
  have:=h.tr i hi
  unfold pk7 at this
  rw[List.getD_eq_getElem?_getD,List.getElem?_eq_getElem hi,Option.getD_some]at this
  exact⟨by have:=this.n;omega,fun s hs=>⟨(this.s s hs).1.wf,(this.s s hs).2.wf⟩⟩
 sb:=fun b hb=>by
  obtain⟨i,hi,rfl⟩:=List.getElem_of_mem hb
  have:=h.bk i hi
  unfold er7 at this
  rw[List.getD_eq_getElem?_getD,List.getElem?_eq_getElem hi,Option.getD_some]at this
  exact⟨by have:=this.n;omega,this.s.1.wf,fun s hs=>(this.c s hs).wf⟩
 tt:=fun l hl v hv=>by
  obtain⟨i,hi,rfl⟩:=List.getElem_of_mem hl
  have:=h.tr i (by rw[← h.et];exact hi)
  rw[List.getD_eq_getElem?_getD (l:=t.trucks),List.getElem?_eq_getElem hi,Option.getD_some]at this
  exact (this.t v hv).wf
 tb:=fun r hr=>by
  obtain⟨i,hi,rfl⟩:=List.getElem_of_mem hr
  have:=h.bk i (by rw[← h.eb];exact hi)
  unfold hq7 at this
  rw[List.getD_eq_getElem?_getD (l:=t.bikes),List.getElem?_eq_getElem hi,Option.getD_some]at this
  exact⟨this.s.2.1.wf,this.s.2.2.wf,fun v hv=>(this.t v hv).wf⟩
 c:=h.c.wf
theorem ewb7.tells:go7 (nj7 p t c) (eeb7 p t c):=by
 unfold nj7 ylb7 vi7 rg7 mi7 eeb7
 have z:∀n:Nat,∀x∈[(n:Int)],0≤x:=fun n x hx=>by rw[List.mem_singleton.1 hx];omega
 have k1:okW [112,108,97,110]:=by decide
 have k2:okW [116,114,117,99,107,115]:=by decide
 have k3:okW [98,105,107,101,115]:=by decide
 have k4:okW [101,110,100]:=by decide
 refine (((((rk7 (.inr k1) (.inl (by simp)) (fun x hx=>by rw[List.mem_singleton.1 hx];exact h.c.1)).app (rk7 (.inr k2) (.inl (by simp)) (z _))).app (ym7 _ fun i hi=>?_)).app (rk7 (.inr k3) (.inl (by simp)) (z _))).app (ym7 _ fun i hi=>?_)).app ⟨[([101,110,100],10)],(fun p hp=>by rw[List.mem_singleton.1 hp];exact⟨k4,.inr rfl⟩),rfl,rfl⟩
 ·have q:=h.tr i hi
  refine rk7 (.inl rfl) (.inr (by simp[tCells])) fun n hn=>?_
  unfold tCells at hn
  rcases List.mem_cons.1 hn with rfl | hn
  ·omega
  obtain⟨j,hj,hn⟩:=List.mem_flatMap.1 hn
  rw[List.mem_range]at hj
  simp only[tItem,List.mem_cons,List.not_mem_nil,or_false]at hn
  have e1:=wf7 (P:=fun x:ea7=>nn x.sat∧nn x.load) (d:=⟨0,0⟩) q.s ⟨nn0,nn0⟩ j
  have e2:=wf7 (P:=nn) (d:=0) q.t nn0 j
  rcases hn with rfl | rfl | rfl
  ·exact e1.1.1
  ·exact e1.2.1
  ·exact e2.1
 ·have q:=h.bk i hi
  refine rk7 (.inl rfl) (.inr (by simp)) fun n hn=>?_
  unfold kCells at hn
  rcases List.mem_append.1 hn with hn | hn
  ·rcases List.mem_cons.1 hn with rfl | hn
   ·exact q.s.1.1
   rcases List.mem_cons.1 hn with rfl | hn
   ·exact q.s.2.1.1
   rcases List.mem_cons.1 hn with rfl | hn
   ·omega
   obtain⟨j,hj,hn⟩:=List.mem_flatMap.1 hn
   simp only[bItem,List.mem_cons,List.not_mem_nil,or_false]at hn
   have e1:=wf7 (P:=nn) (d:=0) q.c nn0 j
   have e2:=wf7 (P:=nn) (d:=0) q.t nn0 j
   rcases hn with rfl | rfl
   ·exact e1.1
   ·exact e2.1
  ·rw[List.mem_singleton.1 hn]
   exact q.s.2.2.1
end
def mac7 (q:List (List UInt8)):Nat:=(q.map fun w=>w.length+1).sum
theorem xlb7:∀l:List (List UInt8×UInt8),(xe7 l).length=mac7 (l.map (·.1))
 | []=>rfl
 | p::l=>by
  have:=xlb7 l
  unfold xe7 mac7 at *
  simp only[List.flatMap_cons,List.length_append,List.length_singleton,List.map_cons,List.sum_cons,this]
theorem sjb7 (s:List UInt8):∀k,mac7 ((scan s k).out.map (·.1))+(match (scan s k).fr with | some a=>k-a | none=>0)≤k
 | 0=>by simp[scan,mac7]
 | k+1=>by
  have ih:=sjb7 s k
  have hf:=djb7 s k
  unfold scan tp7
  split
  ·rename_i hn
   have:(scan s k).fr=none:=by
    cases h:(scan s k).fr with
    | none=>rfl
    | some a=>rw[(hf a h).2]at hn;cases hn
   rw[this]at ih ⊢
   simp only at ih ⊢; omega
  ·split
   ·cases h:(scan s k).fr with
    | none=>rw[h]at ih;simp only at ih ⊢; omega
    | some a =>
     rw[h]at ih
     have:=(hf a h).1
     have hc:(lgb7 s a k).length≤k-a:=by unfold lgb7;rw[List.length_take];omega
     simp only[mac7,List.map_append,List.map_cons,List.map_nil,List.sum_append,List.sum_cons,List.sum_nil]at ih ⊢; omega
   ·cases h:(scan s k).fr with
    | none=>rw[h]at ih;simp only at ih ⊢; omega
    | some a =>
     rw[h]at ih
     have ha:=(hf a h).1
     have ih:mac7 ((scan s k).out.map (·.1))+(k-a)≤k:=ih
     have key:mac7 ((scan s k).out.map (·.1))+(k+1-a)≤k+1:=by omega
     simp only[h]
     exact key
theorem rub7 (ws:List (List UInt8×Nat)) (i:Nat):wdN ws i=(ws.map (·.1)).getD i []:=by
 unfold wdN
 simp only[List.getD_eq_getElem?_getD,List.getElem?_map]
 cases ws[i]? <;> rfl
theorem gob7 {a b:List (List UInt8×Nat)}(h:a.map (·.1)=b.map (·.1)):bh7 a=bh7 b:=by
 have hl:a.length=b.length:=by have:=congrArg List.length h;simpa using this
 have hw:wdN a=wdN b:=funext fun i=>by rw[rub7,rub7,h]
 have e1:tj7 a=tj7 b:=funext fun m=>funext fun i=>by unfold tj7;rw[hl,hw]
 have e2:fi7 a=fi7 b:=funext fun m=>funext fun i=>by unfold fi7;rw[hl,hw]
 unfold bh7 tg7 it7 lq7 dj7 seb7 hp7
 rw[e1,e2]
theorem again {s:List UInt8}{x:ld7}{i:Nat}(hs:bh7 (jb7 s) = .ok (x,i)) (hi:¬i<(jb7 s).length) :
  ewb7 x.plan x.times x.cost∧(nj7 x.plan x.times x.cost).length≤s.length+1∧np7 (nj7 x.plan x.times x.cost)=(nj7 x.plan x.times x.cost).length ∧
   bh7 (jb7 (nj7 x.plan x.times x.cost)) = .ok (x,i)∧(jb7 (nj7 x.plan x.times x.cost)).length=(jb7 s).length:=by
 obtain⟨⟨e1,e2,e3⟩,hr⟩:=qz7 hs
 simp only at e1 e2 e3 hr
 obtain⟨l,hl,e4,e5⟩:=hr.tells
 obtain⟨h1,h2⟩:=kob7 hl
 have e6:(jb7 s).map (·.1)=eeb7 x.plan x.times x.cost:=by
  rw[← e3,List.drop_zero,List.take_of_length_le]
  rw[List.length_map];omega
 have e7:(jb7 (xe7 l)).map (·.1)=(jb7 s).map (·.1):=by rw[h1,e5,e6]
 rw[← e4]
 refine⟨hr, ?_,h2,by rw[gob7 e7,hs],by have:=congrArg List.length e7;simpa using this⟩
 rw[xlb7,e5,← e6]
 have:=sjb7 s (s.length+1)
 unfold jb7
 omega
end Go.Proofs.YtabadfkikdefeaaGreat
namespace Go.Proofs.YtabadfkikdefeaaGreat
open Go.RowKit
def sk7:ze7:=⟨0,0,0,0,0,[],[],[],[],false,false⟩
theorem mmb7 (w:World):ezb7.rep w (fun _=>False) sk7 [.int .u8 0,.int .u8 0,.int .u8 0,.int .u8 0,.int .u8 0,.slice none 0 0,.slice none 0 0,.slice none 0 0,.slice none 0 0,.bool false,.bool false]:=by
 have h0:∀{α:Type} (S:Shape α),jkb7 S w (fun _=>False) [] [.slice none 0 0]:=fun S=>⟨none,0,0,0,rfl,Nat.le_refl _,Nat.zero_le _,fun h=>absurd h (Nat.not_lt_zero _),fun i h=>absurd h (Nat.not_lt_zero _)⟩
 exact⟨_,_,_,_,rfl,by unfold wf8 sk7;decide,h0 _,h0 _,h0 _,h0 _⟩
theorem kcc7 (w:World):Calls Tryz.prog 70 #[] w fun e w'=>∃ds,e = .returned (.agg ds.toArray)∧nd7 87 167 78 2 w' w.heap.size (st7 sk7) ds∧Below w.heap.size w w':=by
 have hz:=mmb7
 go_enter Tryz.func70,Tryz.ntmps70
 go_wp2_with (go_at_call 20;refine (nhc7 (hz _)).mono ?_;rintro e w1 ⟨ds,rfl,hi,hb⟩;obtain⟨gs,cs1,gc,cc1,gco,cco,gti,cti,rfl⟩:=hi.lit;have R:=(Row.new (w:=w) (e:=57) (cs:=[.int .i64 0,.int .i64 0,.int .i64 0,.int .i64 0,.int .i64 0,.slice none 0 0,.slice none 0 0,.slice none 0 0,.slice none 0 0]) rfl).below hb;obtain⟨r0,r1,r2,r3,r4,r5,r6,r7,r8⟩:=wh7 R;obtain⟨f0,f1,f2,f3,f4,f5,f6,f7,f8⟩:=ndc7 R)
 refine bodyPost_ret (v:=.agg #[.int .i64 (st7 sk7).fin,.int .i64 (st7 sk7).tmany,.int .i64 (st7 sk7).troom,.int .i64 (st7 sk7).bmany,.int .i64 (st7 sk7).broom,.slice (some ⟨gs,0,none⟩) (st7 sk7).sats.length cs1,.slice (some ⟨gc,0,none⟩) (st7 sk7).custs.length cc1,.slice (some ⟨gco,0,none⟩) (st7 sk7).cost.length cco,.slice (some ⟨gti,0,none⟩) (st7 sk7).time.length cti]) (by simp[results,Tryz.results70,go_sem,r0,r1,r2,r3,r4,r5,r6,r7,r8]) rfl ⟨_,rfl, ?_, ?_⟩
 ·refine nd7.keepOn (w:=w1) (TX:=57) ?_ (fun b e cs hR he=>?_) (by decide) (by decide) (by decide) (by decide)
  ·exact hi.mono (by simp)
  ·have n1:b≠w.heap.size:=hR.ne R he
   iterate 9 (rw[Below.heap_setCell _ _ _ _ (by exact n1)])
 ·iterate 9 (refine Below.setCell ?_ (by exact Nat.le_refl _) _)
  exact ((Below.refl _ _).alloc (Nat.le_refl _) _).trans (hb.mono (by simp))
def na7:ba7:=⟨40,1,5,1,3,[⟨60,2⟩],[⟨2,5,90,1⟩],[[0,0,0],[0,0,0],[0,0,0]],[[0,0,0],[0,0,0],[0,0,0]]⟩
theorem mbb7:st7 sk7=na7:=by decide
def jt7:ba7:=(na7.putCost 0 1 5).putCost 1 2 7
def ie7:ab7:=⟨[[⟨0,2⟩]],[⟨0,[0]⟩]⟩
theorem tnc7:qu7 jt7:=by
 unfold qu7 za7 jt7 na7 ba7.putCost setAt maxLen;simp
theorem ptb7:ya7 jt7 ie7=0:=by decide +kernel
theorem nfc7:lj7 jt7 ie7=12:=by decide +kernel
theorem txb7:ya7 jt7 ⟨[],[]⟩=8:=by decide +kernel
theorem wx7:jt7.custs.length≤6:=by decide
theorem ltb7 (w:World):wd7.rep w (fun _=>True) ⟨[],[]⟩ [.slice none 0 0,.slice none 0 0] :=
 ⟨_,_,rfl,⟨none,0,0,0,rfl,Nat.le_refl _,Nat.zero_le _,fun h=>absurd h (Nat.not_lt_zero _),fun i h=>absurd h (Nat.not_lt_zero _)⟩,⟨none,0,0,0,rfl,Nat.le_refl _,Nat.zero_le _,fun h=>absurd h (Nat.not_lt_zero _),fun i h=>absurd h (Nat.not_lt_zero _)⟩⟩
theorem fp7 {w:World}{h1 h2 h3 h4:Nat}{s l b c:Int}{T1 T2 T3 T4:TypeId}(r1:Row w h1 T1 [.int .i64 s,.int .i64 l]) (r2:Row w h2 T2 [.slice (some ⟨h1,0,none⟩) 1 1]) (r3:Row w h3 T3 [.int .i64 c]) (r4:Row w h4 T4 [.int .i64 b,.slice (some ⟨h3,0,none⟩) 1 1])
  (w1:za7 s) (w2:za7 l) (w3:za7 b) (w4:za7 c):wd7.rep w (fun _=>True) ⟨[[⟨s,l⟩]],[⟨b,[c]⟩]⟩ [.slice (some ⟨h2,0,none⟩) 1 1,.slice (some ⟨h4,0,none⟩) 1 1]:=by
 have e1:(ia7 oe7).rep w (fun _=>True) [⟨s,l⟩] [.slice (some ⟨h1,0,none⟩) 1 1]:=iyb7 (S:=oe7) ⟨rfl,w1,w2⟩ r1 trivial
 have e2:mm7.rep w (fun _=>True) [[⟨s,l⟩]] [.slice (some ⟨h2,0,none⟩) 1 1]:=iyb7 (S:=ia7 oe7) e1 r2 trivial
 have e3:(ia7 hf7).rep w (fun _=>True) [c] [.slice (some ⟨h3,0,none⟩) 1 1]:=iyb7 (S:=hf7) ⟨rfl,w4⟩ r3 trivial
 have e4:oo7.rep w (fun _=>True) [⟨b,[c]⟩] [.slice (some ⟨h4,0,none⟩) 1 1]:=iyb7 (S:=cq7) ⟨_,rfl,w3,e3⟩ r4 trivial
 exact⟨_,_,rfl,e2,e4⟩
theorem sub7 (w:World):Calls Tryz.prog 87 #[] w fun e w'=>e = .returned (.bool true)∧Below w.heap.size w w':=by
 go_enter Tryz.func87,Tryz.ntmps87
 go_wp2_with fail
 refine (kcc7 _).mono ?_
 rintro e w1 ⟨ds,rfl,hi,hb⟩
 rw[mbb7]at hi
 obtain⟨gs,cs1,gc,cc1,gco,cco,rco,gti,cti,rti,I⟩:=hi.at
 obtain rfl:=I.lit
 clear hi
 have R0:=Row.new (w:=w1) (e:=57) (cs:=[.int .i64 na7.fin,.int .i64 na7.tmany,.int .i64 na7.troom,.int .i64 na7.bmany,.int .i64 na7.broom,.slice (some ⟨gs,0,none⟩) na7.sats.length cs1,.slice (some ⟨gc,0,none⟩) na7.custs.length cc1,.slice (some ⟨gco,0,none⟩) na7.cost.length cco,.slice (some ⟨gti,0,none⟩) na7.time.length cti]) rfl
 have hob:Old w1 (w1.alloc (.cells ([.int .i64 na7.fin,.int .i64 na7.tmany,.int .i64 na7.troom,.int .i64 na7.bmany,.int .i64 na7.broom,.slice (some ⟨gs,0,none⟩) na7.sats.length cs1,.slice (some ⟨gc,0,none⟩) na7.custs.length cc1,.slice (some ⟨gco,0,none⟩) na7.cost.length cco,.slice (some ⟨gti,0,none⟩) na7.time.length cti]).toArray 57)):=(Below.refl _ _).alloc (Nat.le_refl _) _
 have I0:=I.below hob
 have hB0:=ca7 hb hob
 have hzb:=hb.size
 clear hob I hb
 go_upto_region 2 with fail
 generalize hwq:w1.alloc (.cells _ 57)=wq at *
 clear hwq
 go_cut [] (fun wx=>ke7 87 167 78 2 wx w.heap.size jt7 ([.int .i64 na7.fin,.int .i64 na7.tmany,.int .i64 na7.troom,.int .i64 na7.bmany,.int .i64 na7.broom,.slice (some ⟨gs,0,none⟩) na7.sats.length cs1,.slice (some ⟨gc,0,none⟩) na7.custs.length cc1,.slice (some ⟨gco,0,none⟩) na7.cost.length cco,.slice (some ⟨gti,0,none⟩) na7.time.length cti]) gs cs1 gc cc1 gco cco rco gti cti rti∧Row wx w1.heap.size 57 ([.int .i64 na7.fin,.int .i64 na7.tmany,.int .i64 na7.troom,.int .i64 na7.bmany,.int .i64 na7.broom,.slice (some ⟨gs,0,none⟩) na7.sats.length cs1,.slice (some ⟨gc,0,none⟩) na7.custs.length cc1,.slice (some ⟨gco,0,none⟩) na7.cost.length cco,.slice (some ⟨gti,0,none⟩) na7.time.length cti])∧Below w.heap.size w wx)
 case first =>
  obtain⟨c0,r0,l0,m0⟩:=I0.costs.row (i:=0) (by decide)
  obtain⟨c1,r1,l1,m1⟩:=I0.costs.row (i:=1) (by decide)
  have hne:=I0.costs.apart (i:=0) (i':=1) (by decide) (by decide) (by decide)
  have I2:=(I0.setCost (i:=0) (j:=1) (by decide) (by decide) (by decide) (by decide) (by decide) 5)
  have I3:=(I2.setCost (i:=1) (j:=2) (by decide) (by decide) (by decide) (by decide) (by decide) 7)
  have hr0:=R0.ne r0 (by decide)
  have hr1:=R0.ne r1 (by decide)
  generalize hx0:rco.getD 0 0=x0 at *
  generalize hx1:rco.getD 1 0=x1 at *
  clear hx0 hx1 m0 m1
  have R3:=hid ((R0.setOther (a:=⟨x0,1,none⟩) hr0 (ib7 5)).setOther (a:=⟨x1,2,none⟩) hr1 (ib7 7))
  have hB3:=hid ((hB0.setCell (p:=⟨x0,1,none⟩) l0 (ib7 5)).setCell (p:=⟨x1,2,none⟩) l1 (ib7 7))
  have HI3:=hid I3
  have d0:=r0.cell (j:=1) (by decide)
  have d1:=r1.cell (j:=2) (by decide)
  have f0:=r0.frozen 1
  have f1:=r1.frozen 2
  have hx0:∀w,(Instr.indexAt 38 (.slice (some ⟨gco,0,none⟩) na7.cost.length cco) (.int .i64 0)).run Tryz.prog w = .ok (.pointer (some ⟨gco,0,none⟩)) w:=ka7 Tryz.underlying38 ah7 rfl (k:=0) (by decide)
  have hx1:∀w,(Instr.indexAt 38 (.slice (some ⟨gco,0,none⟩) na7.cost.length cco) (.int .i64 1)).run Tryz.prog w = .ok (.pointer (some ⟨gco,1,none⟩)) w:=ka7 Tryz.underlying38 ah7 rfl (k:=1) (by decide)
  have hx2:∀w,(Instr.indexAt 78 (.slice (some ⟨x0,0,none⟩) (na7.cost.getD 0 []).length (na7.cost.getD 0 []).length) (.int .i64 1)).run Tryz.prog w = .ok (.pointer (some ⟨x0,1,none⟩)) w:=ka7 Tryz.underlying78 qc7 rfl (k:=1) (by decide)
  have hx3:∀w,(Instr.indexAt 78 (.slice (some ⟨x1,0,none⟩) (na7.cost.getD 1 []).length (na7.cost.getD 1 []).length) (.int .i64 2)).run Tryz.prog w = .ok (.pointer (some ⟨x1,2,none⟩)) w:=ka7 Tryz.underlying78 qc7 rfl (k:=2) (by decide)
  clear I0 I2 I3 hr0 hr1 r0 r1 hB0
  obtain⟨q0,q1,q2,q3,q4,q5,q6,q7,q8⟩:=wh7 R0
  have z7:∀e:At (Old wq),_:=fun e=>e.cell q7
  have z9:∀e:At (Old wq),_:=fun e=>e.cell c0
  have z10:∀e:At (Old wq),_:=fun e=>e.cell c1
  refine ma7 (Old wq) [9,10,11] [([0,1,2,3,4,5,6,7],8,false),([],9,true),([],10,true),([],11,true)] (by kernel_rfl) (by kernel_rfl) (fun _ _ d _ _ h=>by cases d <;> exact h) (Old.drew _) ?_
  simp only[gd7,List.map_cons,List.map_nil,Array.getD_eq_getD_getElem?,List.getElem?_toArray,List.getElem?_cons_succ,List.getElem?_cons_zero,Option.getD_some,me7]
  repeat (go_big_quiet_step (fail))
  refine wpQuiet_nil ?_
  go_wp2
  refine⟨Old.drew _,wpQuiet_nil ?_⟩
  go_wp2
  refine wpQuiet_nil ?_
  go_wp2
  refine wpQuiet_nil ?_
  go_wp2
  go_meet
  exact⟨HI3.out.drew,R3.out.drew,hB3.out.drew⟩
 case rest =>
  obtain⟨I,R,hB⟩:=hcut
  obtain⟨wq,rfl⟩:∃wq:World,wq=wc:=⟨_,rfl⟩
  obtain⟨W,hW,hold,r1,r2,r3,r4,r5,hz⟩:=vib7 wq [.int .i64 0,.int .i64 2] [.slice (some ⟨wq.heap.size,0,none⟩) 1 1] [.int .i64 0] [.int .i64 0,.slice (some ⟨wq.heap.size+2,0,none⟩) 1 1] [.slice (some ⟨wq.heap.size+1,0,none⟩) 1 1,.slice (some ⟨wq.heap.size+3,0,none⟩) 1 1] 121 124 3 70 37
  have HW:=hid hW
  have R1:=R.below hold
  have hB1:=ca7 hB hold
  have hI:kb7.rep W (fun b=>w.heap.size≤b) jt7 _:=(I.below hold).own.rep tnc7
  have hP:=fp7 (s:=0) (l:=2) (b:=0) (c:=0) r1 r2 r3 r4 (by unfold za7;decide) (by unfold za7;decide) (by unfold za7;decide) (by unfold za7;decide)
  have HI:=hid hI
  have HP:=hid hP
  obtain⟨q0,q1,q2,q3,q4,q5,q6,q7,q8⟩:=wh7 R
  have hzq:=R.lt
  have hzq1:w1.heap.size<wq.heap.size+1:=by omega
  have hzq2:w1.heap.size<wq.heap.size+1+1:=by omega
  have hzq3:w1.heap.size<wq.heap.size+1+1+1:=by omega
  have hzq4:w1.heap.size<wq.heap.size+1+1+1+1:=by omega
  clear hW hold I R hB hI hP r1 r2 r3 r4
  go_wp2_with fail
  rw[show wq.heap.size+1+1+1=wq.heap.size+3 from rfl,show wq.heap.size+1+1=wq.heap.size+2 from rfl,← HW.out]
  refine (psb7 HI.out HP.out (fun _=>wx7) (by unfold bd7;decide)).mono ?_
  rintro e w2 ⟨rfl,hb2⟩
  rw[show (⟨[[⟨0,2⟩]],[⟨0,[0]⟩]⟩:ab7)=ie7 from rfl,nfc7,ptb7]
  have R2:=R1.below hb2
  have P2:=r5.below hb2
  have hB2:=ca7 hB1 hb2
  have HI2:=hid (kb7.below HI.out hb2)
  have HP2:=hid (wd7.below HP.out hb2)
  clear q0 q1 q2 q3 q4 q5 q6 q7 q8 HI HP R1 r5 hB1 hb2 HW
  obtain⟨q0,q1,q2,q3,q4,q5,q6,q7,q8⟩:=wh7 R2
  obtain⟨p0,p1⟩:=gf7 P2
  go_wp2_with fail
  refine (jh7 HI2.out HP2.out (fun _=>wx7) (by unfold bd7;decide)).mono ?_
  rintro e w3 ⟨rfl,hb3⟩
  rw[show (⟨[[⟨0,2⟩]],[⟨0,[0]⟩]⟩:ab7)=ie7 from rfl,ptb7]
  have R3:=R2.below hb3
  have hB3:=ca7 hB2 hb3
  have HI3:=hid (kb7.below HI2.out hb3)
  clear q0 q1 q2 q3 q4 q5 q6 q7 q8 p0 p1 HI2 HP2 R2 P2 hB2 hb3
  obtain⟨q0,q1,q2,q3,q4,q5,q6,q7,q8⟩:=wh7 R3
  go_wp2_with fail
  refine (jh7 HI3.out (ltb7 _) (fun _=>wx7) (by unfold bd7;decide)).mono ?_
  rintro e w4 ⟨rfl,hb4⟩
  rw[txb7]
  go_wp2
  go_ret
  exact⟨rfl,ca7 hB3 hb4⟩
theorem pp7 {w:World}(a f t:Int) :
  Calls Tryz.prog 206 #[.int .i64 a,.int .i64 f,.int .i64 t] w fun e w'=>e = .returned (.bool (sx7 a f t))∧Below w.heap.size w w':=by
 go_enter Tryz.func206,Tryz.ntmps206
 by_cases h1:f≤a
 ·have h1':a≥f:=h1
  go_wp2
  go_ret
  refine⟨?_,Below.refl _ _⟩
  simp[sx7,h1]
 ·have h1':¬(a≥f):=h1
  go_wp2
  go_ret
  refine⟨?_,Below.refl _ _⟩
  unfold sx7
  rw[decide_eq_false (by omega)];rfl
theorem kjb7:∀w,(sizeOf 136).run Tryz.prog w = .ok 3 w:=fun w=>by kernel_rfl
structure FSt (w0:World) (e1 e2:TypeId) (ps ts:List Value) (w:World):Prop where
 bel:Below w0.heap.size w0 w
 one:Row w w0.heap.size e1 ps
 two:Row w (w0.heap.size+1) e2 ts
theorem FSt.below {w0 w w':World}{e1 e2:TypeId}{ps ts:List Value}(h:FSt w0 e1 e2 ps ts w) (hb:Below w.heap.size w w'):FSt w0 e1 e2 ps ts w':=⟨ca7 h.bel hb,h.one.below hb,h.two.below hb⟩
theorem FSt.start (w0:World) (e1 e2:TypeId) (ps ts:List Value):FSt w0 e1 e2 ps ts ((w0.alloc (.cells ps.toArray e1)).alloc (.cells ts.toArray e2)):=by
 have h1:=(Row.new (w:=w0) (g:=w0.heap.size) (e:=e1) (cs:=ps) rfl).alloc (.cells ts.toArray e2)
 have h2:=Row.new (w:=w0.alloc (.cells ps.toArray e1)) (e:=e2) (cs:=ts) rfl
 rw[show (w0.alloc (.cells ps.toArray e1)).heap.size=w0.heap.size+1 by simp]at h2
 exact⟨((Below.refl _ _).alloc (Nat.le_refl _) _).alloc (by simp) _,h1,h2⟩
theorem FSt.alloc {w0 w:World}{e1 e2:TypeId}{ps ts:List Value}(h:FSt w0 e1 e2 ps ts w) (b:Obj):FSt w0 e1 e2 ps ts (w.alloc b):=h.below ((Below.refl _ _).alloc (Nat.le_refl _) b)
theorem FSt.drewN {w0 w:World}{e1 e2:TypeId}{ps ts:List Value}(h:FSt w0 e1 e2 ps ts w) (n:Nat):FSt w0 e1 e2 ps ts (w.drewN n):=h.below (below_drewN (Below.refl _ _) n)
theorem cfc7 {w:World}{F G:Nat→Prop}{p:ab7}{t:qb7}{ps ts:List Value}(hp:wd7.rep w F p ps) (ht:ng7.rep w G t ts) (hl1:t.trucks.length=p.trucks.length) (hl2:t.bikes.length=p.bikes.length) (hT:p.trucks.length≤60) (hB:p.bikes.length≤60)
  (hT1:∀t∈p.trucks,t.length≤60) (hB1:∀b∈p.bikes,b.stops.length≤60) :
  Calls Tryz.prog 172 #[.agg ps.toArray,.agg ts.toArray] w fun e w'=>e = .returned (.bool (pt7 p t p.trucks.length&&fq7 p t p.bikes.length))∧Below w.heap.size w w':=by
 obtain⟨tv,bv,rfl,h3,h4⟩:=hp
 obtain⟨a2,b2,off2,c2,hs2,hlc2,hc2,ha2,-,hcell2⟩:=lc7 h3
 obtain rfl:=List.cons.inj hs2 |>.1
 obtain⟨a4,b4,off4,c4,hs4,hlc4,hc4,ha4,-,hcell4⟩:=zc7 h4
 obtain rfl:=List.cons.inj hs4 |>.1
 obtain⟨tv,bv,rfl,h5,h6⟩:=ht
 obtain⟨a5,b5,off5,c5,hs5,hlc5,hc5,ha5,-,hcell5⟩:=cd7 h5
 obtain rfl:=List.cons.inj hs5 |>.1
 obtain⟨a6,b6,off6,c6,hs6,hlc6,hc6,ha6,-,hcell6⟩:=hk7 h6
 obtain rfl:=List.cons.inj hs6 |>.1
 clear hs2 hs4 hs5 hs6 h3 h4 h5 h6
 rw[hl1]at hlc5 ha5
 rw[hl2]at hlc6 ha6
 have HCELL2:=hid hcell2
 have HCELL4:=hid hcell4
 have HCELL5:=hid hcell5
 have HCELL6:=hid hcell6
 have HL1:=hid hl1
 have HL2:=hid hl2
 have HT1:=hid hT1
 have HB1:=hid hB1
 rw[hl1,hl2]
 have hs0:=FSt.start w 37 41 [.slice a2 p.trucks.length c2,.slice a4 p.bikes.length c4] [.slice a5 p.trucks.length c5,.slice a6 p.bikes.length c6]
 obtain⟨p0,p1⟩:=gf7 hs0.one
 obtain⟨t0,t1⟩:=gf7 hs0.two
 clear hcell2 hcell4 hcell5 hcell6 hl1 hl2 hT1 hB1
 go_enter Tryz.func172,Tryz.ntmps172
 go_upto_region 1 with fail
 generalize (w.alloc (.cells #[.slice a2 p.trucks.length c2,.slice a4 p.bikes.length c4] 37)).alloc (.cells #[.slice a5 p.trucks.length c5,.slice a6 p.bikes.length c6] 41)=wz at hs0 p0 p1 t0 t1 ⊢
 have HS0:=hid hs0
 clear hs0
 go_wp2
 go_loopw [5,29] (fun ov kv wr=>∃k:Nat,k≤p.trucks.length∧kv = .int .i64 k∧ov = .bool (pt7 p t k)∧FSt w 37 41 [.slice a2 p.trucks.length c2,.slice a4 p.bikes.length c4] [.slice a5 p.trucks.length c5,.slice a6 p.bikes.length c6] wr) (fun _ kv _=>p.trucks.length-(intOf kv).toNat)
 case atStart=>exact⟨0,Nat.zero_le _,rfl,rfl,HS0.out⟩
 case round =>
  clear p0 p1 t0 t1 HS0
  obtain⟨k,hk,rfl,rfl,hst⟩:=hrel
  obtain⟨wo,rfl⟩:∃wo:World,wo=wr:=⟨_,rfl⟩
  have HST:=hid hst
  obtain⟨p0,p1⟩:=gf7 hst.one
  obtain⟨t0,t1⟩:=gf7 hst.two
  by_cases hlt:k<p.trucks.length
  ·have hx:=ka7 (c:=c2) Tryz.underlying34 kh7 (ha2 (by omega)) hlt
   have hx5:=ka7 (c:=c5) Tryz.underlying38 ah7 (ha5 (by omega)) hlt
   obtain⟨sv,g0,hr⟩:=HCELL2.out k hlt
   obtain⟨a3,b3,off3,c3,hs3,hl3,hc3,-,-,-,-⟩:=sd7 hr
   obtain rfl:=List.cons.inj hs3 |>.1
   obtain⟨sv,g1,hr⟩:=HCELL5.out k (by rw[HL1.out];exact hlt)
   obtain⟨a7,b7,off7,c7,hs7,hl7,hc7,-,-,-,-⟩:=bb7 hr
   obtain rfl:=List.cons.inj hs7 |>.1
   have g0:=aa7 hst.bel g0
   have g1:=aa7 hst.bel g1
   have htl:=HT1.out _ (List.getElem_mem hlt)
   have HF:=hid (show pt7 p t (k+1)=(pt7 p t k&&decide ((t.trucks[k]'(by rw[HL1.out];exact hlt)).length=p.trucks[k].length)) from by
    unfold pt7
    rw[zbb7,List.getD_eq_getElem?_getD,List.getD_eq_getElem?_getD,List.getElem?_eq_getElem hlt,List.getElem?_eq_getElem (by rw[HL1.out];exact hlt)]
    rfl)
   obtain⟨n1,hn1⟩:∃n,n=(t.trucks[k]'(by rw[HL1.out];exact hlt)).length:=⟨_,rfl⟩
   obtain⟨n2,hn2⟩:∃n,n=p.trucks[k].length:=⟨_,rfl⟩
   rw[← hn1,← hn2]at HF
   rw[← hn1]at g1 hl7
   rw[← hn2]at g0 hl3 htl
   obtain⟨ok,hok⟩:∃b,b=pt7 p t k:=⟨_,rfl⟩
   rw[← hok]at HF ⊢
   have hal:Below wo.heap.size wo (wo.alloc (.cells #[.slice a3 n2 c3] 124)):=(Below.refl _ _).alloc (Nat.le_refl _) _
   have q0:=aa7 hal t0
   have q1:=aa7 hal g1
   have q2:=(Row.new (w:=wo) (g:=wo.heap.size) (e:=124) (cs:=[.slice a3 n2 c3]) rfl).cell (j:=0) (by simp)
   simp only[List.getElem_cons_zero]at q2
   have HS1:=hid (HST.out.below hal)
   obtain⟨X,hX⟩:∃X,X=wo.heap.size:=⟨_,rfl⟩
   rw[← hX]at q2
   clear hs3 hs7 hr hn1 hn2 hok hst hal
   go_upto_region 5 with fail
   rw[← hX]
   generalize wo.alloc (.cells #[.slice a3 n2 c3] 124)=wq at HS1 q0 q1 q2 ⊢
   clear hX p0 p1 t0 t1 g0 g1
   cases ok
   ·go_wp2
    go_quiet (fail)
    go_wp2
    go_roundw
    case rel=>exact⟨k+1,by omega,by go_num,by rw[HF.out];rfl,HS1.out.drewN _⟩
    case measure=>simp[intOf];omega
   ·go_wp2
    go_quiet (fail)
    go_wp2
    go_roundw
    case rel=>exact⟨k+1,by omega,by go_num,by rw[HF.out,Bool.true_and];exact congrArg Value.bool (ex7 _ _),HS1.out.drewN _⟩
    case measure=>simp[intOf];omega
  ·obtain rfl:k=p.trucks.length:=by omega
   obtain⟨ot,hot⟩:∃b,b=pt7 p t p.trucks.length:=⟨_,rfl⟩
   rw[← hot]
   go_wp2
   go_loopw [5,51] (fun ov kv wr=>∃k:Nat,k≤p.bikes.length∧kv = .int .i64 k∧ov = .bool (ot&&fq7 p t k)∧FSt w 37 41 [.slice a2 p.trucks.length c2,.slice a4 p.bikes.length c4] [.slice a5 p.trucks.length c5,.slice a6 p.bikes.length c6] wr) (fun _ kv _=>p.bikes.length-(intOf kv).toNat)
   case atStart=>exact⟨0,Nat.zero_le _,rfl,by simp[fq7],HST.out⟩
   case round =>
    clear p0 p1 t0 t1 HST hst
    obtain⟨k,hk,rfl,rfl,hst⟩:=hrel
    obtain⟨wo,rfl⟩:∃wo:World,wo=wr:=⟨_,rfl⟩
    have HST:=hid hst
    obtain⟨p0,p1⟩:=gf7 hst.one
    obtain⟨t0,t1⟩:=gf7 hst.two
    by_cases hlt:k<p.bikes.length
    ·have hx:=vb7 (c:=c4) Tryz.underlying35 vj7 (ha4 (by omega)) hlt
     have hx5:=vb7 (c:=c6) Tryz.underlying39 kjb7 (ha6 (by omega)) hlt
     obtain⟨sv,g0,g00,-,hr⟩:=HCELL4.out k hlt
     obtain⟨a3,b3,off3,c3,hs3,hl3,hc3,-,-,-,-⟩:=bb7 hr
     obtain rfl:=List.cons.inj hs3 |>.1
     obtain⟨sv,-,g1,-,-,-,hr⟩:=HCELL6.out k (by rw[HL2.out];exact hlt)
     obtain⟨a7,b7,off7,c7,hs7,hl7,hc7,-,-,-,-⟩:=bb7 hr
     obtain rfl:=List.cons.inj hs7 |>.1
     have g0:=aa7 hst.bel g0
     have g00:=aa7 hst.bel g00
     have g1:=aa7 hst.bel g1
     have htl:=HB1.out _ (List.getElem_mem hlt)
     have HF:=hid (show fq7 p t (k+1)=(fq7 p t k&&decide ((t.bikes[k]'(by rw[HL2.out];exact hlt)).starts.length=p.bikes[k].stops.length)) from by
      unfold fq7 vdb7
      rw[zbb7,List.getD_eq_getElem?_getD,List.getD_eq_getElem?_getD,List.getElem?_eq_getElem hlt,List.getElem?_eq_getElem (by rw[HL2.out];exact hlt)]
      rfl)
     obtain⟨n1,hn1⟩:∃n,n=(t.bikes[k]'(by rw[HL2.out];exact hlt)).starts.length:=⟨_,rfl⟩
     obtain⟨n2,hn2⟩:∃n,n=p.bikes[k].stops.length:=⟨_,rfl⟩
     obtain⟨sa,hsa⟩:∃n,n=p.bikes[k].sat:=⟨_,rfl⟩
     rw[← hn1,← hn2]at HF
     rw[← hn1]at g1 hl7
     rw[← hn2]at g00 hl3 htl
     rw[← hsa]at g0
     have HFN:=hid (show ∀ok,ok=(ot&&fq7 p t k)→(ot&&fq7 p t (k+1))=(ok&&decide (n1=n2)) from fun ok h=>by rw[h,HF.out,Bool.and_assoc])
     obtain⟨ok,hok⟩:∃b,b=(ot&&fq7 p t k):=⟨_,rfl⟩
     rw[← hok]
     have HF2:=hid (HFN.out ok hok)
     have hal:Below wo.heap.size wo (wo.alloc (.cells #[.int .i64 sa,.slice a3 n2 c3] 70)):=(Below.refl _ _).alloc (Nat.le_refl _) _
     have q0:=aa7 hal t1
     have q1:=aa7 hal g1
     have q2:=(Row.new (w:=wo) (g:=wo.heap.size) (e:=70) (cs:=[.int .i64 sa,.slice a3 n2 c3]) rfl).cell (j:=1) (by simp)
     simp only[List.getElem_cons_succ,List.getElem_cons_zero]at q2
     have HS1:=hid (HST.out.below hal)
     obtain⟨X,hX⟩:∃X,X=wo.heap.size:=⟨_,rfl⟩
     rw[← hX]at q2
     clear hs3 hs7 hr hn1 hn2 hok hst hal hsa HF HFN
     go_upto_region 10 with fail
     rw[← hX]
     generalize wo.alloc (.cells #[.int .i64 sa,.slice a3 n2 c3] 70)=wq at HS1 q0 q1 q2 ⊢
     clear hX p0 p1 t0 t1 g0 g00 g1
     cases ok
     ·go_wp2
      go_quiet (fail)
      go_wp2
      go_roundw
      case rel=>exact⟨k+1,by omega,by go_num,by rw[HF2.out];rfl,HS1.out.drewN _⟩
      case measure=>simp[intOf];omega
     ·go_wp2
      go_quiet (fail)
      go_wp2
      go_roundw
      case rel=>exact⟨k+1,by omega,by go_num,by rw[HF2.out,Bool.true_and];exact congrArg Value.bool (ex7 _ _),HS1.out.drewN _⟩
      case measure=>simp[intOf];omega
    ·obtain rfl:k=p.bikes.length:=by omega
     go_wp2
     go_ret
     exact⟨by rw[hot];rfl,HST.out.bel⟩
end Go.Proofs.YtabadfkikdefeaaGreat
