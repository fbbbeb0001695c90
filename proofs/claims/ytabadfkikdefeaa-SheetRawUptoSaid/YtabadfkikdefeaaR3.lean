/- Texts of the proof, joined: AX, EncA, Enc, AdA, Ad, StrM, StrN, Up, Tells, BldM, SheetM, Pc1. -/
import Derived.Shelf.RegionOpenPlain
import Derived.Test.YtabadfkikdefeaaQ5
import Derived.Test.YtabadfkikdefeaaP9
set_option linter.all false
set_option maxRecDepth 100000
set_option maxHeartbeats 6400000

namespace Go.Proofs.Ytabadfkikdefeaa.Ab
open Go.RowKit
abbrev I6 (n:Int):AV := .int .i64 n
def ix2 (a b:AV):Nat → AV
 | 0=>a
 | _=>b
def ix3 (a b c:AV):Nat → AV
 | 0=>a
 | 1=>b
 | _=>c
def ix4 (a b c d:AV):Nat → AV
 | 0=>a
 | 1=>b
 | 2=>c
 | _=>d
abbrev nh7 (l:List Int):AV := .sl l.length 1 (fun i _=>I6 (l.getD i 0))
def ni7 (p:za7) (i:Nat):List ea7:=p.trucks.getD i []
def uh7 (p:za7) (i:Nat):oa7:=p.bikes.getD i ⟨0,[]⟩
def stN (l:List ea7) (i:Nat):ea7:=l.getD i ⟨0,0⟩
abbrev pu7 (l:List ea7):AV := .sl l.length 2 (fun i=>ix2 (I6 (stN l i).sat) (I6 (stN l i).load))
def nk7 (p:za7):List AV:=[.sl p.trucks.length 1 (fun i _=>pu7 (ni7 p i)), .sl p.bikes.length 2 (fun i=>ix2 (I6 (uh7 p i).sat) (nh7 (uh7 p i).stops))]
def mu7 (t:rb7) (i:Nat):List Int:=t.trucks.getD i []
def tj7 (t:rb7) (i:Nat):xc7:=t.bikes.getD i ⟨0,[],0⟩
def ei7 (t:rb7):List AV:=[.sl t.trucks.length 1 (fun i _=>nh7 (mu7 t i)), .sl t.bikes.length 3 (fun i=>ix3 (I6 (tj7 t i).out) (nh7 (tj7 t i).starts) (I6 (tj7 t i).back))]
theorem rac7 (p:Prop) [Decidable p]:(decide p = true) = p:=by simp
theorem jzb7 (p:Prop) [Decidable p]:(decide p = false) = ¬ p:=by simp
theorem aac7 {b:ByteArray} {p:RV → Prop}:(∃ r,xsb7 (.c (.str b)) r ∧ p r) = p (.c (.str b)):=propext ⟨fun ⟨_,⟨_,e,e2⟩,h⟩=>by subst e; rcases e2 with e2 | e2 <;> (subst e2; exact h),fun h=>⟨_,⟨_,rfl, .inl rfl⟩,h⟩⟩
attribute [go_sem ↓ low] icc7
attribute [go_sem ↓] kzb7 jcc7 eyb7 pbc7 kyb7 abc7 qvb7 lrb7 xvb7 pac7 adc7 zcc7 szb7 zwb7 occ7
attribute [go_sem] tzb7 bac7 fac7 yyb7 rcc7 fdc7 pcc7 nyb7 aw7 qbc7 lzb7 ubc7 cbc7 vyb7 ecc7 azb7 appW zW ckE oac7 hvb7 lxb7 zvb7 wyb7 ivb7 zzb7 cac7 isb7 ywb7 wzb7 List.drop_nil Option.toList_none Option.toList_some uzb7 oxb7 edc7 obc7 rhb7 Option.map_some Option.map_none List.drop_zero List.drop_succ_cons ucc7 renG ndb7 ecb7 tw7 mrb7 ovb7 ptb7 hob7 txb7 shb7 dwb7 kcc7 ewb7 tsb7 jvb7 wvb7 kub7 prb7 psb7 nbc7 pzb7 mzb7 jbc7 uac7 qac7 zib7 jub7 job7 pos okI List.cons_append List.replicate_succ List.replicate_zero lpK rbc7 Int.toNat_zero rac7 jzb7 Bool.and_eq_true Bool.not_eq_true' and_imp setT fxT gets ok7 jw7 gyb7 ehb7 qbb7 AV.scp List.take_succ_cons List.take_zero List.take_nil lac7 qyb7 kvb7 fvb7 ryb7 ebc7 frb7 xtb7 tbc7 pwb7 uvb7 dbc7 xcc7 tcc7 strOf AV.strOf jwb7 uub7 wbc7 t_n t_e t_r b_n b_e b_r c_t r_r r_n isV guardOf neb7 pgs rgs rds opV iac7 AS.rd lk erb7 vzb7 sbc7 fzb7 xbc7 zb7 gz7 gbc7 vld at2 sbb7 da7 tab Row.get Row.len Row.isBox Row.one cdc7 kcb7 nth tz7 svb7 kxb7 gb7 yzb7 unV ymb7 mmV bf7 tmb7 bzb7 rvb7 bx7 qlb7 Row.put pat sjb7 ia7 xyb7 chunk takeN rfb7 rep ep7 tt7 qn7 dpb7 zOk zeros dob7 dg7 Row.app Row.drop yf7 qmb7 zp7 frz frzH Root.mark eu7 uyb7 one hac7 yvb7 aac7 okT okR onb7 zub7 evb7 mr7 bl7 bcb7 ekb7 lwb7 msb7 opD iyb7 ix2 ix3 ix4 Int.toNat_natCast tyM gzb7 njL AV.nj kN inK kac7 tac7 if_true if_false true_and and_true forall_const implies_true false_implies imp_self List.length_cons List.length_nil List.map_cons List.map_nil List.nil_append List.cons_append Bool.false_eq_true Bool.true_and ne_eq not_false_eq_true decide_true decide_false Decidable.not_not Nat.add_zero Nat.zero_add Nat.zero_mul
def mbc7 (x:ba7) (i:Nat):qhb7:=x.sats.getD i ⟨0,0⟩
def uxb7 (x:ba7) (i:Nat):nn7:=x.custs.getD i ⟨0,0,0,0⟩
abbrev jac7 (x:ba7):AV := .sl x.sats.length 2 (fun i=>ix2 (I6 (mbc7 x i).room) (I6 (mbc7 x i).hold))
abbrev yub7 (x:ba7):AV := .sl x.custs.length 4 (fun i=>ix4 (I6 (uxb7 x i).load) (I6 (uxb7 x i).opn) (I6 (uxb7 x i).cls) (I6 (uxb7 x i).stay))
abbrev ccc7 (n:Nat) (f:Nat → Nat → Int):AV := .sl n 1 (fun i _ => .sl n 1 (fun j _=>I6 (f i j)))
def rzb7 (x:ba7) (i j:Nat):Int:=(x.cost.getD i []).getD j 0
def rjb7 (x:ba7) (i j:Nat):Int:=(x.time.getD i []).getD j 0
theorem ltb7 (x:ba7) (a b:Int):rjb7 x a.toNat b.toNat = xa7 x a b:=rfl
theorem zpb7 (x:ba7) (a:Int):rjb7 x a.toNat 0 = xa7 x a 0:=rfl
theorem bob7 (x:ba7) (b:Int):rjb7 x 0 b.toNat = xa7 x 0 b:=rfl
theorem yob7 (x:ba7):rjb7 x 0 0 = xa7 x 0 0:=rfl
def awb7 (x:ba7):List AV:=[I6 x.fin,I6 x.tmany,I6 x.troom,I6 x.bmany,I6 x.broom,jac7 x,yub7 x,ccc7 (nodes x) (rzb7 x),ccc7 (nodes x) (rjb7 x)]
theorem gmb7 (x:ba7) (a:Int):(mbc7 x a.toNat).hold = le7 x a:=rfl
theorem gqb7 (x:ba7) (a:Int):uxb7 x a.toNat = yc7 x a:=rfl
attribute [go_sem] ltb7 zpb7 bob7 yob7 gmb7 gqb7
def Fwd {α:Type} (S:Shape α) (e:α → Nat → AV):Prop := ∀ {w:World} {F:Nat → Prop} {x:α} {cs:List Value},S.rep w F x cs → ∀ j,j < S.sz → ∃ u,cs[j]? = some u ∧ af7 F w (e x j) u
def Bwd {α:Type} (S:Shape α) (e:α → Nat → AV) (ok:α → Prop):Prop := ∀ {w:World} {F:Nat → Prop} {x:α} {cs:List Value},cs.length = S.sz → (∀ j,j < S.sz → ∃ u,cs[j]? = some u ∧ af7 F w (e x j) u) → ok x → S.rep w F x cs
theorem lr7 {α:Type} {l:List α} {i:Nat} (h:i < l.length) (z:α):l.getD i z = l[i]:=by
 rw [List.getD_eq_getElem?_getD,List.getElem?_eq_getElem h]; rfl
section
variable {α:Type} {S:Shape α} {h0:0 < S.sz} {e:α → Nat → AV} {ok:α → Prop} {w:World} {F:Nat → Prop}
theorem fs (z:α) (hS:Fwd S e) {l:List α} {v:Value} (h:(ga7 S h0).rep w F l [v]):af7 F w (.sl l.length S.sz (fun i=>e (l.getD i z))) v:=by
 obtain ⟨a,b,off,c,e1,h1,h2,h3,h4⟩:=h
 cases e1
 refine ⟨a,b,off,c,rfl,h1,h2,h3,fun i hi j hj => ?_⟩
 obtain ⟨es,k1,k2⟩:=h4 i hi
 obtain ⟨u,k3,k4⟩:=hS k1 j hj
 show ∃ u,_ = some u ∧ af7 F w (e (l.getD i z) j) u
 rw [lr7 hi]
 exact ⟨u,by rw [k2 j hj,k3],k4⟩
theorem hy7:∀ (n:Nat) {p:Nat → Value → Prop},(∀ j,j < n → ∃ u,p j u) → ∃ es:List Value,es.length = n ∧ ∀ j u,es[j]? = some u → p j u
 | 0,_,_=>⟨[],rfl,fun _ _ h=>by simp at h⟩
 | n + 1,p,h=>by
  obtain ⟨u,hu⟩:=h 0 (Nat.succ_pos _)
  obtain ⟨es,h1,h2⟩:=hy7 n (p:=fun j=>p (j + 1)) (fun j hj=>h (j + 1) (by omega))
  refine ⟨u :: es,by simp [h1],fun j v hj => ?_⟩
  cases j with
  | zero=>simp at hj; subst hj; exact hu
  | succ j=>exact h2 j v (by simpa using hj)
theorem bs (z:α) (hS:Bwd S e ok) {l:List α} {v:Value} (h:af7 F w (.sl l.length S.sz (fun i=>e (l.getD i z))) v) (ho:∀ x ∈ l,ok x):(ga7 S h0).rep w F l [v]:=by
 obtain ⟨a,b,off,c,rfl,h1,h2,h3,h4⟩:=h
 refine ⟨a,b,off,c,rfl,h1,h2,h3,fun i hi => ?_⟩
 obtain ⟨es,k1,k2⟩:=hy7 S.sz (h4 i hi)
 have k3:∀ j,j < S.sz → w.cell? ⟨b,off + i * S.sz + j,none⟩ = es[j]? ∧ ∃ u,es[j]? = some u ∧ af7 F w (e l[i] j) u:=fun j hj=>by
  have hg:es[j]? = some es[j]:=List.getElem?_eq_getElem (by omega)
  obtain ⟨k4,k5⟩:=k2 j _ hg
  have k5:af7 F w (e (l.getD i z) j) es[j]:=k5
  rw [lr7 hi] at k5
  exact ⟨by rw [k4,hg],_,hg,k5⟩
 exact ⟨es,hS k1 (fun j hj=>(k3 j hj).2) (ho _ (List.getElem_mem hi)),fun j hj=>(k3 j hj).1⟩
theorem wqb7 (z:α) (hS:Fwd S e):Fwd (ga7 S h0) (fun l _ => .sl l.length S.sz (fun i=>e (l.getD i z))):=by
 intro w F x cs h j hj
 have hl:=(ga7 S h0).len h
 match cs,hl with
 | [v],_ =>
  have hj:j < 1:=hj
  obtain rfl:j = 0:=by omega
  exact ⟨v,rfl,fs z hS h⟩
end
theorem jrb7:Fwd ge7 (fun x _=>I6 x):=by
 rintro w F x cs ⟨rfl, -⟩ j hj
 have hj:j < 1:=hj
 obtain rfl:j = 0:=by omega
 exact ⟨_,rfl,rfl⟩
theorem xzb7:Bwd ge7 (fun x _=>I6 x) wa7:=by
 intro w F x cs hl h ho
 obtain ⟨u,h1,h2⟩:=h 0 Nat.one_pos
 match cs,hl with
 | [v],_=>cases h1; exact ⟨by rw [show u = .int .i64 x from h2],ho⟩
theorem fwb7:Fwd ye7 (fun x=>ix2 (I6 x.sat) (I6 x.load)):=by
 rintro w F x cs ⟨rfl, -⟩ j hj
 have hj:j < 2:=hj
 match j,hj with
 | 0,_=>exact ⟨_,rfl,rfl⟩
 | 1,_=>exact ⟨_,rfl,rfl⟩
theorem tub7:Fwd vm7 (fun x=>ix2 (I6 x.sat) (nh7 x.stops)):=by
 rintro w F x cs ⟨v,rfl, -,h⟩ j hj
 have hj:j < 2:=hj
 match j,hj with
 | 0,_=>exact ⟨_,rfl,rfl⟩
 | 1,_=>exact ⟨_,rfl,fs 0 jrb7 h⟩
theorem vub7:Fwd pq7 (fun x=>ix3 (I6 x.out) (nh7 x.starts) (I6 x.back)):=by
 rintro w F x cs ⟨v,rfl, -, -,h⟩ j hj
 have hj:j < 3:=hj
 match j,hj with
 | 0,_=>exact ⟨_,rfl,rfl⟩
 | 1,_=>exact ⟨_,rfl,fs 0 jrb7 h⟩
 | 2,_=>exact ⟨_,rfl,rfl⟩
def lyb7 (x:ea7):Prop:=wa7 x.sat ∧ wa7 x.load
def lvb7 (x:oa7):Prop:=wa7 x.sat ∧ ∀ c ∈ x.stops,wa7 c
def dyb7 (x:xc7):Prop:=wa7 x.out ∧ wa7 x.back ∧ ∀ c ∈ x.starts,wa7 c
section
variable {w:World} {F:Nat → Prop}
theorem jsb7:Fwd (ga7 ye7) (fun l _=>pu7 l):=wqb7 (e:=fun x=>ix2 (I6 x.sat) (I6 x.load)) (⟨0,0⟩:ea7) fwb7
theorem syb7:Fwd (ga7 ge7) (fun l _=>nh7 l):=wqb7 (e:=fun x _=>I6 x) (0:Int) jrb7
structure ykb7 (p:za7):Prop where
 trucks:∀ t ∈ p.trucks, ∀ s ∈ t,lyb7 s
 bikes:∀ b ∈ p.bikes,lvb7 b
theorem gwb7 {p:za7} {cs:List Value} (h:id7.rep w F p cs):kf7 F w (nk7 p) cs:=by
 obtain ⟨t,b,rfl,h1,h2⟩:=h
 have k1:=fs (e:=fun l _=>pu7 l) [] jsb7 h1
 have k2:=fs (e:=fun x=>ix2 (I6 x.sat) (nh7 x.stops)) (⟨0,[]⟩:oa7) tub7 h2
 exact ⟨_,_,rfl,k1,_,_,rfl,k2,rfl⟩
structure htb7 (t:rb7):Prop where
 trucks:∀ l ∈ t.trucks, ∀ v ∈ l,wa7 v
 bikes:∀ r ∈ t.bikes,dyb7 r
theorem bsb7 {t:rb7} {cs:List Value} (h:te7.rep w F t cs):kf7 F w (ei7 t) cs:=by
 obtain ⟨a,b,rfl,h1,h2⟩:=h
 have k1:=fs (e:=fun l _=>nh7 l) [] syb7 h1
 have k2:=fs (e:=fun x=>ix3 (I6 x.out) (nh7 x.starts) (I6 x.back)) (⟨0,[],0⟩:xc7) vub7 h2
 exact ⟨_,_,rfl,k1,_,_,rfl,k2,rfl⟩
end
def nf7 (s:ue7):List AV:=nk7 s.plan ++ (ei7 s.times ++ [I6 s.cost])
theorem sheet_f {w:World} {F:Nat → Prop} {s:ue7} {cs:List Value} (h:ai7.rep w F s cs):kf7 F w (nf7 s) cs:=by
 obtain ⟨a,b,c,d,rfl, -,h1,h2⟩:=h
 obtain ⟨_,_,e1,k1,_,_,e2,k2, -⟩:=gwb7 h1
 obtain ⟨_,_,e3,k3,_,_,e4,k4, -⟩:=bsb7 h2
 cases e1; cases e2; cases e3; cases e4
 exact ⟨_,_,rfl,k1,_,_,rfl,k2,_,_,rfl,k3,_,_,rfl,k4,_,_,rfl,rfl,rfl⟩
section
variable {f:FuncId}
theorem leb7 {P:Program} {args:List RV} {post:RV → Prop} (hE:Enters P f) (h:∀ (rho:Nat → Prop) (w:World) (vs:List Value),Con0RL rho w args vs →
  Calls P f vs.toArray w fun e w' => ∃ r v,e = .returned v ∧ post r ∧ fk7 (fun b=>w.heap.size ≤ b ∧ b < w'.heap.size) w' r v ∧ Below w.heap.size w w'):PCall P f args post :=
 ⟨hE,fun rho w vs _ _ hc=>(h rho w vs hc).mono fun e w' ⟨r,v,h1,h2,h3,h4⟩=>⟨r,v,_,h1,h2,h3,fun b hb => .inr hb,h4⟩⟩
end
theorem gnb7 {P:Program} {pu:Pu} {f:FuncId} {H:List Root} {args args':List RV} {post:RV → Prop} {K:RV → List Root → Prop} (hp:PCall P f args' post) (ho:onb7 H args) (he:mr7 H args = args') (hH:bl7 H args = H) (hK:∀ r,post r → K r H):go7 P pu f args H K :=
 ytb7 hp ho (by rw [he]; exact kp7 _) (by rw [hH]; exact hK)
end Go.Proofs.Ytabadfkikdefeaa.Ab

namespace Go.Proofs.Ytabadfkikdefeaa.Ab
open Go.RowKit Go.Lib
theorem rrb7 {d:Int} (h0:0 ≤ d) (h1:d < 10):(ByteArray.mk #[48,49,50,51,52,53,54,55,56,57]).extract d.toNat (d + 1).toNat = S [UInt8.ofNat (48 + d.toNat)]:=by
 obtain ⟨k,rfl⟩:∃ k:Nat,d = k:=⟨d.toNat,by omega⟩
 have hk:k < 10:=by omega
 have h:∀ k:Fin 10,(ByteArray.mk #[48,49,50,51,52,53,54,55,56,57]).extract k.val (k.val + 1) = S [UInt8.ofNat (48 + k.val)]:=by decide +kernel
 have:=h ⟨k,hk⟩
 simpa [show ((k:Int) + 1).toNat = k + 1 by omega] using this
theorem scb7 {n:Int} (hn:wa7 n):PCall Try.prog 30 [.c (I6 n)] (fun r=>r = .c (.str (S (itoa n)))):=by
 unfold wa7 at hn
 refine rg7 qq7 (by kernel_rfl) (fun _=>([],0,none)) Try.func30 rfl (by kernel_rfl) Try.ntmps30 (congrArg Array.toList Try.results30) (by kernel_rfl) (by simp) ?_
 simp -implicitDefEqProofs only [go_sem, ↓reduceIte,reduceCtorEq,Nat.reduceAdd,Nat.reduceLT,Nat.reduceEqDiff,Nat.reduceMul,Nat.reduceLeDiff,Nat.reduceSub]
 refine de7 (ι:=List UInt8 × Int) [0] [3,4] (fun s=>decDigits n.natAbs = decDigits s.2.natAbs ++ s.1 ∧ s.2.natAbs ≤ n.natAbs ∧ s.1.length ≤ 30 ∧ (n < 0 → s.2 ≤ 0) ∧ (0 ≤ n → 0 ≤ s.2)) (fun s=>[.c (.str (S s.1)), .c (I6 s.2)]) (fun _=>_) (fun s=>s.2.natAbs) (by kernel_rfl) ⟨([],n),⟨by simp,by simp,by simp,fun h=>Int.le_of_lt h,fun h=>h⟩,rfl,rfl⟩ (fun s _=>⟨rfl,rfl,rfl,rfl⟩) ?_
 rintro ⟨ds,k⟩ ⟨hd,hk,hl,hs1,hs2⟩
 simp only at hd hk hl hs1 hs2
 have hq1:(k.tmod 10).natAbs = k.natAbs % 10:=by rw [Int.natAbs_tmod]; rfl
 have hq2:(k.tdiv 10).natAbs = k.natAbs / 10:=by rw [Int.natAbs_tdiv]; rfl
 have hq3:k ≤ 0 → k.tdiv 10 ≤ 0:=fun h=>by
  have:=Int.tdiv_nonneg (a := -k) (b:=10) (by omega) (by decide)
  rw [Int.neg_tdiv] at this; omega
 have hq4:0 ≤ k → 0 ≤ k.tdiv 10:=fun h=>Int.tdiv_nonneg h (by decide)
 have hdl:(decDigits n.natAbs).length ≤ 20:=by rw [decDigits_length]; exact nDigits_le20 _ (by omega)
 have hdk:=rdb7 k.natAbs
 have hlen:=congrArg List.length hd
 rw [List.length_append] at hlen
 have hsm:k.natAbs < 10 → decDigits n.natAbs = UInt8.ofNat (48 + k.natAbs % 10) :: ds:=fun h=>by rw [hd,cz7 h]; rfl
 have hbg : ¬ k.natAbs < 10 → decDigits n.natAbs = decDigits (k.natAbs / 10) ++ (UInt8.ofNat (48 + k.natAbs % 10) :: ds):=fun h=>by rw [hd,xib7 h,List.append_assoc]; rfl
 have hit:itoa n = if n < 0 then 45 :: decDigits n.natAbs else decDigits n.natAbs:=by
  unfold itoa
  split
  ·rfl
  ·rw [show n.toNat = n.natAbs by omega]
 have key:∀ d:Int,0 ≤ d → d.natAbs = k.natAbs % 10 → (ByteArray.mk #[48,49,50,51,52,53,54,55,56,57]).extract d.toNat (d + 1).toNat = S [UInt8.ofNat (48 + k.natAbs % 10)]:=fun d h0 h1=>by
  rw [rrb7 h0 (by omega),show d.toNat = k.natAbs % 10 by omega]
 generalize hb:UInt8.ofNat (48 + k.natAbs % 10) = b at hsm hbg key
 simp -implicitDefEqProofs only [go_sem, ↓reduceIte,reduceCtorEq,Nat.reduceAdd,Nat.reduceLT,Nat.reduceEqDiff,Nat.reduceMul,Nat.reduceLeDiff,Nat.reduceSub]
 generalize k.tmod 10 = r at hq1
 generalize k.tdiv 10 = q at hq2 hq3 hq4
 refine ⟨by decide,fun h => ?_,fun h => ?_⟩
 ·rw [key (-r) (by omega) (by omega),dn7,show (S [b]).size = 1 from rfl]
  refine ⟨⟨by omega,by omega⟩,⟨by omega,by omega⟩,⟨by omega,by omega,by simp; omega⟩,by simp; omega,⟨by decide,by omega,by omega⟩,fun h2=>⟨fun h3=>⟨by simp; omega, ?_⟩,fun h3 => ?_⟩,fun h2=>⟨⟨by decide,by omega,by omega⟩,(b :: ds,q),⟨?_,by simp only; omega,by simp; omega,fun h=>hq3 (hs1 h),fun h=>hq4 (hs2 h)⟩,rfl,by simp only; omega⟩⟩
  ·rw [hit,if_pos h3,hsm (by omega)]
   simp [dn7]
  ·rw [hit,if_neg h3,hsm (by omega)]; rfl
  ·simp only; rw [hq2]; exact hbg (by omega)
 ·rw [key r (by omega) (by omega),dn7,show (S [b]).size = 1 from rfl]
  refine ⟨⟨by omega,by omega⟩,⟨by omega,by omega,by simp; omega⟩,by simp; omega,⟨by decide,by omega,by omega⟩,fun h2=>⟨fun h3=>⟨by simp; omega, ?_⟩,fun h3 => ?_⟩,fun h2=>⟨⟨by decide,by omega,by omega⟩,(b :: ds,q),⟨?_,by simp only; omega,by simp; omega,fun h=>hq3 (hs1 h),fun h=>hq4 (hs2 h)⟩,rfl,by simp only; omega⟩⟩
  ·rw [hit,if_pos h3,hsm (by omega)]
   simp [dn7]
  ·rw [hit,if_neg h3,hsm (by omega)]; rfl
  ·simp only; rw [hq2]; exact hbg (by omega)
theorem wv7 {nm:List UInt8} {l:List Int} (hn:nm.length ≤ 1000) (hl:l.length ≤ 100000) (hw:∀ n ∈ l,wa7 n):PCall Try.prog 25 [.c (.str (S nm)), .c (nh7 l)] (fun r=>r = .c (.str (S (ze7 nm l)))) :=
 leb7 ⟨_,_,Try.func25,by kernel_rfl,rfl⟩ fun rho w vs hc=>by
  obtain ⟨_,_,rfl,rfl,v,_,rfl,h1,rfl⟩:=hc
  refine (mxb7 (bs 0 xzb7 h1 hw) hn hl).mono ?_
  rintro e w' ⟨rfl,hb⟩
  exact ⟨_,_,rfl,rfl,rfl,hb⟩
theorem emb7 {l:List Int} (h:∀ n ∈ l,wa7 n) (i:Nat):wa7 (l.getD i 0):=qg7 (P:=wa7) h w0 i
theorem dp7 {l:List Int} (hl:l.length ≤ 100000) (hw:∀ n ∈ l,wa7 n):PCall Try.prog 31 [.c (nh7 l)] (fun r=>r = .c (.str (S (ze7 [] l)))):=by
 refine rg7 qq7 (by kernel_rfl) (fun _=>([],0,none)) Try.func31 rfl (by kernel_rfl) Try.ntmps31 (congrArg Array.toList Try.results31) (by kernel_rfl) (by simp) ?_
 simp -implicitDefEqProofs only [go_sem, ↓reduceIte,reduceCtorEq,Nat.reduceAdd,Nat.reduceLT,Nat.reduceEqDiff,Nat.reduceMul,Nat.reduceLeDiff,Nat.reduceSub]
 refine de7 (ι:=Nat) [6,7] [3,8] (fun k=>k ≤ l.length) (fun k=>[.c (.str (S (lnS [] (l.take k)))), .c (I6 k)]) (fun _=>_) (fun k=>l.length - k) (by kernel_rfl) ⟨0,Nat.zero_le _,rfl,rfl⟩ (fun s _=>⟨rfl,rfl,rfl,rfl⟩) ?_
 intro k hk
 have hln:(lnS [] (l.take k)).length ≤ 3000000:=by
  have:=uw7 (l.take k) [] fun n hn=>hw n (List.mem_of_mem_take hn)
  rw [List.length_take] at this
  simp only [List.length_nil] at this
  omega
 have hil:=br7 (emb7 hw k)
 simp -implicitDefEqProofs only [go_sem, ↓reduceIte,reduceCtorEq,Nat.reduceAdd,Nat.reduceLT,Nat.reduceEqDiff,Nat.reduceMul,Nat.reduceLeDiff,Nat.reduceSub]
 refine ⟨fun h => ?_,fun h => ?_⟩
 ·have hlt:k < l.length:=by omega
  have hs:=xw7 [] l hlt
  have hp:=fun h0:0 < k=>rtb7 [] l h0 hk
  have h0:k = 0 → lnS [] (l.take k) = []:=fun e=>by subst e; rfl
  have hgw:=emb7 hw k
  generalize lnS [] (l.take k) = b at *
  generalize l.getD k 0 = n at *
  refine ⟨⟨by omega,by omega⟩,fun h1 => ?_,fun h1 => ?_⟩
  ·refine ⟨by simp; omega,ah7 (scb7 hgw) (by simp -implicitDefEqProofs only [go_sem, ↓reduceIte,reduceCtorEq,Nat.reduceAdd,Nat.reduceLT,Nat.reduceEqDiff,Nat.reduceMul,Nat.reduceLeDiff,Nat.reduceSub]) rfl (fun r h=>by subst h; rfl) ?_⟩
   rintro r rfl
   simp -implicitDefEqProofs only [go_sem, ↓reduceIte,reduceCtorEq,Nat.reduceAdd,Nat.reduceLT,Nat.reduceEqDiff,Nat.reduceMul,Nat.reduceLeDiff,Nat.reduceSub,dn7]
   refine ⟨by simp; omega,⟨by omega,by omega⟩,k + 1,by omega, ?_,by omega⟩
   rw [hs]; unfold qf7; rw [if_pos (hp (by omega))]; rfl
  ·refine ah7 (scb7 hgw) (by simp -implicitDefEqProofs only [go_sem, ↓reduceIte,reduceCtorEq,Nat.reduceAdd,Nat.reduceLT,Nat.reduceEqDiff,Nat.reduceMul,Nat.reduceLeDiff,Nat.reduceSub]) rfl (fun r h=>by subst h; rfl) ?_
   rintro r rfl
   simp -implicitDefEqProofs only [go_sem, ↓reduceIte,reduceCtorEq,Nat.reduceAdd,Nat.reduceLT,Nat.reduceEqDiff,Nat.reduceMul,Nat.reduceLeDiff,Nat.reduceSub,dn7]
   refine ⟨by simp; omega,⟨by omega,by omega⟩,k + 1,by omega, ?_,by omega⟩
   rw [hs]; unfold qf7; rw [h0 (by omega)]; rfl
 ·obtain rfl:k = l.length:=by omega
  rw [List.take_length] at hln ⊢
  exact ⟨by simp; omega,by rw [dn7]; rfl⟩
end Go.Proofs.Ytabadfkikdefeaa.Ab
namespace Go.Proofs.Ytabadfkikdefeaa.Ab
open Go.RowKit Go.Lib
theorem bm7 {α:Type} {l:List α} {k:Nat} (h:l.length ≤ k) (d:α):l.getD k d = d:=by
 rw [List.getD_eq_getElem?_getD,List.getElem?_eq_none h]; rfl
theorem yeb7 {l:List Int} {k:Nat} (hk:k ≤ 1000000):PCall Try.prog 32 [.c (nh7 l), .c (I6 k)] (fun r=>r = .c (I6 (l.getD k 0))):=by
 refine rg7 qq7 (by kernel_rfl) (fun _=>([],0,none)) Try.func32 rfl (by kernel_rfl) Try.ntmps32 (congrArg Array.toList Try.results32) (by kernel_rfl) (by simp) ?_
 simp -implicitDefEqProofs only [go_sem, ↓reduceIte,reduceCtorEq,Nat.reduceAdd,Nat.reduceLT,Nat.reduceEqDiff,Nat.reduceMul,Nat.reduceLeDiff,Nat.reduceSub]
 refine ⟨fun h => ?_,fun h => ?_⟩
 ·exact ⟨by omega,by omega⟩
 ·rw [bm7 (by omega)]
theorem hqb7 {l:List Int} {k:Nat} (hk:k ≤ 1000000):PCall Try.prog 26 [.c (nh7 l), .c (I6 k)] (fun r=>r = .c (I6 (l.getD k 0))):=by
 refine rg7 qq7 (by kernel_rfl) (fun _=>([],0,none)) Try.func26 rfl (by kernel_rfl) Try.ntmps26 (congrArg Array.toList Try.results26) (by kernel_rfl) (by simp) ?_
 simp -implicitDefEqProofs only [go_sem, ↓reduceIte,reduceCtorEq,Nat.reduceAdd,Nat.reduceLT,Nat.reduceEqDiff,Nat.reduceMul,Nat.reduceLeDiff,Nat.reduceSub]
 refine ⟨fun h => ?_,fun h => ?_⟩
 ·exact ⟨by omega,by omega⟩
 ·rw [bm7 (by omega)]
theorem ktb7 {t:rb7} {k:Nat} (hk:k ≤ 1000000):PCall Try.prog 27 [.c (.sl t.trucks.length 1 (fun i _=>nh7 (mu7 t i))), .c (I6 k)] (fun r=>r = .c (nh7 (mu7 t k))):=by
 refine rg7 qq7 (by kernel_rfl) (fun _=>([],0,none)) Try.func27 rfl (by kernel_rfl) Try.ntmps27 (congrArg Array.toList Try.results27) (by kernel_rfl) (by simp) ?_
 simp -implicitDefEqProofs only [go_sem, ↓reduceIte,reduceCtorEq,Nat.reduceAdd,Nat.reduceLT,Nat.reduceEqDiff,Nat.reduceMul,Nat.reduceLeDiff,Nat.reduceSub]
 refine ⟨fun h=>⟨⟨by omega,by omega⟩,_,⟨_,rfl, .inl rfl⟩,rfl⟩,fun h=>⟨_,⟨_,rfl, .inr ?_⟩,rfl⟩⟩
 have e:mu7 t k = []:=bm7 (by omega) _
 rw [e]
 exact .inr ⟨_,_,rfl⟩
theorem unb7 {t:rb7} {k:Nat} (hk:k ≤ 1000000):PCall Try.prog 28 [.c (.sl t.bikes.length 3 (fun i=>ix3 (I6 (tj7 t i).out) (nh7 (tj7 t i).starts) (I6 (tj7 t i).back))), .c (I6 k)] (fun r=>r = .agg [I6 (tj7 t k).out,nh7 (tj7 t k).starts,I6 (tj7 t k).back]):=by
 refine rg7 qq7 (by kernel_rfl) (fun _=>([],0,none)) Try.func28 rfl (by kernel_rfl) Try.ntmps28 (congrArg Array.toList Try.results28) (by kernel_rfl) (by simp) ?_
 simp -implicitDefEqProofs only [go_sem, ↓reduceIte,reduceCtorEq,Nat.reduceAdd,Nat.reduceLT,Nat.reduceEqDiff,Nat.reduceMul,Nat.reduceLeDiff,Nat.reduceSub]
 refine ⟨fun h=>⟨⟨by omega,by omega⟩,_,⟨_,rfl,_,_,rfl, .inl rfl,_,_,rfl, .inl rfl,_,_,rfl, .inl rfl,rfl⟩,rfl⟩,fun h => ?_⟩
 have e:tj7 t k = ⟨0,[],0⟩:=bm7 (by omega) _
 rw [e]
 exact ⟨_,⟨_,rfl,_,_,rfl, .inl rfl,_,_,rfl, .inr (.inr ⟨_,_,rfl⟩),_,_,rfl, .inl rfl,rfl⟩,rfl⟩
end Go.Proofs.Ytabadfkikdefeaa.Ab
namespace Go.Proofs.Ytabadfkikdefeaa.Ab
open Go.RowKit
def upK:CK → CK
 | .i k => .i k
 | .s t ck b => .s t (upKs ck) (b + 1)
where upKs:List CK → List CK
 | []=>[]
 | q :: l=>upK q :: upKs l
def upA:AV → AV
 | .ws t ck n => .ws t (upK.upKs ck) n
 | .wu t ck b => .wu t (upK.upKs ck) b
 | .wp t ck o => .wp t (upK.upKs ck) o
 | x=>x
def upL:List AV → List AV
 | []=>[]
 | x :: l=>upA x :: upL l
mutual
def upR:RV → RV
 | .c a => .c (upA a)
 | .agg l => .agg (upL l)
 | .fn f l => .fn f (upL l)
 | .tup l => .tup (eac7 l)
 | .ifc t x => .ifc t (upR x)
def eac7:List RV → List RV
 | []=>[]
 | x :: l=>upR x :: eac7 l
end
def upW:Row → Row
 | .box l => .box (upL l)
 | .own l => .own (l.map upL)
 | r=>r
def tvb7:Root → Root
 | .live fz t sz r => .live fz t sz (upW r)
 | .dead => .dead
def upH:List Root → List Root
 | []=>[]
 | r :: l=>tvb7 r :: upH l
def upT:Tm → Tm
 | []=>[]
 | (k,g,v) :: l=>(k,g,upR v) :: upT l
def upM (M:Mp):Mp:=⟨M.phi,M.off,M.rho,fun b=>(M.tau b).map fun q=>(q.1,upK.upKs q.2)⟩
section
variable {P:Program} {E:Env} {nt:Nat} {M:Mp} {H:List Root} {σ:AS} {a:Act} {w:World}
theorem ek7:∀ l:List CK,(upK.upKs l).length = l.length
 | []=>rfl
 | _ :: l=>by simp [upK.upKs,ek7 l]
theorem nmb7:∀ (l:List CK) (j:Nat) (q:CK),(upK.upKs l)[j]? = some q → ∃ q0,l[j]? = some q0 ∧ q = upK q0
 | [],j,q,h=>by simp [upK.upKs] at h
 | x :: l,0,q,h=>⟨x,rfl,by simpa [upK.upKs] using h.symm⟩
 | x :: l,j + 1,q,h=>by simpa using nmb7 l j q (by simpa [upK.upKs] using h)
theorem dlb7 {b:Nat} {t:TypeId} {ck:List CK} (h:M.tau b = some (t,ck)):(upM M).tau b = some (t,upK.upKs ck):=by
 show (M.tau b).map _ = _
 rw [h]; rfl
theorem dcb7 {b:Nat} {q:TypeId × List CK} (h:(upM M).tau b = some q):∃ q0,M.tau b = some q0 ∧ q = (q0.1,upK.upKs q0.2):=by
 have h:(M.tau b).map _ = some q:=h
 cases hq:M.tau b with
 | none=>rw [hq] at h; cases h
 | some q0=>rw [hq] at h; exact ⟨q0,rfl,(Option.some.inj h).symm⟩
theorem WSl.up {t:TypeId} {ck:List CK} {n:Nat} {v:Value} (h:WSl M w t ck n v):WSl (upM M) w t (upK.upKs ck) n v:=by
 obtain ⟨x,c,rfl,h1,h2,h3,h4⟩:=h
 refine ⟨x,c,rfl,h1,h2,h3,fun ad e => ?_⟩
 obtain ⟨b,cur,e,g1,g2,g3⟩:=h4 ad e
 exact ⟨b,cur,e,dlb7 g1,g2,by rw [ek7]; exact g3⟩
theorem wx7.up {q:CK} {v:Value} (h:wx7 M w q v):wx7 (upM M) w (upK q) v:=by
 cases q with
 | i k=>exact h
 | s t ck b=>obtain ⟨n,h1,h2⟩:=h; exact ⟨n,by omega,h2.up⟩
theorem hj7 {id:Nat} {fz:Bool} {t:TypeId} {sz:Nat} {r:Row}:∀ {H:List Root},da7 (upH H) id = .live fz t sz r → ∃ r0,da7 H id = .live fz t sz r0 ∧ r = upW r0:=by
 intro H
 induction H generalizing id with
 | nil=>intro h; cases h
 | cons x l ih =>
  cases id with
  | zero =>
   intro h
   cases x with
   | dead=>cases h
   | live fz' t' sz' r'=>cases h; exact ⟨r',rfl,rfl⟩
  | succ id=>exact fun h=>ih h
theorem icb7:∀ H:List Root,(upH H).length = H.length
 | []=>rfl
 | _ :: l=>by simp [upH,icb7 l]
theorem kw7 (r:Row):(upW r).len = r.len:=by
 cases r with
 | own l=>simp [upW,Row.len]
 | _=>rfl
theorem fub7 (r:Row):(upW r).one = r.one:=by cases r <;> rfl
theorem nxb7 (l:List (List AV)) (i:Nat):(l.map upL).getD i [] = upL (l.getD i []):=by
 simp only [List.getD_eq_getElem?_getD,List.getElem?_map]
 cases l[i]? <;> rfl
theorem ttb7 (r:Row):(upW r).isBox = r.isBox:=by cases r <;> rfl
theorem clb7:∀ (l:List AV) (o:Nat),nth (upL l) o = upA (nth l o)
 | [],_=>rfl
 | _ :: _,0=>rfl
 | _ :: l,o + 1=>by simp only [upL,nth]; exact clb7 l o
theorem Con.up {x:AV} {v:Value} (h:Con M H w x v):Con (upM M) (upH H) w (upA x) v:=by
 cases x with
 | ptr id n i o =>
  refine ⟨⟨by rw [icb7]; exact h.1.1,h.1.2⟩,fun fz t sz r hr => ?_⟩
  obtain ⟨r0,k1,rfl⟩:=hj7 hr
  rw [kw7]
  exact h.2 _ _ _ _ k1
 | h id st len =>
  refine ⟨⟨by rw [icb7]; exact h.1.1,h.1.2⟩,fun fz t sz r hr => ?_⟩
  obtain ⟨r0,k1,rfl⟩:=hj7 hr
  rw [kw7]
  exact h.2 _ _ _ _ k1
 | ws t ck n=>exact WSl.up h
 | wu t ck b=>obtain ⟨n,hb,h⟩:=h; exact ⟨n,hb,WSl.up h⟩
 | wp t ck o =>
  obtain ⟨b,cur,i,rfl,h1,h2,h3⟩:=h
  exact ⟨b,cur,i,by rw [ek7],dlb7 h1,h2,by rw [ek7]; exact h3⟩
 | junk=>trivial
 | _=>exact h
theorem ne7.up:∀ {l:List AV} {vs:List Value},ne7 M H w l vs → ne7 (upM M) (upH H) w (upL l) vs
 | [],_,h=>h
 | _ :: _,_,⟨v,r,e,h1,h2⟩=>⟨v,r,e,h1.up,ne7.up h2⟩
mutual
theorem dc7.up:∀ {x:RV} {v:Value},dc7 M H w x v → dc7 (upM M) (upH H) w (upR x) v
 | .c _,_,h=>Con.up h
 | .agg _,_,⟨vs,e,h⟩=>⟨vs,e,ne7.up h⟩
 | .fn _ _,_,⟨vs,e,h⟩=>⟨vs,e,ne7.up h⟩
 | .tup _,_,⟨vs,e,h⟩=>⟨vs,e,kd7.up h⟩
 | .ifc _ _,_,⟨u,e,h⟩=>⟨u,e,dc7.up h⟩
theorem kd7.up:∀ {x:List RV} {vs:List Value},kd7 M H w x vs → kd7 (upM M) (upH H) w (eac7 x) vs
 | [],_,h=>h
 | _ :: _,_,⟨v,r,e,h1,h2⟩=>⟨v,r,e,dc7.up h1,kd7.up h2⟩
end
theorem Rel.up (h:Rel E M H w):Rel E (upM M) (upH H) w:=by
 refine ⟨h.bel,fun id fz t sz r hr => ?_,fun id fz t sz r hr => ?_,fun id t sz r hr => ?_,fun id t sz r hr => ?_,fun i j t s r t' s' r' hi hj he => ?_,h.rlt,h.src,⟨fun b q hq => ?_,fun b q id fz t sz r hq hr => ?_,fun b t ck hq => ?_⟩⟩
 ·obtain ⟨r0,k1,rfl⟩:=hj7 hr; exact h.low _ _ _ _ _ k1
 ·obtain ⟨r0,k1,rfl⟩:=hj7 hr
  obtain ⟨cur,c1,c2,c3,c4,c5,c6⟩:=h.row _ _ _ _ _ k1
  refine ⟨cur,c1,c2,by rw [kw7]; exact c3,c4,by rw [fub7]; exact c5,fun i hi o ho2 => ?_⟩
  rw [kw7] at hi
  obtain ⟨v,q1,q2,q3⟩:=c6 i hi o ho2
  refine ⟨v,q1,q2, ?_⟩
  unfold yk7 at q3 ⊢
  rw [ttb7]
  cases r0 with
  | box l =>
   simp only [Row.isBox,if_true] at q3 ⊢
   show Con _ _ w (nth (upL l) o) v
   rw [clb7]
   exact q3.up
  | own l =>
   simp only [Row.isBox,if_true] at q3 ⊢
   show Con _ _ w (nth ((l.map upL).getD i []) o) v
   rw [nxb7,clb7]
   exact q3.up
  | _=>exact q3
 ·obtain ⟨r0,k1,rfl⟩:=hj7 hr; exact h.froz _ _ _ _ k1
 ·obtain ⟨r0,k1,rfl⟩:=hj7 hr; exact h.thaw _ _ _ _ k1
 ·obtain ⟨r0,k1,rfl⟩:=hj7 hi
  obtain ⟨r1,k2,rfl⟩:=hj7 hj
  exact h.inj _ _ _ _ _ _ _ _ k1 k2 he
 ·obtain ⟨q0,k1,rfl⟩:=dcb7 hq; exact h.tau.new b q0 k1
 ·obtain ⟨q0,k1,rfl⟩:=dcb7 hq
  obtain ⟨r0,k2,rfl⟩:=hj7 hr
  exact h.tau.row _ _ _ _ _ _ _ k1 k2
 ·obtain ⟨q0,k1,e⟩:=dcb7 hq
  cases e
  obtain ⟨cur,c1,c2,c3,c4⟩:=h.tau.cells b q0.1 q0.2 k1
  refine ⟨cur,c1,by rw [ek7]; exact c2,by rw [ek7]; exact c3,fun k hk => ?_⟩
  obtain ⟨v,v1,v2⟩:=c4 k hk
  refine ⟨v,v1,fun q hq2 => ?_⟩
  rw [ek7] at hq2
  obtain ⟨q1,k3,rfl⟩:=nmb7 _ _ _ hq2
  exact (v2 _ k3).up
theorem amb7:∀ (tm:Tm) (t:Nat),lk (upT tm) t = ((lk tm t).1,upR (lk tm t).2)
 | [],_=>rfl
 | (k,g,v) :: l,t=>by
  simp only [upT,lk]
  split
  ·rfl
  ·exact amb7 l t
def upS (σ:AS):AS:=⟨upT σ.tm,upH σ.H⟩
theorem St.up (h:St E nt M σ a w):St E nt (upM M) (upS σ) a w:=by
 refine ⟨h.rel.up,fun t ht => ?_,fun t ht => ?_,h.sz,h.df⟩
 ·have ht:(lk (upT σ.tm) t).1 = true:=ht
  show dc7 _ _ w (lk (upT σ.tm) t).2 _
  rw [amb7] at ht ⊢
  exact (h.tms t ht).up
 ·have ht:(lk (upT σ.tm) t).1 = false:=ht
  rw [amb7] at ht
  exact h.off t ht
end
inductive Tr where
 | d (u:Bool)
 | no
 | br (w:Bool) (i:Nat) (t r:Tr)
inductive Pl where
 | a
 | s (p q:Pl)
 | c (p q:Pl)
 | b (p:Pl)
 | k (ks:List Nat) (p q:Pl)
 | t (lq:List Nat) (T:Tr) (r fins:List Nat)
def upIf:Bool → AS → AS
 | true,σ=>upS σ
 | false,σ=>σ
def keepS (ks:List Nat) (σ:AS):AS:=⟨fxT σ.tm ks,σ.H⟩
def puT:Bool → Pu
 | true=>none
 | false=>some none
section
variable (P:Program) (ty:Ty)
def phb7 (ops:Array Oper) (r:List Nat):Tr → (AS → Prop) → AS → Prop
 | .d u,K,σ=>fu7 P ty r.length none ops (pick ops r) K (upIf u σ)
 | .no,_,_=>True
 | .br w i t q,K,σ=>xv7 P ty (puT w) none ops σ (ops.getD i default) (phb7 ops r t K) ∧ phb7 ops r q K σ
def znb7 (ops:Array Oper) (T:Tr) (r:List Nat):List Oper → (AS → Prop) → AS → Prop
 | [],K,σ=>phb7 P ty ops r T K σ
 | o :: l,K,σ=>xv7 P ty (some none) none ops σ o (znb7 ops T r l K)
def zu7 (ord:Nat → List Nat × Nat × Option Nat):Pl → Code → (Exit → AS → Prop) → AS → Prop
 | .a,c,Q,σ=>awp P ty ord c Q σ
 | .s p q, .seq x y,Q,σ=>zu7 ord p x (fl7 (zu7 ord q y Q) Q) σ
 | .c p q, .cond x y z,Q,σ=>fbb7 (σ.rd x) (zu7 ord p y Q σ) (zu7 ord q z Q σ)
 | .b p, .block id x,Q,σ=>zu7 ord p x (inB id Q) σ
 | .k ks p q, .seq x y,Q,σ => ∃ R:AS → Prop,zu7 ord p x (fl7 (fun σ'=>R (keepS ks σ')) Q) σ ∧ ∀ σ',R σ' → zu7 ord q y Q σ'
 | .t lq T r _, .region _ ops true,Q,σ=>znb7 P ty ops T r (pick ops lq) (Q .normal) σ
 | _,_,_,_=>False
end
def ssb7 (ops:Array Oper) (fins:List Nat):List Nat → Array Bool → Bool
 | [],listed=>(Region.ready .any ops listed).isEmpty
 | i :: r,listed=>decide (Region.ready .any ops listed = [i]) && decide (i < ops.size) && fins.contains i && ssb7 ops fins r (listed.setIfInBounds i true)
def qcc7:Tr → Bool
 | .d _=>false
 | _=>true
def ftb7 (ops:Array Oper) (fins r:List Nat):Tr → Nat → Bool → List Nat → Array Bool → Bool
 | .d _,n,_,_,l=>decide (r.length = n) && ssb7 ops fins r l
 | .no,n,_,al,l=>decide (0 < n) && decide (Region.ready .any ops l ≠ []) && (Region.ready .any ops l).all (al.contains ·)
 | .br w i t q,n,dy,al,l=>decide (i < ops.size) && (!w || dy || fins.contains i) && qcc7 q && ftb7 ops fins r t (n - 1) (dy || w) [] (l.setIfInBounds i true) && ftb7 ops fins r q n dy (i :: al) l
def hzb7 (nt:Nat) (ops:Array Oper) (lq:List Nat) (T:Tr) (r:List Nat) (fins:List Nat):Bool :=
 az7 nt ops && Region.noSelect ops && decide (lq.length ≤ ops.size) && lq.all (fun i=>decide (i < ops.size) && isV (ops.getD i default).op) && match aq7 .any ops fins lq (Array.replicate ops.size false) with
  | some listed=>ftb7 ops fins r T (ops.size - lq.length) false [] listed
  | none=>false
def okD (nt:Nat) (ord:Nat → List Nat × Nat × Option Nat):Pl → Code → Bool
 | .a,c=>okC nt ord c
 | .s p q, .seq x y=>okD nt ord p x && okD nt ord q y
 | .c p q, .cond _ x y=>okD nt ord p x && okD nt ord q y
 | .b p, .block _ x=>okD nt ord p x
 | .k _ p q, .seq x y=>okD nt ord p x && okD nt ord q y
 | .t lq T r fins, .region _ ops true=>hzb7 nt ops lq T r fins
 | _,_=>false
section
variable {P:Program} {ty:Ty} {E:Env} {nt:Nat} {M:Mp} {σ:AS} {a:Act} {w w0:World} {ops:Array Oper} {K:AS → Prop} {Q:Exit → Act → World → Prop} {fins r:List Nat}
theorem zcb7 {i:Nat} {Kn:Act → World → Prop} (hi:i < ops.size) (h:if Region.wanted (ops.getD i default) (yielded ops a.tmps) then (ops.getD i default).wp P a w Kn Q else Kn (a.put (ops.getD i default).dst undef) w):wpOp P ops Q i Kn a w:=by
 have ho:ops[i]? = some (ops.getD i default):=by simp [Array.getD,hi]
 unfold wpOp
 rw [ho]
 show if Region.wanted (ops.getD i default) (yielded ops a.tmps) then _ ∨ _ else _
 by_cases hw:Region.wanted (ops.getD i default) (yielded ops a.tmps) = true
 ·rw [if_pos hw] at h ⊢; exact .inl h
 ·rw [if_neg hw] at h ⊢; exact h
theorem dst_at (hd:az7 nt ops = true) {i:Nat} (hi:i < ops.size):∀ t,(ops.getD i default).dst = some t → t < nt :=
 lp7 hd _ (by simp [Array.getD,hi])
theorem St.upIf (h:St E nt M σ a w):∀ u:Bool, ∃ M',St E nt M' (upIf u σ) a w
 | true=>⟨_,h.up⟩
 | false=>⟨_,h⟩
theorem St.keepS (h:St E nt M σ a w) (ks:List Nat):St E nt M (keepS ks σ) a w:=by
 refine ⟨h.rel,fun t ht => ?_,fun t ht => ?_,h.sz,h.df⟩
 ·have ht:(lk (fxT σ.tm ks) t).1 = true:=ht
  show dc7 M σ.H w (lk (fxT σ.tm ks) t).2 _
  rcases qr7 σ.tm ks t with ⟨-,e⟩ | ⟨-,e⟩
  ·rw [e] at ht ⊢; exact h.tms t ht
  ·rw [e]; trivial
 ·have ht:(lk (fxT σ.tm ks) t).1 = false:=ht
  rcases qr7 σ.tm ks t with ⟨-,e⟩ | ⟨-,e⟩
  ·rw [e] at ht; exact h.off t ht
  ·rw [e] at ht; cases ht
theorem tx7 (hT:ph7 P ty) (hd:az7 nt ops = true) (hQ:∀ M σ a w,St E nt M σ a w → K σ → Q .normal a w) {nf:Nat}:∀ (r:List Nat) {M:Mp} {σ:AS} {a:Act} {w:World} {l:Array Bool},St E nt M σ a w → fu7 P ty nf none ops (pick ops r) K σ → ssb7 ops fins r l = true → wpAny P .any ops Q r.length l a w
 | [],M,σ,a,w,l,h,hw,hc=>⟨by simpa [ssb7] using hc,hQ _ _ _ _ h hw⟩
 | i :: r,M,σ,a,w,l,h,hw,hc=>by
  simp only [ssb7,Bool.and_eq_true,decide_eq_true_eq] at hc
  obtain ⟨⟨⟨h1,h2⟩,h3⟩,h4⟩:=hc
  refine ⟨fun h0=>(by rw [h1] at h0; cases h0),fun j hj => ?_⟩
  rw [h1,List.mem_singleton] at hj
  subst hj
  exact zcb7 h2 (ojb7 hT h (dst_at hd h2) (show xv7 P ty _ none ops σ (ops.getD j default) (fu7 P ty nf none ops (pick ops r) K) from hw) fun M' σ' a' w' q1 _ _ q4=>tx7 hT hd hQ r q1 q4 h4)
def fkb7 (P:Program) (ops:Array Oper) (Q:Exit → Act → World → Prop) (fins:List Nat) (w0:World) (dy:Bool) (n:Nat) (l:Array Bool) (a:Act) (w:World):Prop :=
 if dy then wpAny P .any ops Q n l a w else hf7 P .any ops Q (qh7 none w0) fins n l a w
theorem vbb7 (hT:ph7 P ty) (hd:az7 nt ops = true) (hQ:∀ M σ a w,St E nt M σ a w → K σ → Q .normal a w):∀ (T:Tr) {n:Nat} {dy:Bool} {al:List Nat} {l:Array Bool} {M:Mp} {σ:AS} {a:Act} {w:World},St E nt M σ a w → ftb7 ops fins r T n dy al l = true → phb7 P ty ops r T K σ → (dy = false → qh7 none w0 w) →
  ((∃ u,T = .d u) ∧ fkb7 P ops Q fins w0 dy n l a w) ∨ ((0 < n ∧ Region.ready .any ops l ≠ []) ∧ ∀ m,n = m + 1 → ∀ i ∈ Region.ready .any ops l,i ∈ al ∨ wpOp P ops Q i (fun a' w'=>if dy then wpAny P .any ops Q m (l.setIfInBounds i true) a' w' else (i ∈ fins ∧ wpAny P .any ops Q m (l.setIfInBounds i true) a' w') ∨ (qh7 none w0 w' ∧ hf7 P .any ops Q (qh7 none w0) fins m (l.setIfInBounds i true) a' w')) a w)
 | .d u,n,dy,al,l,M,σ,a,w,h,hc,hw,ho=>by
  obtain ⟨M,h⟩:=h.upIf u
  simp only [ftb7,Bool.and_eq_true,decide_eq_true_eq] at hc
  obtain ⟨rfl,hc⟩:=hc
  refine .inl ⟨⟨u,rfl⟩, ?_⟩
  unfold fkb7
  split
  ·exact tx7 hT hd hQ r h hw hc
  ·cases r with
   | nil=>exact ⟨by simpa [ssb7] using hc,hQ _ _ _ _ h hw⟩
   | cons i r =>
    simp only [ssb7,Bool.and_eq_true,decide_eq_true_eq] at hc
    obtain ⟨⟨⟨h1,h2⟩,h3⟩,h4⟩:=hc
    refine ⟨fun h0=>(by rw [h1] at h0; cases h0),fun j hj => ?_⟩
    rw [h1,List.mem_singleton] at hj
    subst hj
    exact zcb7 h2 (ojb7 hT h (dst_at hd h2) (show xv7 P ty _ none ops (upIf u σ) (ops.getD j default) (fu7 P ty (j :: r).length none ops (pick ops r) K) from hw) fun M' σ' a' w' q1 _ _ q4 => .inl ⟨by simpa using h3,tx7 hT hd hQ r q1 q4 h4⟩)
 | .no,n,dy,al,l,M,σ,a,w,h,hc,hw,ho=>by
  simp only [ftb7,Bool.and_eq_true,decide_eq_true_eq,List.all_eq_true] at hc
  exact .inr ⟨hc.1,fun m _ i hi => .inl (by simpa using hc.2 i hi)⟩
 | .br wr i t q,n,dy,al,l,M,σ,a,w,h,hc,hw,ho=>by
  simp only [ftb7,Bool.and_eq_true,decide_eq_true_eq] at hc
  obtain ⟨⟨⟨⟨h1,h2⟩,h3⟩,h4⟩,h5⟩:=hc
  rcases vbb7 hT hd hQ q h h5 hw.2 ho with ⟨⟨u,e⟩, -⟩ | ⟨k1,k2⟩
  ·subst e
   cases h3
  ·refine .inr ⟨k1,fun m hm j hj => ?_⟩
   rcases k2 m hm j hj with hj2 | hj2
   ·rcases List.mem_cons.1 hj2 with rfl | hj2
    ·refine .inr (zcb7 h1 (ojb7 hT h (dst_at hd h1) hw.1 fun M' σ' a' w' q1 q2 _ q4 => ?_))
     have hold:dy = false → wr = false → qh7 none w0 w':=fun e1 e2=>by subst e2; exact (ho e1).step (q2 none rfl)
     have ih:=vbb7 hT hd hQ t q1 h4 q4 (fun e=>by
      rw [Bool.or_eq_false_iff] at e
      exact hold e.1 e.2)
     have ih2:fkb7 P ops Q fins w0 (dy || wr) m (l.setIfInBounds j true) a' w':=by
      have e:n - 1 = m:=by omega
      rw [e] at ih
      rcases ih with ⟨-,ih⟩ | ⟨⟨g0,g1⟩,g2⟩
      ·exact ih
      ·unfold fkb7
       cases m with
       | zero=>omega
       | succ m =>
        split
        ·rename_i hdy
         refine ⟨fun h0=>absurd h0 g1,fun i hi => ?_⟩
         have:=(g2 m rfl i hi).resolve_left (by simp)
         rw [hdy] at this
         simpa using this
        ·rename_i hdy
         refine ⟨fun h0=>absurd h0 g1,fun i hi => ?_⟩
         have:=(g2 m rfl i hi).resolve_left (by simp)
         rw [Bool.eq_false_iff.2 hdy] at this
         simpa using this
     unfold fkb7 at ih2
     cases dy with
     | true=>simpa using ih2
     | false =>
      cases wr with
      | true=>exact .inl ⟨by simpa using h2,by simpa using ih2⟩
      | false=>exact .inr ⟨hold rfl rfl,by simpa using ih2⟩
    ·exact .inl hj2
   ·exact .inr hj2
theorem pab7 (hT:ph7 P ty) (hd:az7 nt ops = true) {T:Tr}:∀ (lq:List Nat) {M:Mp} {σ:AS} {a:Act},St E nt M σ a w → (∀ i ∈ lq,i < ops.size ∧ isV (ops.getD i default).op = true) → znb7 P ty ops T r (pick ops lq) K σ →
  wpQuiet P ops (fun w' => ∃ e:At (qh7 none w),w' = e.val) (fun a' => ∃ M' σ',St E nt M' σ' a' w ∧ phb7 P ty ops r T K σ') (lq.map fun j=>ops.getD j default) a
 | [],M,σ,a,h,_,hw=>⟨M,σ,h,hw⟩
 | i :: lq,M,σ,a,h,hl,hw=>by
  obtain ⟨h1,h2⟩:=hl i (List.mem_cons_self ..)
  have hw':mnb7 ty (guardOf σ.tm ops (ops.getD i default).guard) none σ (ops.getD i default) (znb7 P ty ops T r (pick ops lq) K):=by
   have:xv7 P ty _ none ops σ (ops.getD i default) _:=hw
   unfold xv7 at this
   rw [if_pos h2] at this
   exact this
  obtain ⟨σ',v,k1,k2,k3,k4,k5⟩:=hkb7 hT h h2 (dst_at hd h1) hw'
  have ih:=pab7 hT hd lq k3 (fun j hj=>hl j (List.mem_cons_of_mem _ hj)) k1
  simp only [List.map_cons]
  unfold wpQuiet
  by_cases hwt:Region.wanted (ops.getD i default) (yielded ops a.tmps) = true
  ·rw [if_pos hwt]
   refine ⟨v, ?_,ih⟩
   rintro w1 ⟨e,rfl⟩
   unfold Oper.quietAt
   rw [k4 hwt e.val e.ok]
   exact ⟨rfl,rfl⟩
  ·rw [if_neg hwt]
   rw [k5 (by simpa using hwt)] at ih
   exact ih
theorem bub7 (hT:ph7 P ty) (hm:P.follows .mixedOrders = true) {id:Nat} {lq:List Nat} {T:Tr} (hB:hzb7 nt ops lq T r fins = true) (h:St E nt M σ a w) (hw:znb7 P ty ops T r (pick ops lq) K σ) (hQ:∀ M σ a w,St E nt M σ a w → K σ → Q .normal a w) (hQp:∀ c a w, ¬ Q (.panic c) a w):(Code.region id ops true).wp P Q a w:=by
 unfold hzb7 at hB
 simp only [Bool.and_eq_true,decide_eq_true_eq,List.all_eq_true] at hB
 obtain ⟨⟨⟨⟨b1,b2⟩,b3⟩,b4⟩,b5⟩:=hB
 split at b5
 case h_2=>cases b5
 rename_i listed hq
 have hb:Below w.heap.size w w.drew:=(Below.refl _ _).drew
 have h2:St E nt M σ a w.drew:=⟨h.rel.below hb,fun t ht=>(Kp.below h.rel hb).R (h.tms t ht),h.off,h.sz,h.df⟩
 refine wp_region_any hm (pi7 (S:=qh7 none w.drew) (fins:=fins) _ _ _ _ ?_)
 rw [show ops.size = lq.length + (ops.size - lq.length) by omega]
 refine ll7 b2 (fun c a d v w hh=>(hQp _ _ _ hh).elim) (qh7.refl _ _) lq _ listed a (fun j oj _ hl=>by rw [getD_replicate_false] at hl; cases hl) (by rw [show lq.length + (ops.size - lq.length) = ops.size by omega]; exact hq) (pab7 hT b1 lq h2 b4 hw) fun a' _ ⟨M',σ',q1,q2⟩ => ?_
 rcases vbb7 (w0:=w.drew) hT b1 hQ T q1 b5 q2 (fun _=>qh7.refl _ _) with ⟨-,h⟩ | ⟨⟨g0,g1⟩,g2⟩
 ·exact h
 ·obtain ⟨m,hm⟩:∃ m,ops.size - lq.length = m + 1:=⟨ops.size - lq.length - 1,by omega⟩
  rw [hm]
  exact ⟨fun h0=>absurd h0 g1,fun i hi=>(g2 m hm i hi).resolve_left (by simp)⟩
theorem zk7 (hT:ph7 P ty) (hm:P.follows .mixedOrders = true) {ord:Nat → List Nat × Nat × Option Nat}:∀ (p:Pl) (c:Code),okD nt ord p c = true → ∀ {Q:Exit → AS → Prop} {M:Mp} {σ:AS} {a:Act} {w:World},St E nt M σ a w → zu7 P ty ord p c Q σ →
  c.wp P (fun e a' w'=>(∀ ch,e ≠ .panic ch) ∧ ∃ M' σ',St E nt M' σ' a' w' ∧ Q e σ') a w
 | .a,c,hc,Q,M,σ,a,w,h,hw=>wp_mono (tm7 hT hm c hc h hw) fun e a1 w1 ⟨hp,M1,σ1,q1,q2,q3⟩=>⟨hp,M1,σ1,q1,q3⟩
 | .s p q,c,hc,Q,M,σ,a,w,h,hw=>by
  cases c with
  | seq x y =>
   simp only [okD,Bool.and_eq_true] at hc
   refine wp_seq (wp_mono (zk7 hT hm p x hc.1 h (Q:=fl7 (zu7 P ty ord q y Q) Q) hw) fun e a1 w1 ⟨hp,M1,σ1,q1,q3⟩ => ?_)
   cases e with
   | normal=>exact zk7 hT hm q y hc.2 q1 q3
   | panic ch=>exact absurd rfl (hp ch)
   | exit id=>exact ⟨hp,M1,σ1,q1,q3⟩
   | goto l=>exact ⟨hp,M1,σ1,q1,q3⟩
   | ret=>exact ⟨hp,M1,σ1,q1,q3⟩
   | outgrown=>exact ⟨hp,M1,σ1,q1,q3⟩
  | _=>exact Bool.noConfusion hc
 | .c p q,c,hc,Q,M,σ,a,w,h,hw=>by
  cases c with
  | cond x y z =>
   simp only [okD,Bool.and_eq_true] at hc
   have hw':fbb7 (σ.rd x) (zu7 P ty ord p y Q σ) (zu7 P ty ord q z Q σ):=hw
   unfold fbb7 at hw'
   split at hw'
   ·rename_i b hb
    have hv:=h.rd (x:=x) (by rw [hb])
    rw [hb] at hv
    have hv':a.eval x = .bool b:=hv
    refine wp_cond hv' ?_
    cases b with
    | true=>exact zk7 hT hm p y hc.1 h (hw'.1 rfl)
    | false=>exact zk7 hT hm q z hc.2 h (hw'.2 rfl)
   ·exact hw'.elim
  | _=>exact Bool.noConfusion hc
 | .b p,c,hc,Q,M,σ,a,w,h,hw=>by
  cases c with
  | block id x =>
   refine wp_block (wp_mono (zk7 hT hm p x hc h (Q:=inB id Q) hw) fun e a1 w1 ⟨hp,M1,σ1,q1,q3⟩ => ?_)
   cases e with
   | exit j =>
    simp only [Exit.inBlock]
    simp only [inB] at q3
    split
    ·rename_i e; rw [if_pos e] at q3; exact ⟨fun _ e=>(by cases e),M1,σ1,q1,q3⟩
    ·rename_i e; rw [if_neg e] at q3; exact ⟨hp,M1,σ1,q1,q3⟩
   | normal=>exact ⟨hp,M1,σ1,q1,q3⟩
   | panic ch=>exact absurd rfl (hp ch)
   | goto l=>exact ⟨hp,M1,σ1,q1,q3⟩
   | ret=>exact ⟨hp,M1,σ1,q1,q3⟩
   | outgrown=>exact ⟨hp,M1,σ1,q1,q3⟩
  | _=>exact Bool.noConfusion hc
 | .k ks p q,c,hc,Q,M,σ,a,w,h,hw=>by
  cases c with
  | seq x y =>
   simp only [okD,Bool.and_eq_true] at hc
   obtain ⟨R,h1,h2⟩:=hw
   refine wp_seq (wp_mono (zk7 hT hm p x hc.1 h h1) fun e a1 w1 ⟨hp,M1,σ1,q1,q3⟩ => ?_)
   cases e with
   | normal=>exact zk7 hT hm q y hc.2 (q1.keepS ks) (h2 _ q3)
   | panic ch=>exact absurd rfl (hp ch)
   | exit id=>exact ⟨hp,M1,σ1,q1,q3⟩
   | goto l=>exact ⟨hp,M1,σ1,q1,q3⟩
   | ret=>exact ⟨hp,M1,σ1,q1,q3⟩
   | outgrown=>exact ⟨hp,M1,σ1,q1,q3⟩
  | _=>exact Bool.noConfusion hc
 | .t lq T r fins,c,hc,Q,M,σ,a,w,h,hw=>by
  cases c with
  | region id ops dr =>
   cases dr with
   | false=>exact Bool.noConfusion hc
   | true=>exact bub7 hT hm hc h hw (fun M σ a w q1 q2=>⟨fun _ e=>(by cases e),M,σ,q1,q2⟩) fun c a w hh=>hh.1 c rfl
  | _=>exact Bool.noConfusion hc
section
variable {ord:Nat → List Nat × Nat × Option Nat} {Q:Exit → AS → Prop} {p q:Pl}
theorem ybc7 {c:Code}:zu7 P ty ord .a c Q σ = awp P ty ord c Q σ:=by cases c <;> rfl
theorem ncc7 {x y:Code}:zu7 P ty ord (.s p q) (.seq x y) Q σ = zu7 P ty ord p x (fl7 (zu7 P ty ord q y Q) Q) σ:=rfl
theorem ozb7 {lq:List Nat} {T:Tr} {id:Nat}:zu7 P ty ord (.t lq T r fins) (.region id ops true) Q σ = znb7 P ty ops T r (pick ops lq) (Q .normal) σ:=rfl
theorem nzb7 {T:Tr}:znb7 P ty ops T r [] K σ = phb7 P ty ops r T K σ:=rfl
theorem gac7 {T:Tr} {o:Oper} {l:List Oper}:znb7 P ty ops T r (o :: l) K σ = xv7 P ty (some none) none ops σ o (znb7 P ty ops T r l K):=rfl
theorem vac7:phb7 P ty ops r (.d false) K σ = fu7 P ty r.length none ops (pick ops r) K σ:=rfl
theorem xac7 {ks:List Nat} {x y:Code} (R:AS → Prop) (h1:zu7 P ty ord p x (fl7 (fun σ'=>R (keepS ks σ')) Q) σ) (h2:∀ σ',R σ' → zu7 P ty ord q y Q σ'):zu7 P ty ord (.k ks p q) (.seq x y) Q σ:=⟨R,h1,h2⟩
theorem kqb7 {ks:List Nat} {tm:Tm} {H:List Root}:keepS ks ⟨tm,H⟩ = ⟨fxT tm ks,H⟩:=rfl
theorem aub7:phb7 P ty ops r .no K σ = True:=rfl
theorem lbc7 {wr:Bool} {i:Nat} {t q:Tr}:phb7 P ty ops r (.br wr i t q) K σ = (xv7 P ty (puT wr) none ops σ (opD ops.toList i) (phb7 P ty ops r t K) ∧ phb7 P ty ops r q K σ):=by
 simp [phb7,oib7,List.getD_eq_getElem?_getD,Array.getD_eq_getD_getElem?]
end
theorem ejb7 (p : Pl) (hT : ph7 P ty) (hm : P.follows .mixedOrders = true) {f : FuncId} {fn : Func} {c : Code} (ord : Nat → List Nat × Nat × Option Nat) (hf : P.funcs[f]? = some fn) (hb : fn.body = some c) (hname : (fn.name == "runtime.NumGoroutine") = false) {n : Nat} (hnt : fn.ntmps = n) {rs : List ResultVar} (hr : fn.results.toList = rs)
  (hok:okD n ord p c = true) {args:List RV} (hn:args.length ≤ n) {post:RV → Prop}
  (h:zu7 P ty ord p c (czb7 ty rs (rbc7 post)) ⟨ekb7 0 args,[]⟩):PCall P f args post:=by
 refine ⟨⟨fn,c,hf,hname,hb⟩,fun rho w vs hgl hrho hc=>calls_of_wp hf hb ?_⟩
 have hrel:Rel ⟨w,rho⟩ ⟨fun _=>0,fun _=>0,rho,fun _=>none⟩ [] w:=⟨Below.refl _ _,fun _ _ _ _ _ h=>(by cases h),fun _ _ _ _ _ h=>(by cases h),fun _ _ _ _ h=>(by cases h),fun _ _ _ _ h=>(by cases h),fun _ _ _ _ _ _ _ _ h=>(by cases h),hrho,⟨fun b hb => .inl hb,hgl⟩,⟨fun _ _ h=>(by cases h),fun _ _ _ _ _ _ _ h=>(by cases h),fun _ _ _ h=>(by cases h)⟩⟩
 have hst:=St.enter hrel (Con0RL.up (M:=⟨fun _=>0,fun _=>0,rho,fun _=>none⟩) (H:=[]) hc) (n:=n) hn
 rw [hnt]
 refine wp_mono (zk7 hT hm p c hok hst h) fun e a' w' ⟨hp,M',σ',q1,q3⟩ => ?_
 have fin:(eu7 ty σ' rs).1 ∧ (okT σ'.H (one (eu7 ty σ' rs).2) ∧ ∃ r',xsb7 (zub7 σ'.H (one (eu7 ty σ' rs).2)) r' ∧ post r') → a'.defers = [] ∧ ∃ v,(results fn a'.tmps).run P w' = .ok v w' ∧ ∃ r v' rho',Ending.returned v = .returned v' ∧ post r ∧ fk7 rho' w' r v' ∧ (∀ b,rho' b → rho b ∨ (w.heap.size ≤ b ∧ b < w'.heap.size)) ∧ Below w.heap.size w w':=by
  rintro ⟨h1,h2,r',h3,h4⟩
  obtain ⟨v,k1,k2⟩:=tu7 hT q1 hr h1
  obtain ⟨M2,H2,k3,k4⟩:=njb7 q1.rel h2 k1
  refine ⟨q1.df,v,k2,r',v,M2.rho,rfl,h4,k4.eqv h3,fun b hb => ?_,q1.rel.bel⟩
  rcases k3.src.1 b hb with h | h
  ·exact .inl h
  ·exact .inr ⟨h,k3.rlt b hb⟩
 cases e with
 | normal=>exact fin q3
 | ret=>exact fin q3
 | panic ch=>exact absurd rfl (hp ch)
 | exit id=>exact q3.elim
 | goto l=>exact q3.elim
 | outgrown=>exact q3.elim
end
open Go.RowKit Go.Lib
def cvb7:Tr := .br false 2 (.br false 3 (.br false 4 (.br false 9 (.br false 10 (.d false) .no) .no) (.br false 9 (.br false 4 (.br false 10 (.d false) .no) (.br false 10 (.br false 4 (.d false) .no) .no)) .no)) (.br false 9 (.br false 3 (.br false 4 (.br false 10 (.d false) .no) (.br false 10 (.br false 4 (.d false) .no) .no)) (.br false 10 (.br false 3 (.br false 4 (.d false) .no) .no) .no)) .no)) (.br false 9 (.br false 2 (.br false 3 (.br false 4 (.br false 10 (.d false) .no) (.br false 10 (.br false 4 (.d false) .no) .no)) (.br false 10 (.br false 3 (.br false 4 (.d false) .no) .no) .no)) .no) .no)
def zqb7:Pl := .s .a (.k [1,3] (.t [0,1,5,6,7,8] cvb7 [11,12] [11,12]) .a)
theorem ud7 {len:Nat} {l:List Int} (h:len = l.length):AV.sl len 1 (fun i j=>(Row.ints .i64 l).get (0 + i) j) = nh7 l:=by
 subst h
 simp only [Row.get,Nat.zero_add]
theorem hpb7 (p:za7) (c:Int):112 :: 108 :: 97 :: 110 :: 32 :: (itoa c ++ [10,116,114,117,99,107,115,32] ++ ze7 [] [(p.trucks.length:Int)]) = zm7 p c:=by
 simp [zm7,ze7,lnS,qf7]
theorem esb7 (p:za7) (t:rb7) (c:Int):zm7 p c ++ je7 p t p.trucks.length ++ 98 :: 105 :: 107 :: 101 :: 115 :: 32 :: ze7 [] [(p.bikes.length:Int)] = kbb7 p t c:=by
 simp [kbb7,ze7,lnS,qf7]
def pn7 (s:ue7):List Root:=[.live false 31 5 (.box (nf7 s)), .live false 3 1 (.ints .i64 [(s.plan.trucks.length:Int)])]
def uqb7 (s:ue7) (k j:Nat):List Root:=pn7 s ++ [.live false 82 1 (.box [pu7 (ni7 s.plan k)]), .live false 3 1 (.ints .i64 (tCells (ni7 s.plan k) (mu7 s.times k) j))]
def mab7 (s:ue7):List Root:=pn7 s ++ [.live false 3 1 (.ints .i64 [(s.plan.bikes.length:Int)])]
def ry7 (s:ue7) (k:Nat) (rd:List AV) (j:Nat):List Root:=mab7 s ++ [.live false 73 2 (.box [I6 (uh7 s.plan k).sat,nh7 (uh7 s.plan k).stops]), .live false 58 3 (.box rd), .live false 3 1 (.ints .i64 (kCells (uh7 s.plan k) (tj7 s.times k) j))]
theorem gub7 {s:ue7} (h:pd7 s.plan s.times s.cost):PCall Try.prog 9 [.agg (nf7 s)] (fun r=>r = .c (.str (S (pv7 s.plan s.times s.cost)))):=by
 refine ejb7 zqb7 qq7 (by kernel_rfl) (fun n=>match n with | 12=>([],2,none) | _=>([],0,none)) Try.func9 rfl (by kernel_rfl) Try.ntmps9 (congrArg Array.toList Try.results9) (by kernel_rfl) (by simp) ?_
 simp -implicitDefEqProofs only [go_sem, ↓reduceIte,reduceCtorEq,Nat.reduceAdd,Nat.reduceLT,Nat.reduceEqDiff,Nat.reduceMul,Nat.reduceLeDiff,Nat.reduceSub,zqb7,ybc7,ncc7,nf7,nk7,ei7]
 have hc:=h.c
 have hnt:wa7 (s.plan.trucks.length:Int):=wn h.nt
 have hcl:=br7 hc
 have hnn:=h.nt
 have hbb:=h.nb
 have hol:=gn7 hnt []
 simp only [List.length_nil] at hol
 refine xac7 (fun σ'=>σ' = ⟨[(1,true, .c (.ptr 0 1 0 0)),(3,true, .c (.str (S (zm7 s.plan s.cost))))],pn7 s⟩) ?_ ?_
 ·simp -implicitDefEqProofs only [go_sem, ↓reduceIte,reduceCtorEq,Nat.reduceAdd,Nat.reduceLT,Nat.reduceEqDiff,Nat.reduceMul,Nat.reduceLeDiff,Nat.reduceSub,cvb7,ozb7,nzb7,gac7,lbc7,vac7,aub7]
  have hl0:∀ v ∈ [(s.plan.trucks.length:Int)],wa7 v:=fun v hv=>by rw [List.mem_singleton.1 hv]; exact hnt
  have hw1:∀ H,lh7 H [] = []:=fun _=>rfl
  repeat' first
   | (refine ah7 (scb7 hc) (by simp -implicitDefEqProofs only [go_sem, ↓reduceIte,reduceCtorEq,Nat.reduceAdd,Nat.reduceLT,Nat.reduceEqDiff,Nat.reduceMul,Nat.reduceLeDiff,Nat.reduceSub]) rfl (fun r h=>by subst h; rfl) ?_; rintro r rfl; simp -implicitDefEqProofs only [go_sem, ↓reduceIte,reduceCtorEq,Nat.reduceAdd,Nat.reduceLT,Nat.reduceEqDiff,Nat.reduceMul,Nat.reduceLeDiff,Nat.reduceSub,dn7,ozb7,nzb7,gac7,lbc7,vac7,aub7,kqb7])
   | (refine bh7 (dp7 (l:=[(s.plan.trucks.length:Int)]) (by simp) hl0) ⟨⟨rfl,rfl⟩,trivial⟩ (by simp only [lh7,jp7,in7,frz,da7]; rw [ud7 (by rfl)]) (fun r h=>by subst h; rfl) ?_; rintro r rfl; simp -implicitDefEqProofs only [go_sem, ↓reduceIte,reduceCtorEq,Nat.reduceAdd,Nat.reduceLT,Nat.reduceEqDiff,Nat.reduceMul,Nat.reduceLeDiff,Nat.reduceSub,dn7,ozb7,nzb7,gac7,lbc7,vac7,aub7,kqb7])
   | with_reducible refine And.intro ?_ ?_
   | (simp; omega)
  all_goals exact congrArg (fun l=>(⟨[(1,true, .c (.ptr 0 1 0 0)),(3,true, .c (.str (S l)))],pn7 s⟩:AS)) (hpb7 s.plan s.cost)
 ·rintro σ' rfl
  simp -implicitDefEqProofs only [go_sem, ↓reduceIte,reduceCtorEq,Nat.reduceAdd,Nat.reduceLT,Nat.reduceEqDiff,Nat.reduceMul,Nat.reduceLeDiff,Nat.reduceSub,pn7,ybc7,nf7,nk7,ei7]
  refine de7 (ι:=Nat) [1,30,31] [3,32] (fun k=>k ≤ s.plan.trucks.length) (fun k=>[.c (.str (S (zm7 s.plan s.cost ++ je7 s.plan s.times k))), .c (I6 k)]) (fun _=>_) (fun k=>s.plan.trucks.length - k) (by kernel_rfl) ⟨0,Nat.zero_le _,by simp [je7,gets,ok7,lk],rfl⟩ (fun s _=>⟨rfl,rfl,rfl,rfl⟩) ?_
  intro k hk
  simp -implicitDefEqProofs only [go_sem, ↓reduceIte,reduceCtorEq,Nat.reduceAdd,Nat.reduceLT,Nat.reduceEqDiff,Nat.reduceMul,Nat.reduceLeDiff,Nat.reduceSub]
  refine ⟨fun h1 => ?_,fun h1 => ?_⟩
  ·have hkl:(ni7 s.plan k).length ≤ 30000:=(h.truck k).1
   refine ⟨by omega,fun h2=>⟨by omega, ?_⟩,fun h2 => ?_⟩
   all_goals
    refine de7 (ι:=Nat) [1,3,7,30,31,32,54,55] [6,56] (fun j=>j ≤ (ni7 s.plan k).length) (fun j=>[.c (.h 3 0 (tCells (ni7 s.plan k) (mu7 s.times k) j).length), .c (I6 j)]) (fun j=>uqb7 s k j) (fun j=>(ni7 s.plan k).length - j) (by kernel_rfl) ⟨0,Nat.zero_le _,rfl,rfl⟩ (fun _ _=>⟨rfl,rfl,rfl,rfl⟩) ?_
    intro j hj
    simp -implicitDefEqProofs only [go_sem, ↓reduceIte,reduceCtorEq,Nat.reduceAdd,Nat.reduceLT,Nat.reduceEqDiff,Nat.reduceMul,Nat.reduceLeDiff,Nat.reduceSub,uqb7,pn7,nf7,nk7,ei7]
    refine ⟨fun h3 => ?_,fun h3 => ?_⟩
   ·refine ⟨by omega,ah7 (yeb7 (by omega)) (by simp -implicitDefEqProofs only [go_sem, ↓reduceIte,reduceCtorEq,Nat.reduceAdd,Nat.reduceLT,Nat.reduceEqDiff,Nat.reduceMul,Nat.reduceLeDiff,Nat.reduceSub]) rfl (fun r h=>by subst h; rfl) ?_⟩
    rintro r rfl
    simp -implicitDefEqProofs only [go_sem, ↓reduceIte,reduceCtorEq,Nat.reduceAdd,Nat.reduceLT,Nat.reduceEqDiff,Nat.reduceMul,Nat.reduceLeDiff,Nat.reduceSub]
    have hlen:=ac7 (ni7 s.plan k) (mu7 s.times k) j
    refine ⟨by omega,⟨by omega,by omega⟩,j + 1,by omega, ?_, ?_,by omega⟩
    ·rw [ac7,ac7,show 1 + 3 * (j + 1) = 1 + 3 * j + 3 by omega]; rfl
    ·rw [ch7]; rfl
   ·obtain rfl:j = (ni7 s.plan k).length:=by omega
    have hlen:=ac7 (ni7 s.plan k) (mu7 s.times k) (ni7 s.plan k).length
    have hcw:=h.tCells k (ni7 s.plan k).length
    have htr:=h.trucksL k
    have hhd:=h.headL
    have htk:=h.truckL k
    have htk':(ze7 [] (tCells (ni7 s.plan k) (mu7 s.times k) (ni7 s.plan k).length)).length ≤ 1980023:=htk
    refine bh7 (dp7 (l:=tCells (ni7 s.plan k) (mu7 s.times k) (ni7 s.plan k).length) (by omega) hcw) ⟨⟨Nat.zero_add _,rfl⟩,trivial⟩ (by simp only [lh7,jp7,in7,frz,da7]; rw [ud7 rfl]) (fun r h=>by subst h; rfl) ?_
    rintro r rfl
    simp -implicitDefEqProofs only [go_sem, ↓reduceIte,reduceCtorEq,Nat.reduceAdd,Nat.reduceLT,Nat.reduceEqDiff,Nat.reduceMul,Nat.reduceLeDiff,Nat.reduceSub,dn7]
    refine ⟨by simp only [List.size_toArray,List.length_append]; omega,⟨by omega,by omega⟩,k + 1,by omega, ?_,by omega⟩
    rw [th7,List.append_assoc]; rfl
   ·have hu:mu7 s.times k = []:=bm7 (by omega) _
    refine ⟨by omega,lw7 (yeb7 (l:=[]) (k:=j) (by omega)) (by simp -implicitDefEqProofs only [go_sem, ↓reduceIte,reduceCtorEq,Nat.reduceAdd,Nat.reduceLT,Nat.reduceEqDiff,Nat.reduceMul,Nat.reduceLeDiff,Nat.reduceSub]) ⟨_,_,rfl, .inr ⟨_,rfl, .inr (.inr ⟨_,_,rfl⟩)⟩,_,_,rfl, .inl rfl,rfl⟩ (fun r h=>by subst h; rfl) ?_⟩
    rintro r rfl
    simp -implicitDefEqProofs only [go_sem, ↓reduceIte,reduceCtorEq,Nat.reduceAdd,Nat.reduceLT,Nat.reduceEqDiff,Nat.reduceMul,Nat.reduceLeDiff,Nat.reduceSub]
    have hlen:=ac7 (ni7 s.plan k) (mu7 s.times k) j
    refine ⟨by omega,⟨by omega,by omega⟩,j + 1,by omega, ?_, ?_,by omega⟩
    ·rw [ac7,ac7,show 1 + 3 * (j + 1) = 1 + 3 * j + 3 by omega]; rfl
    ·rw [ch7]; unfold tItem; rw [hu];rfl
   ·obtain rfl:j = (ni7 s.plan k).length:=by omega
    have hlen:=ac7 (ni7 s.plan k) (mu7 s.times k) (ni7 s.plan k).length
    have hcw:=h.tCells k (ni7 s.plan k).length
    have htr:=h.trucksL k
    have hhd:=h.headL
    have htk:=h.truckL k
    have htk':(ze7 [] (tCells (ni7 s.plan k) (mu7 s.times k) (ni7 s.plan k).length)).length ≤ 1980023:=htk
    refine bh7 (dp7 (l:=tCells (ni7 s.plan k) (mu7 s.times k) (ni7 s.plan k).length) (by omega) hcw) ⟨⟨Nat.zero_add _,rfl⟩,trivial⟩ (by simp only [lh7,jp7,in7,frz,da7]; rw [ud7 rfl]) (fun r h=>by subst h; rfl) ?_
    rintro r rfl
    simp -implicitDefEqProofs only [go_sem, ↓reduceIte,reduceCtorEq,Nat.reduceAdd,Nat.reduceLT,Nat.reduceEqDiff,Nat.reduceMul,Nat.reduceLeDiff,Nat.reduceSub,dn7]
    refine ⟨by simp only [List.size_toArray,List.length_append]; omega,⟨by omega,by omega⟩,k + 1,by omega, ?_,by omega⟩
    rw [th7,List.append_assoc]; rfl
  ·obtain rfl:k = s.plan.trucks.length:=by omega
   have htr:=h.trucksL s.plan.trucks.length
   have hhd:=h.headL
   have hml:=h.midL
   have hbn:wa7 (s.plan.bikes.length:Int):=wn h.nb
   have hobl:=gn7 hbn []
   simp only [List.length_nil] at hobl
   refine bh7 (dp7 (l:=[(s.plan.bikes.length:Int)]) (by simp) (fun v hv=>by rw [List.mem_singleton.1 hv]; exact hbn)) ⟨⟨rfl,rfl⟩,trivial⟩ (by simp only [lh7,jp7,in7,frz,da7]; rw [ud7 (by rfl)]) (fun r h=>by subst h; rfl) ?_
   rintro r rfl
   simp -implicitDefEqProofs only [go_sem, ↓reduceIte,reduceCtorEq,Nat.reduceAdd,Nat.reduceLT,Nat.reduceEqDiff,Nat.reduceMul,Nat.reduceLeDiff,Nat.reduceSub,dn7]
   refine ⟨by simp; omega,by simp; omega, ?_⟩
   rw [esb7]
   refine de7 (ι:=Nat) [1,88,89] [3,90] (fun k=>k ≤ s.plan.bikes.length) (fun k=>[.c (.str (S (kbb7 s.plan s.times s.cost ++ ng7 s.plan s.times k))), .c (I6 k)]) (fun _=>mab7 s) (fun k=>s.plan.bikes.length - k) (by kernel_rfl) ⟨0,Nat.zero_le _,by simp [ng7,gets,ok7,lk],rfl⟩ (fun s _=>⟨rfl,rfl,rfl,rfl⟩) ?_
   intro k hk
   simp -implicitDefEqProofs only [go_sem, ↓reduceIte,reduceCtorEq,Nat.reduceAdd,Nat.reduceLT,Nat.reduceEqDiff,Nat.reduceMul,Nat.reduceLeDiff,Nat.reduceSub,mab7,pn7,nf7,nk7,ei7]
   refine ⟨fun h1 => ?_,fun h1 => ?_⟩
   ·have hkl:(uh7 s.plan k).stops.length ≤ 30000:=(h.bike k).1
    refine ⟨by omega,fun h2=>⟨by omega, ?_⟩,fun h2 => ?_⟩
    ·refine de7 (ι:=Nat) [1,3,12,88,89,90,116,117] [13,118] (fun j=>j ≤ (uh7 s.plan k).stops.length) (fun j=>[.c (.h 5 0 (kCells (uh7 s.plan k) (tj7 s.times k) j).length), .c (I6 j)]) (fun j=>ry7 s k [I6 (tj7 s.times k).out,nh7 (tj7 s.times k).starts,I6 (tj7 s.times k).back] j) (fun j=>(uh7 s.plan k).stops.length - j) (by kernel_rfl) ⟨0,Nat.zero_le _,rfl,rfl⟩ (fun _ _=>⟨rfl,rfl,rfl,rfl⟩) ?_
     intro j hj
     have hlen:=wc7 (uh7 s.plan k) (tj7 s.times k) j
     simp -implicitDefEqProofs only [go_sem, ↓reduceIte,reduceCtorEq,Nat.reduceAdd,Nat.reduceLT,Nat.reduceEqDiff,Nat.reduceMul,Nat.reduceLeDiff,Nat.reduceSub,ry7,mab7,pn7,nf7,nk7,ei7]
     refine ⟨fun h3 => ?_,fun h3 => ?_⟩
     ·refine ⟨by omega,ah7 (yeb7 (by omega)) (by simp -implicitDefEqProofs only [go_sem, ↓reduceIte,reduceCtorEq,Nat.reduceAdd,Nat.reduceLT,Nat.reduceEqDiff,Nat.reduceMul,Nat.reduceLeDiff,Nat.reduceSub]) rfl (fun r h=>by subst h; rfl) ?_⟩
      rintro r rfl
      simp -implicitDefEqProofs only [go_sem, ↓reduceIte,reduceCtorEq,Nat.reduceAdd,Nat.reduceLT,Nat.reduceEqDiff,Nat.reduceMul,Nat.reduceLeDiff,Nat.reduceSub]
      refine ⟨by omega,⟨by omega,by omega⟩,j + 1,by omega, ?_, ?_,by omega⟩
      ·rw [wc7,wc7,show 3 + 2 * (j + 1) = 3 + 2 * j + 2 by omega]; rfl
      ·rw [dh7]; rfl
     ·obtain rfl:j = (uh7 s.plan k).stops.length:=by omega
      have hcw:=h.kCells k (uh7 s.plan k).stops.length
      have hrb:=(h.ride k).2.1
      have hbr:=h.bikesL k
      have hbk:=h.bikeL k
      have hbk':(ze7 [] (kCells (uh7 s.plan k) (tj7 s.times k) (uh7 s.plan k).stops.length ++ [(tj7 s.times k).back])).length ≤ 1320089:=hbk
      refine ⟨by omega,bh7 (dp7 (l:=kCells (uh7 s.plan k) (tj7 s.times k) (uh7 s.plan k).stops.length ++ [(tj7 s.times k).back]) (by rw [List.length_append,List.length_singleton]; omega) (fun v hv=>(List.mem_append.1 hv).elim (hcw v) (fun e=>by rw [List.mem_singleton.1 e]; exact hrb))) ⟨⟨by simp [Row.len],rfl⟩,trivial⟩ (by simp only [lh7,jp7,in7,frz,da7]; rw [ud7 (by simp)]) (fun r h=>by subst h; rfl) ?_⟩
      rintro r rfl
      simp -implicitDefEqProofs only [go_sem, ↓reduceIte,reduceCtorEq,Nat.reduceAdd,Nat.reduceLT,Nat.reduceEqDiff,Nat.reduceMul,Nat.reduceLeDiff,Nat.reduceSub,dn7]
      refine ⟨by simp only [List.size_toArray,List.length_append] at hbk' ⊢; omega,⟨by omega,by omega⟩,k + 1,by omega, ?_,by omega⟩
      rw [xj7,List.append_assoc]; rfl
    ·have hu:tj7 s.times k = ⟨0,[],0⟩:=bm7 (by omega) _
     refine de7 (ι:=Nat) [1,3,12,88,89,90,116,117] [13,118] (fun j=>j ≤ (uh7 s.plan k).stops.length) (fun j=>[.c (.h 5 0 (kCells (uh7 s.plan k) (tj7 s.times k) j).length), .c (I6 j)]) (fun j=>ry7 s k [.int .i64 0, .nils, .int .i64 0] j) (fun j=>(uh7 s.plan k).stops.length - j) (by kernel_rfl) ⟨0,Nat.zero_le _,rfl,(by unfold ry7 kCells; rw [hu]; rfl)⟩ (fun _ _=>⟨rfl,rfl,rfl,rfl⟩) ?_
     intro j hj
     have hlen:=wc7 (uh7 s.plan k) (tj7 s.times k) j
     simp -implicitDefEqProofs only [go_sem, ↓reduceIte,reduceCtorEq,Nat.reduceAdd,Nat.reduceLT,Nat.reduceEqDiff,Nat.reduceMul,Nat.reduceLeDiff,Nat.reduceSub,ry7,mab7,pn7,nf7,nk7,ei7]
     refine ⟨fun h3 => ?_,fun h3 => ?_⟩
     ·refine ⟨by omega,lw7 (yeb7 (l:=[]) (k:=j) (by omega)) (by simp -implicitDefEqProofs only [go_sem, ↓reduceIte,reduceCtorEq,Nat.reduceAdd,Nat.reduceLT,Nat.reduceEqDiff,Nat.reduceMul,Nat.reduceLeDiff,Nat.reduceSub]) ⟨_,_,rfl, .inr ⟨_,rfl, .inr (.inr ⟨_,_,rfl⟩)⟩,_,_,rfl, .inl rfl,rfl⟩ (fun r h=>by subst h; rfl) ?_⟩
      rintro r rfl
      simp -implicitDefEqProofs only [go_sem, ↓reduceIte,reduceCtorEq,Nat.reduceAdd,Nat.reduceLT,Nat.reduceEqDiff,Nat.reduceMul,Nat.reduceLeDiff,Nat.reduceSub]
      refine ⟨by omega,⟨by omega,by omega⟩,j + 1,by omega, ?_, ?_,by omega⟩
      ·rw [wc7,wc7,show 3 + 2 * (j + 1) = 3 + 2 * j + 2 by omega]; rfl
      ·rw [dh7]; unfold bItem; rw [hu]
     ·obtain rfl:j = (uh7 s.plan k).stops.length:=by omega
      have hcw:=h.kCells k (uh7 s.plan k).stops.length
      have hrb:=(h.ride k).2.1
      have hbr:=h.bikesL k
      have hbk:=h.bikeL k
      have hbk':(ze7 [] (kCells (uh7 s.plan k) (tj7 s.times k) (uh7 s.plan k).stops.length ++ [(tj7 s.times k).back])).length ≤ 1320089:=hbk
      refine ⟨by omega,bh7 (dp7 (l:=kCells (uh7 s.plan k) (tj7 s.times k) (uh7 s.plan k).stops.length ++ [(tj7 s.times k).back]) (by rw [List.length_append,List.length_singleton]; omega) (fun v hv=>(List.mem_append.1 hv).elim (hcw v) (fun e=>by rw [List.mem_singleton.1 e]; exact hrb))) ⟨⟨by simp [Row.len],rfl⟩,trivial⟩ (by simp only [lh7,jp7,in7,frz,da7]; rw [ud7 (by simp)]; rw [hu]) (fun r h=>by subst h; rfl) ?_⟩
      rintro r rfl
      simp -implicitDefEqProofs only [go_sem, ↓reduceIte,reduceCtorEq,Nat.reduceAdd,Nat.reduceLT,Nat.reduceEqDiff,Nat.reduceMul,Nat.reduceLeDiff,Nat.reduceSub,dn7]
      refine ⟨by simp only [List.size_toArray,List.length_append] at hbk' ⊢; omega,⟨by omega,by omega⟩,k + 1,by omega, ?_,by omega⟩
      rw [xj7,List.append_assoc]; rfl
   ·obtain rfl:k = s.plan.bikes.length:=by omega
    have hbr:=h.bikesL s.plan.bikes.length
    exact ⟨by simp; omega,by rw [dn7]; rfl⟩
end Go.Proofs.Ytabadfkikdefeaa.Ab
namespace Go.Proofs.Ytabadfkikdefeaa.Ab
open Go.RowKit Go.Lib
def ho7 (a b:AV):Root := .live false 85 2 (.box [a,b])
def en7 (l:List Int):Root := .live false 5 1 (.ints .u8 l)
theorem mcb7 {P:Program} {w w':World} {b o:Nat} {v u:Value} (hc:w.cell? ⟨b,o,none⟩ = some u) (hf:w.frozen? ⟨b,o,none⟩ = false) (h1:v.oneCell' = true) (h:(storeCells ⟨b,o,none⟩ [v] 0).run P w = .ok () w'):w' = w.setCell ⟨b,o,none⟩ v:=by
 simp [storeCells,Sem.run_bind,Addr.add_lit,Nat.add_zero,run_store P w _ v _ h1,hc,hf,Result.andThen] at h
 exact h.symm
theorem bg7 {E:Env} {M:Mp} {H:List Root} {w:World} (hR:Rel E M H w) {id:Nat} {a b:AV} (h1:da7 H id = ho7 a b) :
  ∃ u v,w.heap[M.phi id]? = some (.cells #[u,v] 85 (0,0)) ∧ M.off id = 0 ∧ Con M H w a u ∧ Con M H w b v:=by
 obtain ⟨cur,k1,k2,k3,k4,k5,k6⟩:=hR.row _ _ _ _ _ h1
 obtain ⟨k7,k8⟩:=k5 rfl
 obtain ⟨u,u1,u2,u3⟩:=k6 0 Nat.one_pos 0 (by decide)
 obtain ⟨v,v1,v2,v3⟩:=k6 0 Nat.one_pos 1 (by decide)
 rw [k7] at u1 v1
 refine ⟨u,v, ?_,k7,u3,v3⟩
 rw [k1]
 congr 2
 apply Array.ext
 ·rw [k8]; rfl
 ·intro i hi hi2
  rw [k8] at hi
  match i,hi with
  | 0,_=>exact (Array.getElem?_eq_some_iff.1 u1).2
  | 1,_=>exact (Array.getElem?_eq_some_iff.1 v1).2
theorem op7 {E:Env} {M:Mp} {H:List Root} {w:World} (hR:Rel E M H w) {id:Nat} {a b:AV} (h1:da7 H id = ho7 a b) {p:Value} (hp:Con M H w (.ptr id 1 0 0) p):p = .pointer (some ⟨M.phi id,0,none⟩):=by
 obtain ⟨u,v, -,ho, -⟩:=bg7 hR h1
 have:=(hp.2 _ _ _ _ h1).2 rfl
 rw [ho] at this
 simpa using this
theorem us7:∀ {H:List Root} {id:Nat} {x y:Root},id < H.length → ia7 (H ++ [y]) id x = ia7 H id x ++ [y]
 | [],_,_,_,h=>absurd h (Nat.not_lt_zero _)
 | _ :: _,0,_,_,_=>rfl
 | _ :: H,id + 1,_,_,h=>by simp only [List.cons_append,ia7]; rw [us7 (by simpa using h)]
theorem ns7:∀ (H:List Root) (id:Nat) (x y:Root),ia7 (ia7 H id x) id y = ia7 H id y
 | [],_,_,_=>rfl
 | _ :: _,0,_,_=>rfl
 | _ :: H,id + 1,_,_=>by simp only [ia7]; rw [ns7 H]
theorem uab7 {ops:Array Oper} {rest:List Oper} {o:Oper} {a:Act} {Q:Exit → Act → World → Prop} (w:World) (hgd:o.guard = none) (s x:Operand) (t tx:TypeId)
  (ho:o.op = .call { callee := .builtin .append,args := #[s,x],argTypes := #[t,tx] }) {v xv v':Value} {w':World} (hs:a.eval s = v) (hx:a.eval x = xv)
  (hr:(Builtin.append_ #[t,tx] o.type #[v,xv]).run Try.prog w = .ok v' w') (h:wpList Try.prog ops Q rest (a.put o.dst v') w'):wpList Try.prog ops Q (o :: rest) a w:=by
 refine wpList_plain hgd fun _ hK => ?_
 unfold Oper.wp execOp
 simp only [ho,resolve,invoke,builtin,Sem.run_bind,Sem.run_pure,Result.andThen_ok,List.map_toArray,List.map_cons,List.map_nil,hs,hx,hr]
 exact hK _ _ h
theorem tbb7 {E:Env} {M:Mp} {H:List Root} {w:World} (hR:Rel E M H w) {id:Nat} {a b c:AV} (h1:da7 H id = ho7 a b) {o:Nat} (ho:o < 2) {v:Value} (hv:Con M H w c v) (hn:v.oneCell' = true) :
  Rel E M (ia7 H id (.live false 85 2 (.box (pat [a,b] o [c])))) (w.setCell ⟨M.phi id,o,none⟩ v) ∧ Kp M H w M (ia7 H id (.live false 85 2 (.box (pat [a,b] o [c])))) (w.setCell ⟨M.phi id,o,none⟩ v):=by
 obtain ⟨x,y,hh,h0, -, -⟩:=bg7 hR h1
 obtain ⟨w2,r1,r2,r3⟩:=iw7 (P:=Try.prog) hR h1 (i:=0) (o:=o) (cs:=[c]) (vs:=[v]) Nat.one_pos (by simp; omega) (by simpa using hn) rfl (fun j u hj=>by
  cases j with
  | zero=>simp at hj; subst hj; exact hv
  | succ j=>simp at hj) trivial
 rw [h0,Nat.zero_mul,Nat.zero_add] at r3
 have hc:∃ u,w.cell? ⟨M.phi id,o,none⟩ = some u:=by
  match o,ho with
  | 0,_=>exact ⟨x,by rw [Lib.cell_of_heap hh]; rfl⟩
  | 1,_=>exact ⟨y,by rw [Lib.cell_of_heap hh]; rfl⟩
 obtain ⟨u,hc⟩:=hc
 have:=mcb7 hc (Lib.frozen_of_heap hh _) hn r3
 subst this
 exact ⟨r1,r2⟩
theorem wnb7 {H:List Root} {id buf n:Nat} {l:List Int} {s:ByteArray} {K:RV → List Root → Prop} (h1:da7 H id = ho7 (.ptr id 1 0 0) (.h buf 0 n)) (h2:da7 H buf = en7 l) (hn:n = l.length) (hs:n + s.size ≤ 1099511627776)
  (hK:K (.tup [.c (I6 s.size), .c .junk]) (ia7 (ia7 H buf (en7 (l ++ byI s))) id (ho7 (.ptr id 1 0 0) (.h buf 0 (n + s.size))))):go7 Try.prog none 24 [.c (.ptr id 1 0 0), .c (.str s)] H K:=by
 refine ⟨⟨_,_,Try.func24,by kernel_rfl,rfl⟩,fun E M w vs hR hv => ?_⟩
 obtain ⟨p,_,rfl,hp,sv,_,rfl,hsv,rfl⟩:=hv
 obtain rfl:sv = .string s:=hsv
 obtain rfl:=op7 hR h1 hp
 obtain ⟨x,y,hh,h0,hx,hy⟩:=bg7 hR h1
 obtain rfl:=op7 hR h1 hx
 have hne:buf ≠ id:=by rintro rfl; rw [h1] at h2; cases h2
 have hux:Try.prog.underlying 9 = some .string:=Try.underlying9
 obtain ⟨hS,hC⟩:=mdb7 (P:=Try.prog) (M:=M) (H:=H) (w:=w) hux s
 have hlb:(Row.ints .u8 (byI s)).len = s.size:=wj7 s
 have ho:=hy
 obtain ⟨M',w',v',r0,r1,r2,r3⟩:∃ M' w' v',(Builtin.append_ #[38,9] 38 #[y, .string s]).run Try.prog w = .ok v' w' ∧ Rel E M' (ia7 H buf (en7 (l ++ byI s))) w' ∧ Kp M H w M' (ia7 H buf (en7 (l ++ byI s))) w' ∧ Con M' (ia7 H buf (en7 (l ++ byI s))) w' (.h buf 0 (n + s.size)) v':=by
  have:=nt7 qq7 hR 38 9 5 38 (by kernel_rfl) Nat.one_pos (show 1 ≤ 128 by decide) hS hC h2 hn hy (by rw [hlb]; exact hs) rfl
  rw [hlb] at this
  exact this
 have h1':da7 (ia7 H buf (en7 (l ++ byI s))) id = ho7 (.ptr id 1 0 0) (.h buf 0 n):=by rw [ec7,if_neg (fun h=>hne h.1.symm)]; exact h1
 have hp':=r2 _ _ hp
 have hpe:M'.phi id = M.phi id:=by
  have:=op7 r1 h1' hp'
  simpa using this.symm
 obtain ⟨x',y',hh',h0', -, -⟩:=bg7 r1 h1'
 rw [hpe] at hh'
 obtain ⟨s1,s2⟩:=tbb7 r1 h1' (o:=1) (by decide) r3 r3.1.2
 rw [hpe] at s1 s2
 have c0:w.cell? ⟨M.phi id,0,none⟩ = some (.pointer (some ⟨M.phi id,0,none⟩)):=by rw [Lib.cell_of_heap hh]; rfl
 have c1:w.cell? ⟨M.phi id,1,none⟩ = some y:=by rw [Lib.cell_of_heap hh]; rfl
 have c2:w'.cell? ⟨M.phi id,1,none⟩ = some y':=by rw [Lib.cell_of_heap hh']; rfl
 have f2:w'.frozen? ⟨M.phi id,1,none⟩ = false:=Lib.frozen_of_heap hh' _
 obtain ⟨cap,cur,ad,rfl, -⟩:=(hy.2 _ _ _ _ h2).2 (by rw [hn]; exact Nat.zero_add _)
 obtain ⟨cap',cur',ad',rfl, -⟩:=(r3.2 _ _ _ _ (show da7 (ia7 H buf (en7 (l ++ byI s))) buf = en7 (l ++ byI s) by rw [ec7,if_pos ⟨rfl,eg7 h2⟩])).2 (by show 0 + (n + s.size) = (l ++ byI s).length; rw [List.length_append,wj7,hn]; omega)
 have HF:=hid (And.intro s1 (And.intro (Kp.trans r2 s2) hK))
 have HL:H.length ≤ (ia7 (ia7 H buf (en7 (l ++ byI s))) id (ho7 (.ptr id 1 0 0) (.h buf 0 (n + s.size)))).length:=by rw [db7,db7]; exact Nat.le_refl _
 have HR0:=hid r0
 clear hK hR hp hx hy hh hux hS hC ho hp' hh' h0 h0' r1 r2 r3 s1 s2 h1 h2 h1' hne hlb hpe hn r0
 go_enter Try.func24,Try.ntmps24
 go_wp2_with (go_at_call 57; refine (spb7 _ _ c0).mono ?_)
 rintro e w2 ⟨rfl,rfl⟩
 go_wp2_with (at_builtin; refine uab7 _ rfl _ _ 38 9 rfl rfl rfl HR0.out ?_)
 refine bodyPost_ret (results_tmp2 rfl _ _ _) rfl ?_
 obtain ⟨f1,f3,f4⟩:=HF.out
 exact ⟨M',_, .tup [.c (I6 s.size), .c .junk],_,rfl,f1,f3,⟨[.int .i64 s.size, .nilIface],rfl,_,_,rfl,rfl,_,_,rfl,trivial,rfl⟩,fun g hg=>(by cases hg),HL,f4⟩
theorem ilb7 {H:List Root} {id:Nat} {s:ByteArray} {K:RV → List Root → Prop} (h1:da7 H id = ho7 .nilp .nils) (hs:0 < s.size ∧ s.size ≤ 1099511627776)
  (hK:K (.tup [.c (I6 s.size), .c .junk]) (ia7 H id (ho7 (.ptr id 1 0 0) (.h H.length 0 s.size)) ++ [en7 (byI s)])):go7 Try.prog none 24 [.c (.ptr id 1 0 0), .c (.str s)] H K:=by
 refine ⟨⟨_,_,Try.func24,by kernel_rfl,rfl⟩,fun E M w vs hR hv => ?_⟩
 obtain ⟨p,_,rfl,hp,sv,_,rfl,hsv,rfl⟩:=hv
 obtain rfl:sv = .string s:=hsv
 obtain rfl:=op7 hR h1 hp
 obtain ⟨x,y,hh,h0,hx,hy⟩:=bg7 hR h1
 obtain rfl:x = .pointer none:=hx
 obtain rfl:y = .slice none 0 0:=hy
 have c0:w.cell? ⟨M.phi id,0,none⟩ = some (.pointer none):=by rw [Lib.cell_of_heap hh]; rfl
 have f0:w.frozen? ⟨M.phi id,0,none⟩ = false:=Lib.frozen_of_heap hh _
 have sh:w.shape? (M.phi id) = some (85,2):=by simp [World.shape?,hh]
 have hlt:=eg7 h1
 obtain ⟨s1,s2⟩:=tbb7 hR h1 (o:=0) (by decide) hp rfl
 have h2:da7 (ia7 H id (ho7 (.ptr id 1 0 0) .nils)) id = ho7 (.ptr id 1 0 0) .nils:=by rw [ec7,if_pos ⟨rfl,hlt⟩]
 have s1:Rel E M (ia7 H id (ho7 (.ptr id 1 0 0) .nils)) (w.setCell ⟨M.phi id,0,none⟩ (.pointer (some ⟨M.phi id,0,none⟩))):=s1
 have s2:Kp M H w M (ia7 H id (ho7 (.ptr id 1 0 0) .nils)) (w.setCell ⟨M.phi id,0,none⟩ (.pointer (some ⟨M.phi id,0,none⟩))):=s2
 obtain ⟨w1,hw1⟩:∃ w1,w1 = w.setCell ⟨M.phi id,0,none⟩ (.pointer (some ⟨M.phi id,0,none⟩)):=⟨_,rfl⟩
 rw [← hw1] at s1 s2
 obtain ⟨H1,hH1⟩:∃ H1,H1 = ia7 H id (ho7 (.ptr id 1 0 0) .nils):=⟨_,rfl⟩
 rw [← hH1] at s1 s2 h2
 have hl1:H1.length = H.length:=by rw [hH1,db7]
 obtain ⟨M',w',v',r0,r1,r2,r3⟩:∃ M' w' v',(Builtin.append_ #[38,9] 38 #[.slice none 0 0, .string s]).run Try.prog w1 = .ok v' w' ∧ Rel E M' (H1 ++ [en7 (byI s)]) w' ∧ Kp M H1 w1 M' (H1 ++ [en7 (byI s)]) w' ∧ Con M' (H1 ++ [en7 (byI s)]) w' (.h H1.length 0 s.size) v' :=
  qv7 qq7 s1 38 9 5 38 (by kernel_rfl) (by kernel_rfl) ⟨by kernel_rfl,by kernel_rfl,by kernel_rfl⟩ hs
 have h2':da7 (H1 ++ [en7 (byI s)]) id = ho7 (.ptr id 1 0 0) .nils:=by rw [xg7,if_neg (by omega)]; exact h2
 have hp1:=s2 _ _ hp
 have hp':=r2 _ _ hp1
 have hpe:M'.phi id = M.phi id:=by
  have:=op7 r1 h2' hp'
  simpa using this.symm
 obtain ⟨x1,y1,hh1, -, -,hy1⟩:=bg7 s1 h2
 obtain rfl:y1 = .slice none 0 0:=hy1
 obtain ⟨x',y',hh',h0', -, -⟩:=bg7 r1 h2'
 rw [hpe] at hh'
 obtain ⟨t1,t2⟩:=tbb7 r1 h2' (o:=1) (by decide) r3 r3.1.2
 rw [hpe] at t1 t2
 have c1:w1.cell? ⟨M.phi id,1,none⟩ = some (.slice none 0 0):=by rw [Lib.cell_of_heap hh1]; rfl
 have c2:w'.cell? ⟨M.phi id,1,none⟩ = some y':=by rw [Lib.cell_of_heap hh']; rfl
 have f2:w'.frozen? ⟨M.phi id,1,none⟩ = false:=Lib.frozen_of_heap hh' _
 obtain ⟨cap',cur',ad',rfl, -⟩:=(r3.2 _ _ _ _ (show da7 (H1 ++ [en7 (byI s)]) H1.length = en7 (byI s) by rw [xg7,if_pos rfl])).2 (by show 0 + s.size = (byI s).length; rw [wj7,Nat.zero_add])
 have hset:ia7 (H1 ++ [en7 (byI s)]) id (.live false 85 2 (.box (pat [.ptr id 1 0 0, .nils] 1 [.h H1.length 0 s.size]))) = ia7 H id (ho7 (.ptr id 1 0 0) (.h H.length 0 s.size)) ++ [en7 (byI s)]:=by
  rw [us7 (by omega),hH1,ns7,db7]; rfl
 rw [hset] at t1 t2
 have HF:=hid (And.intro t1 (And.intro (Kp.trans s2 (Kp.trans r2 t2)) hK))
 have HL:H.length ≤ (ia7 H id (ho7 (.ptr id 1 0 0) (.h H.length 0 s.size)) ++ [en7 (byI s)]).length:=by rw [List.length_append,db7]; omega
 have HR0:=hid r0
 have HW1:=hid hw1
 clear hK hR hp hh h0 h0' r1 r2 r3 s1 s2 t1 t2 h1 h2 h2' hpe r0 hset hH1 hl1 hh' hh1 hp1 hp' hlt hw1
 go_enter Try.func24,Try.ntmps24
 go_wp2_with (go_at_call 57; refine (zmb7 _ _ c0 sh f0).mono ?_)
 rintro e w2 ⟨rfl,hw2⟩
 rw [← HW1.out] at hw2
 subst hw2
 go_wp2_with (at_builtin; refine uab7 _ rfl _ _ 38 9 rfl rfl rfl HR0.out ?_)
 refine bodyPost_ret (results_tmp2 rfl _ _ _) rfl ?_
 obtain ⟨f1,f3,f4⟩:=HF.out
 exact ⟨M',_, .tup [.c (I6 s.size), .c .junk],_,rfl,f1,f3,⟨[.int .i64 s.size, .nilIface],rfl,_,_,rfl,rfl,_,_,rfl,trivial,rfl⟩,fun g hg=>(by cases hg),HL,f4⟩
theorem asb7 {E:Env} {M:Mp} {H:List Root} {w w':World} (h:Rel E M H w) {id:Nat} {t:TypeId} {sz:Nat} {r:Row} (hr:da7 H id = .live false t sz r) (hg:w.grownBy w' (some (M.phi id))):Rel E M (ia7 H id .dead) w' ∧ Kp M H w M (ia7 H id .dead) w':=by
 have hid:=eg7 hr
 have hrho:∀ b,M.rho b → w'.heap[b]? = w.heap[b]? := fun b hb=>hg.block b (h.rlt b hb) fun e=>h.thaw _ _ _ _ hr (by cases e; exact hb)
 have htau:∀ b q,M.tau b = some q → w'.heap[b]? = w.heap[b]? := fun b q hq=>hg.block b (h.tau.lt hq) fun e=>by cases e; exact h.tau.row _ _ _ _ _ _ _ hq hr rfl
 have hoth:∀ {j:Nat} {fz:Bool} {t2:TypeId} {s2:Nat} {r2:Row},da7 (ia7 H id .dead) j = .live fz t2 s2 r2 → da7 H j = .live fz t2 s2 r2 ∧ j ≠ id:=fun {j fz t2 s2 r2} hj=>by
  rw [ec7] at hj
  by_cases e:j = id
  ·rw [if_pos ⟨e,hid⟩] at hj; cases hj
  ·rw [if_neg (fun h=>e h.1)] at hj; exact ⟨hj,e⟩
 have hblk:∀ {j:Nat} {fz:Bool} {t2:TypeId} {s2:Nat} {r2:Row},da7 H j = .live fz t2 s2 r2 → j ≠ id → w'.heap[M.phi j]? = w.heap[M.phi j]? := fun {j fz t2 s2 r2} hj hne=>hg.block _ (h.lt hj) fun e=>by
  have e:=Option.some.inj e
  cases fz with
  | false=>exact hne (h.inj _ _ _ _ _ _ _ _ hj hr e)
  | true =>
   have:=h.froz _ _ _ _ hj
   rw [e] at this
   exact h.thaw _ _ _ _ hr this
 have hk:Kp M H w M (ia7 H id .dead) w':=by
  intro a v c
  cases a with
  | ptr id2 n i o=>exact ⟨⟨by rw [db7]; exact c.1.1,c.1.2⟩,fun fz t2 s2 r2 hj=>c.2 _ _ _ _ (hoth hj).1⟩
  | h id2 st len =>
   refine ⟨⟨by rw [db7]; exact c.1.1,c.1.2⟩,fun fz t2 s2 r2 hj => ?_⟩
   obtain ⟨hj,hne⟩:=hoth hj
   obtain ⟨c1,c2⟩:=c.2 _ _ _ _ hj
   refine ⟨c1,fun hn => ?_⟩
   obtain ⟨cap,cur,ad,k1,k2,k3,k4,k5⟩:=c2 hn
   exact ⟨cap,cur,ad,k1,k2,k3,by rw [hblk hj hne]; exact k4,k5⟩
  | ws=>exact WSl.keep (jm7.of rfl htau) c
  | wu=>obtain ⟨n,hb',c⟩:=c; exact ⟨n,hb',WSl.keep (jm7.of rfl htau) c⟩
  | wp=>exact WPt.keep (jm7.of rfl htau) c
  | junk=>trivial
  | _=>exact af7.keep hrho (fun _ h=>h) c
 have hW:E.W0.heap.size ≤ w.heap.size:=h.bel.size
 refine ⟨⟨⟨hg.os.trans h.bel.os,hg.tape.trans h.bel.tape,hg.output.trans h.bel.output,Nat.le_trans h.bel.size hg.size,fun k hk=>by
   rw [hg.block k (by omega) (fun e=>by have:=h.low _ _ _ _ _ hr; cases e; omega)]
   exact h.bel.block k hk⟩,fun j fz t2 s2 r2 hj=>h.low _ _ _ _ _ (hoth hj).1,fun j fz t2 s2 r2 hj => ?_,fun j t2 s2 r2 hj=>h.froz _ _ _ _ (hoth hj).1,fun j t2 s2 r2 hj=>h.thaw _ _ _ _ (hoth hj).1,
  fun i j t1 s1 r1 t2 s2 r2 hi hj he=>h.inj _ _ _ _ _ _ _ _ (hoth hi).1 (hoth hj).1 he,fun b hb=>Nat.lt_of_lt_of_le (h.rlt b hb) hg.size,h.src, ?_⟩,hk⟩
 ·obtain ⟨hj,hne⟩:=hoth hj
  exact (h.row _ _ _ _ _ hj).keep hk hrho (fun _ h=>h) (hblk hj hne)
 ·exact h.tau.keep rfl htau (fun b q hq=>(h.tau.new b q hq).2) fun b q j fz t2 s2 r2 hq hj=>h.tau.row _ _ _ _ _ _ _ hq (hoth hj).1
theorem nab7 {w:World} {p:Addr} (n:Nat):w.grownBy (w.drew.freeze p n) (some p.block):=by
 unfold World.freeze
 split
 ·exact ⟨rfl,rfl,rfl,Nat.le_refl _,fun _ _ _=>rfl⟩
 ·exact ⟨rfl,rfl,rfl,by simp,fun k _ hk=>by
   simp only [Array.getElem?_modify]
   rw [if_neg (fun e=>hk (by rw [e]))]
   rfl⟩
theorem hrb7 {P:Program} {e:TypeId} (hc:P.cellsOf e = 1) (count o n:Nat) (hn:o + n ≤ count):liesAt P P.depth e count o e n = true:=by
 have hd:P.depth = (2 * (P.types.size + Made.depth) + 1) + 1:=rfl
 rw [hd]
 simp only [liesAt,Bool.or_eq_true]
 left
 rw [hd]
 simp [rowAt,hc,hn,sameLayout]
 exact .inl (Nat.mod_one o)
theorem jxb7 {w:World} {g o cells:Nat} {l:List UInt8} (hsh:w.shape? g = some (5,cells)) (h0:l ≠ []) (hn:o + l.length ≤ cells) (h63:l.length ≤ 1099511627776) (hcell:∀ j x,l[j]? = some x → w.cell? ((⟨g,o,none⟩:Addr).add j) = some (.int .u8 x.toNat)) :
  (Builtin.unsafeString_ #[128,3] 9 #[.pointer (some ⟨g,o,none⟩), .int .i64 l.length]).run Try.prog w = .ok (.string (S l)) (w.freeze ⟨g,o,none⟩ l.length):=by
 have hl:l.length ≠ 0:=by simpa using h0
 have hc:(Try.prog).cellsOf 5 = 1:=by kernel_rfl
 have hlb:=Lib.run_loadBytes (P:=Try.prog) w l ⟨g,o,none⟩ .empty hcell
 have hlies:=hrb7 (P:=Try.prog) hc (cells / (Try.prog).cellsOf 5) o l.length (by rw [hc,Nat.div_one]; exact hn)
 have h63' : ¬ (9223372036854775807:Int) < (l.length:Int):=by omega
 have hdef:Builtin.unsafeString_ #[128,3] 9 #[.pointer (some ⟨g,o,none⟩), .int .i64 l.length] =
   (do
    let n ← asInt (.int .i64 l.length)
    if n < 0 then runtimePanic (.error "unsafe.String: len out of range")
    if n > IntKind.i64.max then unsupported (.unsafePointer "String: a length above the largest int")
    if n = 0 then pure (.string .empty)
    else if ← variablesAt ⟨g,o,none⟩ (← elemOf 128) n.toNat then do
     let s ← loadBytes ⟨g,o,none⟩ .empty n.toNat
     freeze ⟨g,o,none⟩ n.toNat
     pure (.string s)
    else unsupported (.unsafePointer "String: not so many bytes at ptr")) := rfl
 rw [hdef]
 have hmax:IntKind.i64.max = 9223372036854775807:=rfl
 have hneg : ¬ (l.length:Int) < 0:=by omega
 simp [asInt,asIntOf,hmax,h63',hneg,hl,variablesAt,hsh,elemOf,run_underlying Try.underlying128,hlies,hlb]
theorem xob7 (L:List UInt8):byI (S L) = L.map fun b=>(b.toNat:Int):=rfl
theorem dac7 {H:List Root} {id buf n:Nat} {L:List UInt8} {K:RV → List Root → Prop} (h1:da7 H id = ho7 (.ptr id 1 0 0) (.h buf 0 n)) (h2:da7 H buf = en7 (byI (S L))) (hn:n = L.length) (h0:L ≠ []) (hs:L.length ≤ 1099511627776)
  (hK:K (.c (.str (S L))) (ia7 H buf .dead)):go7 Try.prog none 29 [.c (.ptr id 1 0 0)] H K:=by
 refine ⟨⟨_,_,Try.func29,by kernel_rfl,rfl⟩,fun E M w vs hR hv => ?_⟩
 obtain ⟨p,_,rfl,hp,rfl⟩:=hv
 obtain rfl:=op7 hR h1 hp
 obtain ⟨x,y,hh,ho,hx,hy⟩:=bg7 hR h1
 subst hn
 have hbl:(byI (S L)).length = L.length:=wj7 _
 obtain ⟨cap,cur,ad,rfl,k1,k2,k3,k4,k5⟩:=(hy.2 _ _ _ _ h2).2 (by show 0 + L.length = (byI (S L)).length; rw [hbl,Nat.zero_add])
 have hL:0 < L.length:=List.length_pos_iff.2 h0
 have hk5:=k5 (by omega)
 rw [Nat.zero_mul,Nat.add_zero] at hk5
 subst hk5
 obtain ⟨cur2,m1,m2,m3,m4,m5,m6⟩:=hR.row _ _ _ _ _ h2
 rw [k3] at m1
 cases m1
 have hcell:∀ j x,L[j]? = some x → w.drew.cell? ((⟨M.phi buf,M.off buf,none⟩:Addr).add j) = some (.int .u8 x.toNat):=fun j x hj=>by
  obtain ⟨hjl,rfl⟩:=List.getElem?_eq_some_iff.1 hj
  obtain ⟨v,v1,v2,v3⟩:=m6 j (by show j < (byI (S L)).length; rw [hbl]; exact hjl) 0 Nat.one_pos
  have v4:v = .int .u8 ((byI (S L)).getD j 0):=v3
  rw [xob7,List.getD_eq_getElem?_getD,List.getElem?_map,hj] at v4
  rw [Addr.add_lit,Lib.cell_of_heap (w:=w.drew) k3]
  rw [Nat.mul_one,Nat.add_zero] at v1
  rw [v1,v4]; rfl
 have hsh:w.drew.shape? (M.phi buf) = some (5,cur.size):=by
  have hg':w.drew.heap[M.phi buf]? = some (.cells cur 5 (0,0)):=k3
  simp [World.shape?,hg']
 have hUS:=jxb7 (w:=w.drew) (g:=M.phi buf) (o:=M.off buf) (l:=L) hsh h0 (by have:M.off buf + (0 + cap) * 1 = cur.size:=k4; omega) hs hcell
 have hSD:(Builtin.unsafeSliceData_ #[38] 128 #[.slice (some ⟨M.phi buf,M.off buf,none⟩) L.length cap]).run Try.prog w.drew = .ok (.pointer (some ⟨M.phi buf,M.off buf,none⟩)) w.drew:=Lib.run_unsafeSliceData_row _ _ _ _ _ _ (by omega)
 have c1:w.drew.cell? ⟨M.phi id,1,none⟩ = some (.slice (some ⟨M.phi buf,M.off buf,none⟩) L.length cap):=by
  rw [Lib.cell_of_heap (w:=w.drew) hh]; rfl
 obtain ⟨s1,s2⟩:=asb7 (w':=w.drew.freeze ⟨M.phi buf,M.off buf,none⟩ L.length) hR h2 (nab7 (w:=w) (p:=⟨M.phi buf,M.off buf,none⟩) L.length)
 have HF:=hid (And.intro s1 (And.intro s2 hK))
 have HL:H.length ≤ (ia7 H buf .dead).length:=by rw [db7]; exact Nat.le_refl _
 clear hK hR hp hx hy hh ho hbl k1 k2 k3 k4 k5 m2 m3 m4 m5 m6 hcell hsh s1 s2 h1 h2
 have mixed:(Try.prog).follows .mixedOrders = true:=by kernel_rfl
 go_enter Try.func29,Try.ntmps29
 go_wp2
 go_region_o
 all_goals (go_wp2; go_ret; obtain ⟨f1,f3,f4⟩:=HF.out; exact ⟨M,_, .c (.str (S L)),_,rfl,f1,f3,rfl,fun g hg=>(by cases hg),HL,f4⟩)
end Go.Proofs.Ytabadfkikdefeaa.Ab
namespace Go.Proofs.Ytabadfkikdefeaa.Ab
open Go.RowKit Go.Lib
theorem vrb7 (a b:List UInt8):byI (S a) ++ byI (S b) = byI (S (a ++ b)):=by rw [xob7,xob7,xob7,List.map_append]
def obb7 (s:ue7) (l:List UInt8):List Root :=
 [.live false 31 5 (.box (nf7 s)),ho7 (.ptr 1 1 0 0) (.h 3 0 l.length), .live false 2 1 (.ints .i64 [s.cost]),en7 (byI (S l)), .live false 2 1 (.ints .i64 [(s.plan.trucks.length:Int)])]
def oqb7 (s:ue7) (l:List UInt8) (k j:Nat):List Root:=obb7 s l ++ [.live false 82 1 (.box [pu7 (ni7 s.plan k)]), .live false 2 1 (.ints .i64 (tCells (ni7 s.plan k) (mu7 s.times k) j))]
def vnb7 (s:ue7) (l:List UInt8):List Root:=obb7 s l ++ [.live false 2 1 (.ints .i64 [(s.plan.bikes.length:Int)])]
def arb7 (s:ue7) (l:List UInt8) (k j:Nat):List Root:=vnb7 s l ++ [.live false 73 2 (.box [I6 (uh7 s.plan k).sat,nh7 (uh7 s.plan k).stops]), .live false 58 3 (.box [I6 (tj7 s.times k).out,nh7 (tj7 s.times k).starts,I6 (tj7 s.times k).back]), .live false 2 1 (.ints .i64 (kCells (uh7 s.plan k) (tj7 s.times k) j))]
theorem au7 {H:List Root} {id buf n:Nat} {l m:List UInt8} {K:RV → List Root → Prop} (h1:da7 H id = ho7 (.ptr id 1 0 0) (.h buf 0 n)) (h2:da7 H buf = en7 (byI (S l))) (hn:n = l.length) (hs:n + m.length ≤ 1099511627776)
  (hK:K (.tup [.c (I6 m.length), .c .junk]) (ia7 (ia7 H buf (en7 (byI (S (l ++ m))))) id (ho7 (.ptr id 1 0 0) (.h buf 0 (l ++ m).length)))):go7 Try.prog none 24 [.c (.ptr id 1 0 0), .c (.str (S m))] H K:=by
 refine wnb7 h1 h2 (by rw [hn]; exact (wj7 (S l)).symm) hs ?_
 rw [vrb7]
 rw [List.length_append, ← hn] at hK
 exact hK
theorem sheet_p {s:ue7} (h:pd7 s.plan s.times s.cost):PCall Try.prog 8 [.agg (nf7 s)] (fun r=>r = .c (.str (S (pv7 s.plan s.times s.cost)))):=by
 refine rg7 qq7 (by kernel_rfl) (fun n=>match n with | 11=>([0,1,2,3,4,5,6,7,8,10,9,11,12,13,14],2,none) | _=>([],0,none)) Try.func8 rfl (by kernel_rfl) Try.ntmps8 (congrArg Array.toList Try.results8) (by kernel_rfl) (by simp) ?_
 have hc:=h.c
 have hnt:wa7 (s.plan.trucks.length:Int):=wn h.nt
 have hnb:wa7 (s.plan.bikes.length:Int):=wn h.nb
 have hnn:=h.nt
 have hbb:=h.nb
 have hhd:=h.headL
 have hml:=h.midL
 have l1:=uy7 [112,108,97,110] [s.cost]
 have l2:=gn7 hc [112,108,97,110]
 have l3:=gn7 hnt [116,114,117,99,107,115]
 simp only [List.length_cons,List.length_nil] at l2 l3
 simp -implicitDefEqProofs only [go_sem, ↓reduceIte,reduceCtorEq,Nat.reduceAdd,Nat.reduceLT,Nat.reduceEqDiff,Nat.reduceMul,Nat.reduceLeDiff,Nat.reduceSub,nf7,nk7,ei7]
 refine bh7 (wv7 (nm:=[112,108,97,110]) (l:=[s.cost]) (by simp) (by simp) (fun v hv=>by rw [List.mem_singleton.1 hv]; exact hc)) ⟨rfl,⟨rfl,rfl⟩,trivial⟩ (by simp only [lh7,jp7,in7,frz,da7]; rw [ud7 (by rfl)]) (fun r h=>by subst h; rfl) ?_
 rintro r rfl
 refine ilb7 rfl ⟨l1,by rw [vmb7]; omega⟩ ?_
 simp -implicitDefEqProofs only [go_sem, ↓reduceIte,reduceCtorEq,Nat.reduceAdd,Nat.reduceLT,Nat.reduceEqDiff,Nat.reduceMul,Nat.reduceLeDiff,Nat.reduceSub,ho7,en7,vmb7]
 refine bh7 (wv7 (nm:=[116,114,117,99,107,115]) (l:=[(s.plan.trucks.length:Int)]) (by simp) (by simp) (fun v hv=>by rw [List.mem_singleton.1 hv]; exact hnt)) ⟨rfl,⟨rfl,rfl⟩,trivial⟩ (by simp only [lh7,jp7,in7,frz,da7]; rw [ud7 (by rfl)]) (fun r h=>by subst h; rfl) ?_
 rintro r rfl
 refine au7 rfl rfl rfl (by omega) ?_
 simp -implicitDefEqProofs only [go_sem, ↓reduceIte,reduceCtorEq,Nat.reduceAdd,Nat.reduceLT,Nat.reduceEqDiff,Nat.reduceMul,Nat.reduceLeDiff,Nat.reduceSub,ho7,en7]
 refine de7 (ι:=Nat) [1,3,29,30] [31] (fun k=>k ≤ s.plan.trucks.length) (fun k=>[.c (I6 k)]) (fun k=>obb7 s (zm7 s.plan s.cost ++ je7 s.plan s.times k)) (fun k=>s.plan.trucks.length - k) (by kernel_rfl) ⟨0,Nat.zero_le _,rfl,(by rw [show je7 s.plan s.times 0 = [] from rfl,List.append_nil]; rfl)⟩ (fun _ _=>⟨rfl,rfl,rfl,rfl⟩) ?_
 intro k hk
 have htr:=h.trucksL k
 have htk:=h.truckL k
 have htk':(ze7 [] (tCells (ni7 s.plan k) (mu7 s.times k) (ni7 s.plan k).length)).length ≤ 1980023:=htk
 have hnx:zm7 s.plan s.cost ++ je7 s.plan s.times (k + 1) = (zm7 s.plan s.cost ++ je7 s.plan s.times k) ++ ze7 [] (tCells (ni7 s.plan k) (mu7 s.times k) (ni7 s.plan k).length):=by rw [th7, ← List.append_assoc]; rfl
 have hle:k = s.plan.trucks.length → zm7 s.plan s.cost ++ je7 s.plan s.times k ++ ze7 [98,105,107,101,115] [(s.plan.bikes.length:Int)] = kbb7 s.plan s.times s.cost:=fun e=>by subst e; rfl
 have hal:(zm7 s.plan s.cost ++ je7 s.plan s.times k).length ≤ 198002300056:=by rw [List.length_append]; omega
 generalize zm7 s.plan s.cost ++ je7 s.plan s.times k = acc at hnx hle hal
 simp -implicitDefEqProofs only [go_sem, ↓reduceIte,reduceCtorEq,Nat.reduceAdd,Nat.reduceLT,Nat.reduceEqDiff,Nat.reduceMul,Nat.reduceLeDiff,Nat.reduceSub,obb7,ho7,en7,nf7,nk7,ei7]
 refine ⟨fun h1 => ?_,fun h1 => ?_⟩
 ·have hkl:(ni7 s.plan k).length ≤ 30000:=(h.truck k).1
  refine ⟨by omega, ?_⟩
  refine de7 (ι:=Nat) [1,3,4,29,30,31,41,42] [6,43] (fun j=>j ≤ (ni7 s.plan k).length) (fun j=>[.c (.h 6 0 (tCells (ni7 s.plan k) (mu7 s.times k) j).length), .c (I6 j)]) (fun j=>oqb7 s acc k j) (fun j=>(ni7 s.plan k).length - j) (by kernel_rfl) ⟨0,Nat.zero_le _,rfl,rfl⟩ (fun _ _=>⟨rfl,rfl,rfl,rfl⟩) ?_
  intro j hj
  have hlen:=ac7 (ni7 s.plan k) (mu7 s.times k) j
  simp -implicitDefEqProofs only [go_sem, ↓reduceIte,reduceCtorEq,Nat.reduceAdd,Nat.reduceLT,Nat.reduceEqDiff,Nat.reduceMul,Nat.reduceLeDiff,Nat.reduceSub,oqb7,obb7,ho7,en7,nf7,nk7,ei7]
  refine ⟨fun h3 => ?_,fun h3 => ?_⟩
  ·refine ⟨by omega,gnb7 (ktb7 (t:=s.times) (k:=k) (by omega)) (by simp -implicitDefEqProofs only [go_sem, ↓reduceIte,reduceCtorEq,Nat.reduceAdd,Nat.reduceLT,Nat.reduceEqDiff,Nat.reduceMul,Nat.reduceLeDiff,Nat.reduceSub]) rfl rfl ?_⟩
   rintro r rfl
   try simp -implicitDefEqProofs only [go_sem, ↓reduceIte,reduceCtorEq,Nat.reduceAdd,Nat.reduceLT,Nat.reduceEqDiff,Nat.reduceMul,Nat.reduceLeDiff,Nat.reduceSub]
   refine ah7 (hqb7 (by omega)) (by simp -implicitDefEqProofs only [go_sem, ↓reduceIte,reduceCtorEq,Nat.reduceAdd,Nat.reduceLT,Nat.reduceEqDiff,Nat.reduceMul,Nat.reduceLeDiff,Nat.reduceSub]) rfl (fun r h=>by subst h; rfl) ?_
   rintro r rfl
   simp -implicitDefEqProofs only [go_sem, ↓reduceIte,reduceCtorEq,Nat.reduceAdd,Nat.reduceLT,Nat.reduceEqDiff,Nat.reduceMul,Nat.reduceLeDiff,Nat.reduceSub]
   refine ⟨by omega,⟨by omega,by omega⟩,j + 1,by omega, ?_, ?_,by omega⟩
   ·rw [ac7,ac7,show 1 + 3 * (j + 1) = 1 + 3 * j + 3 by omega]; rfl
   ·rw [ch7]; rfl
  ·obtain rfl:j = (ni7 s.plan k).length:=by omega
   have hcw:=h.tCells k (ni7 s.plan k).length
   refine bh7 (wv7 (nm:=[]) (l:=tCells (ni7 s.plan k) (mu7 s.times k) (ni7 s.plan k).length) (by simp) (by omega) hcw) ⟨rfl,⟨Nat.zero_add _,rfl⟩,trivial⟩ (by simp only [lh7,jp7,in7,frz,da7]; rw [ud7 rfl]) (fun r h=>by subst h; rfl) ?_
   rintro r rfl
   refine au7 rfl rfl rfl (by omega) ?_
   refine ⟨⟨by omega,by omega⟩,k + 1,by omega,rfl, ?_,by omega⟩
   rw [hnx]; rfl
 ·obtain rfl:k = s.plan.trucks.length:=by omega
  have hle:=hle rfl
  clear hk htr htk htk' hnx h1
  refine bh7 (wv7 (nm:=[98,105,107,101,115]) (l:=[(s.plan.bikes.length:Int)]) (by simp) (by simp) (fun v hv=>by rw [List.mem_singleton.1 hv]; exact hnb)) ⟨rfl,⟨rfl,rfl⟩,trivial⟩ (by simp only [lh7,jp7,in7,frz,da7]; rw [ud7 (by rfl)]) (fun r h=>by subst h; rfl) ?_
  rintro r rfl
  have hle2:=congrArg List.length hle
  rw [List.length_append] at hle2
  refine au7 rfl rfl rfl (by omega) ?_
  rw [hle]
  simp -implicitDefEqProofs only [go_sem, ↓reduceIte,reduceCtorEq,Nat.reduceAdd,Nat.reduceLT,Nat.reduceEqDiff,Nat.reduceMul,Nat.reduceLeDiff,Nat.reduceSub,ho7,en7]
  refine de7 (ι:=Nat) [1,3,76,77] [78] (fun k=>k ≤ s.plan.bikes.length) (fun k=>[.c (I6 k)]) (fun k=>vnb7 s (kbb7 s.plan s.times s.cost ++ ng7 s.plan s.times k)) (fun k=>s.plan.bikes.length - k) (by kernel_rfl) ⟨0,Nat.zero_le _,rfl,(by rw [show ng7 s.plan s.times 0 = [] from rfl,List.append_nil]; rfl)⟩ (fun _ _=>⟨rfl,rfl,rfl,rfl⟩) ?_
  intro k hk
  have hbr:=h.bikesL k
  have hbk:=h.bikeL k
  have hbk':(ze7 [] (kCells (uh7 s.plan k) (tj7 s.times k) (uh7 s.plan k).stops.length ++ [(tj7 s.times k).back])).length ≤ 1320089:=hbk
  have hnx:kbb7 s.plan s.times s.cost ++ ng7 s.plan s.times (k + 1) = (kbb7 s.plan s.times s.cost ++ ng7 s.plan s.times k) ++ ze7 [] (kCells (uh7 s.plan k) (tj7 s.times k) (uh7 s.plan k).stops.length ++ [(tj7 s.times k).back]):=by rw [xj7, ← List.append_assoc]; rfl
  have hen:k = s.plan.bikes.length → kbb7 s.plan s.times s.cost ++ ng7 s.plan s.times k ++ [101,110,100,10] = pv7 s.plan s.times s.cost:=fun e=>by subst e; rfl
  have hal2:(kbb7 s.plan s.times s.cost ++ ng7 s.plan s.times k).length ≤ 400002300056:=by rw [List.length_append]; omega
  have hpos:0 < (kbb7 s.plan s.times s.cost ++ ng7 s.plan s.times k).length:=by
   rw [List.length_append,kbb7,List.length_append,List.length_append]
   have:=uy7 [98,105,107,101,115] [(s.plan.bikes.length:Int)]
   omega
  generalize kbb7 s.plan s.times s.cost ++ ng7 s.plan s.times k = ac2 at hnx hen hal2 hpos
  simp -implicitDefEqProofs only [go_sem, ↓reduceIte,reduceCtorEq,Nat.reduceAdd,Nat.reduceLT,Nat.reduceEqDiff,Nat.reduceMul,Nat.reduceLeDiff,Nat.reduceSub,vnb7,obb7,ho7,en7,nf7,nk7,ei7]
  refine ⟨fun h1 => ?_,fun h1 => ?_⟩
  ·have hkl:(uh7 s.plan k).stops.length ≤ 30000:=(h.bike k).1
   refine ⟨by omega,gnb7 (unb7 (t:=s.times) (k:=k) (by omega)) (by simp -implicitDefEqProofs only [go_sem, ↓reduceIte,reduceCtorEq,Nat.reduceAdd,Nat.reduceLT,Nat.reduceEqDiff,Nat.reduceMul,Nat.reduceLeDiff,Nat.reduceSub]) rfl rfl ?_⟩
   rintro r rfl
   simp -implicitDefEqProofs only [go_sem, ↓reduceIte,reduceCtorEq,Nat.reduceAdd,Nat.reduceLT,Nat.reduceEqDiff,Nat.reduceMul,Nat.reduceLeDiff,Nat.reduceSub]
   refine de7 (ι:=Nat) [1,3,11,76,77,78,97,98] [12,99] (fun j=>j ≤ (uh7 s.plan k).stops.length) (fun j=>[.c (.h 8 0 (kCells (uh7 s.plan k) (tj7 s.times k) j).length), .c (I6 j)]) (fun j=>arb7 s ac2 k j) (fun j=>(uh7 s.plan k).stops.length - j) (by kernel_rfl) ⟨0,Nat.zero_le _,rfl,rfl⟩ (fun _ _=>⟨rfl,rfl,rfl,rfl⟩) ?_
   intro j hj
   have hlen:=wc7 (uh7 s.plan k) (tj7 s.times k) j
   simp -implicitDefEqProofs only [go_sem, ↓reduceIte,reduceCtorEq,Nat.reduceAdd,Nat.reduceLT,Nat.reduceEqDiff,Nat.reduceMul,Nat.reduceLeDiff,Nat.reduceSub,arb7,vnb7,obb7,ho7,en7,nf7,nk7,ei7]
   refine ⟨fun h3 => ?_,fun h3 => ?_⟩
   ·refine ⟨by omega,ah7 (hqb7 (by omega)) (by simp -implicitDefEqProofs only [go_sem, ↓reduceIte,reduceCtorEq,Nat.reduceAdd,Nat.reduceLT,Nat.reduceEqDiff,Nat.reduceMul,Nat.reduceLeDiff,Nat.reduceSub]) rfl (fun r h=>by subst h; rfl) ?_⟩
    rintro r rfl
    simp -implicitDefEqProofs only [go_sem, ↓reduceIte,reduceCtorEq,Nat.reduceAdd,Nat.reduceLT,Nat.reduceEqDiff,Nat.reduceMul,Nat.reduceLeDiff,Nat.reduceSub]
    refine ⟨by omega,⟨by omega,by omega⟩,j + 1,by omega, ?_, ?_,by omega⟩
    ·rw [wc7,wc7,show 3 + 2 * (j + 1) = 3 + 2 * j + 2 by omega]; rfl
    ·rw [dh7]; rfl
   ·obtain rfl:j = (uh7 s.plan k).stops.length:=by omega
    have hcw:=h.kCells k (uh7 s.plan k).stops.length
    have hrb:=(h.ride k).2.1
    refine ⟨by omega,bh7 (wv7 (nm:=[]) (l:=kCells (uh7 s.plan k) (tj7 s.times k) (uh7 s.plan k).stops.length ++ [(tj7 s.times k).back]) (by simp) (by rw [List.length_append,List.length_singleton]; omega) (fun v hv=>(List.mem_append.1 hv).elim (hcw v) (fun e=>by rw [List.mem_singleton.1 e]; exact hrb))) ⟨rfl,⟨by simp [Row.len],rfl⟩,trivial⟩ (by simp only [lh7,jp7,in7,frz,da7]; rw [ud7 (by simp)]) (fun r h=>by subst h; rfl) ?_⟩
    rintro r rfl
    refine au7 rfl rfl rfl (by omega) ?_
    refine ⟨⟨by omega,by omega⟩,k + 1,by omega,rfl, ?_,by omega⟩
    rw [hnx]; rfl
  ·obtain rfl:k = s.plan.bikes.length:=by omega
   have hen:=hen rfl
   refine lw7 (wv7 (nm:=[101,110,100]) (l:=[]) (by simp) (by simp) (fun v hv=>by cases hv)) (by simp -implicitDefEqProofs only [go_sem, ↓reduceIte,reduceCtorEq,Nat.reduceAdd,Nat.reduceLT,Nat.reduceEqDiff,Nat.reduceMul,Nat.reduceLeDiff,Nat.reduceSub]) ⟨_,_,rfl, .inl rfl,_,_,rfl, .inr ⟨_,rfl, .inr (.inr ⟨_,_,rfl⟩)⟩,rfl⟩ (fun r h=>by subst h; rfl) ?_
   rintro r rfl
   refine au7 rfl rfl rfl (by simp [ze7,lnS]; omega) ?_
   simp -implicitDefEqProofs only [go_sem, ↓reduceIte,reduceCtorEq,Nat.reduceAdd,Nat.reduceLT,Nat.reduceEqDiff,Nat.reduceMul,Nat.reduceLeDiff,Nat.reduceSub,ho7,en7]
   refine dac7 (L:=ac2 ++ ze7 [101,110,100] []) rfl rfl rfl (fun e=>by have:=congrArg List.length e; rw [List.length_append,List.length_nil] at this; omega) (by simp [ze7,lnS]; omega) ?_
   simp -implicitDefEqProofs only [go_sem, ↓reduceIte,reduceCtorEq,Nat.reduceAdd,Nat.reduceLT,Nat.reduceEqDiff,Nat.reduceMul,Nat.reduceLeDiff,Nat.reduceSub]
   rw [← hen]; rfl
end Go.Proofs.Ytabadfkikdefeaa.Ab

