/- Texts of the proof, joined: AX, EncA, Enc, AdA, Ad, StrM, StrN, Up, Tells, BldM, SheetM, Pc1. -/
import Derived.Shelf.RegionOpenPlain
import Derived.Test.YtabadfkikdefeaaQ5
import Derived.Test.YtabadfkikdefeaaP9
set_option linter.all false
set_option maxRecDepth 100000
set_option maxHeartbeats 6400000

namespace Go.Proofs.Ytabadfkikdefeaa.Ab
open Go.RowKit
abbrev I6 (n:Int):AV := .int .i64 n
def ix2 (a b:AV):Nat → AV
 | 0=>a
 | _=>b
def ix3 (a b c:AV):Nat → AV
 | 0=>a
 | 1=>b
 | _=>c
def ix4 (a b c d:AV):Nat → AV
 | 0=>a
 | 1=>b
 | 2=>c
 | _=>d
abbrev eh7 (l:List Int):AV := .sl l.length 1 (fun i _=>I6 (l.getD i 0))
def ni7 (p:za7) (i:Nat):List ea7:=p.trucks.getD i []
def uh7 (p:za7) (i:Nat):oa7:=p.bikes.getD i ⟨0,[]⟩
def stN (l:List ea7) (i:Nat):ea7:=l.getD i ⟨0,0⟩
abbrev vv7 (l:List ea7):AV := .sl l.length 2 (fun i=>ix2 (I6 (stN l i).sat) (I6 (stN l i).load))
def ok7 (p:za7):List AV:=[.sl p.trucks.length 1 (fun i _=>vv7 (ni7 p i)), .sl p.bikes.length 2 (fun i=>ix2 (I6 (uh7 p i).sat) (eh7 (uh7 p i).stops))]
def mu7 (t:rb7) (i:Nat):List Int:=t.trucks.getD i []
def sj7 (t:rb7) (i:Nat):yc7:=t.bikes.getD i ⟨0,[],0⟩
def fi7 (t:rb7):List AV:=[.sl t.trucks.length 1 (fun i _=>eh7 (mu7 t i)), .sl t.bikes.length 3 (fun i=>ix3 (I6 (sj7 t i).out) (eh7 (sj7 t i).starts) (I6 (sj7 t i).back))]
theorem cac7 (p:Prop) [Decidable p]:(decide p = true) = p:=by simp
theorem nac7 (p:Prop) [Decidable p]:(decide p = false) = ¬ p:=by simp
theorem gzb7 {b:ByteArray} {p:RV → Prop}:(∃ r,vsb7 (.c (.str b)) r ∧ p r) = p (.c (.str b)):=propext ⟨fun ⟨_,⟨_,e,e2⟩,h⟩=>by subst e; rcases e2 with e2 | e2 <;> (subst e2; exact h),fun h=>⟨_,⟨_,rfl, .inl rfl⟩,h⟩⟩
attribute [go_sem ↓ low] scc7
attribute [go_sem ↓] ebc7 kcc7 oyb7 jac7 syb7 kzb7 qyb7 qsb7 qxb7 izb7 edc7 rcc7 fbc7 exb7 bdc7
attribute [go_sem] wac7 dbc7 xbc7 yyb7 lcc7 icc7 jcc7 mwb7 ex7 pbc7 uzb7 qac7 kac7 czb7 ecc7 bzb7 appW zW ckE ibc7 uub7 uyb7 gxb7 ezb7 ovb7 dac7 vac7 ftb7 awb7 hac7 List.drop_nil Option.toList_none Option.toList_some kbc7 bvb7 zcc7 jzb7 shb7 Option.map_some Option.map_none List.drop_zero List.drop_succ_cons xcc7 renG vbb7 icb7 bx7 bub7 cxb7 ktb7 apb7 pyb7 thb7 mvb7 occ7 axb7 rsb7 xxb7 qvb7 isb7 cub7 hsb7 yac7 mzb7 pzb7 fzb7 szb7 qbc7 qkb7 fsb7 gpb7 pos okI List.cons_append List.replicate_succ List.replicate_zero lpK gbc7 Int.toNat_zero cac7 nac7 Bool.and_eq_true Bool.not_eq_true' and_imp setT fxT gets nk7 sw7 dwb7 fgb7 ubb7 AV.scp List.take_succ_cons List.take_zero List.take_nil cbc7 jvb7 ryb7 dvb7 kwb7 tac7 nrb7 dub7 tbc7 fyb7 byb7 nbc7 qcc7 ycc7 strOf AV.strOf qwb7 gwb7 qzb7 t_n t_e t_r b_n b_e b_r c_t r_r r_n isV guardOf neb7 pgs rgs rds opV rzb7 AS.rd lk gtb7 hzb7 sac7 pac7 abc7 zb7 dab7 bac7 vld at2 ccb7 da7 tab Row.get Row.len Row.isBox Row.one mcc7 tbb7 nth qy7 fwb7 gvb7 fb7 iac7 unV xjb7 mmV mf7 zlb7 wyb7 yxb7 lx7 gnb7 Row.put pat gjb7 ia7 zyb7 chunk takeN xgb7 rep cp7 fs7 qn7 nob7 zOk zeros ppb7 bg7 Row.app Row.drop vf7 pkb7 iq7 frz frzH Root.mark du7 jxb7 one lzb7 vwb7 gzb7 okT okR lnb7 yub7 svb7 tr7 rk7 hdb7 ajb7 txb7 fub7 opD ivb7 ix2 ix3 ix4 Int.toNat_natCast tyM rac7 njL AV.nj kN inK oac7 zzb7 if_true if_false true_and and_true forall_const implies_true false_implies imp_self List.length_cons List.length_nil List.map_cons List.map_nil List.nil_append List.cons_append Bool.false_eq_true Bool.true_and ne_eq not_false_eq_true decide_true decide_false Decidable.not_not Nat.add_zero Nat.zero_add Nat.zero_mul
def vzb7 (x:ba7) (i:Nat):qhb7:=x.sats.getD i ⟨0,0⟩
def xvb7 (x:ba7) (i:Nat):uo7:=x.custs.getD i ⟨0,0,0,0⟩
abbrev rbc7 (x:ba7):AV := .sl x.sats.length 2 (fun i=>ix2 (I6 (vzb7 x i).room) (I6 (vzb7 x i).hold))
abbrev swb7 (x:ba7):AV := .sl x.custs.length 4 (fun i=>ix4 (I6 (xvb7 x i).load) (I6 (xvb7 x i).opn) (I6 (xvb7 x i).cls) (I6 (xvb7 x i).stay))
abbrev fcc7 (n:Nat) (f:Nat → Nat → Int):AV := .sl n 1 (fun i _ => .sl n 1 (fun j _=>I6 (f i j)))
def xac7 (x:ba7) (i j:Nat):Int:=(x.cost.getD i []).getD j 0
def jmb7 (x:ba7) (i j:Nat):Int:=(x.time.getD i []).getD j 0
theorem otb7 (x:ba7) (a b:Int):jmb7 x a.toNat b.toNat = xa7 x a b:=rfl
theorem pnb7 (x:ba7) (a:Int):jmb7 x a.toNat 0 = xa7 x a 0:=rfl
theorem iob7 (x:ba7) (b:Int):jmb7 x 0 b.toNat = xa7 x 0 b:=rfl
theorem dob7 (x:ba7):jmb7 x 0 0 = xa7 x 0 0:=rfl
def yvb7 (x:ba7):List AV:=[I6 x.fin,I6 x.tmany,I6 x.troom,I6 x.bmany,I6 x.broom,rbc7 x,swb7 x,fcc7 (nodes x) (xac7 x),fcc7 (nodes x) (jmb7 x)]
theorem xib7 (x:ba7) (a:Int):(vzb7 x a.toNat).hold = le7 x a:=rfl
theorem qnb7 (x:ba7) (a:Int):xvb7 x a.toNat = xc7 x a:=rfl
attribute [go_sem] otb7 pnb7 iob7 dob7 xib7 qnb7
def Fwd {α:Type} (S:Shape α) (e:α → Nat → AV):Prop := ∀ {w:World} {F:Nat → Prop} {x:α} {cs:List Value},S.rep w F x cs → ∀ j,j < S.sz → ∃ u,cs[j]? = some u ∧ ye7 F w (e x j) u
def Bwd {α:Type} (S:Shape α) (e:α → Nat → AV) (ok:α → Prop):Prop := ∀ {w:World} {F:Nat → Prop} {x:α} {cs:List Value},cs.length = S.sz → (∀ j,j < S.sz → ∃ u,cs[j]? = some u ∧ ye7 F w (e x j) u) → ok x → S.rep w F x cs
theorem hr7 {α:Type} {l:List α} {i:Nat} (h:i < l.length) (z:α):l.getD i z = l[i]:=by
 rw [List.getD_eq_getElem?_getD,List.getElem?_eq_getElem h]; rfl
section
variable {α:Type} {S:Shape α} {h0:0 < S.sz} {e:α → Nat → AV} {ok:α → Prop} {w:World} {F:Nat → Prop}
theorem fs (z:α) (hS:Fwd S e) {l:List α} {v:Value} (h:(ga7 S h0).rep w F l [v]):ye7 F w (.sl l.length S.sz (fun i=>e (l.getD i z))) v:=by
 obtain ⟨a,b,off,c,e1,h1,h2,h3,h4⟩:=h
 cases e1
 refine ⟨a,b,off,c,rfl,h1,h2,h3,fun i hi j hj => ?_⟩
 obtain ⟨es,k1,k2⟩:=h4 i hi
 obtain ⟨u,k3,k4⟩:=hS k1 j hj
 show ∃ u,_ = some u ∧ ye7 F w (e (l.getD i z) j) u
 rw [hr7 hi]
 exact ⟨u,by rw [k2 j hj,k3],k4⟩
theorem fy7:∀ (n:Nat) {p:Nat → Value → Prop},(∀ j,j < n → ∃ u,p j u) → ∃ es:List Value,es.length = n ∧ ∀ j u,es[j]? = some u → p j u
 | 0,_,_=>⟨[],rfl,fun _ _ h=>by simp at h⟩
 | n + 1,p,h=>by
  obtain ⟨u,hu⟩:=h 0 (Nat.succ_pos _)
  obtain ⟨es,h1,h2⟩:=fy7 n (p:=fun j=>p (j + 1)) (fun j hj=>h (j + 1) (by omega))
  refine ⟨u :: es,by simp [h1],fun j v hj => ?_⟩
  cases j with
  | zero=>simp at hj; subst hj; exact hu
  | succ j=>exact h2 j v (by simpa using hj)
theorem bs (z:α) (hS:Bwd S e ok) {l:List α} {v:Value} (h:ye7 F w (.sl l.length S.sz (fun i=>e (l.getD i z))) v) (ho:∀ x ∈ l,ok x):(ga7 S h0).rep w F l [v]:=by
 obtain ⟨a,b,off,c,rfl,h1,h2,h3,h4⟩:=h
 refine ⟨a,b,off,c,rfl,h1,h2,h3,fun i hi => ?_⟩
 obtain ⟨es,k1,k2⟩:=fy7 S.sz (h4 i hi)
 have k3:∀ j,j < S.sz → w.cell? ⟨b,off + i * S.sz + j,none⟩ = es[j]? ∧ ∃ u,es[j]? = some u ∧ ye7 F w (e l[i] j) u:=fun j hj=>by
  have hg:es[j]? = some es[j]:=List.getElem?_eq_getElem (by omega)
  obtain ⟨k4,k5⟩:=k2 j _ hg
  have k5:ye7 F w (e (l.getD i z) j) es[j]:=k5
  rw [hr7 hi] at k5
  exact ⟨by rw [k4,hg],_,hg,k5⟩
 exact ⟨es,hS k1 (fun j hj=>(k3 j hj).2) (ho _ (List.getElem_mem hi)),fun j hj=>(k3 j hj).1⟩
theorem pqb7 (z:α) (hS:Fwd S e):Fwd (ga7 S h0) (fun l _ => .sl l.length S.sz (fun i=>e (l.getD i z))):=by
 intro w F x cs h j hj
 have hl:=(ga7 S h0).len h
 match cs,hl with
 | [v],_ =>
  have hj:j < 1:=hj
  obtain rfl:j = 0:=by omega
  exact ⟨v,rfl,fs z hS h⟩
end
theorem xrb7:Fwd je7 (fun x _=>I6 x):=by
 rintro w F x cs ⟨rfl, -⟩ j hj
 have hj:j < 1:=hj
 obtain rfl:j = 0:=by omega
 exact ⟨_,rfl,rfl⟩
theorem hbc7:Bwd je7 (fun x _=>I6 x) wa7:=by
 intro w F x cs hl h ho
 obtain ⟨u,h1,h2⟩:=h 0 Nat.one_pos
 match cs,hl with
 | [v],_=>cases h1; exact ⟨by rw [show u = .int .i64 x from h2],ho⟩
theorem eyb7:Fwd af7 (fun x=>ix2 (I6 x.sat) (I6 x.load)):=by
 rintro w F x cs ⟨rfl, -⟩ j hj
 have hj:j < 2:=hj
 match j,hj with
 | 0,_=>exact ⟨_,rfl,rfl⟩
 | 1,_=>exact ⟨_,rfl,rfl⟩
theorem cyb7:Fwd in7 (fun x=>ix2 (I6 x.sat) (eh7 x.stops)):=by
 rintro w F x cs ⟨v,rfl, -,h⟩ j hj
 have hj:j < 2:=hj
 match j,hj with
 | 0,_=>exact ⟨_,rfl,rfl⟩
 | 1,_=>exact ⟨_,rfl,fs 0 xrb7 h⟩
theorem tyb7:Fwd pq7 (fun x=>ix3 (I6 x.out) (eh7 x.starts) (I6 x.back)):=by
 rintro w F x cs ⟨v,rfl, -, -,h⟩ j hj
 have hj:j < 3:=hj
 match j,hj with
 | 0,_=>exact ⟨_,rfl,rfl⟩
 | 1,_=>exact ⟨_,rfl,fs 0 xrb7 h⟩
 | 2,_=>exact ⟨_,rfl,rfl⟩
def sxb7 (x:ea7):Prop:=wa7 x.sat ∧ wa7 x.load
def ixb7 (x:oa7):Prop:=wa7 x.sat ∧ ∀ c ∈ x.stops,wa7 c
def uxb7 (x:yc7):Prop:=wa7 x.out ∧ wa7 x.back ∧ ∀ c ∈ x.starts,wa7 c
section
variable {w:World} {F:Nat → Prop}
theorem ptb7:Fwd (ga7 af7) (fun l _=>vv7 l):=pqb7 (e:=fun x=>ix2 (I6 x.sat) (I6 x.load)) (⟨0,0⟩:ea7) eyb7
theorem xwb7:Fwd (ga7 je7) (fun l _=>eh7 l):=pqb7 (e:=fun x _=>I6 x) (0:Int) xrb7
structure lmb7 (p:za7):Prop where
 trucks:∀ t ∈ p.trucks, ∀ s ∈ t,sxb7 s
 bikes:∀ b ∈ p.bikes,ixb7 b
theorem hvb7 {p:za7} {cs:List Value} (h:kd7.rep w F p cs):bf7 F w (ok7 p) cs:=by
 obtain ⟨t,b,rfl,h1,h2⟩:=h
 have k1:=fs (e:=fun l _=>vv7 l) [] ptb7 h1
 have k2:=fs (e:=fun x=>ix2 (I6 x.sat) (eh7 x.stops)) (⟨0,[]⟩:oa7) cyb7 h2
 exact ⟨_,_,rfl,k1,_,_,rfl,k2,rfl⟩
structure yrb7 (t:rb7):Prop where
 trucks:∀ l ∈ t.trucks, ∀ v ∈ l,wa7 v
 bikes:∀ r ∈ t.bikes,uxb7 r
theorem psb7 {t:rb7} {cs:List Value} (h:ve7.rep w F t cs):bf7 F w (fi7 t) cs:=by
 obtain ⟨a,b,rfl,h1,h2⟩:=h
 have k1:=fs (e:=fun l _=>eh7 l) [] xwb7 h1
 have k2:=fs (e:=fun x=>ix3 (I6 x.out) (eh7 x.starts) (I6 x.back)) (⟨0,[],0⟩:yc7) tyb7 h2
 exact ⟨_,_,rfl,k1,_,_,rfl,k2,rfl⟩
end
def qf7 (s:we7):List AV:=ok7 s.plan ++ (fi7 s.times ++ [I6 s.cost])
theorem sheet_f {w:World} {F:Nat → Prop} {s:we7} {cs:List Value} (h:wh7.rep w F s cs):bf7 F w (qf7 s) cs:=by
 obtain ⟨a,b,c,d,rfl, -,h1,h2⟩:=h
 obtain ⟨_,_,e1,k1,_,_,e2,k2, -⟩:=hvb7 h1
 obtain ⟨_,_,e3,k3,_,_,e4,k4, -⟩:=psb7 h2
 cases e1; cases e2; cases e3; cases e4
 exact ⟨_,_,rfl,k1,_,_,rfl,k2,_,_,rfl,k3,_,_,rfl,k4,_,_,rfl,rfl,rfl⟩
section
variable {f:FuncId}
theorem ydb7 {P:Program} {args:List RV} {post:RV → Prop} (hE:Enters P f) (h:∀ (rho:Nat → Prop) (w:World) (vs:List Value),Con0RL rho w args vs →
  Calls P f vs.toArray w fun e w' => ∃ r v,e = .returned v ∧ post r ∧ oj7 (fun b=>w.heap.size ≤ b ∧ b < w'.heap.size) w' r v ∧ Below w.heap.size w w'):PCall P f args post :=
 ⟨hE,fun rho w vs _ _ hc=>(h rho w vs hc).mono fun e w' ⟨r,v,h1,h2,h3,h4⟩=>⟨r,v,_,h1,h2,h3,fun b hb => .inr hb,h4⟩⟩
end
theorem kmb7 {P:Program} {pu:Pu} {f:FuncId} {H:List Root} {args args':List RV} {post:RV → Prop} {K:RV → List Root → Prop} (hp:PCall P f args' post) (ho:lnb7 H args) (he:tr7 H args = args') (hH:rk7 H args = H) (hK:∀ r,post r → K r H):do7 P pu f args H K :=
 mrb7 hp ho (by rw [he]; exact np7 _) (by rw [hH]; exact hK)
end Go.Proofs.Ytabadfkikdefeaa.Ab

namespace Go.Proofs.Ytabadfkikdefeaa.Ab
open Go.RowKit Go.Lib
theorem gub7 {d:Int} (h0:0 ≤ d) (h1:d < 10):(ByteArray.mk #[48,49,50,51,52,53,54,55,56,57]).extract d.toNat (d + 1).toNat = S [UInt8.ofNat (48 + d.toNat)]:=by
 obtain ⟨k,rfl⟩:∃ k:Nat,d = k:=⟨d.toNat,by omega⟩
 have hk:k < 10:=by omega
 have h:∀ k:Fin 10,(ByteArray.mk #[48,49,50,51,52,53,54,55,56,57]).extract k.val (k.val + 1) = S [UInt8.ofNat (48 + k.val)]:=by decide +kernel
 have:=h ⟨k,hk⟩
 simpa [show ((k:Int) + 1).toNat = k + 1 by omega] using this
theorem ybb7 {n:Int} (hn:wa7 n):PCall Try.prog 30 [.c (I6 n)] (fun r=>r = .c (.str (S (itoa n)))):=by
 unfold wa7 at hn
 refine ug7 qq7 (by kernel_rfl) (fun _=>([],0,none)) Try.func30 rfl (by kernel_rfl) Try.ntmps30 (congrArg Array.toList Try.results30) (by kernel_rfl) (by simp) ?_
 simp -implicitDefEqProofs only [go_sem, ↓reduceIte,reduceCtorEq,Nat.reduceAdd,Nat.reduceLT,Nat.reduceEqDiff,Nat.reduceMul,Nat.reduceLeDiff,Nat.reduceSub]
 refine ee7 (ι:=List UInt8 × Int) [0] [3,4] (fun s=>decDigits n.natAbs = decDigits s.2.natAbs ++ s.1 ∧ s.2.natAbs ≤ n.natAbs ∧ s.1.length ≤ 30 ∧ (n < 0 → s.2 ≤ 0) ∧ (0 ≤ n → 0 ≤ s.2)) (fun s=>[.c (.str (S s.1)), .c (I6 s.2)]) (fun _=>_) (fun s=>s.2.natAbs) (by kernel_rfl) ⟨([],n),⟨by simp,by simp,by simp,fun h=>Int.le_of_lt h,fun h=>h⟩,rfl,rfl⟩ (fun s _=>⟨rfl,rfl,rfl,rfl⟩) ?_
 rintro ⟨ds,k⟩ ⟨hd,hk,hl,hs1,hs2⟩
 simp only at hd hk hl hs1 hs2
 have hq1:(k.tmod 10).natAbs = k.natAbs % 10:=by rw [Int.natAbs_tmod]; rfl
 have hq2:(k.tdiv 10).natAbs = k.natAbs / 10:=by rw [Int.natAbs_tdiv]; rfl
 have hq3:k ≤ 0 → k.tdiv 10 ≤ 0:=fun h=>by
  have:=Int.tdiv_nonneg (a := -k) (b:=10) (by omega) (by decide)
  rw [Int.neg_tdiv] at this; omega
 have hq4:0 ≤ k → 0 ≤ k.tdiv 10:=fun h=>Int.tdiv_nonneg h (by decide)
 have hdl:(decDigits n.natAbs).length ≤ 20:=by rw [decDigits_length]; exact nDigits_le20 _ (by omega)
 have hdk:=ycb7 k.natAbs
 have hlen:=congrArg List.length hd
 rw [List.length_append] at hlen
 have hsm:k.natAbs < 10 → decDigits n.natAbs = UInt8.ofNat (48 + k.natAbs % 10) :: ds:=fun h=>by rw [hd,wab7 h]; rfl
 have hbg : ¬ k.natAbs < 10 → decDigits n.natAbs = decDigits (k.natAbs / 10) ++ (UInt8.ofNat (48 + k.natAbs % 10) :: ds):=fun h=>by rw [hd,aib7 h,List.append_assoc]; rfl
 have hit:itoa n = if n < 0 then 45 :: decDigits n.natAbs else decDigits n.natAbs:=by
  unfold itoa
  split
  ·rfl
  ·rw [show n.toNat = n.natAbs by omega]
 have key:∀ d:Int,0 ≤ d → d.natAbs = k.natAbs % 10 → (ByteArray.mk #[48,49,50,51,52,53,54,55,56,57]).extract d.toNat (d + 1).toNat = S [UInt8.ofNat (48 + k.natAbs % 10)]:=fun d h0 h1=>by
  rw [gub7 h0 (by omega),show d.toNat = k.natAbs % 10 by omega]
 generalize hb:UInt8.ofNat (48 + k.natAbs % 10) = b at hsm hbg key
 simp -implicitDefEqProofs only [go_sem, ↓reduceIte,reduceCtorEq,Nat.reduceAdd,Nat.reduceLT,Nat.reduceEqDiff,Nat.reduceMul,Nat.reduceLeDiff,Nat.reduceSub]
 generalize k.tmod 10 = r at hq1
 generalize k.tdiv 10 = q at hq2 hq3 hq4
 refine ⟨by decide,fun h => ?_,fun h => ?_⟩
 ·rw [key (-r) (by omega) (by omega),en7,show (S [b]).size = 1 from rfl]
  refine ⟨⟨by omega,by omega⟩,⟨by omega,by omega⟩,⟨by omega,by omega,by simp; omega⟩,by simp; omega,⟨by decide,by omega,by omega⟩,fun h2=>⟨fun h3=>⟨by simp; omega, ?_⟩,fun h3 => ?_⟩,fun h2=>⟨⟨by decide,by omega,by omega⟩,(b :: ds,q),⟨?_,by simp only; omega,by simp; omega,fun h=>hq3 (hs1 h),fun h=>hq4 (hs2 h)⟩,rfl,by simp only; omega⟩⟩
  ·rw [hit,if_pos h3,hsm (by omega)]
   simp [en7]
  ·rw [hit,if_neg h3,hsm (by omega)]; rfl
  ·simp only; rw [hq2]; exact hbg (by omega)
 ·rw [key r (by omega) (by omega),en7,show (S [b]).size = 1 from rfl]
  refine ⟨⟨by omega,by omega⟩,⟨by omega,by omega,by simp; omega⟩,by simp; omega,⟨by decide,by omega,by omega⟩,fun h2=>⟨fun h3=>⟨by simp; omega, ?_⟩,fun h3 => ?_⟩,fun h2=>⟨⟨by decide,by omega,by omega⟩,(b :: ds,q),⟨?_,by simp only; omega,by simp; omega,fun h=>hq3 (hs1 h),fun h=>hq4 (hs2 h)⟩,rfl,by simp only; omega⟩⟩
  ·rw [hit,if_pos h3,hsm (by omega)]
   simp [en7]
  ·rw [hit,if_neg h3,hsm (by omega)]; rfl
  ·simp only; rw [hq2]; exact hbg (by omega)
theorem pu7 {nm:List UInt8} {l:List Int} (hn:nm.length ≤ 1000) (hl:l.length ≤ 100000) (hw:∀ n ∈ l,wa7 n):PCall Try.prog 25 [.c (.str (S nm)), .c (eh7 l)] (fun r=>r = .c (.str (S (ze7 nm l)))) :=
 ydb7 ⟨_,_,Try.func25,by kernel_rfl,rfl⟩ fun rho w vs hc=>by
  obtain ⟨_,_,rfl,rfl,v,_,rfl,h1,rfl⟩:=hc
  refine (kxb7 (bs 0 hbc7 h1 hw) hn hl).mono ?_
  rintro e w' ⟨rfl,hb⟩
  exact ⟨_,_,rfl,rfl,rfl,hb⟩
theorem rib7 {l:List Int} (h:∀ n ∈ l,wa7 n) (i:Nat):wa7 (l.getD i 0):=qg7 (P:=wa7) h w0 i
theorem mp7 {l:List Int} (hl:l.length ≤ 100000) (hw:∀ n ∈ l,wa7 n):PCall Try.prog 31 [.c (eh7 l)] (fun r=>r = .c (.str (S (ze7 [] l)))):=by
 refine ug7 qq7 (by kernel_rfl) (fun _=>([],0,none)) Try.func31 rfl (by kernel_rfl) Try.ntmps31 (congrArg Array.toList Try.results31) (by kernel_rfl) (by simp) ?_
 simp -implicitDefEqProofs only [go_sem, ↓reduceIte,reduceCtorEq,Nat.reduceAdd,Nat.reduceLT,Nat.reduceEqDiff,Nat.reduceMul,Nat.reduceLeDiff,Nat.reduceSub]
 refine ee7 (ι:=Nat) [6,7] [3,8] (fun k=>k ≤ l.length) (fun k=>[.c (.str (S (lnS [] (l.take k)))), .c (I6 k)]) (fun _=>_) (fun k=>l.length - k) (by kernel_rfl) ⟨0,Nat.zero_le _,rfl,rfl⟩ (fun s _=>⟨rfl,rfl,rfl,rfl⟩) ?_
 intro k hk
 have hln:(lnS [] (l.take k)).length ≤ 3000000:=by
  have:=ww7 (l.take k) [] fun n hn=>hw n (List.mem_of_mem_take hn)
  rw [List.length_take] at this
  simp only [List.length_nil] at this
  omega
 have hil:=zq7 (rib7 hw k)
 simp -implicitDefEqProofs only [go_sem, ↓reduceIte,reduceCtorEq,Nat.reduceAdd,Nat.reduceLT,Nat.reduceEqDiff,Nat.reduceMul,Nat.reduceLeDiff,Nat.reduceSub]
 refine ⟨fun h => ?_,fun h => ?_⟩
 ·have hlt:k < l.length:=by omega
  have hs:=aw7 [] l hlt
  have hp:=fun h0:0 < k=>ssb7 [] l h0 hk
  have h0:k = 0 → lnS [] (l.take k) = []:=fun e=>by subst e; rfl
  have hgw:=rib7 hw k
  generalize lnS [] (l.take k) = b at *
  generalize l.getD k 0 = n at *
  refine ⟨⟨by omega,by omega⟩,fun h1 => ?_,fun h1 => ?_⟩
  ·refine ⟨by simp; omega,bh7 (ybb7 hgw) (by simp -implicitDefEqProofs only [go_sem, ↓reduceIte,reduceCtorEq,Nat.reduceAdd,Nat.reduceLT,Nat.reduceEqDiff,Nat.reduceMul,Nat.reduceLeDiff,Nat.reduceSub]) rfl (fun r h=>by subst h; rfl) ?_⟩
   rintro r rfl
   simp -implicitDefEqProofs only [go_sem, ↓reduceIte,reduceCtorEq,Nat.reduceAdd,Nat.reduceLT,Nat.reduceEqDiff,Nat.reduceMul,Nat.reduceLeDiff,Nat.reduceSub,en7]
   refine ⟨by simp; omega,⟨by omega,by omega⟩,k + 1,by omega, ?_,by omega⟩
   rw [hs]; unfold pf7; rw [if_pos (hp (by omega))]; rfl
  ·refine bh7 (ybb7 hgw) (by simp -implicitDefEqProofs only [go_sem, ↓reduceIte,reduceCtorEq,Nat.reduceAdd,Nat.reduceLT,Nat.reduceEqDiff,Nat.reduceMul,Nat.reduceLeDiff,Nat.reduceSub]) rfl (fun r h=>by subst h; rfl) ?_
   rintro r rfl
   simp -implicitDefEqProofs only [go_sem, ↓reduceIte,reduceCtorEq,Nat.reduceAdd,Nat.reduceLT,Nat.reduceEqDiff,Nat.reduceMul,Nat.reduceLeDiff,Nat.reduceSub,en7]
   refine ⟨by simp; omega,⟨by omega,by omega⟩,k + 1,by omega, ?_,by omega⟩
   rw [hs]; unfold pf7; rw [h0 (by omega)]; rfl
 ·obtain rfl:k = l.length:=by omega
  rw [List.take_length] at hln ⊢
  exact ⟨by simp; omega,by rw [en7]; rfl⟩
end Go.Proofs.Ytabadfkikdefeaa.Ab
namespace Go.Proofs.Ytabadfkikdefeaa.Ab
open Go.RowKit Go.Lib
theorem xl7 {α:Type} {l:List α} {k:Nat} (h:l.length ≤ k) (d:α):l.getD k d = d:=by
 rw [List.getD_eq_getElem?_getD,List.getElem?_eq_none h]; rfl
theorem jfb7 {l:List Int} {k:Nat} (hk:k ≤ 1000000):PCall Try.prog 32 [.c (eh7 l), .c (I6 k)] (fun r=>r = .c (I6 (l.getD k 0))):=by
 refine ug7 qq7 (by kernel_rfl) (fun _=>([],0,none)) Try.func32 rfl (by kernel_rfl) Try.ntmps32 (congrArg Array.toList Try.results32) (by kernel_rfl) (by simp) ?_
 simp -implicitDefEqProofs only [go_sem, ↓reduceIte,reduceCtorEq,Nat.reduceAdd,Nat.reduceLT,Nat.reduceEqDiff,Nat.reduceMul,Nat.reduceLeDiff,Nat.reduceSub]
 refine ⟨fun h => ?_,fun h => ?_⟩
 ·exact ⟨by omega,by omega⟩
 ·rw [xl7 (by omega)]
theorem xqb7 {l:List Int} {k:Nat} (hk:k ≤ 1000000):PCall Try.prog 26 [.c (eh7 l), .c (I6 k)] (fun r=>r = .c (I6 (l.getD k 0))):=by
 refine ug7 qq7 (by kernel_rfl) (fun _=>([],0,none)) Try.func26 rfl (by kernel_rfl) Try.ntmps26 (congrArg Array.toList Try.results26) (by kernel_rfl) (by simp) ?_
 simp -implicitDefEqProofs only [go_sem, ↓reduceIte,reduceCtorEq,Nat.reduceAdd,Nat.reduceLT,Nat.reduceEqDiff,Nat.reduceMul,Nat.reduceLeDiff,Nat.reduceSub]
 refine ⟨fun h => ?_,fun h => ?_⟩
 ·exact ⟨by omega,by omega⟩
 ·rw [xl7 (by omega)]
theorem stb7 {t:rb7} {k:Nat} (hk:k ≤ 1000000):PCall Try.prog 27 [.c (.sl t.trucks.length 1 (fun i _=>eh7 (mu7 t i))), .c (I6 k)] (fun r=>r = .c (eh7 (mu7 t k))):=by
 refine ug7 qq7 (by kernel_rfl) (fun _=>([],0,none)) Try.func27 rfl (by kernel_rfl) Try.ntmps27 (congrArg Array.toList Try.results27) (by kernel_rfl) (by simp) ?_
 simp -implicitDefEqProofs only [go_sem, ↓reduceIte,reduceCtorEq,Nat.reduceAdd,Nat.reduceLT,Nat.reduceEqDiff,Nat.reduceMul,Nat.reduceLeDiff,Nat.reduceSub]
 refine ⟨fun h=>⟨⟨by omega,by omega⟩,_,⟨_,rfl, .inl rfl⟩,rfl⟩,fun h=>⟨_,⟨_,rfl, .inr ?_⟩,rfl⟩⟩
 have e:mu7 t k = []:=xl7 (by omega) _
 rw [e]
 exact .inr ⟨_,_,rfl⟩
theorem cpb7 {t:rb7} {k:Nat} (hk:k ≤ 1000000):PCall Try.prog 28 [.c (.sl t.bikes.length 3 (fun i=>ix3 (I6 (sj7 t i).out) (eh7 (sj7 t i).starts) (I6 (sj7 t i).back))), .c (I6 k)] (fun r=>r = .agg [I6 (sj7 t k).out,eh7 (sj7 t k).starts,I6 (sj7 t k).back]):=by
 refine ug7 qq7 (by kernel_rfl) (fun _=>([],0,none)) Try.func28 rfl (by kernel_rfl) Try.ntmps28 (congrArg Array.toList Try.results28) (by kernel_rfl) (by simp) ?_
 simp -implicitDefEqProofs only [go_sem, ↓reduceIte,reduceCtorEq,Nat.reduceAdd,Nat.reduceLT,Nat.reduceEqDiff,Nat.reduceMul,Nat.reduceLeDiff,Nat.reduceSub]
 refine ⟨fun h=>⟨⟨by omega,by omega⟩,_,⟨_,rfl,_,_,rfl, .inl rfl,_,_,rfl, .inl rfl,_,_,rfl, .inl rfl,rfl⟩,rfl⟩,fun h => ?_⟩
 have e:sj7 t k = ⟨0,[],0⟩:=xl7 (by omega) _
 rw [e]
 exact ⟨_,⟨_,rfl,_,_,rfl, .inl rfl,_,_,rfl, .inr (.inr ⟨_,_,rfl⟩),_,_,rfl, .inl rfl,rfl⟩,rfl⟩
end Go.Proofs.Ytabadfkikdefeaa.Ab
namespace Go.Proofs.Ytabadfkikdefeaa.Ab
open Go.RowKit
def upK:CK → CK
 | .i k => .i k
 | .s t ck b => .s t (upKs ck) (b + 1)
where upKs:List CK → List CK
 | []=>[]
 | q :: l=>upK q :: upKs l
def upA:AV → AV
 | .ws t ck n => .ws t (upK.upKs ck) n
 | .wu t ck b => .wu t (upK.upKs ck) b
 | .wp t ck o => .wp t (upK.upKs ck) o
 | x=>x
def upL:List AV → List AV
 | []=>[]
 | x :: l=>upA x :: upL l
mutual
def upR:RV → RV
 | .c a => .c (upA a)
 | .agg l => .agg (upL l)
 | .fn f l => .fn f (upL l)
 | .tup l => .tup (gac7 l)
 | .ifc t x => .ifc t (upR x)
def gac7:List RV → List RV
 | []=>[]
 | x :: l=>upR x :: gac7 l
end
def upW:Row → Row
 | .box l => .box (upL l)
 | .own l => .own (l.map upL)
 | r=>r
def zwb7:Root → Root
 | .live fz t sz r => .live fz t sz (upW r)
 | .dead => .dead
def upH:List Root → List Root
 | []=>[]
 | r :: l=>zwb7 r :: upH l
def upT:Tm → Tm
 | []=>[]
 | (k,g,v) :: l=>(k,g,upR v) :: upT l
def upM (M:Mp):Mp:=⟨M.phi,M.off,M.rho,fun b=>(M.tau b).map fun q=>(q.1,upK.upKs q.2)⟩
section
variable {P:Program} {E:Env} {nt:Nat} {M:Mp} {H:List Root} {σ:AS} {a:Act} {w:World}
theorem pj7:∀ l:List CK,(upK.upKs l).length = l.length
 | []=>rfl
 | _ :: l=>by simp [upK.upKs,pj7 l]
theorem tlb7:∀ (l:List CK) (j:Nat) (q:CK),(upK.upKs l)[j]? = some q → ∃ q0,l[j]? = some q0 ∧ q = upK q0
 | [],j,q,h=>by simp [upK.upKs] at h
 | x :: l,0,q,h=>⟨x,rfl,by simpa [upK.upKs] using h.symm⟩
 | x :: l,j + 1,q,h=>by simpa using tlb7 l j q (by simpa [upK.upKs] using h)
theorem bnb7 {b:Nat} {t:TypeId} {ck:List CK} (h:M.tau b = some (t,ck)):(upM M).tau b = some (t,upK.upKs ck):=by
 show (M.tau b).map _ = _
 rw [h]; rfl
theorem tdb7 {b:Nat} {q:TypeId × List CK} (h:(upM M).tau b = some q):∃ q0,M.tau b = some q0 ∧ q = (q0.1,upK.upKs q0.2):=by
 have h:(M.tau b).map _ = some q:=h
 cases hq:M.tau b with
 | none=>rw [hq] at h; cases h
 | some q0=>rw [hq] at h; exact ⟨q0,rfl,(Option.some.inj h).symm⟩
theorem WSl.up {t:TypeId} {ck:List CK} {n:Nat} {v:Value} (h:WSl M w t ck n v):WSl (upM M) w t (upK.upKs ck) n v:=by
 obtain ⟨x,c,rfl,h1,h2,h3,h4⟩:=h
 refine ⟨x,c,rfl,h1,h2,h3,fun ad e => ?_⟩
 obtain ⟨b,cur,e,g1,g2,g3⟩:=h4 ad e
 exact ⟨b,cur,e,bnb7 g1,g2,by rw [pj7]; exact g3⟩
theorem vx7.up {q:CK} {v:Value} (h:vx7 M w q v):vx7 (upM M) w (upK q) v:=by
 cases q with
 | i k=>exact h
 | s t ck b=>obtain ⟨n,h1,h2⟩:=h; exact ⟨n,by omega,h2.up⟩
theorem nj7 {id:Nat} {fz:Bool} {t:TypeId} {sz:Nat} {r:Row}:∀ {H:List Root},da7 (upH H) id = .live fz t sz r → ∃ r0,da7 H id = .live fz t sz r0 ∧ r = upW r0:=by
 intro H
 induction H generalizing id with
 | nil=>intro h; cases h
 | cons x l ih =>
  cases id with
  | zero =>
   intro h
   cases x with
   | dead=>cases h
   | live fz' t' sz' r'=>cases h; exact ⟨r',rfl,rfl⟩
  | succ id=>exact fun h=>ih h
theorem wdb7:∀ H:List Root,(upH H).length = H.length
 | []=>rfl
 | _ :: l=>by simp [upH,wdb7 l]
theorem nw7 (r:Row):(upW r).len = r.len:=by
 cases r with
 | own l=>simp [upW,Row.len]
 | _=>rfl
theorem btb7 (r:Row):(upW r).one = r.one:=by cases r <;> rfl
theorem nyb7 (l:List (List AV)) (i:Nat):(l.map upL).getD i [] = upL (l.getD i []):=by
 simp only [List.getD_eq_getElem?_getD,List.getElem?_map]
 cases l[i]? <;> rfl
theorem wtb7 (r:Row):(upW r).isBox = r.isBox:=by cases r <;> rfl
theorem ujb7:∀ (l:List AV) (o:Nat),nth (upL l) o = upA (nth l o)
 | [],_=>rfl
 | _ :: _,0=>rfl
 | _ :: l,o + 1=>by simp only [upL,nth]; exact ujb7 l o
theorem Con.up {x:AV} {v:Value} (h:Con M H w x v):Con (upM M) (upH H) w (upA x) v:=by
 cases x with
 | ptr id n i o =>
  refine ⟨⟨by rw [wdb7]; exact h.1.1,h.1.2⟩,fun fz t sz r hr => ?_⟩
  obtain ⟨r0,k1,rfl⟩:=nj7 hr
  rw [nw7]
  exact h.2 _ _ _ _ k1
 | h id st len =>
  refine ⟨⟨by rw [wdb7]; exact h.1.1,h.1.2⟩,fun fz t sz r hr => ?_⟩
  obtain ⟨r0,k1,rfl⟩:=nj7 hr
  rw [nw7]
  exact h.2 _ _ _ _ k1
 | ws t ck n=>exact WSl.up h
 | wu t ck b=>obtain ⟨n,hb,h⟩:=h; exact ⟨n,hb,WSl.up h⟩
 | wp t ck o =>
  obtain ⟨b,cur,i,rfl,h1,h2,h3⟩:=h
  exact ⟨b,cur,i,by rw [pj7],bnb7 h1,h2,by rw [pj7]; exact h3⟩
 | junk=>trivial
 | _=>exact h
theorem me7.up:∀ {l:List AV} {vs:List Value},me7 M H w l vs → me7 (upM M) (upH H) w (upL l) vs
 | [],_,h=>h
 | _ :: _,_,⟨v,r,e,h1,h2⟩=>⟨v,r,e,h1.up,me7.up h2⟩
mutual
theorem dc7.up:∀ {x:RV} {v:Value},dc7 M H w x v → dc7 (upM M) (upH H) w (upR x) v
 | .c _,_,h=>Con.up h
 | .agg _,_,⟨vs,e,h⟩=>⟨vs,e,me7.up h⟩
 | .fn _ _,_,⟨vs,e,h⟩=>⟨vs,e,me7.up h⟩
 | .tup _,_,⟨vs,e,h⟩=>⟨vs,e,id7.up h⟩
 | .ifc _ _,_,⟨u,e,h⟩=>⟨u,e,dc7.up h⟩
theorem id7.up:∀ {x:List RV} {vs:List Value},id7 M H w x vs → id7 (upM M) (upH H) w (gac7 x) vs
 | [],_,h=>h
 | _ :: _,_,⟨v,r,e,h1,h2⟩=>⟨v,r,e,dc7.up h1,id7.up h2⟩
end
theorem Rel.up (h:Rel E M H w):Rel E (upM M) (upH H) w:=by
 refine ⟨h.bel,fun id fz t sz r hr => ?_,fun id fz t sz r hr => ?_,fun id t sz r hr => ?_,fun id t sz r hr => ?_,fun i j t s r t' s' r' hi hj he => ?_,h.rlt,h.src,⟨fun b q hq => ?_,fun b q id fz t sz r hq hr => ?_,fun b t ck hq => ?_⟩⟩
 ·obtain ⟨r0,k1,rfl⟩:=nj7 hr; exact h.low _ _ _ _ _ k1
 ·obtain ⟨r0,k1,rfl⟩:=nj7 hr
  obtain ⟨cur,c1,c2,c3,c4,c5,c6⟩:=h.row _ _ _ _ _ k1
  refine ⟨cur,c1,c2,by rw [nw7]; exact c3,c4,by rw [btb7]; exact c5,fun i hi o ho2 => ?_⟩
  rw [nw7] at hi
  obtain ⟨v,q1,q2,q3⟩:=c6 i hi o ho2
  refine ⟨v,q1,q2, ?_⟩
  unfold wk7 at q3 ⊢
  rw [wtb7]
  cases r0 with
  | box l =>
   simp only [Row.isBox,if_true] at q3 ⊢
   show Con _ _ w (nth (upL l) o) v
   rw [ujb7]
   exact q3.up
  | own l =>
   simp only [Row.isBox,if_true] at q3 ⊢
   show Con _ _ w (nth ((l.map upL).getD i []) o) v
   rw [nyb7,ujb7]
   exact q3.up
  | _=>exact q3
 ·obtain ⟨r0,k1,rfl⟩:=nj7 hr; exact h.froz _ _ _ _ k1
 ·obtain ⟨r0,k1,rfl⟩:=nj7 hr; exact h.thaw _ _ _ _ k1
 ·obtain ⟨r0,k1,rfl⟩:=nj7 hi
  obtain ⟨r1,k2,rfl⟩:=nj7 hj
  exact h.inj _ _ _ _ _ _ _ _ k1 k2 he
 ·obtain ⟨q0,k1,rfl⟩:=tdb7 hq; exact h.tau.new b q0 k1
 ·obtain ⟨q0,k1,rfl⟩:=tdb7 hq
  obtain ⟨r0,k2,rfl⟩:=nj7 hr
  exact h.tau.row _ _ _ _ _ _ _ k1 k2
 ·obtain ⟨q0,k1,e⟩:=tdb7 hq
  cases e
  obtain ⟨cur,c1,c2,c3,c4⟩:=h.tau.cells b q0.1 q0.2 k1
  refine ⟨cur,c1,by rw [pj7]; exact c2,by rw [pj7]; exact c3,fun k hk => ?_⟩
  obtain ⟨v,v1,v2⟩:=c4 k hk
  refine ⟨v,v1,fun q hq2 => ?_⟩
  rw [pj7] at hq2
  obtain ⟨q1,k3,rfl⟩:=tlb7 _ _ _ hq2
  exact (v2 _ k3).up
theorem blb7:∀ (tm:Tm) (t:Nat),lk (upT tm) t = ((lk tm t).1,upR (lk tm t).2)
 | [],_=>rfl
 | (k,g,v) :: l,t=>by
  simp only [upT,lk]
  split
  ·rfl
  ·exact blb7 l t
def upS (σ:AS):AS:=⟨upT σ.tm,upH σ.H⟩
theorem St.up (h:St E nt M σ a w):St E nt (upM M) (upS σ) a w:=by
 refine ⟨h.rel.up,fun t ht => ?_,fun t ht => ?_,h.sz,h.df⟩
 ·have ht:(lk (upT σ.tm) t).1 = true:=ht
  show dc7 _ _ w (lk (upT σ.tm) t).2 _
  rw [blb7] at ht ⊢
  exact (h.tms t ht).up
 ·have ht:(lk (upT σ.tm) t).1 = false:=ht
  rw [blb7] at ht
  exact h.off t ht
end
inductive Tr where
 | d (u:Bool)
 | no
 | br (w:Bool) (i:Nat) (t r:Tr)
inductive Pl where
 | a
 | s (p q:Pl)
 | c (p q:Pl)
 | b (p:Pl)
 | k (ks:List Nat) (p q:Pl)
 | t (lq:List Nat) (T:Tr) (r fins:List Nat)
def upIf:Bool → AS → AS
 | true,σ=>upS σ
 | false,σ=>σ
def keepS (ks:List Nat) (σ:AS):AS:=⟨fxT σ.tm ks,σ.H⟩
def puT:Bool → Pu
 | true=>none
 | false=>some none
section
variable (P:Program) (ty:Ty)
def phb7 (ops:Array Oper) (r:List Nat):Tr → (AS → Prop) → AS → Prop
 | .d u,K,σ=>cu7 P ty r.length none ops (pick ops r) K (upIf u σ)
 | .no,_,_=>True
 | .br w i t q,K,σ=>gw7 P ty (puT w) none ops σ (ops.getD i default) (phb7 ops r t K) ∧ phb7 ops r q K σ
def cob7 (ops:Array Oper) (T:Tr) (r:List Nat):List Oper → (AS → Prop) → AS → Prop
 | [],K,σ=>phb7 P ty ops r T K σ
 | o :: l,K,σ=>gw7 P ty (some none) none ops σ o (cob7 ops T r l K)
def av7 (ord:Nat → List Nat × Nat × Option Nat):Pl → Code → (Exit → AS → Prop) → AS → Prop
 | .a,c,Q,σ=>awp P ty ord c Q σ
 | .s p q, .seq x y,Q,σ=>av7 ord p x (zk7 (av7 ord q y Q) Q) σ
 | .c p q, .cond x y z,Q,σ=>dz7 (σ.rd x) (av7 ord p y Q σ) (av7 ord q z Q σ)
 | .b p, .block id x,Q,σ=>av7 ord p x (inB id Q) σ
 | .k ks p q, .seq x y,Q,σ => ∃ R:AS → Prop,av7 ord p x (zk7 (fun σ'=>R (keepS ks σ')) Q) σ ∧ ∀ σ',R σ' → av7 ord q y Q σ'
 | .t lq T r _, .region _ ops true,Q,σ=>cob7 P ty ops T r (pick ops lq) (Q .normal) σ
 | _,_,_,_=>False
end
def esb7 (ops:Array Oper) (fins:List Nat):List Nat → Array Bool → Bool
 | [],listed=>(Region.ready .any ops listed).isEmpty
 | i :: r,listed=>decide (Region.ready .any ops listed = [i]) && decide (i < ops.size) && fins.contains i && esb7 ops fins r (listed.setIfInBounds i true)
def wcc7:Tr → Bool
 | .d _=>false
 | _=>true
def etb7 (ops:Array Oper) (fins r:List Nat):Tr → Nat → Bool → List Nat → Array Bool → Bool
 | .d _,n,_,_,l=>decide (r.length = n) && esb7 ops fins r l
 | .no,n,_,al,l=>decide (0 < n) && decide (Region.ready .any ops l ≠ []) && (Region.ready .any ops l).all (al.contains ·)
 | .br w i t q,n,dy,al,l=>decide (i < ops.size) && (!w || dy || fins.contains i) && wcc7 q && etb7 ops fins r t (n - 1) (dy || w) [] (l.setIfInBounds i true) && etb7 ops fins r q n dy (i :: al) l
def eac7 (nt:Nat) (ops:Array Oper) (lq:List Nat) (T:Tr) (r:List Nat) (fins:List Nat):Bool :=
 zab7 nt ops && Region.noSelect ops && decide (lq.length ≤ ops.size) && lq.all (fun i=>decide (i < ops.size) && isV (ops.getD i default).op) && match vp7 .any ops fins lq (Array.replicate ops.size false) with
  | some listed=>etb7 ops fins r T (ops.size - lq.length) false [] listed
  | none=>false
def okD (nt:Nat) (ord:Nat → List Nat × Nat × Option Nat):Pl → Code → Bool
 | .a,c=>okC nt ord c
 | .s p q, .seq x y=>okD nt ord p x && okD nt ord q y
 | .c p q, .cond _ x y=>okD nt ord p x && okD nt ord q y
 | .b p, .block _ x=>okD nt ord p x
 | .k _ p q, .seq x y=>okD nt ord p x && okD nt ord q y
 | .t lq T r fins, .region _ ops true=>eac7 nt ops lq T r fins
 | _,_=>false
section
variable {P:Program} {ty:Ty} {E:Env} {nt:Nat} {M:Mp} {σ:AS} {a:Act} {w w0:World} {ops:Array Oper} {K:AS → Prop} {Q:Exit → Act → World → Prop} {fins r:List Nat}
theorem gdb7 {i:Nat} {Kn:Act → World → Prop} (hi:i < ops.size) (h:if Region.wanted (ops.getD i default) (yielded ops a.tmps) then (ops.getD i default).wp P a w Kn Q else Kn (a.put (ops.getD i default).dst undef) w):wpOp P ops Q i Kn a w:=by
 have ho:ops[i]? = some (ops.getD i default):=by simp [Array.getD,hi]
 unfold wpOp
 rw [ho]
 show if Region.wanted (ops.getD i default) (yielded ops a.tmps) then _ ∨ _ else _
 by_cases hw:Region.wanted (ops.getD i default) (yielded ops a.tmps) = true
 ·rw [if_pos hw] at h ⊢; exact .inl h
 ·rw [if_neg hw] at h ⊢; exact h
theorem dst_at (hd:zab7 nt ops = true) {i:Nat} (hi:i < ops.size):∀ t,(ops.getD i default).dst = some t → t < nt :=
 zo7 hd _ (by simp [Array.getD,hi])
theorem St.upIf (h:St E nt M σ a w):∀ u:Bool, ∃ M',St E nt M' (upIf u σ) a w
 | true=>⟨_,h.up⟩
 | false=>⟨_,h⟩
theorem St.keepS (h:St E nt M σ a w) (ks:List Nat):St E nt M (keepS ks σ) a w:=by
 refine ⟨h.rel,fun t ht => ?_,fun t ht => ?_,h.sz,h.df⟩
 ·have ht:(lk (fxT σ.tm ks) t).1 = true:=ht
  show dc7 M σ.H w (lk (fxT σ.tm ks) t).2 _
  rcases vr7 σ.tm ks t with ⟨-,e⟩ | ⟨-,e⟩
  ·rw [e] at ht ⊢; exact h.tms t ht
  ·rw [e]; trivial
 ·have ht:(lk (fxT σ.tm ks) t).1 = false:=ht
  rcases vr7 σ.tm ks t with ⟨-,e⟩ | ⟨-,e⟩
  ·rw [e] at ht; exact h.off t ht
  ·rw [e] at ht; cases ht
theorem pw7 (hT:ph7 P ty) (hd:zab7 nt ops = true) (hQ:∀ M σ a w,St E nt M σ a w → K σ → Q .normal a w) {nf:Nat}:∀ (r:List Nat) {M:Mp} {σ:AS} {a:Act} {w:World} {l:Array Bool},St E nt M σ a w → cu7 P ty nf none ops (pick ops r) K σ → esb7 ops fins r l = true → wpAny P .any ops Q r.length l a w
 | [],M,σ,a,w,l,h,hw,hc=>⟨by simpa [esb7] using hc,hQ _ _ _ _ h hw⟩
 | i :: r,M,σ,a,w,l,h,hw,hc=>by
  simp only [esb7,Bool.and_eq_true,decide_eq_true_eq] at hc
  obtain ⟨⟨⟨h1,h2⟩,h3⟩,h4⟩:=hc
  refine ⟨fun h0=>(by rw [h1] at h0; cases h0),fun j hj => ?_⟩
  rw [h1,List.mem_singleton] at hj
  subst hj
  exact gdb7 h2 (flb7 hT h (dst_at hd h2) (show gw7 P ty _ none ops σ (ops.getD j default) (cu7 P ty nf none ops (pick ops r) K) from hw) fun M' σ' a' w' q1 _ _ q4=>pw7 hT hd hQ r q1 q4 h4)
def fkb7 (P:Program) (ops:Array Oper) (Q:Exit → Act → World → Prop) (fins:List Nat) (w0:World) (dy:Bool) (n:Nat) (l:Array Bool) (a:Act) (w:World):Prop :=
 if dy then wpAny P .any ops Q n l a w else gf7 P .any ops Q (qh7 none w0) fins n l a w
theorem dcb7 (hT:ph7 P ty) (hd:zab7 nt ops = true) (hQ:∀ M σ a w,St E nt M σ a w → K σ → Q .normal a w):∀ (T:Tr) {n:Nat} {dy:Bool} {al:List Nat} {l:Array Bool} {M:Mp} {σ:AS} {a:Act} {w:World},St E nt M σ a w → etb7 ops fins r T n dy al l = true → phb7 P ty ops r T K σ → (dy = false → qh7 none w0 w) →
  ((∃ u,T = .d u) ∧ fkb7 P ops Q fins w0 dy n l a w) ∨ ((0 < n ∧ Region.ready .any ops l ≠ []) ∧ ∀ m,n = m + 1 → ∀ i ∈ Region.ready .any ops l,i ∈ al ∨ wpOp P ops Q i (fun a' w'=>if dy then wpAny P .any ops Q m (l.setIfInBounds i true) a' w' else (i ∈ fins ∧ wpAny P .any ops Q m (l.setIfInBounds i true) a' w') ∨ (qh7 none w0 w' ∧ gf7 P .any ops Q (qh7 none w0) fins m (l.setIfInBounds i true) a' w')) a w)
 | .d u,n,dy,al,l,M,σ,a,w,h,hc,hw,ho=>by
  obtain ⟨M,h⟩:=h.upIf u
  simp only [etb7,Bool.and_eq_true,decide_eq_true_eq] at hc
  obtain ⟨rfl,hc⟩:=hc
  refine .inl ⟨⟨u,rfl⟩, ?_⟩
  unfold fkb7
  split
  ·exact pw7 hT hd hQ r h hw hc
  ·cases r with
   | nil=>exact ⟨by simpa [esb7] using hc,hQ _ _ _ _ h hw⟩
   | cons i r =>
    simp only [esb7,Bool.and_eq_true,decide_eq_true_eq] at hc
    obtain ⟨⟨⟨h1,h2⟩,h3⟩,h4⟩:=hc
    refine ⟨fun h0=>(by rw [h1] at h0; cases h0),fun j hj => ?_⟩
    rw [h1,List.mem_singleton] at hj
    subst hj
    exact gdb7 h2 (flb7 hT h (dst_at hd h2) (show gw7 P ty _ none ops (upIf u σ) (ops.getD j default) (cu7 P ty (j :: r).length none ops (pick ops r) K) from hw) fun M' σ' a' w' q1 _ _ q4 => .inl ⟨by simpa using h3,pw7 hT hd hQ r q1 q4 h4⟩)
 | .no,n,dy,al,l,M,σ,a,w,h,hc,hw,ho=>by
  simp only [etb7,Bool.and_eq_true,decide_eq_true_eq,List.all_eq_true] at hc
  exact .inr ⟨hc.1,fun m _ i hi => .inl (by simpa using hc.2 i hi)⟩
 | .br wr i t q,n,dy,al,l,M,σ,a,w,h,hc,hw,ho=>by
  simp only [etb7,Bool.and_eq_true,decide_eq_true_eq] at hc
  obtain ⟨⟨⟨⟨h1,h2⟩,h3⟩,h4⟩,h5⟩:=hc
  rcases dcb7 hT hd hQ q h h5 hw.2 ho with ⟨⟨u,e⟩, -⟩ | ⟨k1,k2⟩
  ·subst e
   cases h3
  ·refine .inr ⟨k1,fun m hm j hj => ?_⟩
   rcases k2 m hm j hj with hj2 | hj2
   ·rcases List.mem_cons.1 hj2 with rfl | hj2
    ·refine .inr (gdb7 h1 (flb7 hT h (dst_at hd h1) hw.1 fun M' σ' a' w' q1 q2 _ q4 => ?_))
     have hold:dy = false → wr = false → qh7 none w0 w':=fun e1 e2=>by subst e2; exact (ho e1).step (q2 none rfl)
     have ih:=dcb7 hT hd hQ t q1 h4 q4 (fun e=>by
      rw [Bool.or_eq_false_iff] at e
      exact hold e.1 e.2)
     have ih2:fkb7 P ops Q fins w0 (dy || wr) m (l.setIfInBounds j true) a' w':=by
      have e:n - 1 = m:=by omega
      rw [e] at ih
      rcases ih with ⟨-,ih⟩ | ⟨⟨g0,g1⟩,g2⟩
      ·exact ih
      ·unfold fkb7
       cases m with
       | zero=>omega
       | succ m =>
        split
        ·rename_i hdy
         refine ⟨fun h0=>absurd h0 g1,fun i hi => ?_⟩
         have:=(g2 m rfl i hi).resolve_left (by simp)
         rw [hdy] at this
         simpa using this
        ·rename_i hdy
         refine ⟨fun h0=>absurd h0 g1,fun i hi => ?_⟩
         have:=(g2 m rfl i hi).resolve_left (by simp)
         rw [Bool.eq_false_iff.2 hdy] at this
         simpa using this
     unfold fkb7 at ih2
     cases dy with
     | true=>simpa using ih2
     | false =>
      cases wr with
      | true=>exact .inl ⟨by simpa using h2,by simpa using ih2⟩
      | false=>exact .inr ⟨hold rfl rfl,by simpa using ih2⟩
    ·exact .inl hj2
   ·exact .inr hj2
theorem uab7 (hT:ph7 P ty) (hd:zab7 nt ops = true) {T:Tr}:∀ (lq:List Nat) {M:Mp} {σ:AS} {a:Act},St E nt M σ a w → (∀ i ∈ lq,i < ops.size ∧ isV (ops.getD i default).op = true) → cob7 P ty ops T r (pick ops lq) K σ →
  wpQuiet P ops (fun w' => ∃ e:At (qh7 none w),w' = e.val) (fun a' => ∃ M' σ',St E nt M' σ' a' w ∧ phb7 P ty ops r T K σ') (lq.map fun j=>ops.getD j default) a
 | [],M,σ,a,h,_,hw=>⟨M,σ,h,hw⟩
 | i :: lq,M,σ,a,h,hl,hw=>by
  obtain ⟨h1,h2⟩:=hl i (List.mem_cons_self ..)
  have hw':onb7 ty (guardOf σ.tm ops (ops.getD i default).guard) none σ (ops.getD i default) (cob7 P ty ops T r (pick ops lq) K):=by
   have:gw7 P ty _ none ops σ (ops.getD i default) _:=hw
   unfold gw7 at this
   rw [if_pos h2] at this
   exact this
  obtain ⟨σ',v,k1,k2,k3,k4,k5⟩:=fnb7 hT h h2 (dst_at hd h1) hw'
  have ih:=uab7 hT hd lq k3 (fun j hj=>hl j (List.mem_cons_of_mem _ hj)) k1
  simp only [List.map_cons]
  unfold wpQuiet
  by_cases hwt:Region.wanted (ops.getD i default) (yielded ops a.tmps) = true
  ·rw [if_pos hwt]
   refine ⟨v, ?_,ih⟩
   rintro w1 ⟨e,rfl⟩
   unfold Oper.quietAt
   rw [k4 hwt e.val e.ok]
   exact ⟨rfl,rfl⟩
  ·rw [if_neg hwt]
   rw [k5 (by simpa using hwt)] at ih
   exact ih
theorem vtb7 (hT:ph7 P ty) (hm:P.follows .mixedOrders = true) {id:Nat} {lq:List Nat} {T:Tr} (hB:eac7 nt ops lq T r fins = true) (h:St E nt M σ a w) (hw:cob7 P ty ops T r (pick ops lq) K σ) (hQ:∀ M σ a w,St E nt M σ a w → K σ → Q .normal a w) (hQp:∀ c a w, ¬ Q (.panic c) a w):(Code.region id ops true).wp P Q a w:=by
 unfold eac7 at hB
 simp only [Bool.and_eq_true,decide_eq_true_eq,List.all_eq_true] at hB
 obtain ⟨⟨⟨⟨b1,b2⟩,b3⟩,b4⟩,b5⟩:=hB
 split at b5
 case h_2=>cases b5
 rename_i listed hq
 have hb:Below w.heap.size w w.drew:=(Below.refl _ _).drew
 have h2:St E nt M σ a w.drew:=⟨h.rel.below hb,fun t ht=>(Kp.below h.rel hb).R (h.tms t ht),h.off,h.sz,h.df⟩
 refine wp_region_any hm (ui7 (S:=qh7 none w.drew) (fins:=fins) _ _ _ _ ?_)
 rw [show ops.size = lq.length + (ops.size - lq.length) by omega]
 refine fl7 b2 (fun c a d v w hh=>(hQp _ _ _ hh).elim) (qh7.refl _ _) lq _ listed a (fun j oj _ hl=>by rw [getD_replicate_false] at hl; cases hl) (by rw [show lq.length + (ops.size - lq.length) = ops.size by omega]; exact hq) (uab7 hT b1 lq h2 b4 hw) fun a' _ ⟨M',σ',q1,q2⟩ => ?_
 rcases dcb7 (w0:=w.drew) hT b1 hQ T q1 b5 q2 (fun _=>qh7.refl _ _) with ⟨-,h⟩ | ⟨⟨g0,g1⟩,g2⟩
 ·exact h
 ·obtain ⟨m,hm⟩:∃ m,ops.size - lq.length = m + 1:=⟨ops.size - lq.length - 1,by omega⟩
  rw [hm]
  exact ⟨fun h0=>absurd h0 g1,fun i hi=>(g2 m hm i hi).resolve_left (by simp)⟩
theorem sk7 (hT:ph7 P ty) (hm:P.follows .mixedOrders = true) {ord:Nat → List Nat × Nat × Option Nat}:∀ (p:Pl) (c:Code),okD nt ord p c = true → ∀ {Q:Exit → AS → Prop} {M:Mp} {σ:AS} {a:Act} {w:World},St E nt M σ a w → av7 P ty ord p c Q σ →
  c.wp P (fun e a' w'=>(∀ ch,e ≠ .panic ch) ∧ ∃ M' σ',St E nt M' σ' a' w' ∧ Q e σ') a w
 | .a,c,hc,Q,M,σ,a,w,h,hw=>wp_mono (om7 hT hm c hc h hw) fun e a1 w1 ⟨hp,M1,σ1,q1,q2,q3⟩=>⟨hp,M1,σ1,q1,q3⟩
 | .s p q,c,hc,Q,M,σ,a,w,h,hw=>by
  cases c with
  | seq x y =>
   simp only [okD,Bool.and_eq_true] at hc
   refine wp_seq (wp_mono (sk7 hT hm p x hc.1 h (Q:=zk7 (av7 P ty ord q y Q) Q) hw) fun e a1 w1 ⟨hp,M1,σ1,q1,q3⟩ => ?_)
   cases e with
   | normal=>exact sk7 hT hm q y hc.2 q1 q3
   | panic ch=>exact absurd rfl (hp ch)
   | exit id=>exact ⟨hp,M1,σ1,q1,q3⟩
   | goto l=>exact ⟨hp,M1,σ1,q1,q3⟩
   | ret=>exact ⟨hp,M1,σ1,q1,q3⟩
   | outgrown=>exact ⟨hp,M1,σ1,q1,q3⟩
  | _=>exact Bool.noConfusion hc
 | .c p q,c,hc,Q,M,σ,a,w,h,hw=>by
  cases c with
  | cond x y z =>
   simp only [okD,Bool.and_eq_true] at hc
   have hw':dz7 (σ.rd x) (av7 P ty ord p y Q σ) (av7 P ty ord q z Q σ):=hw
   unfold dz7 at hw'
   split at hw'
   ·rename_i b hb
    have hv:=h.rd (x:=x) (by rw [hb])
    rw [hb] at hv
    have hv':a.eval x = .bool b:=hv
    refine wp_cond hv' ?_
    cases b with
    | true=>exact sk7 hT hm p y hc.1 h (hw'.1 rfl)
    | false=>exact sk7 hT hm q z hc.2 h (hw'.2 rfl)
   ·exact hw'.elim
  | _=>exact Bool.noConfusion hc
 | .b p,c,hc,Q,M,σ,a,w,h,hw=>by
  cases c with
  | block id x =>
   refine wp_block (wp_mono (sk7 hT hm p x hc h (Q:=inB id Q) hw) fun e a1 w1 ⟨hp,M1,σ1,q1,q3⟩ => ?_)
   cases e with
   | exit j =>
    simp only [Exit.inBlock]
    simp only [inB] at q3
    split
    ·rename_i e; rw [if_pos e] at q3; exact ⟨fun _ e=>(by cases e),M1,σ1,q1,q3⟩
    ·rename_i e; rw [if_neg e] at q3; exact ⟨hp,M1,σ1,q1,q3⟩
   | normal=>exact ⟨hp,M1,σ1,q1,q3⟩
   | panic ch=>exact absurd rfl (hp ch)
   | goto l=>exact ⟨hp,M1,σ1,q1,q3⟩
   | ret=>exact ⟨hp,M1,σ1,q1,q3⟩
   | outgrown=>exact ⟨hp,M1,σ1,q1,q3⟩
  | _=>exact Bool.noConfusion hc
 | .k ks p q,c,hc,Q,M,σ,a,w,h,hw=>by
  cases c with
  | seq x y =>
   simp only [okD,Bool.and_eq_true] at hc
   obtain ⟨R,h1,h2⟩:=hw
   refine wp_seq (wp_mono (sk7 hT hm p x hc.1 h h1) fun e a1 w1 ⟨hp,M1,σ1,q1,q3⟩ => ?_)
   cases e with
   | normal=>exact sk7 hT hm q y hc.2 (q1.keepS ks) (h2 _ q3)
   | panic ch=>exact absurd rfl (hp ch)
   | exit id=>exact ⟨hp,M1,σ1,q1,q3⟩
   | goto l=>exact ⟨hp,M1,σ1,q1,q3⟩
   | ret=>exact ⟨hp,M1,σ1,q1,q3⟩
   | outgrown=>exact ⟨hp,M1,σ1,q1,q3⟩
  | _=>exact Bool.noConfusion hc
 | .t lq T r fins,c,hc,Q,M,σ,a,w,h,hw=>by
  cases c with
  | region id ops dr =>
   cases dr with
   | false=>exact Bool.noConfusion hc
   | true=>exact vtb7 hT hm hc h hw (fun M σ a w q1 q2=>⟨fun _ e=>(by cases e),M,σ,q1,q2⟩) fun c a w hh=>hh.1 c rfl
  | _=>exact Bool.noConfusion hc
section
variable {ord:Nat → List Nat × Nat × Option Nat} {Q:Exit → AS → Prop} {p q:Pl}
theorem zbc7 {c:Code}:av7 P ty ord .a c Q σ = awp P ty ord c Q σ:=by cases c <;> rfl
theorem vcc7 {x y:Code}:av7 P ty ord (.s p q) (.seq x y) Q σ = av7 P ty ord p x (zk7 (av7 P ty ord q y Q) Q) σ:=rfl
theorem tzb7 {lq:List Nat} {T:Tr} {id:Nat}:av7 P ty ord (.t lq T r fins) (.region id ops true) Q σ = cob7 P ty ops T r (pick ops lq) (Q .normal) σ:=rfl
theorem mbc7 {T:Tr}:cob7 P ty ops T r [] K σ = phb7 P ty ops r T K σ:=rfl
theorem yzb7 {T:Tr} {o:Oper} {l:List Oper}:cob7 P ty ops T r (o :: l) K σ = gw7 P ty (some none) none ops σ o (cob7 P ty ops T r l K):=rfl
theorem lac7:phb7 P ty ops r (.d false) K σ = cu7 P ty r.length none ops (pick ops r) K σ:=rfl
theorem mac7 {ks:List Nat} {x y:Code} (R:AS → Prop) (h1:av7 P ty ord p x (zk7 (fun σ'=>R (keepS ks σ')) Q) σ) (h2:∀ σ',R σ' → av7 P ty ord q y Q σ'):av7 P ty ord (.k ks p q) (.seq x y) Q σ:=⟨R,h1,h2⟩
theorem hqb7 {ks:List Nat} {tm:Tm} {H:List Root}:keepS ks ⟨tm,H⟩ = ⟨fxT tm ks,H⟩:=rfl
theorem hub7:phb7 P ty ops r .no K σ = True:=rfl
theorem wzb7 {wr:Bool} {i:Nat} {t q:Tr}:phb7 P ty ops r (.br wr i t q) K σ = (gw7 P ty (puT wr) none ops σ (opD ops.toList i) (phb7 P ty ops r t K) ∧ phb7 P ty ops r q K σ):=by
 simp [phb7,zmb7,List.getD_eq_getElem?_getD,Array.getD_eq_getD_getElem?]
end
theorem xkb7 (p : Pl) (hT : ph7 P ty) (hm : P.follows .mixedOrders = true) {f : FuncId} {fn : Func} {c : Code} (ord : Nat → List Nat × Nat × Option Nat) (hf : P.funcs[f]? = some fn) (hb : fn.body = some c) (hname : (fn.name == "runtime.NumGoroutine") = false) {n : Nat} (hnt : fn.ntmps = n) {rs : List ResultVar} (hr : fn.results.toList = rs)
  (hok:okD n ord p c = true) {args:List RV} (hn:args.length ≤ n) {post:RV → Prop}
  (h:av7 P ty ord p c (xyb7 ty rs (gbc7 post)) ⟨ajb7 0 args,[]⟩):PCall P f args post:=by
 refine ⟨⟨fn,c,hf,hname,hb⟩,fun rho w vs hgl hrho hc=>calls_of_wp hf hb ?_⟩
 have hrel:Rel ⟨w,rho⟩ ⟨fun _=>0,fun _=>0,rho,fun _=>none⟩ [] w:=⟨Below.refl _ _,fun _ _ _ _ _ h=>(by cases h),fun _ _ _ _ _ h=>(by cases h),fun _ _ _ _ h=>(by cases h),fun _ _ _ _ h=>(by cases h),fun _ _ _ _ _ _ _ _ h=>(by cases h),hrho,⟨fun b hb => .inl hb,hgl⟩,⟨fun _ _ h=>(by cases h),fun _ _ _ _ _ _ _ h=>(by cases h),fun _ _ _ h=>(by cases h)⟩⟩
 have hst:=St.enter hrel (Con0RL.up (M:=⟨fun _=>0,fun _=>0,rho,fun _=>none⟩) (H:=[]) hc) (n:=n) hn
 rw [hnt]
 refine wp_mono (sk7 hT hm p c hok hst h) fun e a' w' ⟨hp,M',σ',q1,q3⟩ => ?_
 have fin:(du7 ty σ' rs).1 ∧ (okT σ'.H (one (du7 ty σ' rs).2) ∧ ∃ r',vsb7 (yub7 σ'.H (one (du7 ty σ' rs).2)) r' ∧ post r') → a'.defers = [] ∧ ∃ v,(results fn a'.tmps).run P w' = .ok v w' ∧ ∃ r v' rho',Ending.returned v = .returned v' ∧ post r ∧ oj7 rho' w' r v' ∧ (∀ b,rho' b → rho b ∨ (w.heap.size ≤ b ∧ b < w'.heap.size)) ∧ Below w.heap.size w w':=by
  rintro ⟨h1,h2,r',h3,h4⟩
  obtain ⟨v,k1,k2⟩:=ev7 hT q1 hr h1
  obtain ⟨M2,H2,k3,k4⟩:=kkb7 q1.rel h2 k1
  refine ⟨q1.df,v,k2,r',v,M2.rho,rfl,h4,k4.eqv h3,fun b hb => ?_,q1.rel.bel⟩
  rcases k3.src.1 b hb with h | h
  ·exact .inl h
  ·exact .inr ⟨h,k3.rlt b hb⟩
 cases e with
 | normal=>exact fin q3
 | ret=>exact fin q3
 | panic ch=>exact absurd rfl (hp ch)
 | exit id=>exact q3.elim
 | goto l=>exact q3.elim
 | outgrown=>exact q3.elim
end
open Go.RowKit Go.Lib
def uwb7:Tr := .br false 2 (.br false 3 (.br false 4 (.br false 9 (.br false 10 (.d false) .no) .no) (.br false 9 (.br false 4 (.br false 10 (.d false) .no) (.br false 10 (.br false 4 (.d false) .no) .no)) .no)) (.br false 9 (.br false 3 (.br false 4 (.br false 10 (.d false) .no) (.br false 10 (.br false 4 (.d false) .no) .no)) (.br false 10 (.br false 3 (.br false 4 (.d false) .no) .no) .no)) .no)) (.br false 9 (.br false 2 (.br false 3 (.br false 4 (.br false 10 (.d false) .no) (.br false 10 (.br false 4 (.d false) .no) .no)) (.br false 10 (.br false 3 (.br false 4 (.d false) .no) .no) .no)) .no) .no)
def mqb7:Pl := .s .a (.k [1,3] (.t [0,1,5,6,7,8] uwb7 [11,12] [11,12]) .a)
theorem vd7 {len:Nat} {l:List Int} (h:len = l.length):AV.sl len 1 (fun i j=>(Row.ints .i64 l).get (0 + i) j) = eh7 l:=by
 subst h
 simp only [Row.get,Nat.zero_add]
theorem ypb7 (p:za7) (c:Int):112 :: 108 :: 97 :: 110 :: 32 :: (itoa c ++ [10,116,114,117,99,107,115,32] ++ ze7 [] [(p.trucks.length:Int)]) = hn7 p c:=by
 simp [hn7,ze7,lnS,pf7]
theorem atb7 (p:za7) (t:rb7) (c:Int):hn7 p c ++ ge7 p t p.trucks.length ++ 98 :: 105 :: 107 :: 101 :: 115 :: 32 :: ze7 [] [(p.bikes.length:Int)] = kbb7 p t c:=by
 simp [kbb7,ze7,lnS,pf7]
def vo7 (s:we7):List Root:=[.live false 31 5 (.box (qf7 s)), .live false 3 1 (.ints .i64 [(s.plan.trucks.length:Int)])]
def tqb7 (s:we7) (k j:Nat):List Root:=vo7 s ++ [.live false 82 1 (.box [vv7 (ni7 s.plan k)]), .live false 3 1 (.ints .i64 (tCells (ni7 s.plan k) (mu7 s.times k) j))]
def wy7 (s:we7):List Root:=vo7 s ++ [.live false 3 1 (.ints .i64 [(s.plan.bikes.length:Int)])]
def vab7 (s:we7) (k:Nat) (rd:List AV) (j:Nat):List Root:=wy7 s ++ [.live false 73 2 (.box [I6 (uh7 s.plan k).sat,eh7 (uh7 s.plan k).stops]), .live false 58 3 (.box rd), .live false 3 1 (.ints .i64 (kCells (uh7 s.plan k) (sj7 s.times k) j))]
theorem xsb7 {s:we7} (h:od7 s.plan s.times s.cost):PCall Try.prog 9 [.agg (qf7 s)] (fun r=>r = .c (.str (S (su7 s.plan s.times s.cost)))):=by
 refine xkb7 mqb7 qq7 (by kernel_rfl) (fun n=>match n with | 12=>([],2,none) | _=>([],0,none)) Try.func9 rfl (by kernel_rfl) Try.ntmps9 (congrArg Array.toList Try.results9) (by kernel_rfl) (by simp) ?_
 simp -implicitDefEqProofs only [go_sem, ↓reduceIte,reduceCtorEq,Nat.reduceAdd,Nat.reduceLT,Nat.reduceEqDiff,Nat.reduceMul,Nat.reduceLeDiff,Nat.reduceSub,mqb7,zbc7,vcc7,qf7,ok7,fi7]
 have hc:=h.c
 have hnt:wa7 (s.plan.trucks.length:Int):=wn h.nt
 have hcl:=zq7 hc
 have hnn:=h.nt
 have hbb:=h.nb
 have hol:=dn7 hnt []
 simp only [List.length_nil] at hol
 refine mac7 (fun σ'=>σ' = ⟨[(1,true, .c (.ptr 0 1 0 0)),(3,true, .c (.str (S (hn7 s.plan s.cost))))],vo7 s⟩) ?_ ?_
 ·simp -implicitDefEqProofs only [go_sem, ↓reduceIte,reduceCtorEq,Nat.reduceAdd,Nat.reduceLT,Nat.reduceEqDiff,Nat.reduceMul,Nat.reduceLeDiff,Nat.reduceSub,uwb7,tzb7,mbc7,yzb7,wzb7,lac7,hub7]
  have hl0:∀ v ∈ [(s.plan.trucks.length:Int)],wa7 v:=fun v hv=>by rw [List.mem_singleton.1 hv]; exact hnt
  have hw1:∀ H,fh7 H [] = []:=fun _=>rfl
  repeat' first
   | (refine bh7 (ybb7 hc) (by simp -implicitDefEqProofs only [go_sem, ↓reduceIte,reduceCtorEq,Nat.reduceAdd,Nat.reduceLT,Nat.reduceEqDiff,Nat.reduceMul,Nat.reduceLeDiff,Nat.reduceSub]) rfl (fun r h=>by subst h; rfl) ?_; rintro r rfl; simp -implicitDefEqProofs only [go_sem, ↓reduceIte,reduceCtorEq,Nat.reduceAdd,Nat.reduceLT,Nat.reduceEqDiff,Nat.reduceMul,Nat.reduceLeDiff,Nat.reduceSub,en7,tzb7,mbc7,yzb7,wzb7,lac7,hub7,hqb7])
   | (refine ah7 (mp7 (l:=[(s.plan.trucks.length:Int)]) (by simp) hl0) ⟨⟨rfl,rfl⟩,trivial⟩ (by simp only [fh7,pp7,gn7,frz,da7]; rw [vd7 (by rfl)]) (fun r h=>by subst h; rfl) ?_; rintro r rfl; simp -implicitDefEqProofs only [go_sem, ↓reduceIte,reduceCtorEq,Nat.reduceAdd,Nat.reduceLT,Nat.reduceEqDiff,Nat.reduceMul,Nat.reduceLeDiff,Nat.reduceSub,en7,tzb7,mbc7,yzb7,wzb7,lac7,hub7,hqb7])
   | with_reducible refine And.intro ?_ ?_
   | (simp; omega)
  all_goals exact congrArg (fun l=>(⟨[(1,true, .c (.ptr 0 1 0 0)),(3,true, .c (.str (S l)))],vo7 s⟩:AS)) (ypb7 s.plan s.cost)
 ·rintro σ' rfl
  simp -implicitDefEqProofs only [go_sem, ↓reduceIte,reduceCtorEq,Nat.reduceAdd,Nat.reduceLT,Nat.reduceEqDiff,Nat.reduceMul,Nat.reduceLeDiff,Nat.reduceSub,vo7,zbc7,qf7,ok7,fi7]
  refine ee7 (ι:=Nat) [1,30,31] [3,32] (fun k=>k ≤ s.plan.trucks.length) (fun k=>[.c (.str (S (hn7 s.plan s.cost ++ ge7 s.plan s.times k))), .c (I6 k)]) (fun _=>_) (fun k=>s.plan.trucks.length - k) (by kernel_rfl) ⟨0,Nat.zero_le _,by simp [ge7,gets,nk7,lk],rfl⟩ (fun s _=>⟨rfl,rfl,rfl,rfl⟩) ?_
  intro k hk
  simp -implicitDefEqProofs only [go_sem, ↓reduceIte,reduceCtorEq,Nat.reduceAdd,Nat.reduceLT,Nat.reduceEqDiff,Nat.reduceMul,Nat.reduceLeDiff,Nat.reduceSub]
  refine ⟨fun h1 => ?_,fun h1 => ?_⟩
  ·have hkl:(ni7 s.plan k).length ≤ 30000:=(h.truck k).1
   refine ⟨by omega,fun h2=>⟨by omega, ?_⟩,fun h2 => ?_⟩
   all_goals
    refine ee7 (ι:=Nat) [1,3,7,30,31,32,54,55] [6,56] (fun j=>j ≤ (ni7 s.plan k).length) (fun j=>[.c (.h 3 0 (tCells (ni7 s.plan k) (mu7 s.times k) j).length), .c (I6 j)]) (fun j=>tqb7 s k j) (fun j=>(ni7 s.plan k).length - j) (by kernel_rfl) ⟨0,Nat.zero_le _,rfl,rfl⟩ (fun _ _=>⟨rfl,rfl,rfl,rfl⟩) ?_
    intro j hj
    simp -implicitDefEqProofs only [go_sem, ↓reduceIte,reduceCtorEq,Nat.reduceAdd,Nat.reduceLT,Nat.reduceEqDiff,Nat.reduceMul,Nat.reduceLeDiff,Nat.reduceSub,tqb7,vo7,qf7,ok7,fi7]
    refine ⟨fun h3 => ?_,fun h3 => ?_⟩
   ·refine ⟨by omega,bh7 (jfb7 (by omega)) (by simp -implicitDefEqProofs only [go_sem, ↓reduceIte,reduceCtorEq,Nat.reduceAdd,Nat.reduceLT,Nat.reduceEqDiff,Nat.reduceMul,Nat.reduceLeDiff,Nat.reduceSub]) rfl (fun r h=>by subst h; rfl) ?_⟩
    rintro r rfl
    simp -implicitDefEqProofs only [go_sem, ↓reduceIte,reduceCtorEq,Nat.reduceAdd,Nat.reduceLT,Nat.reduceEqDiff,Nat.reduceMul,Nat.reduceLeDiff,Nat.reduceSub]
    have hlen:=ac7 (ni7 s.plan k) (mu7 s.times k) j
    refine ⟨by omega,⟨by omega,by omega⟩,j + 1,by omega, ?_, ?_,by omega⟩
    ·rw [ac7,ac7,show 1 + 3 * (j + 1) = 1 + 3 * j + 3 by omega]; rfl
    ·rw [gh7]; rfl
   ·obtain rfl:j = (ni7 s.plan k).length:=by omega
    have hlen:=ac7 (ni7 s.plan k) (mu7 s.times k) (ni7 s.plan k).length
    have hcw:=h.tCells k (ni7 s.plan k).length
    have htr:=h.trucksL k
    have hhd:=h.headL
    have htk:=h.truckL k
    have htk':(ze7 [] (tCells (ni7 s.plan k) (mu7 s.times k) (ni7 s.plan k).length)).length ≤ 1980023:=htk
    refine ah7 (mp7 (l:=tCells (ni7 s.plan k) (mu7 s.times k) (ni7 s.plan k).length) (by omega) hcw) ⟨⟨Nat.zero_add _,rfl⟩,trivial⟩ (by simp only [fh7,pp7,gn7,frz,da7]; rw [vd7 rfl]) (fun r h=>by subst h; rfl) ?_
    rintro r rfl
    simp -implicitDefEqProofs only [go_sem, ↓reduceIte,reduceCtorEq,Nat.reduceAdd,Nat.reduceLT,Nat.reduceEqDiff,Nat.reduceMul,Nat.reduceLeDiff,Nat.reduceSub,en7]
    refine ⟨by simp only [List.size_toArray,List.length_append]; omega,⟨by omega,by omega⟩,k + 1,by omega, ?_,by omega⟩
    rw [ei7,List.append_assoc]; rfl
   ·have hu:mu7 s.times k = []:=xl7 (by omega) _
    refine ⟨by omega,qw7 (jfb7 (l:=[]) (k:=j) (by omega)) (by simp -implicitDefEqProofs only [go_sem, ↓reduceIte,reduceCtorEq,Nat.reduceAdd,Nat.reduceLT,Nat.reduceEqDiff,Nat.reduceMul,Nat.reduceLeDiff,Nat.reduceSub]) ⟨_,_,rfl, .inr ⟨_,rfl, .inr (.inr ⟨_,_,rfl⟩)⟩,_,_,rfl, .inl rfl,rfl⟩ (fun r h=>by subst h; rfl) ?_⟩
    rintro r rfl
    simp -implicitDefEqProofs only [go_sem, ↓reduceIte,reduceCtorEq,Nat.reduceAdd,Nat.reduceLT,Nat.reduceEqDiff,Nat.reduceMul,Nat.reduceLeDiff,Nat.reduceSub]
    have hlen:=ac7 (ni7 s.plan k) (mu7 s.times k) j
    refine ⟨by omega,⟨by omega,by omega⟩,j + 1,by omega, ?_, ?_,by omega⟩
    ·rw [ac7,ac7,show 1 + 3 * (j + 1) = 1 + 3 * j + 3 by omega]; rfl
    ·rw [gh7]; unfold tItem; rw [hu];rfl
   ·obtain rfl:j = (ni7 s.plan k).length:=by omega
    have hlen:=ac7 (ni7 s.plan k) (mu7 s.times k) (ni7 s.plan k).length
    have hcw:=h.tCells k (ni7 s.plan k).length
    have htr:=h.trucksL k
    have hhd:=h.headL
    have htk:=h.truckL k
    have htk':(ze7 [] (tCells (ni7 s.plan k) (mu7 s.times k) (ni7 s.plan k).length)).length ≤ 1980023:=htk
    refine ah7 (mp7 (l:=tCells (ni7 s.plan k) (mu7 s.times k) (ni7 s.plan k).length) (by omega) hcw) ⟨⟨Nat.zero_add _,rfl⟩,trivial⟩ (by simp only [fh7,pp7,gn7,frz,da7]; rw [vd7 rfl]) (fun r h=>by subst h; rfl) ?_
    rintro r rfl
    simp -implicitDefEqProofs only [go_sem, ↓reduceIte,reduceCtorEq,Nat.reduceAdd,Nat.reduceLT,Nat.reduceEqDiff,Nat.reduceMul,Nat.reduceLeDiff,Nat.reduceSub,en7]
    refine ⟨by simp only [List.size_toArray,List.length_append]; omega,⟨by omega,by omega⟩,k + 1,by omega, ?_,by omega⟩
    rw [ei7,List.append_assoc]; rfl
  ·obtain rfl:k = s.plan.trucks.length:=by omega
   have htr:=h.trucksL s.plan.trucks.length
   have hhd:=h.headL
   have hml:=h.midL
   have hbn:wa7 (s.plan.bikes.length:Int):=wn h.nb
   have hobl:=dn7 hbn []
   simp only [List.length_nil] at hobl
   refine ah7 (mp7 (l:=[(s.plan.bikes.length:Int)]) (by simp) (fun v hv=>by rw [List.mem_singleton.1 hv]; exact hbn)) ⟨⟨rfl,rfl⟩,trivial⟩ (by simp only [fh7,pp7,gn7,frz,da7]; rw [vd7 (by rfl)]) (fun r h=>by subst h; rfl) ?_
   rintro r rfl
   simp -implicitDefEqProofs only [go_sem, ↓reduceIte,reduceCtorEq,Nat.reduceAdd,Nat.reduceLT,Nat.reduceEqDiff,Nat.reduceMul,Nat.reduceLeDiff,Nat.reduceSub,en7]
   refine ⟨by simp; omega,by simp; omega, ?_⟩
   rw [atb7]
   refine ee7 (ι:=Nat) [1,88,89] [3,90] (fun k=>k ≤ s.plan.bikes.length) (fun k=>[.c (.str (S (kbb7 s.plan s.times s.cost ++ og7 s.plan s.times k))), .c (I6 k)]) (fun _=>wy7 s) (fun k=>s.plan.bikes.length - k) (by kernel_rfl) ⟨0,Nat.zero_le _,by simp [og7,gets,nk7,lk],rfl⟩ (fun s _=>⟨rfl,rfl,rfl,rfl⟩) ?_
   intro k hk
   simp -implicitDefEqProofs only [go_sem, ↓reduceIte,reduceCtorEq,Nat.reduceAdd,Nat.reduceLT,Nat.reduceEqDiff,Nat.reduceMul,Nat.reduceLeDiff,Nat.reduceSub,wy7,vo7,qf7,ok7,fi7]
   refine ⟨fun h1 => ?_,fun h1 => ?_⟩
   ·have hkl:(uh7 s.plan k).stops.length ≤ 30000:=(h.bike k).1
    refine ⟨by omega,fun h2=>⟨by omega, ?_⟩,fun h2 => ?_⟩
    ·refine ee7 (ι:=Nat) [1,3,12,88,89,90,116,117] [13,118] (fun j=>j ≤ (uh7 s.plan k).stops.length) (fun j=>[.c (.h 5 0 (kCells (uh7 s.plan k) (sj7 s.times k) j).length), .c (I6 j)]) (fun j=>vab7 s k [I6 (sj7 s.times k).out,eh7 (sj7 s.times k).starts,I6 (sj7 s.times k).back] j) (fun j=>(uh7 s.plan k).stops.length - j) (by kernel_rfl) ⟨0,Nat.zero_le _,rfl,rfl⟩ (fun _ _=>⟨rfl,rfl,rfl,rfl⟩) ?_
     intro j hj
     have hlen:=uc7 (uh7 s.plan k) (sj7 s.times k) j
     simp -implicitDefEqProofs only [go_sem, ↓reduceIte,reduceCtorEq,Nat.reduceAdd,Nat.reduceLT,Nat.reduceEqDiff,Nat.reduceMul,Nat.reduceLeDiff,Nat.reduceSub,vab7,wy7,vo7,qf7,ok7,fi7]
     refine ⟨fun h3 => ?_,fun h3 => ?_⟩
     ·refine ⟨by omega,bh7 (jfb7 (by omega)) (by simp -implicitDefEqProofs only [go_sem, ↓reduceIte,reduceCtorEq,Nat.reduceAdd,Nat.reduceLT,Nat.reduceEqDiff,Nat.reduceMul,Nat.reduceLeDiff,Nat.reduceSub]) rfl (fun r h=>by subst h; rfl) ?_⟩
      rintro r rfl
      simp -implicitDefEqProofs only [go_sem, ↓reduceIte,reduceCtorEq,Nat.reduceAdd,Nat.reduceLT,Nat.reduceEqDiff,Nat.reduceMul,Nat.reduceLeDiff,Nat.reduceSub]
      refine ⟨by omega,⟨by omega,by omega⟩,j + 1,by omega, ?_, ?_,by omega⟩
      ·rw [uc7,uc7,show 3 + 2 * (j + 1) = 3 + 2 * j + 2 by omega]; rfl
      ·rw [mh7]; rfl
     ·obtain rfl:j = (uh7 s.plan k).stops.length:=by omega
      have hcw:=h.kCells k (uh7 s.plan k).stops.length
      have hrb:=(h.ride k).2.1
      have hbr:=h.bikesL k
      have hbk:=h.bikeL k
      have hbk':(ze7 [] (kCells (uh7 s.plan k) (sj7 s.times k) (uh7 s.plan k).stops.length ++ [(sj7 s.times k).back])).length ≤ 1320089:=hbk
      refine ⟨by omega,ah7 (mp7 (l:=kCells (uh7 s.plan k) (sj7 s.times k) (uh7 s.plan k).stops.length ++ [(sj7 s.times k).back]) (by rw [List.length_append,List.length_singleton]; omega) (fun v hv=>(List.mem_append.1 hv).elim (hcw v) (fun e=>by rw [List.mem_singleton.1 e]; exact hrb))) ⟨⟨by simp [Row.len],rfl⟩,trivial⟩ (by simp only [fh7,pp7,gn7,frz,da7]; rw [vd7 (by simp)]) (fun r h=>by subst h; rfl) ?_⟩
      rintro r rfl
      simp -implicitDefEqProofs only [go_sem, ↓reduceIte,reduceCtorEq,Nat.reduceAdd,Nat.reduceLT,Nat.reduceEqDiff,Nat.reduceMul,Nat.reduceLeDiff,Nat.reduceSub,en7]
      refine ⟨by simp only [List.size_toArray,List.length_append] at hbk' ⊢; omega,⟨by omega,by omega⟩,k + 1,by omega, ?_,by omega⟩
      rw [zj7,List.append_assoc]; rfl
    ·have hu:sj7 s.times k = ⟨0,[],0⟩:=xl7 (by omega) _
     refine ee7 (ι:=Nat) [1,3,12,88,89,90,116,117] [13,118] (fun j=>j ≤ (uh7 s.plan k).stops.length) (fun j=>[.c (.h 5 0 (kCells (uh7 s.plan k) (sj7 s.times k) j).length), .c (I6 j)]) (fun j=>vab7 s k [.int .i64 0, .nils, .int .i64 0] j) (fun j=>(uh7 s.plan k).stops.length - j) (by kernel_rfl) ⟨0,Nat.zero_le _,rfl,(by unfold vab7 kCells; rw [hu]; rfl)⟩ (fun _ _=>⟨rfl,rfl,rfl,rfl⟩) ?_
     intro j hj
     have hlen:=uc7 (uh7 s.plan k) (sj7 s.times k) j
     simp -implicitDefEqProofs only [go_sem, ↓reduceIte,reduceCtorEq,Nat.reduceAdd,Nat.reduceLT,Nat.reduceEqDiff,Nat.reduceMul,Nat.reduceLeDiff,Nat.reduceSub,vab7,wy7,vo7,qf7,ok7,fi7]
     refine ⟨fun h3 => ?_,fun h3 => ?_⟩
     ·refine ⟨by omega,qw7 (jfb7 (l:=[]) (k:=j) (by omega)) (by simp -implicitDefEqProofs only [go_sem, ↓reduceIte,reduceCtorEq,Nat.reduceAdd,Nat.reduceLT,Nat.reduceEqDiff,Nat.reduceMul,Nat.reduceLeDiff,Nat.reduceSub]) ⟨_,_,rfl, .inr ⟨_,rfl, .inr (.inr ⟨_,_,rfl⟩)⟩,_,_,rfl, .inl rfl,rfl⟩ (fun r h=>by subst h; rfl) ?_⟩
      rintro r rfl
      simp -implicitDefEqProofs only [go_sem, ↓reduceIte,reduceCtorEq,Nat.reduceAdd,Nat.reduceLT,Nat.reduceEqDiff,Nat.reduceMul,Nat.reduceLeDiff,Nat.reduceSub]
      refine ⟨by omega,⟨by omega,by omega⟩,j + 1,by omega, ?_, ?_,by omega⟩
      ·rw [uc7,uc7,show 3 + 2 * (j + 1) = 3 + 2 * j + 2 by omega]; rfl
      ·rw [mh7]; unfold bItem; rw [hu]
     ·obtain rfl:j = (uh7 s.plan k).stops.length:=by omega
      have hcw:=h.kCells k (uh7 s.plan k).stops.length
      have hrb:=(h.ride k).2.1
      have hbr:=h.bikesL k
      have hbk:=h.bikeL k
      have hbk':(ze7 [] (kCells (uh7 s.plan k) (sj7 s.times k) (uh7 s.plan k).stops.length ++ [(sj7 s.times k).back])).length ≤ 1320089:=hbk
      refine ⟨by omega,ah7 (mp7 (l:=kCells (uh7 s.plan k) (sj7 s.times k) (uh7 s.plan k).stops.length ++ [(sj7 s.times k).back]) (by rw [List.length_append,List.length_singleton]; omega) (fun v hv=>(List.mem_append.1 hv).elim (hcw v) (fun e=>by rw [List.mem_singleton.1 e]; exact hrb))) ⟨⟨by simp [Row.len],rfl⟩,trivial⟩ (by simp only [fh7,pp7,gn7,frz,da7]; rw [vd7 (by simp)]; rw [hu]) (fun r h=>by subst h; rfl) ?_⟩
      rintro r rfl
      simp -implicitDefEqProofs only [go_sem, ↓reduceIte,reduceCtorEq,Nat.reduceAdd,Nat.reduceLT,Nat.reduceEqDiff,Nat.reduceMul,Nat.reduceLeDiff,Nat.reduceSub,en7]
      refine ⟨by simp only [List.size_toArray,List.length_append] at hbk' ⊢; omega,⟨by omega,by omega⟩,k + 1,by omega, ?_,by omega⟩
      rw [zj7,List.append_assoc]; rfl
   ·obtain rfl:k = s.plan.bikes.length:=by omega
    have hbr:=h.bikesL s.plan.bikes.length
    exact ⟨by simp; omega,by rw [en7]; rfl⟩
end Go.Proofs.Ytabadfkikdefeaa.Ab
namespace Go.Proofs.Ytabadfkikdefeaa.Ab
open Go.RowKit Go.Lib
def ko7 (a b:AV):Root := .live false 85 2 (.box [a,b])
def bn7 (l:List Int):Root := .live false 5 1 (.ints .u8 l)
theorem hcb7 {P:Program} {w w':World} {b o:Nat} {v u:Value} (hc:w.cell? ⟨b,o,none⟩ = some u) (hf:w.frozen? ⟨b,o,none⟩ = false) (h1:v.oneCell' = true) (h:(storeCells ⟨b,o,none⟩ [v] 0).run P w = .ok () w'):w' = w.setCell ⟨b,o,none⟩ v:=by
 simp [storeCells,Sem.run_bind,Addr.add_lit,Nat.add_zero,run_store P w _ v _ h1,hc,hf,Result.andThen] at h
 exact h.symm
theorem dg7 {E:Env} {M:Mp} {H:List Root} {w:World} (hR:Rel E M H w) {id:Nat} {a b:AV} (h1:da7 H id = ko7 a b) :
  ∃ u v,w.heap[M.phi id]? = some (.cells #[u,v] 85 (0,0)) ∧ M.off id = 0 ∧ Con M H w a u ∧ Con M H w b v:=by
 obtain ⟨cur,k1,k2,k3,k4,k5,k6⟩:=hR.row _ _ _ _ _ h1
 obtain ⟨k7,k8⟩:=k5 rfl
 obtain ⟨u,u1,u2,u3⟩:=k6 0 Nat.one_pos 0 (by decide)
 obtain ⟨v,v1,v2,v3⟩:=k6 0 Nat.one_pos 1 (by decide)
 rw [k7] at u1 v1
 refine ⟨u,v, ?_,k7,u3,v3⟩
 rw [k1]
 congr 2
 apply Array.ext
 ·rw [k8]; rfl
 ·intro i hi hi2
  rw [k8] at hi
  match i,hi with
  | 0,_=>exact (Array.getElem?_eq_some_iff.1 u1).2
  | 1,_=>exact (Array.getElem?_eq_some_iff.1 v1).2
theorem hp7 {E:Env} {M:Mp} {H:List Root} {w:World} (hR:Rel E M H w) {id:Nat} {a b:AV} (h1:da7 H id = ko7 a b) {p:Value} (hp:Con M H w (.ptr id 1 0 0) p):p = .pointer (some ⟨M.phi id,0,none⟩):=by
 obtain ⟨u,v, -,ho, -⟩:=dg7 hR h1
 have:=(hp.2 _ _ _ _ h1).2 rfl
 rw [ho] at this
 simpa using this
theorem ps7:∀ {H:List Root} {id:Nat} {x y:Root},id < H.length → ia7 (H ++ [y]) id x = ia7 H id x ++ [y]
 | [],_,_,_,h=>absurd h (Nat.not_lt_zero _)
 | _ :: _,0,_,_,_=>rfl
 | _ :: H,id + 1,_,_,h=>by simp only [List.cons_append,ia7]; rw [ps7 (by simpa using h)]
theorem jt7:∀ (H:List Root) (id:Nat) (x y:Root),ia7 (ia7 H id x) id y = ia7 H id y
 | [],_,_,_=>rfl
 | _ :: _,0,_,_=>rfl
 | _ :: H,id + 1,_,_=>by simp only [ia7]; rw [jt7 H]
theorem ty7 {ops:Array Oper} {rest:List Oper} {o:Oper} {a:Act} {Q:Exit → Act → World → Prop} (w:World) (hgd:o.guard = none) (s x:Operand) (t tx:TypeId)
  (ho:o.op = .call { callee := .builtin .append,args := #[s,x],argTypes := #[t,tx] }) {v xv v':Value} {w':World} (hs:a.eval s = v) (hx:a.eval x = xv)
  (hr:(Builtin.append_ #[t,tx] o.type #[v,xv]).run Try.prog w = .ok v' w') (h:wpList Try.prog ops Q rest (a.put o.dst v') w'):wpList Try.prog ops Q (o :: rest) a w:=by
 refine wpList_plain hgd fun _ hK => ?_
 unfold Oper.wp execOp
 simp only [ho,resolve,invoke,builtin,Sem.run_bind,Sem.run_pure,Result.andThen_ok,List.map_toArray,List.map_cons,List.map_nil,hs,hx,hr]
 exact hK _ _ h
theorem vcb7 {E:Env} {M:Mp} {H:List Root} {w:World} (hR:Rel E M H w) {id:Nat} {a b c:AV} (h1:da7 H id = ko7 a b) {o:Nat} (ho:o < 2) {v:Value} (hv:Con M H w c v) (hn:v.oneCell' = true) :
  Rel E M (ia7 H id (.live false 85 2 (.box (pat [a,b] o [c])))) (w.setCell ⟨M.phi id,o,none⟩ v) ∧ Kp M H w M (ia7 H id (.live false 85 2 (.box (pat [a,b] o [c])))) (w.setCell ⟨M.phi id,o,none⟩ v):=by
 obtain ⟨x,y,hh,h0, -, -⟩:=dg7 hR h1
 obtain ⟨w2,r1,r2,r3⟩:=ix7 (P:=Try.prog) hR h1 (i:=0) (o:=o) (cs:=[c]) (vs:=[v]) Nat.one_pos (by simp; omega) (by simpa using hn) rfl (fun j u hj=>by
  cases j with
  | zero=>simp at hj; subst hj; exact hv
  | succ j=>simp at hj) trivial
 rw [h0,Nat.zero_mul,Nat.zero_add] at r3
 have hc:∃ u,w.cell? ⟨M.phi id,o,none⟩ = some u:=by
  match o,ho with
  | 0,_=>exact ⟨x,by rw [Lib.cell_of_heap hh]; rfl⟩
  | 1,_=>exact ⟨y,by rw [Lib.cell_of_heap hh]; rfl⟩
 obtain ⟨u,hc⟩:=hc
 have:=hcb7 hc (Lib.frozen_of_heap hh _) hn r3
 subst this
 exact ⟨r1,r2⟩
theorem upb7 {H:List Root} {id buf n:Nat} {l:List Int} {s:ByteArray} {K:RV → List Root → Prop} (h1:da7 H id = ko7 (.ptr id 1 0 0) (.h buf 0 n)) (h2:da7 H buf = bn7 l) (hn:n = l.length) (hs:n + s.size ≤ 1099511627776)
  (hK:K (.tup [.c (I6 s.size), .c .junk]) (ia7 (ia7 H buf (bn7 (l ++ byI s))) id (ko7 (.ptr id 1 0 0) (.h buf 0 (n + s.size))))):do7 Try.prog none 24 [.c (.ptr id 1 0 0), .c (.str s)] H K:=by
 refine ⟨⟨_,_,Try.func24,by kernel_rfl,rfl⟩,fun E M w vs hR hv => ?_⟩
 obtain ⟨p,_,rfl,hp,sv,_,rfl,hsv,rfl⟩:=hv
 obtain rfl:sv = .string s:=hsv
 obtain rfl:=hp7 hR h1 hp
 obtain ⟨x,y,hh,h0,hx,hy⟩:=dg7 hR h1
 obtain rfl:=hp7 hR h1 hx
 have hne:buf ≠ id:=by rintro rfl; rw [h1] at h2; cases h2
 have hux:Try.prog.underlying 9 = some .string:=Try.underlying9
 obtain ⟨hS,hC⟩:=ncb7 (P:=Try.prog) (M:=M) (H:=H) (w:=w) hux s
 have hlb:(Row.ints .u8 (byI s)).len = s.size:=jj7 s
 have ho:=hy
 obtain ⟨M',w',v',r0,r1,r2,r3⟩:∃ M' w' v',(Builtin.append_ #[38,9] 38 #[y, .string s]).run Try.prog w = .ok v' w' ∧ Rel E M' (ia7 H buf (bn7 (l ++ byI s))) w' ∧ Kp M H w M' (ia7 H buf (bn7 (l ++ byI s))) w' ∧ Con M' (ia7 H buf (bn7 (l ++ byI s))) w' (.h buf 0 (n + s.size)) v':=by
  have:=sr7 qq7 hR 38 9 5 38 (by kernel_rfl) Nat.one_pos (show 1 ≤ 128 by decide) hS hC h2 hn hy (by rw [hlb]; exact hs) rfl
  rw [hlb] at this
  exact this
 have h1':da7 (ia7 H buf (bn7 (l ++ byI s))) id = ko7 (.ptr id 1 0 0) (.h buf 0 n):=by rw [ec7,if_neg (fun h=>hne h.1.symm)]; exact h1
 have hp':=r2 _ _ hp
 have hpe:M'.phi id = M.phi id:=by
  have:=hp7 r1 h1' hp'
  simpa using this.symm
 obtain ⟨x',y',hh',h0', -, -⟩:=dg7 r1 h1'
 rw [hpe] at hh'
 obtain ⟨s1,s2⟩:=vcb7 r1 h1' (o:=1) (by decide) r3 r3.1.2
 rw [hpe] at s1 s2
 have c0:w.cell? ⟨M.phi id,0,none⟩ = some (.pointer (some ⟨M.phi id,0,none⟩)):=by rw [Lib.cell_of_heap hh]; rfl
 have c1:w.cell? ⟨M.phi id,1,none⟩ = some y:=by rw [Lib.cell_of_heap hh]; rfl
 have c2:w'.cell? ⟨M.phi id,1,none⟩ = some y':=by rw [Lib.cell_of_heap hh']; rfl
 have f2:w'.frozen? ⟨M.phi id,1,none⟩ = false:=Lib.frozen_of_heap hh' _
 obtain ⟨cap,cur,ad,rfl, -⟩:=(hy.2 _ _ _ _ h2).2 (by rw [hn]; exact Nat.zero_add _)
 obtain ⟨cap',cur',ad',rfl, -⟩:=(r3.2 _ _ _ _ (show da7 (ia7 H buf (bn7 (l ++ byI s))) buf = bn7 (l ++ byI s) by rw [ec7,if_pos ⟨rfl,eg7 h2⟩])).2 (by show 0 + (n + s.size) = (l ++ byI s).length; rw [List.length_append,jj7,hn]; omega)
 have HF:=hid (And.intro s1 (And.intro (Kp.trans r2 s2) hK))
 have HL:H.length ≤ (ia7 (ia7 H buf (bn7 (l ++ byI s))) id (ko7 (.ptr id 1 0 0) (.h buf 0 (n + s.size)))).length:=by rw [db7,db7]; exact Nat.le_refl _
 have HR0:=hid r0
 clear hK hR hp hx hy hh hux hS hC ho hp' hh' h0 h0' r1 r2 r3 s1 s2 h1 h2 h1' hne hlb hpe hn r0
 go_enter Try.func24,Try.ntmps24
 go_wp2_with (go_at_call 57; refine (qpb7 _ _ c0).mono ?_)
 rintro e w2 ⟨rfl,rfl⟩
 go_wp2_with (at_builtin; refine ty7 _ rfl _ _ 38 9 rfl rfl rfl HR0.out ?_)
 refine bodyPost_ret (results_tmp2 rfl _ _ _) rfl ?_
 obtain ⟨f1,f3,f4⟩:=HF.out
 exact ⟨M',_, .tup [.c (I6 s.size), .c .junk],_,rfl,f1,f3,⟨[.int .i64 s.size, .nilIface],rfl,_,_,rfl,rfl,_,_,rfl,trivial,rfl⟩,fun g hg=>(by cases hg),HL,f4⟩
theorem elb7 {H:List Root} {id:Nat} {s:ByteArray} {K:RV → List Root → Prop} (h1:da7 H id = ko7 .nilp .nils) (hs:0 < s.size ∧ s.size ≤ 1099511627776)
  (hK:K (.tup [.c (I6 s.size), .c .junk]) (ia7 H id (ko7 (.ptr id 1 0 0) (.h H.length 0 s.size)) ++ [bn7 (byI s)])):do7 Try.prog none 24 [.c (.ptr id 1 0 0), .c (.str s)] H K:=by
 refine ⟨⟨_,_,Try.func24,by kernel_rfl,rfl⟩,fun E M w vs hR hv => ?_⟩
 obtain ⟨p,_,rfl,hp,sv,_,rfl,hsv,rfl⟩:=hv
 obtain rfl:sv = .string s:=hsv
 obtain rfl:=hp7 hR h1 hp
 obtain ⟨x,y,hh,h0,hx,hy⟩:=dg7 hR h1
 obtain rfl:x = .pointer none:=hx
 obtain rfl:y = .slice none 0 0:=hy
 have c0:w.cell? ⟨M.phi id,0,none⟩ = some (.pointer none):=by rw [Lib.cell_of_heap hh]; rfl
 have f0:w.frozen? ⟨M.phi id,0,none⟩ = false:=Lib.frozen_of_heap hh _
 have sh:w.shape? (M.phi id) = some (85,2):=by simp [World.shape?,hh]
 have hlt:=eg7 h1
 obtain ⟨s1,s2⟩:=vcb7 hR h1 (o:=0) (by decide) hp rfl
 have h2:da7 (ia7 H id (ko7 (.ptr id 1 0 0) .nils)) id = ko7 (.ptr id 1 0 0) .nils:=by rw [ec7,if_pos ⟨rfl,hlt⟩]
 have s1:Rel E M (ia7 H id (ko7 (.ptr id 1 0 0) .nils)) (w.setCell ⟨M.phi id,0,none⟩ (.pointer (some ⟨M.phi id,0,none⟩))):=s1
 have s2:Kp M H w M (ia7 H id (ko7 (.ptr id 1 0 0) .nils)) (w.setCell ⟨M.phi id,0,none⟩ (.pointer (some ⟨M.phi id,0,none⟩))):=s2
 obtain ⟨w1,hw1⟩:∃ w1,w1 = w.setCell ⟨M.phi id,0,none⟩ (.pointer (some ⟨M.phi id,0,none⟩)):=⟨_,rfl⟩
 rw [← hw1] at s1 s2
 obtain ⟨H1,hH1⟩:∃ H1,H1 = ia7 H id (ko7 (.ptr id 1 0 0) .nils):=⟨_,rfl⟩
 rw [← hH1] at s1 s2 h2
 have hl1:H1.length = H.length:=by rw [hH1,db7]
 obtain ⟨M',w',v',r0,r1,r2,r3⟩:∃ M' w' v',(Builtin.append_ #[38,9] 38 #[.slice none 0 0, .string s]).run Try.prog w1 = .ok v' w' ∧ Rel E M' (H1 ++ [bn7 (byI s)]) w' ∧ Kp M H1 w1 M' (H1 ++ [bn7 (byI s)]) w' ∧ Con M' (H1 ++ [bn7 (byI s)]) w' (.h H1.length 0 s.size) v' :=
  ov7 qq7 s1 38 9 5 38 (by kernel_rfl) (by kernel_rfl) ⟨by kernel_rfl,by kernel_rfl,by kernel_rfl⟩ hs
 have h2':da7 (H1 ++ [bn7 (byI s)]) id = ko7 (.ptr id 1 0 0) .nils:=by rw [xg7,if_neg (by omega)]; exact h2
 have hp1:=s2 _ _ hp
 have hp':=r2 _ _ hp1
 have hpe:M'.phi id = M.phi id:=by
  have:=hp7 r1 h2' hp'
  simpa using this.symm
 obtain ⟨x1,y1,hh1, -, -,hy1⟩:=dg7 s1 h2
 obtain rfl:y1 = .slice none 0 0:=hy1
 obtain ⟨x',y',hh',h0', -, -⟩:=dg7 r1 h2'
 rw [hpe] at hh'
 obtain ⟨t1,t2⟩:=vcb7 r1 h2' (o:=1) (by decide) r3 r3.1.2
 rw [hpe] at t1 t2
 have c1:w1.cell? ⟨M.phi id,1,none⟩ = some (.slice none 0 0):=by rw [Lib.cell_of_heap hh1]; rfl
 have c2:w'.cell? ⟨M.phi id,1,none⟩ = some y':=by rw [Lib.cell_of_heap hh']; rfl
 have f2:w'.frozen? ⟨M.phi id,1,none⟩ = false:=Lib.frozen_of_heap hh' _
 obtain ⟨cap',cur',ad',rfl, -⟩:=(r3.2 _ _ _ _ (show da7 (H1 ++ [bn7 (byI s)]) H1.length = bn7 (byI s) by rw [xg7,if_pos rfl])).2 (by show 0 + s.size = (byI s).length; rw [jj7,Nat.zero_add])
 have hset:ia7 (H1 ++ [bn7 (byI s)]) id (.live false 85 2 (.box (pat [.ptr id 1 0 0, .nils] 1 [.h H1.length 0 s.size]))) = ia7 H id (ko7 (.ptr id 1 0 0) (.h H.length 0 s.size)) ++ [bn7 (byI s)]:=by
  rw [ps7 (by omega),hH1,jt7,db7]; rfl
 rw [hset] at t1 t2
 have HF:=hid (And.intro t1 (And.intro (Kp.trans s2 (Kp.trans r2 t2)) hK))
 have HL:H.length ≤ (ia7 H id (ko7 (.ptr id 1 0 0) (.h H.length 0 s.size)) ++ [bn7 (byI s)]).length:=by rw [List.length_append,db7]; omega
 have HR0:=hid r0
 have HW1:=hid hw1
 clear hK hR hp hh h0 h0' r1 r2 r3 s1 s2 t1 t2 h1 h2 h2' hpe r0 hset hH1 hl1 hh' hh1 hp1 hp' hlt hw1
 go_enter Try.func24,Try.ntmps24
 go_wp2_with (go_at_call 57; refine (hib7 _ _ c0 sh f0).mono ?_)
 rintro e w2 ⟨rfl,hw2⟩
 rw [← HW1.out] at hw2
 subst hw2
 go_wp2_with (at_builtin; refine ty7 _ rfl _ _ 38 9 rfl rfl rfl HR0.out ?_)
 refine bodyPost_ret (results_tmp2 rfl _ _ _) rfl ?_
 obtain ⟨f1,f3,f4⟩:=HF.out
 exact ⟨M',_, .tup [.c (I6 s.size), .c .junk],_,rfl,f1,f3,⟨[.int .i64 s.size, .nilIface],rfl,_,_,rfl,rfl,_,_,rfl,trivial,rfl⟩,fun g hg=>(by cases hg),HL,f4⟩
theorem frb7 {E:Env} {M:Mp} {H:List Root} {w w':World} (h:Rel E M H w) {id:Nat} {t:TypeId} {sz:Nat} {r:Row} (hr:da7 H id = .live false t sz r) (hg:w.grownBy w' (some (M.phi id))):Rel E M (ia7 H id .dead) w' ∧ Kp M H w M (ia7 H id .dead) w':=by
 have hid:=eg7 hr
 have hrho:∀ b,M.rho b → w'.heap[b]? = w.heap[b]? := fun b hb=>hg.block b (h.rlt b hb) fun e=>h.thaw _ _ _ _ hr (by cases e; exact hb)
 have htau:∀ b q,M.tau b = some q → w'.heap[b]? = w.heap[b]? := fun b q hq=>hg.block b (h.tau.lt hq) fun e=>by cases e; exact h.tau.row _ _ _ _ _ _ _ hq hr rfl
 have hoth:∀ {j:Nat} {fz:Bool} {t2:TypeId} {s2:Nat} {r2:Row},da7 (ia7 H id .dead) j = .live fz t2 s2 r2 → da7 H j = .live fz t2 s2 r2 ∧ j ≠ id:=fun {j fz t2 s2 r2} hj=>by
  rw [ec7] at hj
  by_cases e:j = id
  ·rw [if_pos ⟨e,hid⟩] at hj; cases hj
  ·rw [if_neg (fun h=>e h.1)] at hj; exact ⟨hj,e⟩
 have hblk:∀ {j:Nat} {fz:Bool} {t2:TypeId} {s2:Nat} {r2:Row},da7 H j = .live fz t2 s2 r2 → j ≠ id → w'.heap[M.phi j]? = w.heap[M.phi j]? := fun {j fz t2 s2 r2} hj hne=>hg.block _ (h.lt hj) fun e=>by
  have e:=Option.some.inj e
  cases fz with
  | false=>exact hne (h.inj _ _ _ _ _ _ _ _ hj hr e)
  | true =>
   have:=h.froz _ _ _ _ hj
   rw [e] at this
   exact h.thaw _ _ _ _ hr this
 have hk:Kp M H w M (ia7 H id .dead) w':=by
  intro a v c
  cases a with
  | ptr id2 n i o=>exact ⟨⟨by rw [db7]; exact c.1.1,c.1.2⟩,fun fz t2 s2 r2 hj=>c.2 _ _ _ _ (hoth hj).1⟩
  | h id2 st len =>
   refine ⟨⟨by rw [db7]; exact c.1.1,c.1.2⟩,fun fz t2 s2 r2 hj => ?_⟩
   obtain ⟨hj,hne⟩:=hoth hj
   obtain ⟨c1,c2⟩:=c.2 _ _ _ _ hj
   refine ⟨c1,fun hn => ?_⟩
   obtain ⟨cap,cur,ad,k1,k2,k3,k4,k5⟩:=c2 hn
   exact ⟨cap,cur,ad,k1,k2,k3,by rw [hblk hj hne]; exact k4,k5⟩
  | ws=>exact WSl.keep (im7.of rfl htau) c
  | wu=>obtain ⟨n,hb',c⟩:=c; exact ⟨n,hb',WSl.keep (im7.of rfl htau) c⟩
  | wp=>exact WPt.keep (im7.of rfl htau) c
  | junk=>trivial
  | _=>exact ye7.keep hrho (fun _ h=>h) c
 have hW:E.W0.heap.size ≤ w.heap.size:=h.bel.size
 refine ⟨⟨⟨hg.os.trans h.bel.os,hg.tape.trans h.bel.tape,hg.output.trans h.bel.output,Nat.le_trans h.bel.size hg.size,fun k hk=>by
   rw [hg.block k (by omega) (fun e=>by have:=h.low _ _ _ _ _ hr; cases e; omega)]
   exact h.bel.block k hk⟩,fun j fz t2 s2 r2 hj=>h.low _ _ _ _ _ (hoth hj).1,fun j fz t2 s2 r2 hj => ?_,fun j t2 s2 r2 hj=>h.froz _ _ _ _ (hoth hj).1,fun j t2 s2 r2 hj=>h.thaw _ _ _ _ (hoth hj).1,
  fun i j t1 s1 r1 t2 s2 r2 hi hj he=>h.inj _ _ _ _ _ _ _ _ (hoth hi).1 (hoth hj).1 he,fun b hb=>Nat.lt_of_lt_of_le (h.rlt b hb) hg.size,h.src, ?_⟩,hk⟩
 ·obtain ⟨hj,hne⟩:=hoth hj
  exact (h.row _ _ _ _ _ hj).keep hk hrho (fun _ h=>h) (hblk hj hne)
 ·exact h.tau.keep rfl htau (fun b q hq=>(h.tau.new b q hq).2) fun b q j fz t2 s2 r2 hq hj=>h.tau.row _ _ _ _ _ _ _ hq (hoth hj).1
theorem rab7 {w:World} {p:Addr} (n:Nat):w.grownBy (w.drew.freeze p n) (some p.block):=by
 unfold World.freeze
 split
 ·exact ⟨rfl,rfl,rfl,Nat.le_refl _,fun _ _ _=>rfl⟩
 ·exact ⟨rfl,rfl,rfl,by simp,fun k _ hk=>by
   simp only [Array.getElem?_modify]
   rw [if_neg (fun e=>hk (by rw [e]))]
   rfl⟩
theorem krb7 {P:Program} {e:TypeId} (hc:P.cellsOf e = 1) (count o n:Nat) (hn:o + n ≤ count):liesAt P P.depth e count o e n = true:=by
 have hd:P.depth = (2 * (P.types.size + Made.depth) + 1) + 1:=rfl
 rw [hd]
 simp only [liesAt,Bool.or_eq_true]
 left
 rw [hd]
 simp [rowAt,hc,hn,sameLayout]
 exact .inl (Nat.mod_one o)
theorem wxb7 {w:World} {g o cells:Nat} {l:List UInt8} (hsh:w.shape? g = some (5,cells)) (h0:l ≠ []) (hn:o + l.length ≤ cells) (h63:l.length ≤ 1099511627776) (hcell:∀ j x,l[j]? = some x → w.cell? ((⟨g,o,none⟩:Addr).add j) = some (.int .u8 x.toNat)) :
  (Builtin.unsafeString_ #[128,3] 9 #[.pointer (some ⟨g,o,none⟩), .int .i64 l.length]).run Try.prog w = .ok (.string (S l)) (w.freeze ⟨g,o,none⟩ l.length):=by
 have hl:l.length ≠ 0:=by simpa using h0
 have hc:(Try.prog).cellsOf 5 = 1:=by kernel_rfl
 have hlb:=Lib.run_loadBytes (P:=Try.prog) w l ⟨g,o,none⟩ .empty hcell
 have hlies:=krb7 (P:=Try.prog) hc (cells / (Try.prog).cellsOf 5) o l.length (by rw [hc,Nat.div_one]; exact hn)
 have h63' : ¬ (9223372036854775807:Int) < (l.length:Int):=by omega
 have hdef:Builtin.unsafeString_ #[128,3] 9 #[.pointer (some ⟨g,o,none⟩), .int .i64 l.length] =
   (do
    let n ← asInt (.int .i64 l.length)
    if n < 0 then runtimePanic (.error "unsafe.String: len out of range")
    if n > IntKind.i64.max then unsupported (.unsafePointer "String: a length above the largest int")
    if n = 0 then pure (.string .empty)
    else if ← variablesAt ⟨g,o,none⟩ (← elemOf 128) n.toNat then do
     let s ← loadBytes ⟨g,o,none⟩ .empty n.toNat
     freeze ⟨g,o,none⟩ n.toNat
     pure (.string s)
    else unsupported (.unsafePointer "String: not so many bytes at ptr")) := rfl
 rw [hdef]
 have hmax:IntKind.i64.max = 9223372036854775807:=rfl
 have hneg : ¬ (l.length:Int) < 0:=by omega
 simp [asInt,asIntOf,hmax,h63',hneg,hl,variablesAt,hsh,elemOf,run_underlying Try.underlying128,hlies,hlb]
theorem xpb7 (L:List UInt8):byI (S L) = L.map fun b=>(b.toNat:Int):=rfl
theorem bbc7 {H:List Root} {id buf n:Nat} {L:List UInt8} {K:RV → List Root → Prop} (h1:da7 H id = ko7 (.ptr id 1 0 0) (.h buf 0 n)) (h2:da7 H buf = bn7 (byI (S L))) (hn:n = L.length) (h0:L ≠ []) (hs:L.length ≤ 1099511627776)
  (hK:K (.c (.str (S L))) (ia7 H buf .dead)):do7 Try.prog none 29 [.c (.ptr id 1 0 0)] H K:=by
 refine ⟨⟨_,_,Try.func29,by kernel_rfl,rfl⟩,fun E M w vs hR hv => ?_⟩
 obtain ⟨p,_,rfl,hp,rfl⟩:=hv
 obtain rfl:=hp7 hR h1 hp
 obtain ⟨x,y,hh,ho,hx,hy⟩:=dg7 hR h1
 subst hn
 have hbl:(byI (S L)).length = L.length:=jj7 _
 obtain ⟨cap,cur,ad,rfl,k1,k2,k3,k4,k5⟩:=(hy.2 _ _ _ _ h2).2 (by show 0 + L.length = (byI (S L)).length; rw [hbl,Nat.zero_add])
 have hL:0 < L.length:=List.length_pos_iff.2 h0
 have hk5:=k5 (by omega)
 rw [Nat.zero_mul,Nat.add_zero] at hk5
 subst hk5
 obtain ⟨cur2,m1,m2,m3,m4,m5,m6⟩:=hR.row _ _ _ _ _ h2
 rw [k3] at m1
 cases m1
 have hcell:∀ j x,L[j]? = some x → w.drew.cell? ((⟨M.phi buf,M.off buf,none⟩:Addr).add j) = some (.int .u8 x.toNat):=fun j x hj=>by
  obtain ⟨hjl,rfl⟩:=List.getElem?_eq_some_iff.1 hj
  obtain ⟨v,v1,v2,v3⟩:=m6 j (by show j < (byI (S L)).length; rw [hbl]; exact hjl) 0 Nat.one_pos
  have v4:v = .int .u8 ((byI (S L)).getD j 0):=v3
  rw [xpb7,List.getD_eq_getElem?_getD,List.getElem?_map,hj] at v4
  rw [Addr.add_lit,Lib.cell_of_heap (w:=w.drew) k3]
  rw [Nat.mul_one,Nat.add_zero] at v1
  rw [v1,v4]; rfl
 have hsh:w.drew.shape? (M.phi buf) = some (5,cur.size):=by
  have hg':w.drew.heap[M.phi buf]? = some (.cells cur 5 (0,0)):=k3
  simp [World.shape?,hg']
 have hUS:=wxb7 (w:=w.drew) (g:=M.phi buf) (o:=M.off buf) (l:=L) hsh h0 (by have:M.off buf + (0 + cap) * 1 = cur.size:=k4; omega) hs hcell
 have hSD:(Builtin.unsafeSliceData_ #[38] 128 #[.slice (some ⟨M.phi buf,M.off buf,none⟩) L.length cap]).run Try.prog w.drew = .ok (.pointer (some ⟨M.phi buf,M.off buf,none⟩)) w.drew:=Lib.run_unsafeSliceData_row _ _ _ _ _ _ (by omega)
 have c1:w.drew.cell? ⟨M.phi id,1,none⟩ = some (.slice (some ⟨M.phi buf,M.off buf,none⟩) L.length cap):=by
  rw [Lib.cell_of_heap (w:=w.drew) hh]; rfl
 obtain ⟨s1,s2⟩:=frb7 (w':=w.drew.freeze ⟨M.phi buf,M.off buf,none⟩ L.length) hR h2 (rab7 (w:=w) (p:=⟨M.phi buf,M.off buf,none⟩) L.length)
 have HF:=hid (And.intro s1 (And.intro s2 hK))
 have HL:H.length ≤ (ia7 H buf .dead).length:=by rw [db7]; exact Nat.le_refl _
 clear hK hR hp hx hy hh ho hbl k1 k2 k3 k4 k5 m2 m3 m4 m5 m6 hcell hsh s1 s2 h1 h2
 have mixed:(Try.prog).follows .mixedOrders = true:=by kernel_rfl
 go_enter Try.func29,Try.ntmps29
 go_wp2
 go_region_o
 all_goals (go_wp2; go_ret; obtain ⟨f1,f3,f4⟩:=HF.out; exact ⟨M,_, .c (.str (S L)),_,rfl,f1,f3,rfl,fun g hg=>(by cases hg),HL,f4⟩)
end Go.Proofs.Ytabadfkikdefeaa.Ab
namespace Go.Proofs.Ytabadfkikdefeaa.Ab
open Go.RowKit Go.Lib
theorem qtb7 (a b:List UInt8):byI (S a) ++ byI (S b) = byI (S (a ++ b)):=by rw [xpb7,xpb7,xpb7,List.map_append]
def scb7 (s:we7) (l:List UInt8):List Root :=
 [.live false 31 5 (.box (qf7 s)),ko7 (.ptr 1 1 0 0) (.h 3 0 l.length), .live false 2 1 (.ints .i64 [s.cost]),bn7 (byI (S l)), .live false 2 1 (.ints .i64 [(s.plan.trucks.length:Int)])]
def jqb7 (s:we7) (l:List UInt8) (k j:Nat):List Root:=scb7 s l ++ [.live false 82 1 (.box [vv7 (ni7 s.plan k)]), .live false 2 1 (.ints .i64 (tCells (ni7 s.plan k) (mu7 s.times k) j))]
def uob7 (s:we7) (l:List UInt8):List Root:=scb7 s l ++ [.live false 2 1 (.ints .i64 [(s.plan.bikes.length:Int)])]
def arb7 (s:we7) (l:List UInt8) (k j:Nat):List Root:=uob7 s l ++ [.live false 73 2 (.box [I6 (uh7 s.plan k).sat,eh7 (uh7 s.plan k).stops]), .live false 58 3 (.box [I6 (sj7 s.times k).out,eh7 (sj7 s.times k).starts,I6 (sj7 s.times k).back]), .live false 2 1 (.ints .i64 (kCells (uh7 s.plan k) (sj7 s.times k) j))]
theorem pt7 {H:List Root} {id buf n:Nat} {l m:List UInt8} {K:RV → List Root → Prop} (h1:da7 H id = ko7 (.ptr id 1 0 0) (.h buf 0 n)) (h2:da7 H buf = bn7 (byI (S l))) (hn:n = l.length) (hs:n + m.length ≤ 1099511627776)
  (hK:K (.tup [.c (I6 m.length), .c .junk]) (ia7 (ia7 H buf (bn7 (byI (S (l ++ m))))) id (ko7 (.ptr id 1 0 0) (.h buf 0 (l ++ m).length)))):do7 Try.prog none 24 [.c (.ptr id 1 0 0), .c (.str (S m))] H K:=by
 refine upb7 h1 h2 (by rw [hn]; exact (jj7 (S l)).symm) hs ?_
 rw [qtb7]
 rw [List.length_append, ← hn] at hK
 exact hK
theorem sheet_p {s:we7} (h:od7 s.plan s.times s.cost):PCall Try.prog 8 [.agg (qf7 s)] (fun r=>r = .c (.str (S (su7 s.plan s.times s.cost)))):=by
 refine ug7 qq7 (by kernel_rfl) (fun n=>match n with | 11=>([0,1,2,3,4,5,6,7,8,10,9,11,12,13,14],2,none) | _=>([],0,none)) Try.func8 rfl (by kernel_rfl) Try.ntmps8 (congrArg Array.toList Try.results8) (by kernel_rfl) (by simp) ?_
 have hc:=h.c
 have hnt:wa7 (s.plan.trucks.length:Int):=wn h.nt
 have hnb:wa7 (s.plan.bikes.length:Int):=wn h.nb
 have hnn:=h.nt
 have hbb:=h.nb
 have hhd:=h.headL
 have hml:=h.midL
 have l1:=cbb7 [112,108,97,110] [s.cost]
 have l2:=dn7 hc [112,108,97,110]
 have l3:=dn7 hnt [116,114,117,99,107,115]
 simp only [List.length_cons,List.length_nil] at l2 l3
 simp -implicitDefEqProofs only [go_sem, ↓reduceIte,reduceCtorEq,Nat.reduceAdd,Nat.reduceLT,Nat.reduceEqDiff,Nat.reduceMul,Nat.reduceLeDiff,Nat.reduceSub,qf7,ok7,fi7]
 refine ah7 (pu7 (nm:=[112,108,97,110]) (l:=[s.cost]) (by simp) (by simp) (fun v hv=>by rw [List.mem_singleton.1 hv]; exact hc)) ⟨rfl,⟨rfl,rfl⟩,trivial⟩ (by simp only [fh7,pp7,gn7,frz,da7]; rw [vd7 (by rfl)]) (fun r h=>by subst h; rfl) ?_
 rintro r rfl
 refine elb7 rfl ⟨l1,by rw [klb7]; omega⟩ ?_
 simp -implicitDefEqProofs only [go_sem, ↓reduceIte,reduceCtorEq,Nat.reduceAdd,Nat.reduceLT,Nat.reduceEqDiff,Nat.reduceMul,Nat.reduceLeDiff,Nat.reduceSub,ko7,bn7,klb7]
 refine ah7 (pu7 (nm:=[116,114,117,99,107,115]) (l:=[(s.plan.trucks.length:Int)]) (by simp) (by simp) (fun v hv=>by rw [List.mem_singleton.1 hv]; exact hnt)) ⟨rfl,⟨rfl,rfl⟩,trivial⟩ (by simp only [fh7,pp7,gn7,frz,da7]; rw [vd7 (by rfl)]) (fun r h=>by subst h; rfl) ?_
 rintro r rfl
 refine pt7 rfl rfl rfl (by omega) ?_
 simp -implicitDefEqProofs only [go_sem, ↓reduceIte,reduceCtorEq,Nat.reduceAdd,Nat.reduceLT,Nat.reduceEqDiff,Nat.reduceMul,Nat.reduceLeDiff,Nat.reduceSub,ko7,bn7]
 refine ee7 (ι:=Nat) [1,3,29,30] [31] (fun k=>k ≤ s.plan.trucks.length) (fun k=>[.c (I6 k)]) (fun k=>scb7 s (hn7 s.plan s.cost ++ ge7 s.plan s.times k)) (fun k=>s.plan.trucks.length - k) (by kernel_rfl) ⟨0,Nat.zero_le _,rfl,(by rw [show ge7 s.plan s.times 0 = [] from rfl,List.append_nil]; rfl)⟩ (fun _ _=>⟨rfl,rfl,rfl,rfl⟩) ?_
 intro k hk
 have htr:=h.trucksL k
 have htk:=h.truckL k
 have htk':(ze7 [] (tCells (ni7 s.plan k) (mu7 s.times k) (ni7 s.plan k).length)).length ≤ 1980023:=htk
 have hnx:hn7 s.plan s.cost ++ ge7 s.plan s.times (k + 1) = (hn7 s.plan s.cost ++ ge7 s.plan s.times k) ++ ze7 [] (tCells (ni7 s.plan k) (mu7 s.times k) (ni7 s.plan k).length):=by rw [ei7, ← List.append_assoc]; rfl
 have hle:k = s.plan.trucks.length → hn7 s.plan s.cost ++ ge7 s.plan s.times k ++ ze7 [98,105,107,101,115] [(s.plan.bikes.length:Int)] = kbb7 s.plan s.times s.cost:=fun e=>by subst e; rfl
 have hal:(hn7 s.plan s.cost ++ ge7 s.plan s.times k).length ≤ 198002300056:=by rw [List.length_append]; omega
 generalize hn7 s.plan s.cost ++ ge7 s.plan s.times k = acc at hnx hle hal
 simp -implicitDefEqProofs only [go_sem, ↓reduceIte,reduceCtorEq,Nat.reduceAdd,Nat.reduceLT,Nat.reduceEqDiff,Nat.reduceMul,Nat.reduceLeDiff,Nat.reduceSub,scb7,ko7,bn7,qf7,ok7,fi7]
 refine ⟨fun h1 => ?_,fun h1 => ?_⟩
 ·have hkl:(ni7 s.plan k).length ≤ 30000:=(h.truck k).1
  refine ⟨by omega, ?_⟩
  refine ee7 (ι:=Nat) [1,3,4,29,30,31,41,42] [6,43] (fun j=>j ≤ (ni7 s.plan k).length) (fun j=>[.c (.h 6 0 (tCells (ni7 s.plan k) (mu7 s.times k) j).length), .c (I6 j)]) (fun j=>jqb7 s acc k j) (fun j=>(ni7 s.plan k).length - j) (by kernel_rfl) ⟨0,Nat.zero_le _,rfl,rfl⟩ (fun _ _=>⟨rfl,rfl,rfl,rfl⟩) ?_
  intro j hj
  have hlen:=ac7 (ni7 s.plan k) (mu7 s.times k) j
  simp -implicitDefEqProofs only [go_sem, ↓reduceIte,reduceCtorEq,Nat.reduceAdd,Nat.reduceLT,Nat.reduceEqDiff,Nat.reduceMul,Nat.reduceLeDiff,Nat.reduceSub,jqb7,scb7,ko7,bn7,qf7,ok7,fi7]
  refine ⟨fun h3 => ?_,fun h3 => ?_⟩
  ·refine ⟨by omega,kmb7 (stb7 (t:=s.times) (k:=k) (by omega)) (by simp -implicitDefEqProofs only [go_sem, ↓reduceIte,reduceCtorEq,Nat.reduceAdd,Nat.reduceLT,Nat.reduceEqDiff,Nat.reduceMul,Nat.reduceLeDiff,Nat.reduceSub]) rfl rfl ?_⟩
   rintro r rfl
   try simp -implicitDefEqProofs only [go_sem, ↓reduceIte,reduceCtorEq,Nat.reduceAdd,Nat.reduceLT,Nat.reduceEqDiff,Nat.reduceMul,Nat.reduceLeDiff,Nat.reduceSub]
   refine bh7 (xqb7 (by omega)) (by simp -implicitDefEqProofs only [go_sem, ↓reduceIte,reduceCtorEq,Nat.reduceAdd,Nat.reduceLT,Nat.reduceEqDiff,Nat.reduceMul,Nat.reduceLeDiff,Nat.reduceSub]) rfl (fun r h=>by subst h; rfl) ?_
   rintro r rfl
   simp -implicitDefEqProofs only [go_sem, ↓reduceIte,reduceCtorEq,Nat.reduceAdd,Nat.reduceLT,Nat.reduceEqDiff,Nat.reduceMul,Nat.reduceLeDiff,Nat.reduceSub]
   refine ⟨by omega,⟨by omega,by omega⟩,j + 1,by omega, ?_, ?_,by omega⟩
   ·rw [ac7,ac7,show 1 + 3 * (j + 1) = 1 + 3 * j + 3 by omega]; rfl
   ·rw [gh7]; rfl
  ·obtain rfl:j = (ni7 s.plan k).length:=by omega
   have hcw:=h.tCells k (ni7 s.plan k).length
   refine ah7 (pu7 (nm:=[]) (l:=tCells (ni7 s.plan k) (mu7 s.times k) (ni7 s.plan k).length) (by simp) (by omega) hcw) ⟨rfl,⟨Nat.zero_add _,rfl⟩,trivial⟩ (by simp only [fh7,pp7,gn7,frz,da7]; rw [vd7 rfl]) (fun r h=>by subst h; rfl) ?_
   rintro r rfl
   refine pt7 rfl rfl rfl (by omega) ?_
   refine ⟨⟨by omega,by omega⟩,k + 1,by omega,rfl, ?_,by omega⟩
   rw [hnx]; rfl
 ·obtain rfl:k = s.plan.trucks.length:=by omega
  have hle:=hle rfl
  clear hk htr htk htk' hnx h1
  refine ah7 (pu7 (nm:=[98,105,107,101,115]) (l:=[(s.plan.bikes.length:Int)]) (by simp) (by simp) (fun v hv=>by rw [List.mem_singleton.1 hv]; exact hnb)) ⟨rfl,⟨rfl,rfl⟩,trivial⟩ (by simp only [fh7,pp7,gn7,frz,da7]; rw [vd7 (by rfl)]) (fun r h=>by subst h; rfl) ?_
  rintro r rfl
  have hle2:=congrArg List.length hle
  rw [List.length_append] at hle2
  refine pt7 rfl rfl rfl (by omega) ?_
  rw [hle]
  simp -implicitDefEqProofs only [go_sem, ↓reduceIte,reduceCtorEq,Nat.reduceAdd,Nat.reduceLT,Nat.reduceEqDiff,Nat.reduceMul,Nat.reduceLeDiff,Nat.reduceSub,ko7,bn7]
  refine ee7 (ι:=Nat) [1,3,76,77] [78] (fun k=>k ≤ s.plan.bikes.length) (fun k=>[.c (I6 k)]) (fun k=>uob7 s (kbb7 s.plan s.times s.cost ++ og7 s.plan s.times k)) (fun k=>s.plan.bikes.length - k) (by kernel_rfl) ⟨0,Nat.zero_le _,rfl,(by rw [show og7 s.plan s.times 0 = [] from rfl,List.append_nil]; rfl)⟩ (fun _ _=>⟨rfl,rfl,rfl,rfl⟩) ?_
  intro k hk
  have hbr:=h.bikesL k
  have hbk:=h.bikeL k
  have hbk':(ze7 [] (kCells (uh7 s.plan k) (sj7 s.times k) (uh7 s.plan k).stops.length ++ [(sj7 s.times k).back])).length ≤ 1320089:=hbk
  have hnx:kbb7 s.plan s.times s.cost ++ og7 s.plan s.times (k + 1) = (kbb7 s.plan s.times s.cost ++ og7 s.plan s.times k) ++ ze7 [] (kCells (uh7 s.plan k) (sj7 s.times k) (uh7 s.plan k).stops.length ++ [(sj7 s.times k).back]):=by rw [zj7, ← List.append_assoc]; rfl
  have hen:k = s.plan.bikes.length → kbb7 s.plan s.times s.cost ++ og7 s.plan s.times k ++ [101,110,100,10] = su7 s.plan s.times s.cost:=fun e=>by subst e; rfl
  have hal2:(kbb7 s.plan s.times s.cost ++ og7 s.plan s.times k).length ≤ 400002300056:=by rw [List.length_append]; omega
  have hpos:0 < (kbb7 s.plan s.times s.cost ++ og7 s.plan s.times k).length:=by
   rw [List.length_append,kbb7,List.length_append,List.length_append]
   have:=cbb7 [98,105,107,101,115] [(s.plan.bikes.length:Int)]
   omega
  generalize kbb7 s.plan s.times s.cost ++ og7 s.plan s.times k = ac2 at hnx hen hal2 hpos
  simp -implicitDefEqProofs only [go_sem, ↓reduceIte,reduceCtorEq,Nat.reduceAdd,Nat.reduceLT,Nat.reduceEqDiff,Nat.reduceMul,Nat.reduceLeDiff,Nat.reduceSub,uob7,scb7,ko7,bn7,qf7,ok7,fi7]
  refine ⟨fun h1 => ?_,fun h1 => ?_⟩
  ·have hkl:(uh7 s.plan k).stops.length ≤ 30000:=(h.bike k).1
   refine ⟨by omega,kmb7 (cpb7 (t:=s.times) (k:=k) (by omega)) (by simp -implicitDefEqProofs only [go_sem, ↓reduceIte,reduceCtorEq,Nat.reduceAdd,Nat.reduceLT,Nat.reduceEqDiff,Nat.reduceMul,Nat.reduceLeDiff,Nat.reduceSub]) rfl rfl ?_⟩
   rintro r rfl
   simp -implicitDefEqProofs only [go_sem, ↓reduceIte,reduceCtorEq,Nat.reduceAdd,Nat.reduceLT,Nat.reduceEqDiff,Nat.reduceMul,Nat.reduceLeDiff,Nat.reduceSub]
   refine ee7 (ι:=Nat) [1,3,11,76,77,78,97,98] [12,99] (fun j=>j ≤ (uh7 s.plan k).stops.length) (fun j=>[.c (.h 8 0 (kCells (uh7 s.plan k) (sj7 s.times k) j).length), .c (I6 j)]) (fun j=>arb7 s ac2 k j) (fun j=>(uh7 s.plan k).stops.length - j) (by kernel_rfl) ⟨0,Nat.zero_le _,rfl,rfl⟩ (fun _ _=>⟨rfl,rfl,rfl,rfl⟩) ?_
   intro j hj
   have hlen:=uc7 (uh7 s.plan k) (sj7 s.times k) j
   simp -implicitDefEqProofs only [go_sem, ↓reduceIte,reduceCtorEq,Nat.reduceAdd,Nat.reduceLT,Nat.reduceEqDiff,Nat.reduceMul,Nat.reduceLeDiff,Nat.reduceSub,arb7,uob7,scb7,ko7,bn7,qf7,ok7,fi7]
   refine ⟨fun h3 => ?_,fun h3 => ?_⟩
   ·refine ⟨by omega,bh7 (xqb7 (by omega)) (by simp -implicitDefEqProofs only [go_sem, ↓reduceIte,reduceCtorEq,Nat.reduceAdd,Nat.reduceLT,Nat.reduceEqDiff,Nat.reduceMul,Nat.reduceLeDiff,Nat.reduceSub]) rfl (fun r h=>by subst h; rfl) ?_⟩
    rintro r rfl
    simp -implicitDefEqProofs only [go_sem, ↓reduceIte,reduceCtorEq,Nat.reduceAdd,Nat.reduceLT,Nat.reduceEqDiff,Nat.reduceMul,Nat.reduceLeDiff,Nat.reduceSub]
    refine ⟨by omega,⟨by omega,by omega⟩,j + 1,by omega, ?_, ?_,by omega⟩
    ·rw [uc7,uc7,show 3 + 2 * (j + 1) = 3 + 2 * j + 2 by omega]; rfl
    ·rw [mh7]; rfl
   ·obtain rfl:j = (uh7 s.plan k).stops.length:=by omega
    have hcw:=h.kCells k (uh7 s.plan k).stops.length
    have hrb:=(h.ride k).2.1
    refine ⟨by omega,ah7 (pu7 (nm:=[]) (l:=kCells (uh7 s.plan k) (sj7 s.times k) (uh7 s.plan k).stops.length ++ [(sj7 s.times k).back]) (by simp) (by rw [List.length_append,List.length_singleton]; omega) (fun v hv=>(List.mem_append.1 hv).elim (hcw v) (fun e=>by rw [List.mem_singleton.1 e]; exact hrb))) ⟨rfl,⟨by simp [Row.len],rfl⟩,trivial⟩ (by simp only [fh7,pp7,gn7,frz,da7]; rw [vd7 (by simp)]) (fun r h=>by subst h; rfl) ?_⟩
    rintro r rfl
    refine pt7 rfl rfl rfl (by omega) ?_
    refine ⟨⟨by omega,by omega⟩,k + 1,by omega,rfl, ?_,by omega⟩
    rw [hnx]; rfl
  ·obtain rfl:k = s.plan.bikes.length:=by omega
   have hen:=hen rfl
   refine qw7 (pu7 (nm:=[101,110,100]) (l:=[]) (by simp) (by simp) (fun v hv=>by cases hv)) (by simp -implicitDefEqProofs only [go_sem, ↓reduceIte,reduceCtorEq,Nat.reduceAdd,Nat.reduceLT,Nat.reduceEqDiff,Nat.reduceMul,Nat.reduceLeDiff,Nat.reduceSub]) ⟨_,_,rfl, .inl rfl,_,_,rfl, .inr ⟨_,rfl, .inr (.inr ⟨_,_,rfl⟩)⟩,rfl⟩ (fun r h=>by subst h; rfl) ?_
   rintro r rfl
   refine pt7 rfl rfl rfl (by simp [ze7,lnS]; omega) ?_
   simp -implicitDefEqProofs only [go_sem, ↓reduceIte,reduceCtorEq,Nat.reduceAdd,Nat.reduceLT,Nat.reduceEqDiff,Nat.reduceMul,Nat.reduceLeDiff,Nat.reduceSub,ko7,bn7]
   refine bbc7 (L:=ac2 ++ ze7 [101,110,100] []) rfl rfl rfl (fun e=>by have:=congrArg List.length e; rw [List.length_append,List.length_nil] at this; omega) (by simp [ze7,lnS]; omega) ?_
   simp -implicitDefEqProofs only [go_sem, ↓reduceIte,reduceCtorEq,Nat.reduceAdd,Nat.reduceLT,Nat.reduceEqDiff,Nat.reduceMul,Nat.reduceLeDiff,Nat.reduceSub]
   rw [← hen]; rfl
end Go.Proofs.Ytabadfkikdefeaa.Ab

