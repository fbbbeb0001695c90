/- Texts of the proof, joined: Parse1R, Read, Parse, Reads, Same20, SheetReads, SheetAgain. -/
import Derived.Test.YtabadfkikdefeaaGreatR4
set_option linter.all false
set_option maxRecDepth 100000
set_option maxHeartbeats 6400000
namespace Go.Proofs.YtabadfkikdefeaaGreat.Ab
open Go.RowKit
abbrev tree6 (k:Nat):Tw:=.br 0 4 (.br (k+2) 5 (.br 0 10 .d .no) (.br 0 10 (.br (k+2) 5 .d .no) .no)) (.br 0 10 (.br 0 4 (.br (k+2) 5 .d .no) .no) .no)
abbrev gk7 (a b c d:AV) (e:Int):Root:=.live false 43 5 (.box [a,b,c,d,I6 e])
def gH {α:Type} (id:Nat):List α→AV
 | []=>.nils
 | l=>.h id 0 l.length
theorem mu7 {α:Type}{id:Nat}:gH id ([]:List α) = .nils:=rfl
theorem vh7 {α:Type}{id:Nat}{x:α}{l:List α}:gH id (x::l) = .h id 0 (l.length+1):=rfl
def stA:List ea7→AV
 | []=>.nils
 | l=>.sl l.length 2 fun i j=>nth ((l.map fun s=>[I6 s.sat,I6 s.load]).getD i []) j
def trR:List (List ea7)→Root
 | []=>.dead
 | l=>.live false 124 1 (.gen (l.map fun s=>[stA s]))
def tmR:List (List Int)→Root
 | []=>.dead
 | l=>.live false 78 1 (.gen (l.map fun s=>[ckb7 s]))
def bkR:List ga7→Root
 | []=>.dead
 | l=>.live false 70 2 (.gen (l.map fun b=>[I6 b.sat,ckb7 b.stops]))
def riR:List qa7→Root
 | []=>.dead
 | l=>.live false 136 3 (.gen (l.map fun r=>[I6 r.out,ckb7 r.starts,I6 r.back]))
def pgc7 (A C D:Root) (ws:List (List UInt8×Nat)) (len:Nat) (cost:Int) (a:(List (List ea7)×List (List Int))×Nat):List Root :=
 [A,gk7 (gH 5 a.1.1) .nils (gH 6 a.1.2) .nils cost,C,D,ub7 ws a.2 len,trR a.1.1,tmR a.1.2]
def eyb7 (A C D:Root) (ws:List (List UInt8×Nat)) (len:Nat) (cost:Int) (T:List (List ea7)×List (List Int)) (a:(List ga7×List qa7)×Nat):List Root :=
 [A,gk7 (gH 5 T.1) (gH 7 a.1.1) (gH 6 T.2) (gH 8 a.1.2) cost,C,D,ub7 ws a.2 len,trR T.1,tmR T.2,bkR a.1.1,riR a.1.2]
theorem is7.up {m n:Nat}{R:Root}(h:is7 m R) (hmn:m≤n):is7 n R:=fun k ids hk=>h k ids (by omega)
theorem ta7 {α:Type}{n id:Nat}{ids:List Nat}(l:List α) (h:id<n):by7 n ids (gH id l)=gH id l:=by
 cases l with
 | nil=>rfl
 | cons v l =>
  show mkH 0 _ (rnb7 n ids id)=_
  unfold rnb7
  rw[if_pos h]
  rfl
theorem blb7 {α β γ δ:Type}{m i1 i2 i3 i4:Nat}{a:List α}{b:List β}{c:List γ}{d:List δ}{e:Int}(h1:i1<m) (h2:i2<m) (h3:i3<m) (h4:i4<m):is7 m (gk7 (gH i1 a) (gH i2 b) (gH i3 c) (gH i4 d) e):=by
 intro n ids h
 show Root.live false 43 5 (.box (pkb7 n ids _))=_
 simp only[pkb7,ta7 a (show i1<n by omega),ta7 b (show i2<n by omega),ta7 c (show i3<n by omega),ta7 d (show i4<n by omega)]
 rfl
theorem mb7 (l:List (List ea7)) (m:Nat):is7 m (trR l):=fun _ _ _=>by cases l <;> rfl
theorem nb7 (l:List (List Int)) (m:Nat):is7 m (tmR l):=fun _ _ _=>by cases l <;> rfl
theorem uf7 {α β:Type}{x:Except Stt α}{f:α→Except Stt β}{b:β}(h:tf7 x f = .ok b):∃a,x = .ok a∧f a = .ok b:=by
 cases x with
 | ok a=>exact⟨a,rfl,h⟩
 | error e=>cases h
theorem ysb7 {ws:List (List UInt8×Nat)}{α:Type}{g:α×Nat→Except Stt (α×Nat)}(hg:∀a b,g a = .ok b→b.2≤ws.length):∀(n:Nat) (a b:α×Nat),th7 g n a = .ok b→a.2≤ws.length→b.2≤ws.length
 | 0,a,b,h,ha=>by cases h;exact ha
 | n+1,a,b,h,_=>by
  rw[zi7]at h
  obtain⟨c,h1,h2⟩:=uf7 h
  exact ysb7 hg n c b h2 (hg _ _ h1)
theorem cgb7 {ws:List (List UInt8×Nat)}{i:Nat}{a:(List ea7×List Int)×Nat}(h:it7 ws i = .ok a):a.2≤ws.length:=by
 obtain⟨x,h1,h2⟩:=uf7 h
 refine ysb7 (fun a b hb=>?_) _ _ _ h2 (rd7 h1).2
 obtain⟨y1,-,hb⟩:=uf7 hb
 obtain⟨y2,-,hb⟩:=uf7 hb
 obtain⟨y3,h3,hb⟩:=uf7 hb
 cases hb
 exact (rd7 h3).2
theorem olb7 {ws:List (List UInt8×Nat)}{i:Nat}{a:(ga7×qa7)×Nat}(h:seb7 ws i = .ok a):a.2≤ws.length:=by
 obtain⟨x1,-,h⟩:=uf7 h
 obtain⟨x2,-,h⟩:=uf7 h
 obtain⟨x3,-,h⟩:=uf7 h
 obtain⟨x4,-,h⟩:=uf7 h
 obtain⟨x5,h5,h⟩:=uf7 h
 cases h
 exact (rd7 h5).2
theorem acb7 (l:List ga7) (m:Nat):is7 m (bkR l):=fun _ _ _=>by cases l <;> rfl
theorem uab7 (l:List qa7) (m:Nat):is7 m (riR l):=fun _ _ _=>by cases l <;> rfl
theorem xvb7 [Pan] {A C D:Root}{ws:List (List UInt8×Nat)}{len:Nat}{K:RV→List Root→Prop}(hwn:ws.length≤1000000) (hw:∀w∈ws,(∀c∈w.1,c.toNat<128)) (hA:is7 5 A) (hC:is7 5 C) (hD:is7 5 D)
  (hK:∀r a,bh7 ws = .ok a→K r (eyb7 A C D ws len a.1.cost (a.1.plan.trucks,a.1.times.trucks) ((a.1.plan.bikes,a.1.times.bikes),a.2)))
  (hP:∀B,stb7 A B C D ws len (bh7 ws)) :
  ne7 Tryz.prog none 62 [.c (.ptr 4 1 0 0),.c (.ptr 1 1 0 0)] [A,gk7 .nils .nils .nils .nils 0,C,D,ub7 ws 0 len] K:=by
 refine te7 vc7 (by kernel_rfl) (fun n=>match n with | 6=>([0,1,2,3,6,7,8,9],0,some (.t [5] (tree6 5) [11,12,13,14,15,16,17] [11,12,13,14,15,16,17])) | 12=>([0,1,2,3,6,7,8,9],0,some (.t [7] (tree6 7) [11,12,13,14,15,16,17] [11,12,13,14,15,16,17])) | _=>([],0,none)) Tryz.func62 rfl (by kernel_rfl) Tryz.ntmps62 (congrArg Array.toList Tryz.results62) (by kernel_rfl) (by simp) ?_
 simp -implicitDefEqProofs only [go_sem]
 have hS:bh7 ws=bh7 ws:=rfl
 refine sab7 (by omega) (fun _ i1 h1=>?_) (fun j c hx=>hP _ _ _ (hS.trans (pa7 hx)) _)
 have e1:=fab7 h1
 replace hS:=hS.trans (lb7 h1)
 refine jj7 (by omega) hw (fun cost i2 h2=>?_) (fun j c hx=>hP _ _ _ (hS.trans (pa7 hx)) _)
 replace hS:=hS.trans (lb7 h2)
 obtain⟨b2,c2⟩:=rd7 h2
 simp only at b2 c2
 simp -implicitDefEqProofs only [go_sem,gk7,ub7]
 refine sab7 (by omega) (fun _ i3 h3=>?_) (fun j c hx=>hP _ _ _ (hS.trans (pa7 hx)) _)
 have e3:=fab7 h3
 replace hS:=hS.trans (lb7 h3)
 simp -implicitDefEqProofs only [go_sem,gk7,ub7]
 refine jj7 (by omega) hw (fun n i4 h4=>?_) (fun j c hx=>hP _ _ _ (hS.trans (pa7 hx)) _)
 replace hS:=hS.trans (lb7 h4)
 obtain⟨b4,c4⟩:=rd7 h4
 simp only at b4 c4
 simp -implicitDefEqProofs only [go_sem,gk7,ub7]
 clear h1 h2 h3 h4
 refine se7 (ι:=Nat×((List (List ea7)×List (List Int))×Nat)) 2 [0,1,15] [16] (fun s=>(s.1≤n.toNat∧s.2.1.1.length=s.1∧s.2.1.2.length=s.1∧s.2.2≤ws.length)∧th7 (tg7 ws) n.toNat (([],[]),i4)=th7 (tg7 ws) (n.toNat-s.1) s.2) (fun s=>[.c (I6 s.1)]) (fun s=>pgc7 A C D ws len cost s.2) (fun s=>n.toNat-s.1) (by kernel_rfl) ⟨(0,([],[]),i4),⟨⟨Nat.zero_le _,rfl,rfl,c4⟩,rfl⟩,rfl,rfl⟩ (fun k _=>rfl) ?_
 rintro⟨k,⟨ss,ts⟩,j⟩ ⟨⟨hk,hl1,hl2,hj⟩,he⟩
 simp only at hk hl1 hl2 hj he
 rw[he]at hS
 simp -implicitDefEqProofs only [go_sem,pgc7,gk7,ub7]
 refine⟨fun h=>?_,fun h=>?_⟩
 ·clear hK
  have hn:n.toNat-k=(n.toNat-(k+1))+1:=by omega
  rw[hn,zi7]at he hS
  rcases ss with _ | ⟨s,ss⟩ <;> rcases ts with _ | ⟨v,ts⟩
  rotate_left
  ·simp only[List.length_cons,List.length_nil]at hl1 hl2;omega
  ·simp only[List.length_cons,List.length_nil]at hl1 hl2;omega
  rotate_left
  ·refine osb7 hj hwn hw (hA.up (by decide)) (blb7 (a:=([]:List Nat)) (c:=([]:List Nat)) (i1:=0) (i3:=0) (b:=([]:List Nat)) (d:=([]:List Nat)) (i2:=0) (i4:=0) (by decide) (by decide) (by decide) (by decide)) (hC.up (by decide)) (hD.up (by decide)) (mb7 [] 7) (nb7 [] 7) (fun a ha=>?_) (fun j c hx=>hP _ _ _ (hS.trans (pa7 (pa7 (pa7 hx)))))
   obtain⟨⟨sl,tl⟩,j1⟩:=a
   have bj:=cgb7 ha
   simp only at bj
   rw[show tg7 ws (([],[]),j)=_ from lb7 ha]at he
   have he2:th7 (tg7 ws) n.toNat (([],[]),i4)=th7 (tg7 ws) (n.toNat-(k+1)) ((([]:List (List ea7))++[sl],([]:List (List Int))++[tl]),j1):=he
   clear he hS ha hP
   rcases sl with _ | ⟨z,sl⟩ <;> rcases tl with _ | ⟨u,tl⟩
   ·simp -implicitDefEqProofs only [go_sem,vi7,stH,stR,lH,lR,mu7,vh7,trR,tmR,ub7,gk7,List.length_map]
    and_intros
    any_goals omega
    ·refine⟨(k+1,((([]:List (List ea7))++[[]],([]:List (List Int))++[[]]),j1)),[13,15],⟨⟨by omega,by simp at hl1 ⊢; omega,by simp at hl2 ⊢; omega,bj⟩,he2⟩,⟨rfl,rfl⟩,rfl, ?_,by omega⟩
     rw[hA _ _ (by decide),hC _ _ (by decide),hD _ _ (by decide)]
     rfl
    ·refine⟨(k+1,((([]:List (List ea7))++[[]],([]:List (List Int))++[[]]),j1)),[14,15],⟨⟨by omega,by simp at hl1 ⊢; omega,by simp at hl2 ⊢; omega,bj⟩,he2⟩,⟨rfl,rfl⟩,rfl, ?_,by omega⟩
     rw[hA _ _ (by decide),hC _ _ (by decide),hD _ _ (by decide)]
     rfl
    ·refine⟨(k+1,((([]:List (List ea7))++[[]],([]:List (List Int))++[[]]),j1)),[14,15],⟨⟨by omega,by simp at hl1 ⊢; omega,by simp at hl2 ⊢; omega,bj⟩,he2⟩,⟨rfl,rfl⟩,rfl, ?_,by omega⟩
     rw[hA _ _ (by decide),hC _ _ (by decide),hD _ _ (by decide)]
     rfl
   ·simp -implicitDefEqProofs only [go_sem,vi7,stH,stR,lH,lR,mu7,vh7,trR,tmR,ub7,gk7,List.length_map]
    and_intros
    any_goals omega
    ·refine⟨(k+1,((([]:List (List ea7))++[[]],([]:List (List Int))++[(u::tl)]),j1)),[13,15],⟨⟨by omega,by simp at hl1 ⊢; omega,by simp at hl2 ⊢; omega,bj⟩,he2⟩,⟨rfl,rfl⟩,rfl, ?_,by omega⟩
     rw[hA _ _ (by decide),hC _ _ (by decide),hD _ _ (by decide)]
     rfl
    ·refine⟨(k+1,((([]:List (List ea7))++[[]],([]:List (List Int))++[(u::tl)]),j1)),[14,15],⟨⟨by omega,by simp at hl1 ⊢; omega,by simp at hl2 ⊢; omega,bj⟩,he2⟩,⟨rfl,rfl⟩,rfl, ?_,by omega⟩
     rw[hA _ _ (by decide),hC _ _ (by decide),hD _ _ (by decide)]
     rfl
    ·refine⟨(k+1,((([]:List (List ea7))++[[]],([]:List (List Int))++[(u::tl)]),j1)),[14,15],⟨⟨by omega,by simp at hl1 ⊢; omega,by simp at hl2 ⊢; omega,bj⟩,he2⟩,⟨rfl,rfl⟩,rfl, ?_,by omega⟩
     rw[hA _ _ (by decide),hC _ _ (by decide),hD _ _ (by decide)]
     rfl
   ·simp -implicitDefEqProofs only [go_sem,vi7,stH,stR,lH,lR,mu7,vh7,trR,tmR,ub7,gk7,List.length_map]
    and_intros
    any_goals omega
    ·refine⟨(k+1,((([]:List (List ea7))++[(z::sl)],([]:List (List Int))++[[]]),j1)),[13,15],⟨⟨by omega,by simp at hl1 ⊢; omega,by simp at hl2 ⊢; omega,bj⟩,he2⟩,⟨rfl,rfl⟩,rfl, ?_,by omega⟩
     rw[hA _ _ (by decide),hC _ _ (by decide),hD _ _ (by decide)]
     rfl
    ·refine⟨(k+1,((([]:List (List ea7))++[(z::sl)],([]:List (List Int))++[[]]),j1)),[14,15],⟨⟨by omega,by simp at hl1 ⊢; omega,by simp at hl2 ⊢; omega,bj⟩,he2⟩,⟨rfl,rfl⟩,rfl, ?_,by omega⟩
     rw[hA _ _ (by decide),hC _ _ (by decide),hD _ _ (by decide)]
     rfl
    ·refine⟨(k+1,((([]:List (List ea7))++[(z::sl)],([]:List (List Int))++[[]]),j1)),[14,15],⟨⟨by omega,by simp at hl1 ⊢; omega,by simp at hl2 ⊢; omega,bj⟩,he2⟩,⟨rfl,rfl⟩,rfl, ?_,by omega⟩
     rw[hA _ _ (by decide),hC _ _ (by decide),hD _ _ (by decide)]
     rfl
   ·simp -implicitDefEqProofs only [go_sem,vi7,stH,stR,lH,lR,mu7,vh7,trR,tmR,ub7,gk7,List.length_map]
    and_intros
    any_goals omega
    ·refine⟨(k+1,((([]:List (List ea7))++[(z::sl)],([]:List (List Int))++[(u::tl)]),j1)),[13,15],⟨⟨by omega,by simp at hl1 ⊢; omega,by simp at hl2 ⊢; omega,bj⟩,he2⟩,⟨rfl,rfl⟩,rfl, ?_,by omega⟩
     rw[hA _ _ (by decide),hC _ _ (by decide),hD _ _ (by decide)]
     rfl
    ·refine⟨(k+1,((([]:List (List ea7))++[(z::sl)],([]:List (List Int))++[(u::tl)]),j1)),[14,15],⟨⟨by omega,by simp at hl1 ⊢; omega,by simp at hl2 ⊢; omega,bj⟩,he2⟩,⟨rfl,rfl⟩,rfl, ?_,by omega⟩
     rw[hA _ _ (by decide),hC _ _ (by decide),hD _ _ (by decide)]
     rfl
    ·refine⟨(k+1,((([]:List (List ea7))++[(z::sl)],([]:List (List Int))++[(u::tl)]),j1)),[14,15],⟨⟨by omega,by simp at hl1 ⊢; omega,by simp at hl2 ⊢; omega,bj⟩,he2⟩,⟨rfl,rfl⟩,rfl, ?_,by omega⟩
     rw[hA _ _ (by decide),hC _ _ (by decide),hD _ _ (by decide)]
     rfl
  ·refine osb7 hj hwn hw (hA.up (by decide)) (blb7 (a:=s::ss) (c:=v::ts) (i1:=5) (i3:=6) (b:=([]:List Nat)) (d:=([]:List Nat)) (i2:=0) (i4:=0) (by decide) (by decide) (by decide) (by decide)) (hC.up (by decide)) (hD.up (by decide)) (mb7 (s::ss) 7) (nb7 (v::ts) 7) (fun a ha=>?_) (fun j c hx=>hP _ _ _ (hS.trans (pa7 (pa7 (pa7 hx)))))
   obtain⟨⟨sl,tl⟩,j1⟩:=a
   have bj:=cgb7 ha
   simp only at bj
   rw[show tg7 ws (((s::ss),(v::ts)),j)=_ from lb7 ha]at he
   have he2:th7 (tg7 ws) n.toNat (([],[]),i4)=th7 (tg7 ws) (n.toNat-(k+1)) (((s::ss)++[sl],(v::ts)++[tl]),j1):=he
   clear he hS ha hP
   simp only[List.length_cons]at hl1 hl2
   rcases sl with _ | ⟨z,sl⟩ <;> rcases tl with _ | ⟨u,tl⟩
   ·simp -implicitDefEqProofs only [go_sem,vi7,stH,stR,lH,lR,mu7,vh7,trR,tmR,ub7,gk7,List.length_map]
    and_intros
    any_goals omega
    ·refine⟨(k+1,(((s::ss)++[[]],(v::ts)++[[]]),j1)),[5,6],⟨⟨by omega,by simp at hl1 ⊢; omega,by simp at hl2 ⊢; omega,bj⟩,he2⟩,⟨rfl,rfl⟩,rfl, ?_,by omega⟩
     rw[hA _ _ (by decide),hC _ _ (by decide),hD _ _ (by decide)]
     simp only[List.cons_append,vh7,trR,tmR,List.map_cons,List.map_append,List.map_nil,List.length_cons,List.length_append,List.length_nil]
     rfl
    ·refine⟨(k+1,(((s::ss)++[[]],(v::ts)++[[]]),j1)),[5,6],⟨⟨by omega,by simp at hl1 ⊢; omega,by simp at hl2 ⊢; omega,bj⟩,he2⟩,⟨rfl,rfl⟩,rfl, ?_,by omega⟩
     rw[hA _ _ (by decide),hC _ _ (by decide),hD _ _ (by decide)]
     simp only[List.cons_append,vh7,trR,tmR,List.map_cons,List.map_append,List.map_nil,List.length_cons,List.length_append,List.length_nil]
     rfl
    ·refine⟨(k+1,(((s::ss)++[[]],(v::ts)++[[]]),j1)),[5,6],⟨⟨by omega,by simp at hl1 ⊢; omega,by simp at hl2 ⊢; omega,bj⟩,he2⟩,⟨rfl,rfl⟩,rfl, ?_,by omega⟩
     rw[hA _ _ (by decide),hC _ _ (by decide),hD _ _ (by decide)]
     simp only[List.cons_append,vh7,trR,tmR,List.map_cons,List.map_append,List.map_nil,List.length_cons,List.length_append,List.length_nil]
     rfl
   ·simp -implicitDefEqProofs only [go_sem,vi7,stH,stR,lH,lR,mu7,vh7,trR,tmR,ub7,gk7,List.length_map]
    and_intros
    any_goals omega
    ·refine⟨(k+1,(((s::ss)++[[]],(v::ts)++[(u::tl)]),j1)),[5,6],⟨⟨by omega,by simp at hl1 ⊢; omega,by simp at hl2 ⊢; omega,bj⟩,he2⟩,⟨rfl,rfl⟩,rfl, ?_,by omega⟩
     rw[hA _ _ (by decide),hC _ _ (by decide),hD _ _ (by decide)]
     simp only[List.cons_append,vh7,trR,tmR,List.map_cons,List.map_append,List.map_nil,List.length_cons,List.length_append,List.length_nil]
     rfl
    ·refine⟨(k+1,(((s::ss)++[[]],(v::ts)++[(u::tl)]),j1)),[5,6],⟨⟨by omega,by simp at hl1 ⊢; omega,by simp at hl2 ⊢; omega,bj⟩,he2⟩,⟨rfl,rfl⟩,rfl, ?_,by omega⟩
     rw[hA _ _ (by decide),hC _ _ (by decide),hD _ _ (by decide)]
     simp only[List.cons_append,vh7,trR,tmR,List.map_cons,List.map_append,List.map_nil,List.length_cons,List.length_append,List.length_nil]
     rfl
    ·refine⟨(k+1,(((s::ss)++[[]],(v::ts)++[(u::tl)]),j1)),[5,6],⟨⟨by omega,by simp at hl1 ⊢; omega,by simp at hl2 ⊢; omega,bj⟩,he2⟩,⟨rfl,rfl⟩,rfl, ?_,by omega⟩
     rw[hA _ _ (by decide),hC _ _ (by decide),hD _ _ (by decide)]
     simp only[List.cons_append,vh7,trR,tmR,List.map_cons,List.map_append,List.map_nil,List.length_cons,List.length_append,List.length_nil]
     rfl
   ·simp -implicitDefEqProofs only [go_sem,vi7,stH,stR,lH,lR,mu7,vh7,trR,tmR,ub7,gk7,List.length_map]
    and_intros
    any_goals omega
    ·refine⟨(k+1,(((s::ss)++[(z::sl)],(v::ts)++[[]]),j1)),[5,6],⟨⟨by omega,by simp at hl1 ⊢; omega,by simp at hl2 ⊢; omega,bj⟩,he2⟩,⟨rfl,rfl⟩,rfl, ?_,by omega⟩
     rw[hA _ _ (by decide),hC _ _ (by decide),hD _ _ (by decide)]
     simp only[List.cons_append,vh7,trR,tmR,List.map_cons,List.map_append,List.map_nil,List.length_cons,List.length_append,List.length_nil]
     rfl
    ·refine⟨(k+1,(((s::ss)++[(z::sl)],(v::ts)++[[]]),j1)),[5,6],⟨⟨by omega,by simp at hl1 ⊢; omega,by simp at hl2 ⊢; omega,bj⟩,he2⟩,⟨rfl,rfl⟩,rfl, ?_,by omega⟩
     rw[hA _ _ (by decide),hC _ _ (by decide),hD _ _ (by decide)]
     simp only[List.cons_append,vh7,trR,tmR,List.map_cons,List.map_append,List.map_nil,List.length_cons,List.length_append,List.length_nil]
     rfl
    ·refine⟨(k+1,(((s::ss)++[(z::sl)],(v::ts)++[[]]),j1)),[5,6],⟨⟨by omega,by simp at hl1 ⊢; omega,by simp at hl2 ⊢; omega,bj⟩,he2⟩,⟨rfl,rfl⟩,rfl, ?_,by omega⟩
     rw[hA _ _ (by decide),hC _ _ (by decide),hD _ _ (by decide)]
     simp only[List.cons_append,vh7,trR,tmR,List.map_cons,List.map_append,List.map_nil,List.length_cons,List.length_append,List.length_nil]
     rfl
   ·simp -implicitDefEqProofs only [go_sem,vi7,stH,stR,lH,lR,mu7,vh7,trR,tmR,ub7,gk7,List.length_map]
    and_intros
    any_goals omega
    ·refine⟨(k+1,(((s::ss)++[(z::sl)],(v::ts)++[(u::tl)]),j1)),[5,6],⟨⟨by omega,by simp at hl1 ⊢; omega,by simp at hl2 ⊢; omega,bj⟩,he2⟩,⟨rfl,rfl⟩,rfl, ?_,by omega⟩
     rw[hA _ _ (by decide),hC _ _ (by decide),hD _ _ (by decide)]
     simp only[List.cons_append,vh7,trR,tmR,List.map_cons,List.map_append,List.map_nil,List.length_cons,List.length_append,List.length_nil]
     rfl
    ·refine⟨(k+1,(((s::ss)++[(z::sl)],(v::ts)++[(u::tl)]),j1)),[5,6],⟨⟨by omega,by simp at hl1 ⊢; omega,by simp at hl2 ⊢; omega,bj⟩,he2⟩,⟨rfl,rfl⟩,rfl, ?_,by omega⟩
     rw[hA _ _ (by decide),hC _ _ (by decide),hD _ _ (by decide)]
     simp only[List.cons_append,vh7,trR,tmR,List.map_cons,List.map_append,List.map_nil,List.length_cons,List.length_append,List.length_nil]
     rfl
    ·refine⟨(k+1,(((s::ss)++[(z::sl)],(v::ts)++[(u::tl)]),j1)),[5,6],⟨⟨by omega,by simp at hl1 ⊢; omega,by simp at hl2 ⊢; omega,bj⟩,he2⟩,⟨rfl,rfl⟩,rfl, ?_,by omega⟩
     rw[hA _ _ (by decide),hC _ _ (by decide),hD _ _ (by decide)]
     simp only[List.cons_append,vh7,trR,tmR,List.map_cons,List.map_append,List.map_nil,List.length_cons,List.length_append,List.length_nil]
     rfl
 ·have h0:n.toNat-k=0:=by omega
  rw[h0]at hS
  replace hS:=hS.trans (lb7 (show th7 (tg7 ws) 0 ((ss,ts),j) = .ok ((ss,ts),j) from rfl))
  clear he
  refine sab7 (by omega) (fun _ i6 h6=>?_) (fun j c hx=>hP _ _ _ (hS.trans (pa7 hx)) _)
  have e6:=fab7 h6
  replace hS:=hS.trans (lb7 h6)
  simp -implicitDefEqProofs only [go_sem,gk7,ub7]
  refine jj7 (by omega) hw (fun m i7 h7=>?_) (fun j c hx=>hP _ _ _ (hS.trans (pa7 hx)) _)
  replace hS:=hS.trans (lb7 h7)
  obtain⟨b7,c7⟩:=rd7 h7
  simp only at b7 c7
  simp -implicitDefEqProofs only [go_sem,gk7,ub7]
  clear h6 h7 hk hl1 hl2 h h0 hj
  refine se7 (ι:=Nat×((List ga7×List qa7)×Nat)) 2 [0,1,43] [44] (fun s=>(s.1≤m.toNat∧s.2.1.1.length=s.1∧s.2.1.2.length=s.1∧s.2.2≤ws.length)∧th7 (dj7 ws) m.toNat (([],[]),i7)=th7 (dj7 ws) (m.toNat-s.1) s.2) (fun s=>[.c (I6 s.1)]) (fun s=>eyb7 A C D ws len cost (ss,ts) s.2) (fun s=>m.toNat-s.1) (by kernel_rfl) ⟨(0,([],[]),i7),⟨⟨Nat.zero_le _,rfl,rfl,c7⟩,rfl⟩,rfl,rfl⟩ (fun k _=>rfl) ?_
  rintro⟨k,⟨bs,rs⟩,j⟩ ⟨⟨hk,hl1,hl2,hj⟩,he⟩
  simp only at hk hl1 hl2 hj he
  rw[he]at hS
  simp -implicitDefEqProofs only [go_sem,eyb7,gk7,ub7]
  refine⟨fun h=>?_,fun h=>?_⟩
  ·clear hK
   have hn:m.toNat-k=(m.toNat-(k+1))+1:=by omega
   rw[hn,zi7]at he hS
   rcases bs with _ | ⟨s,bs⟩ <;> rcases rs with _ | ⟨v,rs⟩
   rotate_left
   ·simp only[List.length_cons,List.length_nil]at hl1 hl2;omega
   ·simp only[List.length_cons,List.length_nil]at hl1 hl2;omega
   rotate_left
   ·refine ryb7 hj hwn hw (hA.up (by decide)) (blb7 (b:=([]:List Nat)) (d:=([]:List Nat)) (i2:=0) (i4:=0) (a:=ss) (c:=ts) (i1:=5) (i3:=6)  (by decide) (by decide) (by decide) (by decide)) (hC.up (by decide)) (hD.up (by decide)) (mb7 ss 9) (nb7 ts 9) (acb7 [] 9) (uab7 [] 9) (fun a ha=>?_) (fun j c hx=>hP _ _ _ (hS.trans (pa7 (pa7 (pa7 hx)))))
    obtain⟨⟨⟨sat,sl⟩,⟨ou,tl,back⟩⟩,j1⟩:=a
    have bj:=olb7 ha
    simp only at bj
    rw[show dj7 ws (([],[]),j)=_ from lb7 ha]at he
    have he2:th7 (dj7 ws) m.toNat (([],[]),i7)=th7 (dj7 ws) (m.toNat-(k+1)) ((([]:List ga7)++[(⟨sat,sl⟩:ga7)],([]:List qa7)++[(⟨ou,tl,back⟩:qa7)]),j1):=he
    clear he hS ha hP
    rcases sl with _ | ⟨z,sl⟩ <;> rcases tl with _ | ⟨u,tl⟩
    ·simp -implicitDefEqProofs only [go_sem,jw7,iR,lH,lR,mu7,vh7,bkR,riR,ub7,gk7,List.length_map]
     and_intros
     any_goals omega
     ·refine⟨(k+1,((([]:List ga7)++[(⟨sat,[]⟩:ga7)],([]:List qa7)++[(⟨ou,[],back⟩:qa7)]),j1)),[18,20],⟨⟨by omega,by simp at hl1 ⊢; omega,by simp at hl2 ⊢; omega,bj⟩,he2⟩,⟨rfl,rfl⟩,rfl, ?_,by omega⟩
      simp only[ta7 _ (show 5<7 by decide),ta7 _ (show 6<7 by decide)]
      rw[hA _ _ (by decide),hC _ _ (by decide),hD _ _ (by decide),mb7 _ 7 _ _ (by decide),nb7 _ 7 _ _ (by decide)]
      rfl
     ·refine⟨(k+1,((([]:List ga7)++[(⟨sat,[]⟩:ga7)],([]:List qa7)++[(⟨ou,[],back⟩:qa7)]),j1)),[19,20],⟨⟨by omega,by simp at hl1 ⊢; omega,by simp at hl2 ⊢; omega,bj⟩,he2⟩,⟨rfl,rfl⟩,rfl, ?_,by omega⟩
      simp only[ta7 _ (show 5<7 by decide),ta7 _ (show 6<7 by decide)]
      rw[hA _ _ (by decide),hC _ _ (by decide),hD _ _ (by decide),mb7 _ 7 _ _ (by decide),nb7 _ 7 _ _ (by decide)]
      rfl
     ·refine⟨(k+1,((([]:List ga7)++[(⟨sat,[]⟩:ga7)],([]:List qa7)++[(⟨ou,[],back⟩:qa7)]),j1)),[19,20],⟨⟨by omega,by simp at hl1 ⊢; omega,by simp at hl2 ⊢; omega,bj⟩,he2⟩,⟨rfl,rfl⟩,rfl, ?_,by omega⟩
      simp only[ta7 _ (show 5<7 by decide),ta7 _ (show 6<7 by decide)]
      rw[hA _ _ (by decide),hC _ _ (by decide),hD _ _ (by decide),mb7 _ 7 _ _ (by decide),nb7 _ 7 _ _ (by decide)]
      rfl
    ·simp -implicitDefEqProofs only [go_sem,jw7,iR,lH,lR,mu7,vh7,bkR,riR,ub7,gk7,List.length_map]
     and_intros
     any_goals omega
     ·refine⟨(k+1,((([]:List ga7)++[(⟨sat,[]⟩:ga7)],([]:List qa7)++[(⟨ou,(u::tl),back⟩:qa7)]),j1)),[18,20],⟨⟨by omega,by simp at hl1 ⊢; omega,by simp at hl2 ⊢; omega,bj⟩,he2⟩,⟨rfl,rfl⟩,rfl, ?_,by omega⟩
      simp only[ta7 _ (show 5<7 by decide),ta7 _ (show 6<7 by decide)]
      rw[hA _ _ (by decide),hC _ _ (by decide),hD _ _ (by decide),mb7 _ 7 _ _ (by decide),nb7 _ 7 _ _ (by decide)]
      rfl
     ·refine⟨(k+1,((([]:List ga7)++[(⟨sat,[]⟩:ga7)],([]:List qa7)++[(⟨ou,(u::tl),back⟩:qa7)]),j1)),[19,20],⟨⟨by omega,by simp at hl1 ⊢; omega,by simp at hl2 ⊢; omega,bj⟩,he2⟩,⟨rfl,rfl⟩,rfl, ?_,by omega⟩
      simp only[ta7 _ (show 5<7 by decide),ta7 _ (show 6<7 by decide)]
      rw[hA _ _ (by decide),hC _ _ (by decide),hD _ _ (by decide),mb7 _ 7 _ _ (by decide),nb7 _ 7 _ _ (by decide)]
      rfl
     ·refine⟨(k+1,((([]:List ga7)++[(⟨sat,[]⟩:ga7)],([]:List qa7)++[(⟨ou,(u::tl),back⟩:qa7)]),j1)),[19,20],⟨⟨by omega,by simp at hl1 ⊢; omega,by simp at hl2 ⊢; omega,bj⟩,he2⟩,⟨rfl,rfl⟩,rfl, ?_,by omega⟩
      simp only[ta7 _ (show 5<7 by decide),ta7 _ (show 6<7 by decide)]
      rw[hA _ _ (by decide),hC _ _ (by decide),hD _ _ (by decide),mb7 _ 7 _ _ (by decide),nb7 _ 7 _ _ (by decide)]
      rfl
    ·simp -implicitDefEqProofs only [go_sem,jw7,iR,lH,lR,mu7,vh7,bkR,riR,ub7,gk7,List.length_map]
     and_intros
     any_goals omega
     ·refine⟨(k+1,((([]:List ga7)++[(⟨sat,(z::sl)⟩:ga7)],([]:List qa7)++[(⟨ou,[],back⟩:qa7)]),j1)),[18,20],⟨⟨by omega,by simp at hl1 ⊢; omega,by simp at hl2 ⊢; omega,bj⟩,he2⟩,⟨rfl,rfl⟩,rfl, ?_,by omega⟩
      simp only[ta7 _ (show 5<7 by decide),ta7 _ (show 6<7 by decide)]
      rw[hA _ _ (by decide),hC _ _ (by decide),hD _ _ (by decide),mb7 _ 7 _ _ (by decide),nb7 _ 7 _ _ (by decide)]
      rfl
     ·refine⟨(k+1,((([]:List ga7)++[(⟨sat,(z::sl)⟩:ga7)],([]:List qa7)++[(⟨ou,[],back⟩:qa7)]),j1)),[19,20],⟨⟨by omega,by simp at hl1 ⊢; omega,by simp at hl2 ⊢; omega,bj⟩,he2⟩,⟨rfl,rfl⟩,rfl, ?_,by omega⟩
      simp only[ta7 _ (show 5<7 by decide),ta7 _ (show 6<7 by decide)]
      rw[hA _ _ (by decide),hC _ _ (by decide),hD _ _ (by decide),mb7 _ 7 _ _ (by decide),nb7 _ 7 _ _ (by decide)]
      rfl
     ·refine⟨(k+1,((([]:List ga7)++[(⟨sat,(z::sl)⟩:ga7)],([]:List qa7)++[(⟨ou,[],back⟩:qa7)]),j1)),[19,20],⟨⟨by omega,by simp at hl1 ⊢; omega,by simp at hl2 ⊢; omega,bj⟩,he2⟩,⟨rfl,rfl⟩,rfl, ?_,by omega⟩
      simp only[ta7 _ (show 5<7 by decide),ta7 _ (show 6<7 by decide)]
      rw[hA _ _ (by decide),hC _ _ (by decide),hD _ _ (by decide),mb7 _ 7 _ _ (by decide),nb7 _ 7 _ _ (by decide)]
      rfl
    ·simp -implicitDefEqProofs only [go_sem,jw7,iR,lH,lR,mu7,vh7,bkR,riR,ub7,gk7,List.length_map]
     and_intros
     any_goals omega
     ·refine⟨(k+1,((([]:List ga7)++[(⟨sat,(z::sl)⟩:ga7)],([]:List qa7)++[(⟨ou,(u::tl),back⟩:qa7)]),j1)),[18,20],⟨⟨by omega,by simp at hl1 ⊢; omega,by simp at hl2 ⊢; omega,bj⟩,he2⟩,⟨rfl,rfl⟩,rfl, ?_,by omega⟩
      simp only[ta7 _ (show 5<7 by decide),ta7 _ (show 6<7 by decide)]
      rw[hA _ _ (by decide),hC _ _ (by decide),hD _ _ (by decide),mb7 _ 7 _ _ (by decide),nb7 _ 7 _ _ (by decide)]
      rfl
     ·refine⟨(k+1,((([]:List ga7)++[(⟨sat,(z::sl)⟩:ga7)],([]:List qa7)++[(⟨ou,(u::tl),back⟩:qa7)]),j1)),[19,20],⟨⟨by omega,by simp at hl1 ⊢; omega,by simp at hl2 ⊢; omega,bj⟩,he2⟩,⟨rfl,rfl⟩,rfl, ?_,by omega⟩
      simp only[ta7 _ (show 5<7 by decide),ta7 _ (show 6<7 by decide)]
      rw[hA _ _ (by decide),hC _ _ (by decide),hD _ _ (by decide),mb7 _ 7 _ _ (by decide),nb7 _ 7 _ _ (by decide)]
      rfl
     ·refine⟨(k+1,((([]:List ga7)++[(⟨sat,(z::sl)⟩:ga7)],([]:List qa7)++[(⟨ou,(u::tl),back⟩:qa7)]),j1)),[19,20],⟨⟨by omega,by simp at hl1 ⊢; omega,by simp at hl2 ⊢; omega,bj⟩,he2⟩,⟨rfl,rfl⟩,rfl, ?_,by omega⟩
      simp only[ta7 _ (show 5<7 by decide),ta7 _ (show 6<7 by decide)]
      rw[hA _ _ (by decide),hC _ _ (by decide),hD _ _ (by decide),mb7 _ 7 _ _ (by decide),nb7 _ 7 _ _ (by decide)]
      rfl
   ·refine ryb7 hj hwn hw (hA.up (by decide)) (blb7 (b:=s::bs) (d:=v::rs) (i2:=7) (i4:=8) (a:=ss) (c:=ts) (i1:=5) (i3:=6)  (by decide) (by decide) (by decide) (by decide)) (hC.up (by decide)) (hD.up (by decide)) (mb7 ss 9) (nb7 ts 9) (acb7 (s::bs) 9) (uab7 (v::rs) 9) (fun a ha=>?_) (fun j c hx=>hP _ _ _ (hS.trans (pa7 (pa7 (pa7 hx)))))
    obtain⟨⟨⟨sat,sl⟩,⟨ou,tl,back⟩⟩,j1⟩:=a
    have bj:=olb7 ha
    simp only at bj
    rw[show dj7 ws (((s::bs),(v::rs)),j)=_ from lb7 ha]at he
    have he2:th7 (dj7 ws) m.toNat (([],[]),i7)=th7 (dj7 ws) (m.toNat-(k+1)) (((s::bs)++[(⟨sat,sl⟩:ga7)],(v::rs)++[(⟨ou,tl,back⟩:qa7)]),j1):=he
    clear he hS ha hP
    simp only[List.length_cons]at hl1 hl2
    rcases sl with _ | ⟨z,sl⟩ <;> rcases tl with _ | ⟨u,tl⟩
    ·simp -implicitDefEqProofs only [go_sem,jw7,iR,lH,lR,mu7,vh7,bkR,riR,ub7,gk7,List.length_map]
     and_intros
     any_goals omega
     ·refine⟨(k+1,(((s::bs)++[(⟨sat,[]⟩:ga7)],(v::rs)++[(⟨ou,[],back⟩:qa7)]),j1)),[7,8],⟨⟨by omega,by simp at hl1 ⊢; omega,by simp at hl2 ⊢; omega,bj⟩,he2⟩,⟨rfl,rfl⟩,rfl, ?_,by omega⟩
      simp only[ta7 _ (show 5<7 by decide),ta7 _ (show 6<7 by decide)]
      rw[hA _ _ (by decide),hC _ _ (by decide),hD _ _ (by decide),mb7 _ 7 _ _ (by decide),nb7 _ 7 _ _ (by decide)]
      simp only[List.cons_append,vh7,bkR,riR,List.map_cons,List.map_append,List.map_nil,List.length_cons,List.length_append,List.length_nil]
      rfl
     ·refine⟨(k+1,(((s::bs)++[(⟨sat,[]⟩:ga7)],(v::rs)++[(⟨ou,[],back⟩:qa7)]),j1)),[7,8],⟨⟨by omega,by simp at hl1 ⊢; omega,by simp at hl2 ⊢; omega,bj⟩,he2⟩,⟨rfl,rfl⟩,rfl, ?_,by omega⟩
      simp only[ta7 _ (show 5<7 by decide),ta7 _ (show 6<7 by decide)]
      rw[hA _ _ (by decide),hC _ _ (by decide),hD _ _ (by decide),mb7 _ 7 _ _ (by decide),nb7 _ 7 _ _ (by decide)]
      simp only[List.cons_append,vh7,bkR,riR,List.map_cons,List.map_append,List.map_nil,List.length_cons,List.length_append,List.length_nil]
      rfl
     ·refine⟨(k+1,(((s::bs)++[(⟨sat,[]⟩:ga7)],(v::rs)++[(⟨ou,[],back⟩:qa7)]),j1)),[7,8],⟨⟨by omega,by simp at hl1 ⊢; omega,by simp at hl2 ⊢; omega,bj⟩,he2⟩,⟨rfl,rfl⟩,rfl, ?_,by omega⟩
      simp only[ta7 _ (show 5<7 by decide),ta7 _ (show 6<7 by decide)]
      rw[hA _ _ (by decide),hC _ _ (by decide),hD _ _ (by decide),mb7 _ 7 _ _ (by decide),nb7 _ 7 _ _ (by decide)]
      simp only[List.cons_append,vh7,bkR,riR,List.map_cons,List.map_append,List.map_nil,List.length_cons,List.length_append,List.length_nil]
      rfl
    ·simp -implicitDefEqProofs only [go_sem,jw7,iR,lH,lR,mu7,vh7,bkR,riR,ub7,gk7,List.length_map]
     and_intros
     any_goals omega
     ·refine⟨(k+1,(((s::bs)++[(⟨sat,[]⟩:ga7)],(v::rs)++[(⟨ou,(u::tl),back⟩:qa7)]),j1)),[7,8],⟨⟨by omega,by simp at hl1 ⊢; omega,by simp at hl2 ⊢; omega,bj⟩,he2⟩,⟨rfl,rfl⟩,rfl, ?_,by omega⟩
      simp only[ta7 _ (show 5<7 by decide),ta7 _ (show 6<7 by decide)]
      rw[hA _ _ (by decide),hC _ _ (by decide),hD _ _ (by decide),mb7 _ 7 _ _ (by decide),nb7 _ 7 _ _ (by decide)]
      simp only[List.cons_append,vh7,bkR,riR,List.map_cons,List.map_append,List.map_nil,List.length_cons,List.length_append,List.length_nil]
      rfl
     ·refine⟨(k+1,(((s::bs)++[(⟨sat,[]⟩:ga7)],(v::rs)++[(⟨ou,(u::tl),back⟩:qa7)]),j1)),[7,8],⟨⟨by omega,by simp at hl1 ⊢; omega,by simp at hl2 ⊢; omega,bj⟩,he2⟩,⟨rfl,rfl⟩,rfl, ?_,by omega⟩
      simp only[ta7 _ (show 5<7 by decide),ta7 _ (show 6<7 by decide)]
      rw[hA _ _ (by decide),hC _ _ (by decide),hD _ _ (by decide),mb7 _ 7 _ _ (by decide),nb7 _ 7 _ _ (by decide)]
      simp only[List.cons_append,vh7,bkR,riR,List.map_cons,List.map_append,List.map_nil,List.length_cons,List.length_append,List.length_nil]
      rfl
     ·refine⟨(k+1,(((s::bs)++[(⟨sat,[]⟩:ga7)],(v::rs)++[(⟨ou,(u::tl),back⟩:qa7)]),j1)),[7,8],⟨⟨by omega,by simp at hl1 ⊢; omega,by simp at hl2 ⊢; omega,bj⟩,he2⟩,⟨rfl,rfl⟩,rfl, ?_,by omega⟩
      simp only[ta7 _ (show 5<7 by decide),ta7 _ (show 6<7 by decide)]
      rw[hA _ _ (by decide),hC _ _ (by decide),hD _ _ (by decide),mb7 _ 7 _ _ (by decide),nb7 _ 7 _ _ (by decide)]
      simp only[List.cons_append,vh7,bkR,riR,List.map_cons,List.map_append,List.map_nil,List.length_cons,List.length_append,List.length_nil]
      rfl
    ·simp -implicitDefEqProofs only [go_sem,jw7,iR,lH,lR,mu7,vh7,bkR,riR,ub7,gk7,List.length_map]
     and_intros
     any_goals omega
     ·refine⟨(k+1,(((s::bs)++[(⟨sat,(z::sl)⟩:ga7)],(v::rs)++[(⟨ou,[],back⟩:qa7)]),j1)),[7,8],⟨⟨by omega,by simp at hl1 ⊢; omega,by simp at hl2 ⊢; omega,bj⟩,he2⟩,⟨rfl,rfl⟩,rfl, ?_,by omega⟩
      simp only[ta7 _ (show 5<7 by decide),ta7 _ (show 6<7 by decide)]
      rw[hA _ _ (by decide),hC _ _ (by decide),hD _ _ (by decide),mb7 _ 7 _ _ (by decide),nb7 _ 7 _ _ (by decide)]
      simp only[List.cons_append,vh7,bkR,riR,List.map_cons,List.map_append,List.map_nil,List.length_cons,List.length_append,List.length_nil]
      rfl
     ·refine⟨(k+1,(((s::bs)++[(⟨sat,(z::sl)⟩:ga7)],(v::rs)++[(⟨ou,[],back⟩:qa7)]),j1)),[7,8],⟨⟨by omega,by simp at hl1 ⊢; omega,by simp at hl2 ⊢; omega,bj⟩,he2⟩,⟨rfl,rfl⟩,rfl, ?_,by omega⟩
      simp only[ta7 _ (show 5<7 by decide),ta7 _ (show 6<7 by decide)]
      rw[hA _ _ (by decide),hC _ _ (by decide),hD _ _ (by decide),mb7 _ 7 _ _ (by decide),nb7 _ 7 _ _ (by decide)]
      simp only[List.cons_append,vh7,bkR,riR,List.map_cons,List.map_append,List.map_nil,List.length_cons,List.length_append,List.length_nil]
      rfl
     ·refine⟨(k+1,(((s::bs)++[(⟨sat,(z::sl)⟩:ga7)],(v::rs)++[(⟨ou,[],back⟩:qa7)]),j1)),[7,8],⟨⟨by omega,by simp at hl1 ⊢; omega,by simp at hl2 ⊢; omega,bj⟩,he2⟩,⟨rfl,rfl⟩,rfl, ?_,by omega⟩
      simp only[ta7 _ (show 5<7 by decide),ta7 _ (show 6<7 by decide)]
      rw[hA _ _ (by decide),hC _ _ (by decide),hD _ _ (by decide),mb7 _ 7 _ _ (by decide),nb7 _ 7 _ _ (by decide)]
      simp only[List.cons_append,vh7,bkR,riR,List.map_cons,List.map_append,List.map_nil,List.length_cons,List.length_append,List.length_nil]
      rfl
    ·simp -implicitDefEqProofs only [go_sem,jw7,iR,lH,lR,mu7,vh7,bkR,riR,ub7,gk7,List.length_map]
     and_intros
     any_goals omega
     ·refine⟨(k+1,(((s::bs)++[(⟨sat,(z::sl)⟩:ga7)],(v::rs)++[(⟨ou,(u::tl),back⟩:qa7)]),j1)),[7,8],⟨⟨by omega,by simp at hl1 ⊢; omega,by simp at hl2 ⊢; omega,bj⟩,he2⟩,⟨rfl,rfl⟩,rfl, ?_,by omega⟩
      simp only[ta7 _ (show 5<7 by decide),ta7 _ (show 6<7 by decide)]
      rw[hA _ _ (by decide),hC _ _ (by decide),hD _ _ (by decide),mb7 _ 7 _ _ (by decide),nb7 _ 7 _ _ (by decide)]
      simp only[List.cons_append,vh7,bkR,riR,List.map_cons,List.map_append,List.map_nil,List.length_cons,List.length_append,List.length_nil]
      rfl
     ·refine⟨(k+1,(((s::bs)++[(⟨sat,(z::sl)⟩:ga7)],(v::rs)++[(⟨ou,(u::tl),back⟩:qa7)]),j1)),[7,8],⟨⟨by omega,by simp at hl1 ⊢; omega,by simp at hl2 ⊢; omega,bj⟩,he2⟩,⟨rfl,rfl⟩,rfl, ?_,by omega⟩
      simp only[ta7 _ (show 5<7 by decide),ta7 _ (show 6<7 by decide)]
      rw[hA _ _ (by decide),hC _ _ (by decide),hD _ _ (by decide),mb7 _ 7 _ _ (by decide),nb7 _ 7 _ _ (by decide)]
      simp only[List.cons_append,vh7,bkR,riR,List.map_cons,List.map_append,List.map_nil,List.length_cons,List.length_append,List.length_nil]
      rfl
     ·refine⟨(k+1,(((s::bs)++[(⟨sat,(z::sl)⟩:ga7)],(v::rs)++[(⟨ou,(u::tl),back⟩:qa7)]),j1)),[7,8],⟨⟨by omega,by simp at hl1 ⊢; omega,by simp at hl2 ⊢; omega,bj⟩,he2⟩,⟨rfl,rfl⟩,rfl, ?_,by omega⟩
      simp only[ta7 _ (show 5<7 by decide),ta7 _ (show 6<7 by decide)]
      rw[hA _ _ (by decide),hC _ _ (by decide),hD _ _ (by decide),mb7 _ 7 _ _ (by decide),nb7 _ 7 _ _ (by decide)]
      simp only[List.cons_append,vh7,bkR,riR,List.map_cons,List.map_append,List.map_nil,List.length_cons,List.length_append,List.length_nil]
      rfl
  ·have h0:m.toNat-k=0:=by omega
   rw[h0]at hS
   replace hS:=hS.trans (lb7 (show th7 (dj7 ws) 0 ((bs,rs),j) = .ok ((bs,rs),j) from rfl))
   refine sab7 (by omega) (fun _ i9 h9=>?_) (fun j c hx=>hP _ _ _ (hS.trans (pa7 hx)) _)
   replace hS:=hS.trans (lb7 h9)
   simp -implicitDefEqProofs only [go_sem,gk7,ub7]
   exact hK _ _ hS
section
variable {P:Program} {ops:Array Oper} {a:Act} {w:World} {o:Oper} {v:Value}
theorem qxb7 {Q:Exit→Act→World→Prop}{l:List Oper}{d:Deferred}(hg:o.guard=none) (hx:(execOp a.eval o).run P w = .ok (.defer d) w) (hn:wpList P ops Q l ({ a with defers:=d::a.defers }.put o.dst undef) w):wpList P ops Q (o::l) a w:=by
 unfold wpList
 rw[if_pos (zp7 hg _)]
 refine .inl ?_
 unfold Oper.wp
 rw[hx]
 exact hn
theorem bib7 [Pan] {ty:Ty}{E:Env}{nt:Nat}{M M0:Mp}{H0:List Root}{w0:World}{σ:AS}{Q:Exit→Act→World→Prop}{l:List Oper}(hT:uh7 P ty) (h:St E nt M σ a w) (h0:Kp M0 H0 w0 M σ.H w) (hd:∀t,o.dst=some t→t<nt) (hP:∀ch w',zx7 E M σ.H w ch w'→Q (.panic ch) a w')
  (hw:kbb7 P ty none none ops σ o (GoK E nt M0 H0 w0 (fun a' w'=>wpList P ops Q l a' w'))):wpList P ops Q (o::l) a w :=
 tcc7 hT h hd hw (fun M' σ' a' w' q1 q2 _ q4=>q4 M' a' w' q1 (h0.trans q2)) hP
theorem St.go {E:Env}{nt:Nat}{M M':Mp}{σ:AS}{H':List Root}{w':World}(h:St E nt M σ a w) (hr:Rel E M' H' w') (hk:Kp M σ.H w M' H' w'):St E nt M' ⟨σ.tm,H'⟩ a w' :=
 ⟨hr,fun t ht=>hk.R (h.tms t ht),h.off,h.sz,h.df⟩
end
def ujc7 (P:Program) (K:RV→List Root→Prop) (E:Env) (M:Mp) (H:List Root) (w:World) (e:Ending) (w':World):Prop :=
 (∃M' H' r v,e = .returned v∧Rel E M' H' w'∧Kp M H w M' H' w'∧ic7 M' H' w' r v∧(∀g,(none:Pu)=some g→bj7 (g.map M.phi) w w')∧H.length≤H'.length∧K r H')∨∃ch,e = .panicked ch∧zx7 E M H w ch w'
abbrev xac7:List ResultVar:=[.cell 4 3,.cell 5 47]
theorem dkb7 {K:RV→List Root→Prop}{E:Env}{d:List Deferred}{M M':Mp}{H:List Root}{w w':World}{σ':AS}{tmps:Array Value}{df:List Deferred}(st:St ⟨E.W0,E.rho0,d,E.ex,E.exk⟩ 33 M' σ' ⟨tmps,df⟩ w') (kp:Kp M H w M' σ'.H w') (hlen:H.length≤σ'.H.length) (h:jec7 ty xac7 K .ret σ'):Leaves Tryz.prog Tryz.f61 tmps (ujc7 Tryz.prog K E M H w) [] .returning w':=by
 obtain⟨v,k1,k2⟩:=as7 vc7 st (fn:=Tryz.f61) (rs:=xac7) (congrArg Array.toList Tryz.results61) h.1
 exact⟨v,k2,.inl ⟨M',σ'.H,_,v,rfl,st.rel.env2,kp,k1,fun g e=>(by cases e),hlen,h.2⟩⟩
abbrev qt7 (p q:Value):Deferred:=⟨.fn (.func 128) #[p,q], #[]⟩
abbrev pfc7 (K:RV→List Root→Prop) (A:Root):Pan:=⟨fun r H'=>∃a c B R,r=dw7 a c∧H'=A::B :: .live false 3 1 (.box [I6 0]) :: .live false 47 1 (.box [I6 0])::R∧∀B R,K (.tup [.c (I6 a),.c (I6 c)]) (A::B::R)⟩
section
variable {K:RV→List Root→Prop} {E:Env} {M M':Mp} {H:List Root} {w w':World} {σ':AS} {tmps:Array Value} {df:List Deferred} {p q:Value}
theorem rdc7 (st:St ⟨E.W0,E.rho0,[qt7 p q],E.ex,E.exk⟩ 33 M' σ' ⟨tmps,df⟩ w') (kp:Kp M H w M' σ'.H w') (hlen:H.length≤σ'.H.length) (h:jec7 ty xac7 K .ret σ'):Leaves Tryz.prog Tryz.f61 tmps (ujc7 Tryz.prog K E M H w) [qt7 p q] .returning w':=by
 refine leaves_cons (f:=128) (args:=#[p,q]) (by simp) (by kernel_rfl) ((vrb7 p q w').mono ?_)
 rintro e u' w'' ⟨⟨vv,rfl⟩,rfl,rfl⟩
 exact dkb7 st kp hlen h
theorem msb7 {A:Root}{ch:List PanicEntry}{w2:World}(st:St ⟨E.W0,E.rho0,[qt7 p q],E.ex,E.exk⟩ 33 M' σ' ⟨tmps,df⟩ w') (kp:Kp M H w M' σ'.H w') (hlen:H.length≤σ'.H.length) (hp:Con M' σ'.H w' (.ptr 2 1 0 0) p) (hq:Con M' σ'.H w' (.ptr 3 1 0 0) q)
  (l4:lk σ'.tm 4=(true,.c (.ptr 2 1 0 0))) (l5:lk σ'.tm 5=(true,.c (.ptr 3 1 0 0))) (hP : @zx7 (pfc7 K A) ⟨E.W0,E.rho0,[qt7 p q],E.ex,E.exk⟩ M' σ'.H w' ch w2):Leaves Tryz.prog Tryz.f61 tmps (ujc7 Tryz.prog K E M H w) [qt7 p q] (.panicking ch) w2:=by
 obtain⟨M2,H2,r,v,rfl,hr,hk,hlen2,hv,a,c,B,R,rfl,rfl,good⟩:=hP
 refine leaves_cons (f:=128) (args:=#[p,q]) (by simp) (by kernel_rfl) ((qnb7 hr (hk _ _ hp) (hk _ _ hq) hv).mono ?_)
 rintro e u' w'' ⟨⟨vv,rfl⟩,rfl,M3,T,r1,r2⟩
 refine dkb7 (st.go r1 (hk.trans r2)) ((kp.trans hk).trans r2) (Nat.le_trans hlen (Nat.le_trans hlen2 (by simp))) ?_
 simp -implicitDefEqProofs only [go_sem,l4,l5]
 exact good _ _
end
abbrev exb7:Root:=gk7 .nils .nils .nils .nils 0
theorem dfc7 {A:Root}{s:List UInt8}{K:RV→List Root→Prop}(hl:s.length≤1000000000000) (hA:is7 5 A)
  (h4:131072<s.length→∀R,K (.tup [.c (I6 0),.c (I6 4)]) (A::exb7::R))
  (h3:¬131072<s.length→np7 s<s.length→∀R,K (.tup [.c (I6 (np7 s)),.c (I6 3)]) (A::exb7::R))
  (hE:¬131072<s.length→¬np7 s<s.length→∀j c,bh7 (jb7 s) = .error (j,c)→∀B R,K (.tup [.c (I6 (vf7 (jb7 s) s.length j)),.c (I6 c)]) (A::B::R))
  (h6:¬131072<s.length→¬np7 s<s.length→∀a,bh7 (jb7 s) = .ok a→a.2<(jb7 s).length→∀B R,K (.tup [.c (I6 (vf7 (jb7 s) s.length a.2)),.c (I6 6)]) (A::B::R))
  (hO:¬131072<s.length→¬np7 s<s.length→∀a,bh7 (jb7 s) = .ok a→¬a.2<(jb7 s).length→∀C D r R,K (.tup [.c (I6 0),.c (I6 0)]) (A::gk7 (gH 5 a.1.plan.trucks) (gH 7 a.1.plan.bikes) (gH 6 a.1.times.trucks) (gH 8 a.1.times.bikes) a.1.cost::C::D::r::trR a.1.plan.trucks::tmR a.1.times.trucks::bkR a.1.plan.bikes::riR a.1.times.bikes::R)) :
  ne7 Tryz.prog none 61 [.c (.str (S s)),.fn 62 [.ptr 1 1 0 0]] [A,exb7] K:=by
 refine⟨⟨_,_,Tryz.func61,by kernel_rfl,rfl⟩,fun E M w vs hrel hc=>calls_of_wp_defers (R:=ujc7 Tryz.prog K E M [A,exb7] w) Tryz.func61 rfl ?_⟩
 rw[Tryz.ntmps61]
 have st:=St.enter (hrel.env []) rfl hc (n:=33) (by simp)
 refine ho7 vc7 (by kernel_rfl) (fun _=>([],0,none)) (by kernel_rfl) st (Kp.refl _ _ _) ?_
 simp -implicitDefEqProofs only [go_sem]
 clear st
 refine fun M1 a1 w1 st k1=>?_
 by_cases c4:131072<s.length
 ·refine ho7 vc7 (by kernel_rfl) (fun _=>([],0,none)) (by kernel_rfl) st k1 ?_
  simp -implicitDefEqProofs only [go_sem]
  refine be7 (ehb7 s hl) (by simp -implicitDefEqProofs only [go_sem]) rfl (fun r h=>by subst h;unfold ti7;rw[if_pos c4];rfl) ?_
  rintro r rfl
  rw[show ti7 s = .tup [.c .nils,.c (I6 0),.c (I6 4)] from if_pos c4]
  simp -implicitDefEqProofs only [go_sem]
  clear st k1
  refine fun M1 a1 w1 st k1=>?_
  refine ho7 vc7 (by kernel_rfl) (fun n=>match n with | 3=>([1],0,some (.t [2] (.br 0 0 (.br 4 2 .d .no) .no) [3] [3])) | _=>([],0,none)) (by kernel_rfl) st k1 ?_
  simp -implicitDefEqProofs only [go_sem]
  clear st k1
  refine⟨fun _=>fun M1 a1 w1 st k1=>?_,fun h=>absurd h (by decide)⟩
  have hd:a1.defers=[]:=st.df
  show Leaves _ _ a1.tmps _ a1.defers _ _
  rw[hd]
  refine dkb7 (d:=[]) (df:=a1.defers) st k1 (by simp) ?_
  simp -implicitDefEqProofs only [go_sem]
  exact h4 c4 _
 by_cases c3:np7 s<s.length
 ·refine ho7 vc7 (by kernel_rfl) (fun _=>([],0,none)) (by kernel_rfl) st k1 ?_
  simp -implicitDefEqProofs only [go_sem]
  refine be7 (ehb7 s hl) (by simp -implicitDefEqProofs only [go_sem]) rfl (fun r h=>by subst h;unfold ti7;rw[if_neg c4,if_pos c3];rfl) ?_
  rintro r rfl
  rw[show ti7 s = .tup [.c .nils,.c (I6 (np7 s)),.c (I6 3)] by unfold ti7;rw[if_neg c4,if_pos c3]]
  simp -implicitDefEqProofs only [go_sem]
  clear st k1
  refine fun M1 a1 w1 st k1=>?_
  refine ho7 vc7 (by kernel_rfl) (fun n=>match n with | 3=>([1],0,some (.t [2] (.br 0 0 (.br 4 2 .d .no) .no) [3] [3])) | _=>([],0,none)) (by kernel_rfl) st k1 ?_
  simp -implicitDefEqProofs only [go_sem]
  clear st k1
  refine⟨fun _=>fun M1 a1 w1 st k1=>?_,fun h=>absurd h (by decide)⟩
  have hd:a1.defers=[]:=st.df
  show Leaves _ _ a1.tmps _ a1.defers _ _
  rw[hd]
  refine dkb7 (d:=[]) (df:=a1.defers) st k1 (by simp) ?_
  simp -implicitDefEqProofs only [go_sem]
  exact h3 c4 c3 _
 refine ho7 vc7 (by kernel_rfl) (fun _=>([],0,none)) (by kernel_rfl) st k1 ?_
 simp -implicitDefEqProofs only [go_sem]
 refine xm7 (ehb7 s hl) (by simp -implicitDefEqProofs only [go_sem]) rfl rfl ?_
 rintro r rfl
 rw[show ti7 s = .tup [.c (fj7 (jb7 s)),.c (I6 0),.c (I6 0)] by unfold ti7;rw[if_neg c4,if_neg c3]]
 simp -implicitDefEqProofs only [go_sem]
 clear st k1
 refine fun M1 a1 w1 st k1=>?_
 have hE:=hE c4 c3
 have h6:=h6 c4 c3
 have hO:=hO c4 c3
 clear h4 h3
 have hok:=nfb7 (nrb7 c3)
 have hwn:(jb7 s).length≤1000000:=by omega
 have hw:∀w∈jb7 s,(∀c∈w.1,c.toNat<128):=fun x hx=>(hok.1 x hx).1
 generalize jb7 s=ws at *
 refine ho7 vc7 (by kernel_rfl) (fun n=>match n with | 3=>([1],0,some (.t [2] (.br 0 0 (.br 4 2 .d .no) .no) [3] [3])) | _=>([],0,none)) (by kernel_rfl) st k1 ?_
 simp -implicitDefEqProofs only [go_sem]
 clear st k1
 refine⟨fun h=>absurd trivial h,fun M1 a1 w1 st k1=>?_⟩
 refine wp_seq (wp_region_list ?_)
 refine bib7 vc7 st k1 (by simp) (fun ch w' hp=>(ef7 hp).elim) ?_
 simp -implicitDefEqProofs only [go_sem]
 clear st k1
 refine fun M1 a1 w1 st k1=>?_
 obtain⟨caps,e18,p,_,rfl,hp,q,_,rfl,hq,rfl⟩:=st.rd (x:=.tmp 18) rfl
 refine qxb7 (d:=⟨.fn (.func 128) #[p,q], #[]⟩) rfl ?_ ?_
 ·unfold execOp
  simp only[resolve,e18]
  kernel_rfl
 replace st:St ⟨E.W0,E.rho0,[qt7 p q],E.ex,E.exk⟩ 33 M1 _ { a1 with defers:=qt7 p q::a1.defers } w1:=⟨st.rel.env [qt7 p q],st.tms,st.off,st.sz,congrArg (List.cons _) st.df⟩
 clear e18 hok
 show Code.wp _ _ _ { a1 with defers:=qt7 p q::a1.defers } w1
 refine ho7 vc7 (by kernel_rfl) (fun _=>([],0,none)) (by kernel_rfl) st (Kp.refl _ _ _) ?_
 simp -implicitDefEqProofs only [go_sem]
 clear st
 refine fun M2 a2 w2 st k2=>?_
 refine wp_seq (wp_seq (wp_region_list ?_))
 refine bib7 vc7 st k2 (by simp) (fun ch w' hp=>(ef7 hp).elim) ?_
 simp -implicitDefEqProofs only [go_sem]
 clear st k2
 refine fun M2 a2 w2 st k2=>?_
 obtain⟨caps,e24,x,_,rfl,hx,rfl⟩:=st.rd (x:=.tmp 24) rfl
 refine sl7 (v:=.bool true) rfl ?_ ?_
 ·unfold execOp
  simp only[e24]
  kernel_rfl
 replace st:=st.putV (d:=some 25) (g:=true) (r:=.c (.bool true)) (v:=.bool true) (by simp) (fun _=>rfl) (fun e=>by cases e)
 refine wp_cond_true (st.rd (x:=.tmp 25) rfl) (wp_region_list ?_)
 refine bib7 vc7 st k2 (by simp) (fun ch w' hp=>(ef7 hp).elim) ?_
 simp -implicitDefEqProofs only [go_sem]
 clear st k2 e24 hx
 refine fun M2 a2 w2 st k2=>?_
 refine bib7 vc7 st k2 (by simp) (fun ch w' hp=>(ef7 hp).elim) ?_
 simp -implicitDefEqProofs only [go_sem]
 clear st k2
 refine fun M2 a2 w2 st k2=>?_
 refine @bib7 Tryz.prog _ _ _ _ (pfc7 K A) ty _ 33 M2 M1 _ w1 _ _ _ vc7 st k2 (by simp) (fun ch w' hP=>?_) ?_
 ·have hd:a2.defers=[qt7 p q]:=st.df
  show Leaves _ _ a2.tmps _ a2.defers _ _
  rw[hd]
  exact msb7 (df:=a2.defers) st (k1.trans k2) (by simp) (k2 _ _ hp) (k2 _ _ hq) rfl rfl hP
 simp -implicitDefEqProofs only [go_sem]
 clear st
 have stay1:∀(t:TypeId) (x:Int) (m:Nat),is7 m (.live false t 1 (.box [I6 x])):=fun _ _ _ _ _ _=>rfl
 refine @xvb7 (pfc7 K A) A _ _ ws s.length _ hwn hw hA (stay1 _ _ _) (stay1 _ _ _) (fun r a ha=>?_) (fun B j c hx R=>⟨_,_,B,_,rfl,rfl,hE j c hx⟩)
 refine fun M2 a2 w2 st k2=>?_
 simp only[eyb7]at st k2
 show Code.wp _ _ _ a2 w2
 refine wp_seq (ho7 vc7 (by kernel_rfl) (fun _=>([],0,none)) (by kernel_rfl) st k2 ?_)
 simp -implicitDefEqProofs only [go_sem]
 refine hdc7 ?_
 clear st k2
 refine fun M2 a2 w2 st k2=>?_
 by_cases hm:a.2<ws.length
 ·rw[decide_eq_true hm]at st
  refine wp_cond_true (st.rd (x:=.tmp 30) rfl) (wp_region_list ?_)
  refine bib7 vc7 st k2 (by simp) (fun ch w' hp=>(ef7 hp).elim) ?_
  simp -implicitDefEqProofs only [go_sem]
  clear st k2
  refine fun M2 a2 w2 st k2=>?_
  refine @bib7 Tryz.prog _ _ _ _ (pfc7 K A) ty _ 33 M2 M1 _ w1 _ _ _ vc7 st k2 (by simp) (fun ch w' hP=>?_) ?_
  ·have hd:a2.defers=[qt7 p q]:=st.df
   show Leaves _ _ a2.tmps _ a2.defers _ _
   rw[hd]
   exact msb7 (df:=a2.defers) st (k1.trans k2) (by simp) (k2 _ _ hp) (k2 _ _ hq) rfl rfl hP
  simp -implicitDefEqProofs only [go_sem]
  refine @ldb7 (pfc7 K A) _ _ _ _ _ ws a.2 s.length 6 _ ⟨_,_,_,_,rfl,rfl,h6 a ha hm⟩
 ·rw[decide_eq_false hm]at st
  refine wp_cond_false (st.rd (x:=.tmp 30) rfl) (wp_skip ?_)
  show Code.wp _ _ _ a2 w2
  refine ho7 vc7 (by kernel_rfl) (fun _=>([],0,none)) (by kernel_rfl) st k2 ?_
  simp -implicitDefEqProofs only [go_sem]
  clear st k2
  refine fun M2 a2 w2 st k2=>?_
  refine wp_ret ?_
  have hd:a2.defers=[qt7 p q]:=st.df
  show Leaves _ _ a2.tmps _ a2.defers _ _
  rw[hd]
  refine rdc7 (df:=a2.defers) st (k1.trans k2) (by simp) ?_
  simp -implicitDefEqProofs only [go_sem]
  exact hO a ha hm _ _ _ _
def tc7 (s:List UInt8):ld7×Int×Int :=
 if 131072<s.length then (nf7,0,4) else if np7 s<s.length then (nf7,(np7 s:Int),3) else hvb7 (jb7 s) s.length (bh7 (jb7 s))
def kj7 (s:List UInt8):RV:=.tup [.agg (kd7 (tc7 s).1),.c (I6 (tc7 s).2.1),.c (I6 (tc7 s).2.2)]
theorem hhc7 (l:List ea7):Eqv (stA l) (vm7 l):=by
 cases l with
 | nil=>exact .inr ⟨2,_,rfl⟩
 | cons s l =>
  refine⟨_,rfl,fun i hi j hj=>?_⟩
  have e:((s::l).map fun s=>[I6 s.sat,I6 s.load]).getD i []=[I6 (stN (s::l) i).sat,I6 (stN (s::l) i).load]:=by
   unfold stN
   simp only[List.getD_eq_getElem?_getD,List.getElem?_map,List.getElem?_eq_getElem hi];rfl
  show Eqv (nth (((s::l).map fun s=>[I6 s.sat,I6 s.load]).getD i []) j) _
  rw[e]
  match j,hj with
  | 0,_=>rfl
  | 1,_=>rfl
theorem uyb7 (l:List (List ea7)) (f:Nat→Nat→AV) (hf:∀i j,f i j=nth ((l.map fun s=>[stA s]).getD i []) j):Eqv (.sl l.length 1 f) (.sl l.length 1 (fun i _=>vm7 (l.getD i []))):=by
 refine⟨_,rfl,fun i hi j hj=>?_⟩
 have e:(l.map fun s=>[stA s]).getD i []=[stA (l.getD i [])]:=by
  simp only[List.getD_eq_getElem?_getD,List.getElem?_map,List.getElem?_eq_getElem hi];rfl
 rw[hf,e]
 match j,hj with
 | 0,_=>exact hhc7 _
theorem hzb7 (l:List (List Int)) (f:Nat→Nat→AV) (hf:∀i j,f i j=nth ((l.map fun s=>[ckb7 s]).getD i []) j):Eqv (.sl l.length 1 f) (.sl l.length 1 (fun i _=>kf7 (l.getD i []))):=by
 refine⟨_,rfl,fun i hi j hj=>?_⟩
 have e:(l.map fun s=>[ckb7 s]).getD i []=[ckb7 (l.getD i [])]:=by
  simp only[List.getD_eq_getElem?_getD,List.getElem?_map,List.getElem?_eq_getElem hi];rfl
 rw[hf,e]
 match j,hj with
 | 0,_=>exact gib7 _
theorem pzb7 (l:List ga7) (f:Nat→Nat→AV) (hf:∀i j,f i j=nth ((l.map fun b=>[I6 b.sat,ckb7 b.stops]).getD i []) j):Eqv (.sl l.length 2 f) (.sl l.length 2 (fun i=>ix2 (I6 (l.getD i ⟨0,[]⟩).sat) (kf7 (l.getD i ⟨0,[]⟩).stops))):=by
 refine⟨_,rfl,fun i hi j hj=>?_⟩
 have e:(l.map fun b=>[I6 b.sat,ckb7 b.stops]).getD i []=[I6 (l.getD i ⟨0,[]⟩).sat,ckb7 (l.getD i ⟨0,[]⟩).stops]:=by
  simp only[List.getD_eq_getElem?_getD,List.getElem?_map,List.getElem?_eq_getElem hi];rfl
 rw[hf,e]
 match j,hj with
 | 0,_=>rfl
 | 1,_=>exact gib7 _
theorem azb7 (l:List qa7) (f:Nat→Nat→AV) (hf:∀i j,f i j=nth ((l.map fun r=>[I6 r.out,ckb7 r.starts,I6 r.back]).getD i []) j):Eqv (.sl l.length 3 f) (.sl l.length 3 (fun i=>ix3 (I6 (l.getD i ⟨0,[],0⟩).out) (kf7 (l.getD i ⟨0,[],0⟩).starts) (I6 (l.getD i ⟨0,[],0⟩).back))):=by
 refine⟨_,rfl,fun i hi j hj=>?_⟩
 have e:(l.map fun r=>[I6 r.out,ckb7 r.starts,I6 r.back]).getD i []=[I6 (l.getD i ⟨0,[],0⟩).out,ckb7 (l.getD i ⟨0,[],0⟩).starts,I6 (l.getD i ⟨0,[],0⟩).back]:=by
  simp only[List.getD_eq_getElem?_getD,List.getElem?_map,List.getElem?_eq_getElem hi];rfl
 rw[hf,e]
 match j,hj with
 | 0,_=>rfl
 | 1,_=>exact gib7 _
 | 2,_=>rfl
theorem xhb7 (s:List UInt8) (hl:s.length≤1000000000000):PCall Tryz.prog 16 [.c (.str (S s))] (fun r=>r=kj7 s):=by
 refine he7 vc7 (by kernel_rfl) (fun _=>([],0,none)) Tryz.func16 rfl (by kernel_rfl) Tryz.ntmps16 (congrArg Array.toList Tryz.results16) (by kernel_rfl) (by simp) ?_
 simp -implicitDefEqProofs only [go_sem]
 have zero:∀a c:Int,∃r',ivb7 (.tup [.agg [.nils,.nils,.nils,.nils,I6 0],.c (I6 a),.c (I6 c)]) r'∧r' = .tup [.agg (kd7 nf7),.c (I6 a),.c (I6 c)]:=fun a c=>⟨_,⟨_,rfl,⟨_,_,rfl,.inr ⟨_,rfl,⟨_,_,rfl,.inr (.inr ⟨_,_,rfl⟩),_,_,rfl,.inr (.inr ⟨_,_,rfl⟩),_,_,rfl,.inr (.inr ⟨_,_,rfl⟩),_,_,rfl,.inr (.inr ⟨_,_,rfl⟩),_,_,rfl,.inl rfl,rfl⟩⟩,_,_,rfl,.inl rfl,_,_,rfl,.inl rfl,rfl⟩⟩,rfl⟩
 refine dfc7 hl (fun _ _ _=>rfl) (fun c4 R=>?_) (fun c4 c3 R=>?_) (fun c4 c3 j c hx B R=>?_) (fun c4 c3 a ha hm B R=>?_) (fun c4 c3 a ha hm C D r R=>?_)
 ·have e:kj7 s = .tup [.agg (kd7 nf7),.c (I6 0),.c (I6 4)]:=by unfold kj7 tc7;rw[if_pos c4]
  simp -implicitDefEqProofs only [go_sem,e]
  exact⟨fun _=>zero 0 4,fun h=>absurd h (by decide)⟩
 ·have e:kj7 s = .tup [.agg (kd7 nf7),.c (I6 (np7 s)),.c (I6 3)]:=by unfold kj7 tc7;rw[if_neg c4,if_pos c3]
  simp -implicitDefEqProofs only [go_sem,e]
  exact⟨fun _=>zero _ _,fun h=>absurd h (by decide)⟩
 ·have e:kj7 s = .tup [.agg (kd7 nf7),.c (I6 (vf7 (jb7 s) s.length j)),.c (I6 c)]:=by unfold kj7 tc7;rw[if_neg c4,if_neg c3,hx];rfl
  have hc:c≠0:=((rj7 (jb7 s)).sim.er () 0 (j,c) (by rw[ur7];exact hx)).2
  simp -implicitDefEqProofs only [go_sem,e]
  exact⟨fun _=>zero _ _,fun h=>absurd h hc⟩
 ·have e:kj7 s = .tup [.agg (kd7 nf7),.c (I6 (vf7 (jb7 s) s.length a.2)),.c (I6 6)]:=by
   unfold kj7 tc7;rw[if_neg c4,if_neg c3,ha,show hvb7 (jb7 s) s.length (.ok a)=(nf7,vf7 (jb7 s) s.length a.2,6) from if_pos hm]
  simp -implicitDefEqProofs only [go_sem,e]
  exact⟨fun _=>zero _ _,fun h=>absurd h (by decide)⟩
 ·have e:kj7 s = .tup [.agg (kd7 a.1),.c (I6 0),.c (I6 0)]:=by
   unfold kj7 tc7;rw[if_neg c4,if_neg c3,ha,show hvb7 (jb7 s) s.length (.ok a)=(a.1,0,0) from if_neg hm]
  obtain⟨⟨⟨tr,bk⟩,⟨tm,ri⟩,cost⟩,j⟩:=a
  simp only at e hm
  rw[e]
  clear e ha hm zero
  have fin:∀(x:ld7) (a b c d:AV),Eqv a (.sl x.plan.trucks.length 1 (fun i _=>vm7 (jcb7 x.plan i)))→Eqv b (.sl x.plan.bikes.length 2 (fun i=>ix2 (I6 (cy7 x.plan i).sat) (kf7 (cy7 x.plan i).stops)))→Eqv c (.sl x.times.trucks.length 1 (fun i _=>kf7 (kab7 x.times i)))→Eqv d (.sl x.times.bikes.length 3 (fun i=>ix3 (I6 (jl7 x.times i).out) (kf7 (jl7 x.times i).starts) (I6 (jl7 x.times i).back))) →
    ∃r',ivb7 (.tup [.agg [a,b,c,d,I6 x.cost],.c (I6 0),.c (I6 0)]) r'∧r' = .tup [.agg (kd7 x),.c (I6 0),.c (I6 0)]:=fun x a b c d q1 q2 q3 q4=>⟨_,⟨_,rfl,⟨_,_,rfl,.inr ⟨_,rfl,⟨_,_,rfl,.inr q1,_,_,rfl,.inr q2,_,_,rfl,.inr q3,_,_,rfl,.inr q4,_,_,rfl,.inl rfl,rfl⟩⟩,_,_,rfl,.inl rfl,_,_,rfl,.inl rfl,rfl⟩⟩,rfl⟩
  rcases tr with _ | ⟨t1,tr⟩ <;> rcases bk with _ | ⟨b1,bk⟩ <;> rcases tm with _ | ⟨m1,tm⟩ <;> rcases ri with _ | ⟨r1,ri⟩
  all_goals simp -implicitDefEqProofs only [go_sem,mu7,vh7,trR,tmR,bkR,riR,gk7,List.length_map]
  all_goals
   refine⟨fun h=>absurd trivial h,fin ⟨⟨_,_⟩,⟨_,_⟩,cost⟩ _ _ _ _ ?_ ?_ ?_ ?_⟩
  all_goals
   first
   | exact .inr ⟨_,_,rfl⟩
   | exact uyb7 (t1::tr) _ (fun _ _=>rfl)
   | exact hzb7 (m1::tm) _ (fun _ _=>rfl)
   | exact pzb7 (b1::bk) _ (fun _ _=>rfl)
   | exact azb7 (r1::ri) _ (fun _ _=>rfl)
abbrev vyb7 (k:Nat):Tw:=.br 0 4 (.br (k+2) 5 (.br 0 10 (.br 1 11 (.br 0 12 (.br 0 13 .d .no) .no) (.br 0 12 (.br 1 11 (.br 0 13 .d .no) (.br 0 13 (.br 1 11 .d .no) .no)) .no)) (.br 0 12 (.br 0 10 (.br 1 11 (.br 0 13 .d .no) (.br 0 13 (.br 1 11 .d .no) .no)) (.br 0 13 (.br 0 10 (.br 1 11 .d .no) .no) .no)) .no)) (.br 0 10 (.br (k+2) 5 (.br 1 11 (.br 0 12 (.br 0 13 .d .no) .no) (.br 0 12 (.br 1 11 (.br 0 13 .d .no) (.br 0 13 (.br 1 11 .d .no) .no)) .no)) .no) .no)) (.br 0 10 (.br 0 4 (.br (k+2) 5 (.br 1 11 (.br 0 12 (.br 0 13 .d .no) .no) (.br 0 12 (.br 1 11 (.br 0 13 .d .no) (.br 0 13 (.br 1 11 .d .no) .no)) .no)) .no) .no) .no)
abbrev rec7 (k:Nat):Tw:=.br 0 3 (.br (k+2) 4 (.br 3 8 (.br 0 9 (.br 1 10 (.br 0 11 .d .no) (.br 0 11 (.br 1 10 .d .no) .no)) (.br 0 11 (.br 0 9 (.br 1 10 .d .no) .no) .no)) (.br 0 11 (.br 3 8 (.br 0 9 (.br 1 10 .d .no) .no) .no) .no)) .no) .no
theorem abc7 {ws:List (List UInt8×Nat)}{most:Int}{s:Stt}(hm:0≤most) (hs:s.1≤ws.length):(0≤(ap7 ws most s).1∧(ap7 ws most s).1≤most)∧(ap7 ws most s).2.1≤ws.length:=by
 unfold ap7 vz7
 split
 ·exact⟨⟨Int.le_refl _,hm⟩,hs⟩
 ·split
  ·exact⟨⟨Int.le_refl _,hm⟩,hs⟩
  ·split
   ·exact⟨⟨Int.le_refl _,hm⟩,hs⟩
   ·split
    ·exact⟨⟨Int.le_refl _,hm⟩,hs⟩
    ·exact⟨⟨by simp only;omega,by simp only;omega⟩,by simp only;omega⟩
theorem nyb7 {ws:List (List UInt8×Nat)}{w:List UInt8}{s:Stt}(hs:s.1≤ws.length):(eab7 ws w s).1≤ws.length:=by
 unfold eab7 ks7
 split
 ·exact hs
 ·split
  ·exact hs
  ·simp only;omega
theorem rmb7 (X:Pan) {P:Program}{pu:Pu}{f:FuncId}{args:List RV}{H:List Root}{K:RV→List Root→Prop}(h : @ne7 P noPan pu f args H K) : @ne7 P X pu f args H K :=
 ⟨h.1,fun E M w vs hr hc=>(h.2 E M w vs hr hc).mono fun _ _ h=>h.imp id fun ⟨_,_,hp⟩=>(ef7 hp).elim⟩
theorem lsb7 {A:Root}{R:List Root}{ws:List (List UInt8×Nat)}{i len:Nat}{code most:Int}{K:RV→List Root→Prop}(hi:i≤1000000000000) (hw:∀w∈ws,w.1.length≤1000000000000)
  (hK:K (.c (I6 (vz7 ws i code most).1)) (A::cc7 ws (vz7 ws i code most).2.1 len (vz7 ws i code most).2.2::R)) :
  ne7 Tryz.prog (some (some 1)) 69 [.c (.ptr 1 1 0 0),.c (I6 most)] (A::cc7 ws i len code::R) K:=by
 refine heb7 (fun _=>trivial) (k:=1) (t:=157) (sz:=4) (l:=[fj7 ws,I6 i,I6 len,I6 code]) rfl rfl rfl ?_
 refine rmb7 _ ?_
 refine yjb7 (A:=.dead) (R:=R.map fun _=>.dead) hi hw ⟨rfl,[fj7 ws,I6 (vz7 ws i code most).2.1,I6 len,I6 (vz7 ws i code most).2.2],rfl,rfl,hK⟩
theorem rlb7 {A:Root}{R:List Root}{ws:List (List UInt8×Nat)}{s:Stt}{len:Nat}{w:List UInt8}{K:RV→List Root→Prop}(hi:s.1≤1000000000000) (hK:∀r s',eab7 ws w s=s'→K r (A::cc7 ws s'.1 len s'.2::R)) :
  ne7 Tryz.prog none 68 [.c (.ptr 1 1 0 0),.c (.str (S w))] (A::cc7 ws s.1 len s.2::R) K:=agc7 hi fun r=>hK r _ rfl
theorem wb7 {A:Root}{R:List Root}{ws:List (List UInt8×Nat)}{s:Stt}{len:Nat}{most:Int}{K:RV→List Root→Prop}(hi:s.1≤1000000000000) (hw:∀w∈ws,w.1.length≤1000000000000) (hK:∀x s',ap7 ws most s=(x,s')→K (.c (I6 x)) (A::cc7 ws s'.1 len s'.2::R)) :
  ne7 Tryz.prog none 69 [.c (.ptr 1 1 0 0),.c (I6 most)] (A::cc7 ws s.1 len s.2::R) K:=yjb7 hi hw (hK _ _ rfl)
theorem gfb7 {A:Root}{R:List Root}{ws:List (List UInt8×Nat)}{s:Stt}{len:Nat}{most:Int}{K:RV→List Root→Prop}(hi:s.1≤1000000000000) (hw:∀w∈ws,w.1.length≤1000000000000) (hK:∀x s',ap7 ws most s=(x,s')→K (.c (I6 x)) (A::cc7 ws s'.1 len s'.2::R)) :
  ne7 Tryz.prog (some (some 1)) 69 [.c (.ptr 1 1 0 0),.c (I6 most)] (A::cc7 ws s.1 len s.2::R) K:=lsb7 hi hw (hK _ _ rfl)
theorem ac7 {ws:List (List UInt8×Nat)}{most:Int}{s s':Stt}{x:Int}(h:ap7 ws most s=(x,s')) (hm:0≤most) (hs:s.1≤ws.length):(0≤x∧x≤most)∧s'.1≤ws.length:=by
 have:=abc7 (s:=s) hm hs
 rw[h]at this
 exact this
theorem nu7 {ws:List (List UInt8×Nat)}{w:List UInt8}{s s':Stt}(h:eab7 ws w s=s') (hs:s.1≤ws.length):s'.1≤ws.length:=by
 have:=nyb7 (w:=w) hs
 rw[h]at this
 exact this
def cv7 (s:List UInt8):ld7×Int×Int:=if np7 s<s.length then (nf7,(np7 s:Int),3) else bjb7 (jb7 s) s.length (lw7 (jb7 s))
def rz7 (s:List UInt8):RV:=.tup [.agg (kd7 (cv7 s).1),.c (I6 (cv7 s).2.1),.c (I6 (cv7 s).2.2)]
theorem mjb7 {s:List UInt8}(h:s.length≤131072):cv7 s=tc7 s:=by
 unfold cv7 tc7
 rw[if_neg (show ¬131072<s.length by omega)]
 split
 ·rfl
 ·rw[← iib7,← ur7,rqb7]
def ygc7 (A:Root) (ws:List (List UInt8×Nat)) (len:Nat) (cost:Int) (a:(List (List ea7)×List (List Int))×Stt):List Root :=
 [A,cc7 ws a.2.1 len a.2.2,gk7 (gH 3 a.1.1) .nils (gH 4 a.1.2) .nils cost,trR a.1.1,tmR a.1.2]
def okb7 (A:Root) (ws:List (List UInt8×Nat)) (len:Nat) (x:Root) (T:List (List ea7)×List (List Int)) (a:(List ea7×List Int)×Stt):List Root :=
 [A,cc7 ws a.2.1 len a.2.2,x,trR T.1,tmR T.2,.live false 124 1 (.box [stH 6 a.1.1]),stR a.1.1,lR a.1.2]
def ggb7 (A:Root) (ws:List (List UInt8×Nat)) (len:Nat) (cost:Int) (T:List (List ea7)×List (List Int)) (a:(List ga7×List qa7)×Stt):List Root :=
 [A,cc7 ws a.2.1 len a.2.2,gk7 (gH 3 T.1) (gH 5 a.1.1) (gH 4 T.2) (gH 6 a.1.2) cost,trR T.1,tmR T.2,bkR a.1.1,riR a.1.2]
def syb7 (A:Root) (ws:List (List UInt8×Nat)) (len:Nat) (cost:Int) (T:List (List ea7)×List (List Int)) (U:List ga7×List qa7) (sat ou:Int) (a:(List Int×List Int)×Stt):List Root :=
 [A,cc7 ws a.2.1 len a.2.2,gk7 (gH 3 T.1) (gH 5 U.1) (gH 4 T.2) (gH 6 U.2) cost,trR T.1,tmR T.2,bkR U.1,riR U.2,.live false 70 2 (.box [I6 sat,lH 9 a.1.1]),.live false 136 3 (.box [I6 ou,lH 10 a.1.2,I6 0]),iR a.1.1,lR a.1.2]
theorem qdc7 (s:List UInt8) (hl:s.length≤1000000):PCall Tryz.prog 17 [.c (.str (S s))] (fun r=>r=rz7 s):=by
 refine he7 vc7 (by kernel_rfl) (fun n=>match n with | 19=>([0,1,2,3,6,7,8,9],0,some (.t [3] (vyb7 3) [14,15,16,17] [11,14,15,16,17])) | 29=>([0,1,2,5,6,7],0,some (.t [9,1] (rec7 9) [12,13,14] [10,12,13,14])) | 32=>([0,1,2,3,6,7,8,9],0,some (.t [5] (vyb7 5) [14,15,16,17] [11,14,15,16,17])) | 39=>([0,4,1,2,3,5,6,7,8,9],0,none) | 40=>([0,4,1,2,3,5,6,7,8,9,10,11],0,none) | 41=>([],0,some (.r 0)) | _=>([],0,none)) Tryz.func17 rfl (by kernel_rfl) Tryz.ntmps17 (congrArg Array.toList Tryz.results17) (by kernel_rfl) (by simp) ?_
 simp -implicitDefEqProofs only [go_sem]
 refine xm7 (bac7 s (by omega)) (by simp -implicitDefEqProofs only [go_sem]) rfl rfl ?_
 rintro r rfl
 by_cases c3:np7 s<s.length
 ·have e:rz7 s = .tup [.agg (kd7 nf7),.c (I6 (np7 s)),.c (I6 3)]:=by unfold rz7 cv7;rw[if_pos c3]
  rw[e,show ow7 s = .tup [.c .nils,.c (I6 (np7 s))] from if_pos c3]
  simp -implicitDefEqProofs only [go_sem]
  refine⟨fun _=>?_,fun h=>by omega⟩
  exact⟨_,⟨_,rfl,⟨_,_,rfl,.inr ⟨_,rfl,⟨_,_,rfl,.inr (.inr ⟨_,_,rfl⟩),_,_,rfl,.inr (.inr ⟨_,_,rfl⟩),_,_,rfl,.inr (.inr ⟨_,_,rfl⟩),_,_,rfl,.inr (.inr ⟨_,_,rfl⟩),_,_,rfl,.inl rfl,rfl⟩⟩,_,_,rfl,.inl rfl,_,_,rfl,.inl rfl,rfl⟩⟩,rfl⟩
 have eA:rz7 s = .tup [.agg (kd7 (bjb7 (jb7 s) s.length (lw7 (jb7 s))).1),.c (I6 (bjb7 (jb7 s) s.length (lw7 (jb7 s))).2.1),.c (I6 (bjb7 (jb7 s) s.length (lw7 (jb7 s))).2.2)]:=by unfold rz7 cv7;rw[if_neg c3]
 rw[eA,show ow7 s = .tup [.c (fj7 (jb7 s)),.c (I6 (-1))] from if_neg c3]
 clear eA
 have hok:=nfb7 (nrb7 c3)
 have hwn:(jb7 s).length≤1000001:=by omega
 have hw:∀w∈jb7 s,w.1.length≤1000000000000:=fun x hx=>by have:=(hok.1 x hx).2;omega
 generalize jb7 s=ws at *
 clear hok c3
 simp -implicitDefEqProofs only [go_sem]
 refine⟨fun h=>by omega,fun _=>?_⟩
 refine rlb7 (s:=(0,0)) (by simp) (fun _ s1 h1=>?_)
 have b1:=nu7 h1 (Nat.zero_le _)
 refine wb7 (by omega) hw (fun cost s2 h2=>?_)
 obtain⟨c2,b2⟩:=ac7 h2 (by decide) b1
 simp -implicitDefEqProofs only [go_sem,cc7]
 refine rlb7 (by omega) (fun _ s3 h3=>?_)
 have b3:=nu7 h3 b2
 refine wb7 (by omega) hw (fun n s4 h4=>?_)
 obtain⟨c4,b4⟩:=ac7 h4 (by decide) b3
 simp -implicitDefEqProofs only [go_sem,cc7]
 refine se7 (ι:=Nat×((List (List ea7)×List (List Int))×Stt)) 2 [2,3,4,5,7,8,39] [40] (fun q=>(q.1≤n.toNat∧q.2.1.1.length=q.1∧q.2.1.2.length=q.1∧q.2.2.1≤ws.length)∧Go.Proofs.YtabadfkikdefeaaGreat.rep (jc7 ws) n.toNat (([],[]),s4)=Go.Proofs.YtabadfkikdefeaaGreat.rep (jc7 ws) (n.toNat-q.1) q.2) (fun q=>[.c (I6 q.1)]) (fun q=>ygc7 (.live false 43 5 (.box [.nils,.nils,.nils,.nils,I6 0])) ws s.length cost q.2) (fun q=>n.toNat-q.1) (by kernel_rfl) ⟨(0,([],[]),s4),⟨⟨Nat.zero_le _,rfl,rfl,b4⟩,rfl⟩,rfl,rfl⟩ (fun k _=>rfl) ?_
 rintro⟨k,⟨ss,ts⟩,s5⟩ ⟨⟨hk,hl1,hl2,hj⟩,he⟩
 simp only at hk hl1 hl2 hj he
 simp -implicitDefEqProofs only [go_sem,ygc7,gk7,cc7]
 refine⟨fun h=>?_,fun h=>?_⟩
 ·have hn:n.toNat-k=(n.toNat-(k+1))+1:=by omega
  rw[hn]at he
  rcases ss with _ | ⟨q1,ss⟩ <;> rcases ts with _ | ⟨q2,ts⟩
  rotate_left
  ·simp only[List.length_cons,List.length_nil]at hl1 hl2;omega
  ·simp only[List.length_cons,List.length_nil]at hl1 hl2;omega
  rotate_left
  ·refine wb7 (by omega) hw (fun x s6 h6=>?_)
   obtain⟨c6,b6⟩:=ac7 h6 (by decide) hj
   simp -implicitDefEqProofs only [go_sem,cc7]
   have htk:ph7 ws s5=Go.Proofs.YtabadfkikdefeaaGreat.rep (oi7 ws) x.toNat (([],[]),s6):=by unfold ph7;rw[h6]
   refine se7 (ι:=Nat×((List ea7×List Int)×Stt)) 2 [2,3,4,5,7,8,9,39,40,43] [44,10] (fun q=>(q.1≤x.toNat∧q.2.1.1.length=q.1∧q.2.1.2.length=q.1∧q.2.2.1≤ws.length)∧ph7 ws s5=Go.Proofs.YtabadfkikdefeaaGreat.rep (oi7 ws) (x.toNat-q.1) q.2) (fun q=>[.c (I6 q.1),.c (lH 7 q.2.1.2)]) (fun q=>okb7 (.live false 43 5 (.box [.nils,.nils,.nils,.nils,I6 0])) ws s.length (gk7 (gH 3 ([]:List (List ea7))) .nils (gH 4 ([]:List (List Int))) .nils cost) (([]:List (List ea7)),([]:List (List Int))) q.2) (fun q=>x.toNat-q.1) (by kernel_rfl) ⟨(0,([],[]),s6),⟨⟨Nat.zero_le _,rfl,rfl,b6⟩,htk⟩,rfl,rfl⟩ (fun k _=>rfl) ?_
   rintro⟨m,⟨sl,tl⟩,s7⟩ ⟨⟨hm,hm1,hm2,hmj⟩,hme⟩
   simp only at hm hm1 hm2 hmj hme
   clear htk
   rcases sl with _ | ⟨z,sl⟩ <;> rcases tl with _ | ⟨u,tl⟩
   rotate_left
   ·simp only[List.length_cons,List.length_nil]at hm1 hm2;omega
   ·simp only[List.length_cons,List.length_nil]at hm1 hm2;omega
   rotate_left
   all_goals
    simp -implicitDefEqProofs (maxSteps:=4000000) only [go_sem,okb7,stH,lH,stR,lR,mu7,vh7,trR,tmR,gk7,cc7,List.length_map]
    refine⟨fun hx=>?_,fun hx=>?_⟩
   ·have hxn:x.toNat-m=(x.toNat-(m+1))+1:=by omega
    rw[hxn]at hme
    refine wb7 (by omega) hw (fun y1 t1 g1=>?_)
    obtain⟨d1,e1⟩:=ac7 g1 (by decide) hmj
    simp -implicitDefEqProofs only [go_sem,cc7]
    refine wb7 (by omega) hw (fun y2 t2 g2=>?_)
    obtain⟨d2,e2⟩:=ac7 g2 (by decide) e1
    simp -implicitDefEqProofs only [go_sem,cc7]
    refine wb7 (by omega) hw (fun y3 t3 g3=>?_)
    obtain⟨d3,e3⟩:=ac7 g3 (by decide) e2
    simp -implicitDefEqProofs only [go_sem,cc7]
    have hme2:ph7 ws s5=Go.Proofs.YtabadfkikdefeaaGreat.rep (oi7 ws) (x.toNat-(m+1)) ((([]:List ea7)++[(⟨y1,y2⟩:ea7)],([]:List Int)++[y3]),t3):=by
     rw[hme]
     show Go.Proofs.YtabadfkikdefeaaGreat.rep (oi7 ws) _ (oi7 ws _)=_
     unfold oi7
     simp only[g1,g2,g3]
    refine⟨by omega,(m+1,((([]:List ea7)++[(⟨y1,y2⟩:ea7)],([]:List Int)++[y3]),t3)),[9,11],⟨⟨by omega,by simp at hm1 ⊢; omega,by simp at hm2 ⊢; omega,e3⟩,hme2⟩,⟨rfl,rfl⟩,rfl, ?_,by omega⟩
    rfl
   ·have h0:x.toNat-m=0:=by omega
    rw[h0]at hme
    have hme0:ph7 ws s5=(([],[]),s7):=hme
    have he2:Go.Proofs.YtabadfkikdefeaaGreat.rep (jc7 ws) n.toNat (([],[]),s4)=Go.Proofs.YtabadfkikdefeaaGreat.rep (jc7 ws) (n.toNat-(k+1)) ((([]:List (List ea7))++[[]],([]:List (List Int))++[[]]),s7):=by
     rw[he]
     show Go.Proofs.YtabadfkikdefeaaGreat.rep (jc7 ws) _ (jc7 ws _)=_
     unfold jc7
     simp only[hme0]
    clear he hme hme0
    and_intros
    all_goals try omega
    all_goals first | (refine⟨(k+1,((([]:List (List ea7))++[[]],([]:List (List Int))++[[]]),s7)),[9,11],⟨⟨by omega,by simp at hl1 ⊢; omega,by simp at hl2 ⊢; omega,hmj⟩,he2⟩,⟨rfl,rfl⟩,rfl, ?_,by omega⟩;rfl) | (refine⟨(k+1,((([]:List (List ea7))++[[]],([]:List (List Int))++[[]]),s7)),[10,11],⟨⟨by omega,by simp at hl1 ⊢; omega,by simp at hl2 ⊢; omega,hmj⟩,he2⟩,⟨rfl,rfl⟩,rfl, ?_,by omega⟩;rfl)
   ·have hxn:x.toNat-m=(x.toNat-(m+1))+1:=by omega
    rw[hxn]at hme
    simp only[List.length_cons]at hm1 hm2
    refine wb7 (by omega) hw (fun y1 t1 g1=>?_)
    obtain⟨d1,e1⟩:=ac7 g1 (by decide) hmj
    simp -implicitDefEqProofs only [go_sem,cc7]
    refine wb7 (by omega) hw (fun y2 t2 g2=>?_)
    obtain⟨d2,e2⟩:=ac7 g2 (by decide) e1
    simp -implicitDefEqProofs only [go_sem,cc7]
    refine⟨⟨by rw[List.length_map],by omega⟩, ?_⟩
    refine wb7 (by omega) hw (fun y3 t3 g3=>?_)
    obtain⟨d3,e3⟩:=ac7 g3 (by decide) e2
    simp -implicitDefEqProofs only [go_sem,cc7]
    have hme2:ph7 ws s5=Go.Proofs.YtabadfkikdefeaaGreat.rep (oi7 ws) (x.toNat-(m+1)) (((z::sl)++[(⟨y1,y2⟩:ea7)],(u::tl)++[y3]),t3):=by
     rw[hme]
     show Go.Proofs.YtabadfkikdefeaaGreat.rep (oi7 ws) _ (oi7 ws _)=_
     unfold oi7
     simp only[g1,g2,g3]
    and_intros
    all_goals try omega
    refine⟨(m+1,(((z::sl)++[(⟨y1,y2⟩:ea7)],(u::tl)++[y3]),t3)),[6,7],⟨⟨by omega,by simp at hm1 ⊢; omega,by simp at hm2 ⊢; omega,e3⟩,hme2⟩,⟨rfl,rfl⟩, ?_, ?_,by omega⟩
    ·simp only[List.cons_append,List.length_cons,List.length_append,List.length_nil];rfl
    ·simp only[List.cons_append,List.map_cons,List.map_append,List.map_nil,List.length_cons,List.length_append,List.length_nil]
     rfl
   ·have h0:x.toNat-m=0:=by omega
    rw[h0]at hme
    have hme0:ph7 ws s5=(((z::sl),(u::tl)),s7):=hme
    have he2:Go.Proofs.YtabadfkikdefeaaGreat.rep (jc7 ws) n.toNat (([],[]),s4)=Go.Proofs.YtabadfkikdefeaaGreat.rep (jc7 ws) (n.toNat-(k+1)) ((([]:List (List ea7))++[(z::sl)],([]:List (List Int))++[(u::tl)]),s7):=by
     rw[he]
     show Go.Proofs.YtabadfkikdefeaaGreat.rep (jc7 ws) _ (jc7 ws _)=_
     unfold jc7
     simp only[hme0]
    clear he hme hme0
    and_intros
    all_goals try omega
    all_goals first | (refine⟨(k+1,((([]:List (List ea7))++[(z::sl)],([]:List (List Int))++[(u::tl)]),s7)),[9,11],⟨⟨by omega,by simp at hl1 ⊢; omega,by simp at hl2 ⊢; omega,hmj⟩,he2⟩,⟨rfl,rfl⟩,rfl, ?_,by omega⟩;rfl) | (refine⟨(k+1,((([]:List (List ea7))++[(z::sl)],([]:List (List Int))++[(u::tl)]),s7)),[10,11],⟨⟨by omega,by simp at hl1 ⊢; omega,by simp at hl2 ⊢; omega,hmj⟩,he2⟩,⟨rfl,rfl⟩,rfl, ?_,by omega⟩;rfl)
  ·simp only[List.length_cons]at hl1 hl2
   refine wb7 (by omega) hw (fun x s6 h6=>?_)
   obtain⟨c6,b6⟩:=ac7 h6 (by decide) hj
   simp -implicitDefEqProofs only [go_sem,cc7]
   have htk:ph7 ws s5=Go.Proofs.YtabadfkikdefeaaGreat.rep (oi7 ws) x.toNat (([],[]),s6):=by unfold ph7;rw[h6]
   refine se7 (ι:=Nat×((List ea7×List Int)×Stt)) 2 [2,3,4,5,7,8,9,39,40,43] [44,10] (fun q=>(q.1≤x.toNat∧q.2.1.1.length=q.1∧q.2.1.2.length=q.1∧q.2.2.1≤ws.length)∧ph7 ws s5=Go.Proofs.YtabadfkikdefeaaGreat.rep (oi7 ws) (x.toNat-q.1) q.2) (fun q=>[.c (I6 q.1),.c (lH 7 q.2.1.2)]) (fun q=>okb7 (.live false 43 5 (.box [.nils,.nils,.nils,.nils,I6 0])) ws s.length (gk7 (gH 3 (q1::ss)) .nils (gH 4 (q2::ts)) .nils cost) ((q1::ss),(q2::ts)) q.2) (fun q=>x.toNat-q.1) (by kernel_rfl) ⟨(0,([],[]),s6),⟨⟨Nat.zero_le _,rfl,rfl,b6⟩,htk⟩,rfl,rfl⟩ (fun k _=>rfl) ?_
   rintro⟨m,⟨sl,tl⟩,s7⟩ ⟨⟨hm,hm1,hm2,hmj⟩,hme⟩
   simp only at hm hm1 hm2 hmj hme
   clear htk
   rcases sl with _ | ⟨z,sl⟩ <;> rcases tl with _ | ⟨u,tl⟩
   rotate_left
   ·simp only[List.length_cons,List.length_nil]at hm1 hm2;omega
   ·simp only[List.length_cons,List.length_nil]at hm1 hm2;omega
   rotate_left
   all_goals
    simp -implicitDefEqProofs (maxSteps:=4000000) only [go_sem,okb7,stH,lH,stR,lR,mu7,vh7,trR,tmR,gk7,cc7,List.length_map]
    refine⟨fun hx=>?_,fun hx=>?_⟩
   ·have hxn:x.toNat-m=(x.toNat-(m+1))+1:=by omega
    rw[hxn]at hme
    refine wb7 (by omega) hw (fun y1 t1 g1=>?_)
    obtain⟨d1,e1⟩:=ac7 g1 (by decide) hmj
    simp -implicitDefEqProofs only [go_sem,cc7]
    refine wb7 (by omega) hw (fun y2 t2 g2=>?_)
    obtain⟨d2,e2⟩:=ac7 g2 (by decide) e1
    simp -implicitDefEqProofs only [go_sem,cc7]
    refine wb7 (by omega) hw (fun y3 t3 g3=>?_)
    obtain⟨d3,e3⟩:=ac7 g3 (by decide) e2
    simp -implicitDefEqProofs only [go_sem,cc7]
    have hme2:ph7 ws s5=Go.Proofs.YtabadfkikdefeaaGreat.rep (oi7 ws) (x.toNat-(m+1)) ((([]:List ea7)++[(⟨y1,y2⟩:ea7)],([]:List Int)++[y3]),t3):=by
     rw[hme]
     show Go.Proofs.YtabadfkikdefeaaGreat.rep (oi7 ws) _ (oi7 ws _)=_
     unfold oi7
     simp only[g1,g2,g3]
    refine⟨by omega,(m+1,((([]:List ea7)++[(⟨y1,y2⟩:ea7)],([]:List Int)++[y3]),t3)),[9,11],⟨⟨by omega,by simp at hm1 ⊢; omega,by simp at hm2 ⊢; omega,e3⟩,hme2⟩,⟨rfl,rfl⟩,rfl, ?_,by omega⟩
    rfl
   ·have h0:x.toNat-m=0:=by omega
    rw[h0]at hme
    have hme0:ph7 ws s5=(([],[]),s7):=hme
    have he2:Go.Proofs.YtabadfkikdefeaaGreat.rep (jc7 ws) n.toNat (([],[]),s4)=Go.Proofs.YtabadfkikdefeaaGreat.rep (jc7 ws) (n.toNat-(k+1)) (((q1::ss)++[[]],(q2::ts)++[[]]),s7):=by
     rw[he]
     show Go.Proofs.YtabadfkikdefeaaGreat.rep (jc7 ws) _ (jc7 ws _)=_
     unfold jc7
     simp only[hme0]
    clear he hme hme0
    and_intros
    all_goals try omega
    all_goals first | (refine⟨(k+1,(((q1::ss)++[[]],(q2::ts)++[[]]),s7)),[3,4],⟨⟨by omega,by simp at hl1 ⊢; omega,by simp at hl2 ⊢; omega,hmj⟩,he2⟩,⟨rfl,rfl⟩,rfl, ?_,by omega⟩;simp only[List.cons_append,vh7,trR,tmR,List.map_cons,List.map_append,List.map_nil,List.length_cons,List.length_append,List.length_nil];rfl)
   ·have hxn:x.toNat-m=(x.toNat-(m+1))+1:=by omega
    rw[hxn]at hme
    simp only[List.length_cons]at hm1 hm2
    refine wb7 (by omega) hw (fun y1 t1 g1=>?_)
    obtain⟨d1,e1⟩:=ac7 g1 (by decide) hmj
    simp -implicitDefEqProofs only [go_sem,cc7]
    refine wb7 (by omega) hw (fun y2 t2 g2=>?_)
    obtain⟨d2,e2⟩:=ac7 g2 (by decide) e1
    simp -implicitDefEqProofs only [go_sem,cc7]
    refine⟨⟨by rw[List.length_map],by omega⟩, ?_⟩
    refine wb7 (by omega) hw (fun y3 t3 g3=>?_)
    obtain⟨d3,e3⟩:=ac7 g3 (by decide) e2
    simp -implicitDefEqProofs only [go_sem,cc7]
    have hme2:ph7 ws s5=Go.Proofs.YtabadfkikdefeaaGreat.rep (oi7 ws) (x.toNat-(m+1)) (((z::sl)++[(⟨y1,y2⟩:ea7)],(u::tl)++[y3]),t3):=by
     rw[hme]
     show Go.Proofs.YtabadfkikdefeaaGreat.rep (oi7 ws) _ (oi7 ws _)=_
     unfold oi7
     simp only[g1,g2,g3]
    and_intros
    all_goals try omega
    refine⟨(m+1,(((z::sl)++[(⟨y1,y2⟩:ea7)],(u::tl)++[y3]),t3)),[6,7],⟨⟨by omega,by simp at hm1 ⊢; omega,by simp at hm2 ⊢; omega,e3⟩,hme2⟩,⟨rfl,rfl⟩, ?_, ?_,by omega⟩
    ·simp only[List.cons_append,List.length_cons,List.length_append,List.length_nil];rfl
    ·simp only[List.cons_append,List.map_cons,List.map_append,List.map_nil,List.length_cons,List.length_append,List.length_nil]
     rfl
   ·have h0:x.toNat-m=0:=by omega
    rw[h0]at hme
    have hme0:ph7 ws s5=(((z::sl),(u::tl)),s7):=hme
    have he2:Go.Proofs.YtabadfkikdefeaaGreat.rep (jc7 ws) n.toNat (([],[]),s4)=Go.Proofs.YtabadfkikdefeaaGreat.rep (jc7 ws) (n.toNat-(k+1)) (((q1::ss)++[(z::sl)],(q2::ts)++[(u::tl)]),s7):=by
     rw[he]
     show Go.Proofs.YtabadfkikdefeaaGreat.rep (jc7 ws) _ (jc7 ws _)=_
     unfold jc7
     simp only[hme0]
    clear he hme hme0
    and_intros
    all_goals try omega
    all_goals first | (refine⟨(k+1,(((q1::ss)++[(z::sl)],(q2::ts)++[(u::tl)]),s7)),[3,4],⟨⟨by omega,by simp at hl1 ⊢; omega,by simp at hl2 ⊢; omega,hmj⟩,he2⟩,⟨rfl,rfl⟩,rfl, ?_,by omega⟩;simp only[List.cons_append,vh7,trR,tmR,List.map_cons,List.map_append,List.map_nil,List.length_cons,List.length_append,List.length_nil];rfl)
 ·have h0:n.toNat-k=0:=by omega
  rw[h0]at he
  have hT:Go.Proofs.YtabadfkikdefeaaGreat.rep (jc7 ws) n.toNat (([],[]),s4)=((ss,ts),s5):=he
  clear he h0 hk hl1 hl2 h
  refine rlb7 (by omega) (fun _ s6 h6=>?_)
  have b6:=nu7 h6 hj
  simp -implicitDefEqProofs only [go_sem,cc7]
  refine wb7 (by omega) hw (fun m s7 h7=>?_)
  obtain⟨c7,b7⟩:=ac7 h7 (by decide) b6
  simp -implicitDefEqProofs only [go_sem,cc7]
  have hS:lw7 ws=((⟨⟨ss,(Go.Proofs.YtabadfkikdefeaaGreat.rep (dd7 ws) m.toNat (([],[]),s7)).1.1⟩,⟨ts,(Go.Proofs.YtabadfkikdefeaaGreat.rep (dd7 ws) m.toNat (([],[]),s7)).1.2⟩,cost⟩:ld7),eab7 ws [101,110,100] (Go.Proofs.YtabadfkikdefeaaGreat.rep (dd7 ws) m.toNat (([],[]),s7)).2):=by
   unfold lw7
   simp only[h1,h2,h3,h4,hT,h6,h7]
  clear h1 h2 h3 h4 hT h6 h7 hj b6
  refine se7 (ι:=Nat×((List ga7×List qa7)×Stt)) 2 [2,3,4,5,7,8,84] [85] (fun q=>(q.1≤m.toNat∧q.2.1.1.length=q.1∧q.2.1.2.length=q.1∧q.2.2.1≤ws.length)∧Go.Proofs.YtabadfkikdefeaaGreat.rep (dd7 ws) m.toNat (([],[]),s7)=Go.Proofs.YtabadfkikdefeaaGreat.rep (dd7 ws) (m.toNat-q.1) q.2) (fun q=>[.c (I6 q.1)]) (fun q=>ggb7 (.live false 43 5 (.box [.nils,.nils,.nils,.nils,I6 0])) ws s.length cost (ss,ts) q.2) (fun q=>m.toNat-q.1) (by kernel_rfl) ⟨(0,([],[]),s7),⟨⟨Nat.zero_le _,rfl,rfl,b7⟩,rfl⟩,rfl,rfl⟩ (fun k _=>rfl) ?_
  rintro⟨k,⟨bs,rs⟩,s8⟩ ⟨⟨hk,hl1,hl2,hj⟩,he⟩
  simp only at hk hl1 hl2 hj he
  simp -implicitDefEqProofs only [go_sem,ggb7,gk7,cc7]
  refine⟨fun h=>?_,fun h=>?_⟩
  ·clear hS
   have hn:m.toNat-k=(m.toNat-(k+1))+1:=by omega
   rw[hn]at he
   refine wb7 (by omega) hw (fun sat s9 h9=>?_)
   obtain⟨c9,b9⟩:=ac7 h9 (by decide) hj
   simp -implicitDefEqProofs only [go_sem,cc7]
   refine wb7 (by omega) hw (fun ou s10 h10=>?_)
   obtain⟨c10,b10⟩:=ac7 h10 (by decide) b9
   simp -implicitDefEqProofs only [go_sem,cc7]
   refine wb7 (by omega) hw (fun x s11 h11=>?_)
   obtain⟨c11,b11⟩:=ac7 h11 (by decide) b10
   simp -implicitDefEqProofs only [go_sem,cc7]
   have htk:xs7 ws s10=Go.Proofs.YtabadfkikdefeaaGreat.rep (tr7 ws) x.toNat (([],[]),s11):=by unfold xs7;rw[h11]
   clear h11 h
   refine se7 (ι:=Nat×((List Int×List Int)×Stt)) 2 [2,3,4,5,7,8,13,14,84,85,94] [95] (fun q=>(q.1≤x.toNat∧q.2.1.1.length=q.1∧q.2.1.2.length=q.1∧q.2.2.1≤ws.length)∧xs7 ws s10=Go.Proofs.YtabadfkikdefeaaGreat.rep (tr7 ws) (x.toNat-q.1) q.2) (fun q=>[.c (I6 q.1)]) (fun q=>syb7 (.live false 43 5 (.box [.nils,.nils,.nils,.nils,I6 0])) ws s.length cost (ss,ts) (bs,rs) sat ou q.2) (fun q=>x.toNat-q.1) (by kernel_rfl) ⟨(0,([],[]),s11),⟨⟨Nat.zero_le _,rfl,rfl,b11⟩,htk⟩,rfl,rfl⟩ (fun k _=>rfl) ?_
   rintro⟨j,⟨sl,tl⟩,s12⟩ ⟨⟨hm,hm1,hm2,hmj⟩,hme⟩
   simp only at hm hm1 hm2 hmj hme
   clear htk
   rcases sl with _ | ⟨z,sl⟩ <;> rcases tl with _ | ⟨u,tl⟩
   rotate_left
   ·simp only[List.length_cons,List.length_nil]at hm1 hm2;omega
   ·simp only[List.length_cons,List.length_nil]at hm1 hm2;omega
   rotate_left
   all_goals
    simp -implicitDefEqProofs (maxSteps:=4000000) only [go_sem,syb7,iR,lH,lR,gk7,cc7,List.length_map]
    refine⟨fun hx=>?_,fun hx=>?_⟩
   ·have hxn:x.toNat-j=(x.toNat-(j+1))+1:=by omega
    rw[hxn]at hme
    refine wb7 (by omega) hw (fun y1 t1 g1=>?_)
    obtain⟨d1,e1⟩:=ac7 g1 (by decide) hmj
    simp -implicitDefEqProofs (maxSteps:=4000000) only [go_sem,cc7]
    repeat' with_reducible refine And.intro ?_ ?_
    all_goals try omega
    all_goals
     refine gfb7 (by omega) hw (fun y2 t2 g2=>?_)
     obtain⟨d2,e2⟩:=ac7 g2 (by decide) e1
     simp -implicitDefEqProofs (maxSteps:=4000000) only [go_sem,cc7]
     have hme2:xs7 ws s10=Go.Proofs.YtabadfkikdefeaaGreat.rep (tr7 ws) (x.toNat-(j+1)) ((([]:List Int)++[y1],([]:List Int)++[y2]),t2):=by
      rw[hme]
      show Go.Proofs.YtabadfkikdefeaaGreat.rep (tr7 ws) _ (tr7 ws _)=_
      unfold tr7
      simp only[g1,g2]
     and_intros
     all_goals try omega
     all_goals
      refine⟨(j+1,((([]:List Int)++[y1],([]:List Int)++[y2]),t2)),[12,14],⟨⟨by omega,by simp at hm1 ⊢; omega,by simp at hm2 ⊢; omega,e2⟩,hme2⟩,⟨rfl,rfl⟩,rfl, ?_,by omega⟩
      simp only[ta7 _ (show 3<9 by decide),ta7 _ (show 4<9 by decide),ta7 _ (show 5<9 by decide),ta7 _ (show 6<9 by decide)]
      rw[mb7 _ 9 _ _ (by decide),nb7 _ 9 _ _ (by decide),acb7 _ 9 _ _ (by decide),uab7 _ 9 _ _ (by decide)]
      rfl
   ·have h0:x.toNat-j=0:=by omega
    rw[h0]at hme
    have hme0:xs7 ws s10=(([],[]),s12):=hme
    clear hme
    rcases bs with _ | ⟨q1,bs⟩ <;> rcases rs with _ | ⟨q2,rs⟩
    rotate_left
    ·simp only[List.length_cons,List.length_nil]at hl1 hl2;omega
    ·simp only[List.length_cons,List.length_nil]at hl1 hl2;omega
    rotate_left
    ·refine wb7 (by omega) hw (fun bk s13 h13=>?_)
     obtain⟨c13,b13⟩:=ac7 h13 (by decide) hmj
     have he2:Go.Proofs.YtabadfkikdefeaaGreat.rep (dd7 ws) m.toNat (([],[]),s7)=Go.Proofs.YtabadfkikdefeaaGreat.rep (dd7 ws) (m.toNat-(k+1)) ((([]:List ga7)++[(⟨sat,[]⟩:ga7)],([]:List qa7)++[(⟨ou,[],bk⟩:qa7)]),s13):=by
      rw[he]
      show Go.Proofs.YtabadfkikdefeaaGreat.rep (dd7 ws) _ (dd7 ws _)=_
      unfold dd7
      simp only[h9,h10,hme0,h13]
     clear he hme0 h9 h10 h13
     simp -implicitDefEqProofs (maxSteps:=4000000) only [go_sem,cc7,mu7,vh7,bkR,riR,List.length_map]
     and_intros
     all_goals try omega
     all_goals first | (refine⟨(k+1,((([]:List ga7)++[(⟨sat,[]⟩:ga7)],([]:List qa7)++[(⟨ou,[],bk⟩:qa7)]),s13)),[12,14],⟨⟨by omega,by simp at hl1 ⊢; omega,by simp at hl2 ⊢; omega,b13⟩,he2⟩,⟨rfl,rfl⟩,rfl, ?_,by omega⟩;simp only[ta7 _ (show 3<5 by decide),ta7 _ (show 4<5 by decide)];rw[mb7 _ 5 _ _ (by decide),nb7 _ 5 _ _ (by decide)];rfl) | (refine⟨(k+1,((([]:List ga7)++[(⟨sat,[]⟩:ga7)],([]:List qa7)++[(⟨ou,[],bk⟩:qa7)]),s13)),[13,14],⟨⟨by omega,by simp at hl1 ⊢; omega,by simp at hl2 ⊢; omega,b13⟩,he2⟩,⟨rfl,rfl⟩,rfl, ?_,by omega⟩;simp only[ta7 _ (show 3<5 by decide),ta7 _ (show 4<5 by decide)];rw[mb7 _ 5 _ _ (by decide),nb7 _ 5 _ _ (by decide)];rfl)
    ·simp only[List.length_cons]at hl1 hl2
     refine wb7 (by omega) hw (fun bk s13 h13=>?_)
     obtain⟨c13,b13⟩:=ac7 h13 (by decide) hmj
     have he2:Go.Proofs.YtabadfkikdefeaaGreat.rep (dd7 ws) m.toNat (([],[]),s7)=Go.Proofs.YtabadfkikdefeaaGreat.rep (dd7 ws) (m.toNat-(k+1)) (((q1::bs)++[(⟨sat,[]⟩:ga7)],(q2::rs)++[(⟨ou,[],bk⟩:qa7)]),s13):=by
      rw[he]
      show Go.Proofs.YtabadfkikdefeaaGreat.rep (dd7 ws) _ (dd7 ws _)=_
      unfold dd7
      simp only[h9,h10,hme0,h13]
     clear he hme0 h9 h10 h13
     simp -implicitDefEqProofs (maxSteps:=4000000) only [go_sem,cc7,mu7,vh7,bkR,riR,List.length_map]
     and_intros
     all_goals try omega
     all_goals first | (refine⟨(k+1,(((q1::bs)++[(⟨sat,[]⟩:ga7)],(q2::rs)++[(⟨ou,[],bk⟩:qa7)]),s13)),[5,6],⟨⟨by omega,by simp at hl1 ⊢; omega,by simp at hl2 ⊢; omega,b13⟩,he2⟩,⟨rfl,rfl⟩,rfl, ?_,by omega⟩;simp only[ta7 _ (show 3<5 by decide),ta7 _ (show 4<5 by decide)];rw[mb7 _ 5 _ _ (by decide),nb7 _ 5 _ _ (by decide)];simp only[List.cons_append,vh7,bkR,riR,List.map_cons,List.map_append,List.map_nil,List.length_cons,List.length_append,List.length_nil];rfl)
   ·have hxn:x.toNat-j=(x.toNat-(j+1))+1:=by omega
    rw[hxn]at hme
    simp only[List.length_cons]at hm1 hm2
    refine wb7 (by omega) hw (fun y1 t1 g1=>?_)
    obtain⟨d1,e1⟩:=ac7 g1 (by decide) hmj
    simp -implicitDefEqProofs (maxSteps:=4000000) only [go_sem,cc7]
    repeat' with_reducible refine And.intro ?_ ?_
    all_goals try omega
    all_goals
     refine gfb7 (by omega) hw (fun y2 t2 g2=>?_)
     obtain⟨d2,e2⟩:=ac7 g2 (by decide) e1
     simp -implicitDefEqProofs (maxSteps:=4000000) only [go_sem,cc7]
     have hme2:xs7 ws s10=Go.Proofs.YtabadfkikdefeaaGreat.rep (tr7 ws) (x.toNat-(j+1)) (((z::sl)++[y1],(u::tl)++[y2]),t2):=by
      rw[hme]
      show Go.Proofs.YtabadfkikdefeaaGreat.rep (tr7 ws) _ (tr7 ws _)=_
      unfold tr7
      simp only[g1,g2]
     and_intros
     all_goals try omega
     all_goals
      refine⟨(j+1,(((z::sl)++[y1],(u::tl)++[y2]),t2)),[9,10],⟨⟨by omega,by simp at hm1 ⊢; omega,by simp at hm2 ⊢; omega,e2⟩,hme2⟩,⟨rfl,rfl⟩,rfl, ?_,by omega⟩
      simp only[ta7 _ (show 3<9 by decide),ta7 _ (show 4<9 by decide),ta7 _ (show 5<9 by decide),ta7 _ (show 6<9 by decide)]
      rw[mb7 _ 9 _ _ (by decide),nb7 _ 9 _ _ (by decide),acb7 _ 9 _ _ (by decide),uab7 _ 9 _ _ (by decide)]
      simp only[List.cons_append,List.length_cons,List.length_append,List.length_nil];rfl
   ·have h0:x.toNat-j=0:=by omega
    rw[h0]at hme
    have hme0:xs7 ws s10=(((z::sl),(u::tl)),s12):=hme
    clear hme
    rcases bs with _ | ⟨q1,bs⟩ <;> rcases rs with _ | ⟨q2,rs⟩
    rotate_left
    ·simp only[List.length_cons,List.length_nil]at hl1 hl2;omega
    ·simp only[List.length_cons,List.length_nil]at hl1 hl2;omega
    rotate_left
    ·refine wb7 (by omega) hw (fun bk s13 h13=>?_)
     obtain⟨c13,b13⟩:=ac7 h13 (by decide) hmj
     have he2:Go.Proofs.YtabadfkikdefeaaGreat.rep (dd7 ws) m.toNat (([],[]),s7)=Go.Proofs.YtabadfkikdefeaaGreat.rep (dd7 ws) (m.toNat-(k+1)) ((([]:List ga7)++[(⟨sat,(z::sl)⟩:ga7)],([]:List qa7)++[(⟨ou,(u::tl),bk⟩:qa7)]),s13):=by
      rw[he]
      show Go.Proofs.YtabadfkikdefeaaGreat.rep (dd7 ws) _ (dd7 ws _)=_
      unfold dd7
      simp only[h9,h10,hme0,h13]
     clear he hme0 h9 h10 h13
     simp -implicitDefEqProofs (maxSteps:=4000000) only [go_sem,cc7,mu7,vh7,bkR,riR,List.length_map]
     and_intros
     all_goals try omega
     all_goals first | (refine⟨(k+1,((([]:List ga7)++[(⟨sat,(z::sl)⟩:ga7)],([]:List qa7)++[(⟨ou,(u::tl),bk⟩:qa7)]),s13)),[12,14],⟨⟨by omega,by simp at hl1 ⊢; omega,by simp at hl2 ⊢; omega,b13⟩,he2⟩,⟨rfl,rfl⟩,rfl, ?_,by omega⟩;simp only[ta7 _ (show 3<5 by decide),ta7 _ (show 4<5 by decide)];rw[mb7 _ 5 _ _ (by decide),nb7 _ 5 _ _ (by decide)];rfl) | (refine⟨(k+1,((([]:List ga7)++[(⟨sat,(z::sl)⟩:ga7)],([]:List qa7)++[(⟨ou,(u::tl),bk⟩:qa7)]),s13)),[13,14],⟨⟨by omega,by simp at hl1 ⊢; omega,by simp at hl2 ⊢; omega,b13⟩,he2⟩,⟨rfl,rfl⟩,rfl, ?_,by omega⟩;simp only[ta7 _ (show 3<5 by decide),ta7 _ (show 4<5 by decide)];rw[mb7 _ 5 _ _ (by decide),nb7 _ 5 _ _ (by decide)];rfl)
    ·simp only[List.length_cons]at hl1 hl2
     refine wb7 (by omega) hw (fun bk s13 h13=>?_)
     obtain⟨c13,b13⟩:=ac7 h13 (by decide) hmj
     have he2:Go.Proofs.YtabadfkikdefeaaGreat.rep (dd7 ws) m.toNat (([],[]),s7)=Go.Proofs.YtabadfkikdefeaaGreat.rep (dd7 ws) (m.toNat-(k+1)) (((q1::bs)++[(⟨sat,(z::sl)⟩:ga7)],(q2::rs)++[(⟨ou,(u::tl),bk⟩:qa7)]),s13):=by
      rw[he]
      show Go.Proofs.YtabadfkikdefeaaGreat.rep (dd7 ws) _ (dd7 ws _)=_
      unfold dd7
      simp only[h9,h10,hme0,h13]
     clear he hme0 h9 h10 h13
     simp -implicitDefEqProofs (maxSteps:=4000000) only [go_sem,cc7,mu7,vh7,bkR,riR,List.length_map]
     and_intros
     all_goals try omega
     all_goals first | (refine⟨(k+1,(((q1::bs)++[(⟨sat,(z::sl)⟩:ga7)],(q2::rs)++[(⟨ou,(u::tl),bk⟩:qa7)]),s13)),[5,6],⟨⟨by omega,by simp at hl1 ⊢; omega,by simp at hl2 ⊢; omega,b13⟩,he2⟩,⟨rfl,rfl⟩,rfl, ?_,by omega⟩;simp only[ta7 _ (show 3<5 by decide),ta7 _ (show 4<5 by decide)];rw[mb7 _ 5 _ _ (by decide),nb7 _ 5 _ _ (by decide)];simp only[List.cons_append,vh7,bkR,riR,List.map_cons,List.map_append,List.map_nil,List.length_cons,List.length_append,List.length_nil];rfl)
  ·have h0:m.toNat-k=0:=by omega
   rw[h0]at he
   have hB:Go.Proofs.YtabadfkikdefeaaGreat.rep (dd7 ws) m.toNat (([],[]),s7)=((bs,rs),s8):=he
   rw[hB]at hS
   clear he hB
   refine rlb7 (by omega) (fun _ s14 h14=>?_)
   have b14:=nu7 h14 hj
   simp only at hS
   rw[h14]at hS
   rw[hS]
   clear hS h14
   obtain⟨i,c⟩:=s14
   simp only at b14
   have zero:∀a c:Int,∃r',ivb7 (.tup [.agg [.nils,.nils,.nils,.nils,I6 0],.c (I6 a),.c (I6 c)]) r'∧r' = .tup [.agg (kd7 nf7),.c (I6 a),.c (I6 c)]:=fun a c=>⟨_,⟨_,rfl,⟨_,_,rfl,.inr ⟨_,rfl,⟨_,_,rfl,.inr (.inr ⟨_,_,rfl⟩),_,_,rfl,.inr (.inr ⟨_,_,rfl⟩),_,_,rfl,.inr (.inr ⟨_,_,rfl⟩),_,_,rfl,.inr (.inr ⟨_,_,rfl⟩),_,_,rfl,.inl rfl,rfl⟩⟩,_,_,rfl,.inl rfl,_,_,rfl,.inl rfl,rfl⟩⟩,rfl⟩
   have fin:∀(x:ld7) (a b c d:AV),Eqv a (.sl x.plan.trucks.length 1 (fun i _=>vm7 (jcb7 x.plan i)))→Eqv b (.sl x.plan.bikes.length 2 (fun i=>ix2 (I6 (cy7 x.plan i).sat) (kf7 (cy7 x.plan i).stops)))→Eqv c (.sl x.times.trucks.length 1 (fun i _=>kf7 (kab7 x.times i)))→Eqv d (.sl x.times.bikes.length 3 (fun i=>ix3 (I6 (jl7 x.times i).out) (kf7 (jl7 x.times i).starts) (I6 (jl7 x.times i).back))) →
     ∃r',ivb7 (.tup [.agg [a,b,c,d,I6 x.cost],.c (I6 0),.c (I6 0)]) r'∧r' = .tup [.agg (kd7 x),.c (I6 0),.c (I6 0)]:=fun x a b c d q1 q2 q3 q4=>⟨_,⟨_,rfl,⟨_,_,rfl,.inr ⟨_,rfl,⟨_,_,rfl,.inr q1,_,_,rfl,.inr q2,_,_,rfl,.inr q3,_,_,rfl,.inr q4,_,_,rfl,.inl rfl,rfl⟩⟩,_,_,rfl,.inl rfl,_,_,rfl,.inl rfl,rfl⟩⟩,rfl⟩
   by_cases hi:i<ws.length <;> by_cases hc:c=0
   ·subst hc
    rw[show bjb7 ws s.length (⟨⟨ss,bs⟩,⟨ts,rs⟩,cost⟩,i,0)=(nf7,((ws.getD i ([],0)).2:Int),6) by unfold bjb7 vf7;simp[hi]]
    simp -implicitDefEqProofs only [go_sem,cc7]
    repeat' first | intro _ | with_reducible refine And.intro ?_ ?_
    all_goals first | omega | exact zero _ _ | contradiction
   ·rw[show bjb7 ws s.length (⟨⟨ss,bs⟩,⟨ts,rs⟩,cost⟩,i,c)=(nf7,((ws.getD i ([],0)).2:Int),c) by unfold bjb7 vf7;simp[hi,hc]]
    simp -implicitDefEqProofs only [go_sem,cc7]
    repeat' first | intro _ | with_reducible refine And.intro ?_ ?_
    all_goals first | omega | exact zero _ _ | contradiction
   ·subst hc
    rw[show bjb7 ws s.length (⟨⟨ss,bs⟩,⟨ts,rs⟩,cost⟩,i,0)=(⟨⟨ss,bs⟩,⟨ts,rs⟩,cost⟩,0,0) by unfold bjb7 vf7;simp[hi]]
    simp -implicitDefEqProofs only [go_sem,cc7]
    refine⟨fun h=>by omega,fun _=>?_⟩
    refine⟨fun h=>(by first | omega | contradiction), ?_⟩
    rcases ss with _ | ⟨q1,ss⟩ <;> rcases bs with _ | ⟨q2,bs⟩ <;> rcases ts with _ | ⟨q3,ts⟩ <;> rcases rs with _ | ⟨q4,rs⟩
    all_goals
     simp -implicitDefEqProofs only [go_sem,mu7,vh7,trR,tmR,bkR,riR,List.length_map]
     refine fin ⟨⟨_,_⟩,⟨_,_⟩,cost⟩ _ _ _ _ ?_ ?_ ?_ ?_
    all_goals
     first
     | exact .inr ⟨_,_,rfl⟩
     | exact uyb7 (q1::ss) _ (fun _ _=>rfl)
     | exact hzb7 (q3::ts) _ (fun _ _=>rfl)
     | exact pzb7 (q2::bs) _ (fun _ _=>rfl)
     | exact azb7 (q4::rs) _ (fun _ _=>rfl)
   ·rw[show bjb7 ws s.length (⟨⟨ss,bs⟩,⟨ts,rs⟩,cost⟩,i,c)=(nf7,(s.length:Int),c) by unfold bjb7 vf7;simp[hi,hc]]
    simp -implicitDefEqProofs only [go_sem,cc7]
    repeat' first | intro _ | with_reducible refine And.intro ?_ ?_
    all_goals first | omega | exact zero _ _ | contradiction
theorem iwb7 {p q:ab7}(hp:cfb7 p) (hq:cfb7 q):PCall Tryz.prog 27 [.agg (eo7 p),.agg (eo7 q)] (fun r=>r = .c (.bool (decide (p=q)))) :=
 bq7 ⟨_,_,Tryz.func27,by kernel_rfl,rfl⟩ fun rho w vs hcv=>by
  obtain⟨_,_,rfl,⟨cs,rfl,h1⟩,_,_,rfl,⟨ds,rfl,h2⟩,rfl⟩:=hcv
  refine (twb7 (gzb7 h1 hp) (gzb7 h2 hq)).mono ?_
  rintro e w' ⟨rfl,hb⟩
  exact⟨_,_,rfl,rfl,rfl,hb⟩
theorem mlb7 {a:ld7}(ha:cfb7 a.plan) (ta:lmb7 a.times) (hla:a.times.trucks.length≤1000000000000000∧a.times.bikes.length≤1000000000000000):PCall Tryz.prog 18 [.agg (kd7 a),.agg (kd7 a)] (fun r=>r = .c (.bool true)):=by
 refine he7 vc7 (by kernel_rfl) (fun _=>([],0,none)) Tryz.func18 rfl (by kernel_rfl) Tryz.ntmps18 (congrArg Array.toList Tryz.results18) (by kernel_rfl) (by simp) ?_
 simp -implicitDefEqProofs only [go_sem,kd7,eo7,ri7]
 refine be7 (iwb7 ha ha) ⟨trivial,trivial,trivial⟩ rfl (fun r h=>by subst h;rfl) ?_
 rintro r rfl
 rw[decide_eq_true (rfl:a.plan=a.plan)]
 simp -implicitDefEqProofs only [go_sem,eq_self,not_true_eq_false,not_false_eq_true,decide_false,decide_true,Bool.not_false,Bool.not_true,Bool.or_false,Bool.false_or,Bool.true_or,Bool.or_true,Bool.and_true,Bool.true_and,Bool.false_and,Bool.and_false,true_implies]
 refine be7 (vfc7 ta ta hla) ⟨trivial,trivial,trivial⟩ rfl (fun r h=>by subst h;rfl) ?_
 rintro r rfl
 rw[decide_eq_true (rfl:a.times=a.times)]
 simp -implicitDefEqProofs only [go_sem,eq_self,not_true_eq_false,not_false_eq_true,decide_false,decide_true,Bool.not_false,Bool.not_true,Bool.or_false,Bool.false_or,Bool.true_or,Bool.or_true,Bool.and_true,Bool.true_and,Bool.false_and,Bool.and_false,true_implies]
open Go.RowKit Go.Lib
theorem oab7:ewb7 nf7.plan nf7.times nf7.cost:=⟨by decide,by decide,rfl,rfl,fun i hi=>absurd hi (Nat.not_lt_zero _),fun i hi=>absurd hi (Nat.not_lt_zero _),nn0⟩
theorem lvb7 (s:List UInt8):ewb7 (tc7 s).1.plan (tc7 s).1.times (tc7 s).1.cost:=by
 unfold tc7
 split
 ·exact oab7
 ·split
  ·exact oab7
  ·unfold hvb7
   split
   ·rename_i x i hx
    split
    ·exact oab7
    ·exact (qz7 hx).2
   ·exact oab7
theorem dic7 {p:ab7}{t:qb7}{c:Int}(h:ewb7 p t c):cfb7 p∧lmb7 t∧(t.trucks.length≤1000000000000000∧t.bikes.length≤1000000000000000) :=
 ⟨⟨fun l hl=>(h.text.st l hl).2,fun b hb=>(h.text.sb b hb).2⟩,⟨h.text.tt,h.text.tb⟩,by have:=h.et;have:=h.nt;omega,by have:=h.eb;have:=h.nb;omega⟩
theorem sheetReads_p (s:List UInt8):PCall Tryz.prog 4 [.c (.str (S s))] (fun r=>r = .c (.bool true)):=by
 refine he7 vc7 (by kernel_rfl) (fun _=>([],0,none)) Tryz.func4 rfl (by kernel_rfl) Tryz.ntmps4 (congrArg Array.toList Tryz.results4) (by kernel_rfl) (by simp) ?_
 simp -implicitDefEqProofs only [go_sem]
 refine be7 afb7 (by simp -implicitDefEqProofs only [go_sem]) rfl (fun r h=>by subst h;rfl) ?_
 rintro r rfl
 (try simp -implicitDefEqProofs only [go_sem,eq_self,not_true_eq_false,not_false_eq_true,decide_false,decide_true,Bool.not_false,Bool.not_true,Bool.or_false,Bool.false_or,Bool.true_or,Bool.or_true,Bool.and_true,Bool.true_and,Bool.false_and,Bool.and_false,true_implies])
 refine fun h=>?_
 have hl:s.length≤2000:=by
  have:s.toArray.size=s.length:=rfl
  omega
 refine xm7 (xhb7 s (by omega)) (by simp -implicitDefEqProofs only [go_sem]) rfl rfl ?_
 rintro r rfl
 simp -implicitDefEqProofs only [go_sem,kd7,eo7,ri7,kj7]
 refine xm7 (qdc7 s (by omega)) (by simp -implicitDefEqProofs only [go_sem]) rfl rfl ?_
 rintro r rfl
 simp -implicitDefEqProofs only [go_sem,kd7,eo7,ri7,rz7,mjb7 (show s.length≤131072 by omega)]
 obtain⟨w1,w2,w3⟩:=dic7 (lvb7 s)
 generalize tc7 s=q at *
 refine be7 (mlb7 w1 w2 w3) ⟨trivial,trivial,trivial⟩ rfl (fun r h=>by subst h;rfl) ?_
 rintro r rfl
 simp -implicitDefEqProofs only [go_sem,eq_self,not_true_eq_false,not_false_eq_true,decide_false,decide_true,Bool.not_false,Bool.not_true,Bool.or_false,Bool.false_or,Bool.true_or,Bool.or_true,Bool.and_true,Bool.true_and,Bool.false_and,Bool.and_false,true_implies]
end Go.Proofs.YtabadfkikdefeaaGreat.Ab
namespace Go.Proofs.YtabadfkikdefeaaGreat.Ab
open Go.RowKit Go.Lib
theorem nhb7 {s:List UInt8}(hl:s.length≤100000) (h0:(tc7 s).2.2=0):ewb7 (tc7 s).1.plan (tc7 s).1.times (tc7 s).1.cost∧tc7 (nj7 (tc7 s).1.plan (tc7 s).1.times (tc7 s).1.cost)=((tc7 s).1,0,0)∧(nj7 (tc7 s).1.plan (tc7 s).1.times (tc7 s).1.cost).length≤100001:=by
 have e:tc7 s=hvb7 (jb7 s) s.length (bh7 (jb7 s)):=by
  unfold tc7 at h0 ⊢
  rw[if_neg (by omega)]at h0 ⊢
  split at h0
  ·exact absurd h0 (show ¬(_:Int)=0 by simp)
  ·rename_i hb
   rw[if_neg hb]
 rw[e]at h0 ⊢
 cases hs:bh7 (jb7 s) with
 | error q =>
  obtain⟨i,c⟩:=q
  rw[hs]at h0
  exact absurd h0 ((rj7 (jb7 s)).sim.er () 0 (i,c) (by rw[ur7];exact hs)).2
 | ok q =>
  obtain⟨x,i⟩:=q
  rw[hs]at h0
  by_cases hi:i<(jb7 s).length
  ·rw[show hvb7 (jb7 s) s.length (.ok (x,i))=(nf7,vf7 (jb7 s) s.length i,6) from if_pos hi]at h0
   exact absurd h0 (show ¬(_:Int)=0 by simp)
  ·rw[show hvb7 (jb7 s) s.length (.ok (x,i))=(x,0,0) from if_neg hi]
   obtain⟨a1,a2,a3,a4,a5⟩:=again hs hi
   refine⟨a1, ?_,by simp only;omega⟩
   simp only
   unfold tc7
   rw[if_neg (by omega),if_neg (by omega),a4]
   exact if_neg (by omega)
theorem sheetAgain_p (s:List UInt8):PCall Tryz.prog 5 [.c (.str (S s))] (fun r=>r = .c (.bool true)):=by
 refine he7 vc7 (by kernel_rfl) (fun _=>([],0,none)) Tryz.func5 rfl (by kernel_rfl) Tryz.ntmps5 (congrArg Array.toList Tryz.results5) (by kernel_rfl) (by simp) ?_
 simp -implicitDefEqProofs only [go_sem]
 refine be7 afb7 (by simp -implicitDefEqProofs only [go_sem]) rfl (fun r h=>by subst h;rfl) ?_
 rintro r rfl
 (try simp -implicitDefEqProofs only [go_sem,eq_self,not_true_eq_false,not_false_eq_true,decide_false,decide_true,Bool.not_false,Bool.not_true,Bool.or_false,Bool.false_or,Bool.true_or,Bool.or_true,Bool.and_true,Bool.true_and,Bool.false_and,Bool.and_false,true_implies])
 refine fun h=>?_
 have hl:s.length≤2000:=by
  have:s.toArray.size=s.length:=rfl
  omega
 refine xm7 (xhb7 s (by omega)) (by simp -implicitDefEqProofs only [go_sem]) rfl rfl ?_
 rintro r rfl
 simp -implicitDefEqProofs only [go_sem,kd7,eo7,ri7,kj7]
 refine fun h0=>?_
 obtain⟨a1,a2,a3⟩:=nhb7 (s:=s) (by omega) (by omega)
 generalize (tc7 s).1=x at *
 obtain⟨w1,w2,w3⟩:=dic7 a1
 refine be7 (sheet_p a1.text) (by simp -implicitDefEqProofs only [go_sem]) rfl (fun r h=>by subst h;rfl) ?_
 rintro r rfl
 (try simp -implicitDefEqProofs only [go_sem,eq_self,not_true_eq_false,not_false_eq_true,decide_false,decide_true,Bool.not_false,Bool.not_true,Bool.or_false,Bool.false_or,Bool.true_or,Bool.or_true,Bool.and_true,Bool.true_and,Bool.false_and,Bool.and_false,true_implies])
 refine xm7 (xhb7 _ (by omega)) (by simp -implicitDefEqProofs only [go_sem]) rfl rfl ?_
 rintro r rfl
 simp -implicitDefEqProofs only [go_sem,kd7,eo7,ri7,kj7,a2]
 refine be7 (mlb7 w1 w2 w3) ⟨trivial,trivial,trivial⟩ rfl (fun r h=>by subst h;rfl) ?_
 rintro r rfl
 simp -implicitDefEqProofs only [go_sem,eq_self,not_true_eq_false,not_false_eq_true,decide_false,decide_true,Bool.not_false,Bool.not_true,Bool.or_false,Bool.false_or,Bool.true_or,Bool.or_true,Bool.and_true,Bool.true_and,Bool.false_and,Bool.and_false,true_implies]
 refine be7 (sheet_p a1.text) (by simp -implicitDefEqProofs only [go_sem]) rfl (fun r h=>by subst h;rfl) ?_
 rintro r rfl
 (try simp -implicitDefEqProofs only [go_sem,eq_self,not_true_eq_false,not_false_eq_true,decide_false,decide_true,Bool.not_false,Bool.not_true,Bool.or_false,Bool.false_or,Bool.true_or,Bool.or_true,Bool.and_true,Bool.true_and,Bool.false_and,Bool.and_false,true_implies])
 exact congrArg (fun b=>RV.c (AV.bool b)) (show eqS _ _=true from decide_eq_true rfl)
end Go.Proofs.YtabadfkikdefeaaGreat.Ab
