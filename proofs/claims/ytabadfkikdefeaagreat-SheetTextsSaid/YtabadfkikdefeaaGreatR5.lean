/- Texts of the proof, joined: BldM, SheetM, Awake20, AnyM. -/
import Derived.Shelf.RegionOpenPlain
import Derived.Test.YtabadfkikdefeaaGreatR4
import Derived.Test.YtabadfkikdefeaaGreatP9
set_option linter.all false
set_option maxRecDepth 100000
set_option maxHeartbeats 6400000
namespace Go.Proofs.YtabadfkikdefeaaGreat.Ab
open Go.RowKit Go.Lib
def ir7 (a b:AV):Root:=.live false 127 2 (.box [a,b])
def hp7 (l:List Int):Root:=.live false 5 1 (.ints .u8 l)
theorem hhb7 {P:Program}{w w':World}{b o:Nat}{v u:Value}(hc:w.cell? ⟨b,o,none⟩=some u) (hf:w.frozen? ⟨b,o,none⟩=false) (h1:v.oneCell'=true) (h:(storeCells ⟨b,o,none⟩ [v] 0).run P w = .ok () w'):w'=w.setCell ⟨b,o,none⟩ v:=by
 simp[storeCells,Sem.run_bind,Addr.add_lit,Nat.add_zero,run_store P w _ v _ h1,hc,hf,Result.andThen]at h
 exact h.symm
theorem ei7 {E:Env}{M:Mp}{H:List Root}{w:World}(hR:Rel E M H w) {id:Nat}{a b:AV}(h1:da7 H id=ir7 a b) :
  ∃u v,w.heap[M.phi id]? = some (.cells #[u,v] 127 (0,0))∧M.off id=0∧Con M H w a u∧Con M H w b v:=by
 obtain⟨cur,k1,k2,k3,k4,k5,k6⟩:=hR.row _ _ _ _ _ h1
 obtain⟨k7,k8⟩:=k5 rfl
 obtain⟨u,u1,u2,u3⟩:=k6 0 Nat.one_pos 0 (by decide)
 obtain⟨v,v1,v2,v3⟩:=k6 0 Nat.one_pos 1 (by decide)
 rw[k7]at u1 v1
 refine⟨u,v, ?_,k7,u3,v3⟩
 rw[k1]
 congr 2
 apply Array.ext
 ·rw[k8];rfl
 ·intro i hi hi2
  rw[k8]at hi
  match i,hi with
  | 0,_=>exact (Array.getElem?_eq_some_iff.1 u1).2
  | 1,_=>exact (Array.getElem?_eq_some_iff.1 v1).2
theorem ys7 {E:Env}{M:Mp}{H:List Root}{w:World}(hR:Rel E M H w) {id:Nat}{a b:AV}(h1:da7 H id=ir7 a b) {p:Value}(hp:Con M H w (.ptr id 1 0 0) p):p = .pointer (some ⟨M.phi id,0,none⟩):=by
 obtain⟨u,v,-,ho,-⟩:=ei7 hR h1
 have:=(hp.2 _ _ _ _ h1).2 rfl
 rw[ho]at this
 simpa using this
theorem fw7:∀{H:List Root}{id:Nat}{x y:Root},id<H.length→la7 (H++[y]) id x=la7 H id x++[y]
 | [],_,_,_,h=>absurd h (Nat.not_lt_zero _)
 | _::_,0,_,_,_=>rfl
 | _::H,id+1,_,_,h=>by simp only[List.cons_append,la7];rw[fw7 (by simpa using h)]
theorem ix7:∀(H:List Root) (id:Nat) (x y:Root),la7 (la7 H id x) id y=la7 H id y
 | [],_,_,_=>rfl
 | _::_,0,_,_=>rfl
 | _::H,id+1,_,_=>by simp only[la7];rw[ix7 H]
theorem leb7 {ops:Array Oper}{rest:List Oper}{o:Oper}{a:Act}{Q:Exit→Act→World→Prop}(w:World) (hgd:o.guard=none) (s x:Operand) (t tx:TypeId)
  (ho:o.op = .call { callee:=.builtin .append,args:=#[s,x],argTypes:=#[t,tx] }) {v xv v':Value} {w':World} (hs:a.eval s=v) (hx:a.eval x=xv)
  (hr:(Builtin.append_ #[t,tx] o.type #[v,xv]).run Tryz.prog w = .ok v' w') (h:wpList Tryz.prog ops Q rest (a.put o.dst v') w'):wpList Tryz.prog ops Q (o::rest) a w:=by
 refine wpList_plain hgd fun _ hK=>?_
 unfold Oper.wp execOp
 simp only[ho,resolve,invoke,builtin,Sem.run_bind,Sem.run_pure,Result.andThen_ok,List.map_toArray,List.map_cons,List.map_nil,hs,hx,hr]
 exact hK _ _ h
theorem sgb7 {E:Env}{M:Mp}{H:List Root}{w:World}(hR:Rel E M H w) {id:Nat}{a b c:AV}(h1:da7 H id=ir7 a b) {o:Nat}(ho:o<2) {v:Value}(hv:Con M H w c v) (hn:v.oneCell'=true) :
  Rel E M (la7 H id (.live false 127 2 (.box (pat [a,b] o [c])))) (w.setCell ⟨M.phi id,o,none⟩ v)∧Kp M H w M (la7 H id (.live false 127 2 (.box (pat [a,b] o [c])))) (w.setCell ⟨M.phi id,o,none⟩ v):=by
 obtain⟨x,y,hh,h0,-,-⟩:=ei7 hR h1
 obtain⟨w2,r1,r2,r3⟩:=ju7 (P:=Tryz.prog) hR h1 (i:=0) (o:=o) (cs:=[c]) (vs:=[v]) Nat.one_pos (by simp;omega) (by simpa using hn) rfl (fun j u hj=>by
  cases j with
  | zero=>simp at hj;subst hj;exact hv
  | succ j=>simp at hj) trivial
 rw[h0,Nat.zero_mul,Nat.zero_add]at r3
 have hc:∃u,w.cell? ⟨M.phi id,o,none⟩=some u:=by
  match o,ho with
  | 0,_=>exact⟨x,by rw[Lib.cell_of_heap hh];rfl⟩
  | 1,_=>exact⟨y,by rw[Lib.cell_of_heap hh];rfl⟩
 obtain⟨u,hc⟩:=hc
 have:=hhb7 hc (Lib.frozen_of_heap hh _) hn r3
 subst this
 exact⟨r1,r2⟩
theorem ewb7 {H:List Root}{id buf n:Nat}{l:List Int}{s:ByteArray}{K:RV→List Root→Prop}(h1:da7 H id=ir7 (.ptr id 1 0 0) (.h buf 0 n)) (h2:da7 H buf=hp7 l) (hn:n=l.length) (hs:n+s.size≤1099511627776)
  (hK:K (.tup [.c (I6 s.size),.c .junk]) (la7 (la7 H buf (hp7 (l++byI s))) id (ir7 (.ptr id 1 0 0) (.h buf 0 (n+s.size))))):no7 Tryz.prog none 52 [.c (.ptr id 1 0 0),.c (.str s)] H K:=by
 refine⟨⟨_,_,Tryz.func52,by kernel_rfl,rfl⟩,fun E M w vs hR hv=>?_⟩
 obtain⟨p,_,rfl,hp,sv,_,rfl,hsv,rfl⟩:=hv
 obtain rfl:sv = .string s:=hsv
 obtain rfl:=ys7 hR h1 hp
 obtain⟨x,y,hh,h0,hx,hy⟩:=ei7 hR h1
 obtain rfl:=ys7 hR h1 hx
 have hne:buf≠id:=by rintro rfl;rw[h1]at h2;cases h2
 have hux:Tryz.prog.underlying 9=some .string:=Tryz.underlying9
 obtain⟨hS,hC⟩:=rib7 (P:=Tryz.prog) (M:=M) (H:=H) (w:=w) hux s
 have hlb:(Row.ints .u8 (byI s)).len=s.size:=bl7 s
 have ho:=hy
 obtain⟨M',w',v',r0,r1,r2,r3⟩:∃M' w' v',(Builtin.append_ #[24,9] 24 #[y,.string s]).run Tryz.prog w = .ok v' w'∧Rel E M' (la7 H buf (hp7 (l++byI s))) w'∧Kp M H w M' (la7 H buf (hp7 (l++byI s))) w'∧Con M' (la7 H buf (hp7 (l++byI s))) w' (.h buf 0 (n+s.size)) v':=by
  have:=cw7 ko7 hR 24 9 5 24 (by kernel_rfl) Nat.one_pos (show 1≤128 by decide) hS hC h2 hn hy (by rw[hlb];exact hs) rfl
  rw[hlb]at this
  exact this
 have h1':da7 (la7 H buf (hp7 (l++byI s))) id=ir7 (.ptr id 1 0 0) (.h buf 0 n):=by rw[gd7,if_neg (fun h=>hne h.1.symm)];exact h1
 have hp':=r2 _ _ hp
 have hpe:M'.phi id=M.phi id:=by
  have:=ys7 r1 h1' hp'
  simpa using this.symm
 obtain⟨x',y',hh',h0',-,-⟩:=ei7 r1 h1'
 rw[hpe]at hh'
 obtain⟨s1,s2⟩:=sgb7 r1 h1' (o:=1) (by decide) r3 r3.1.2
 rw[hpe]at s1 s2
 have c0:w.cell? ⟨M.phi id,0,none⟩=some (.pointer (some ⟨M.phi id,0,none⟩)):=by rw[Lib.cell_of_heap hh];rfl
 have c1:w.cell? ⟨M.phi id,1,none⟩=some y:=by rw[Lib.cell_of_heap hh];rfl
 have c2:w'.cell? ⟨M.phi id,1,none⟩=some y':=by rw[Lib.cell_of_heap hh'];rfl
 have f2:w'.frozen? ⟨M.phi id,1,none⟩=false:=Lib.frozen_of_heap hh' _
 obtain⟨cap,cur,ad,rfl,-⟩:=(hy.2 _ _ _ _ h2).2 (by rw[hn];exact Nat.zero_add _)
 obtain⟨cap',cur',ad',rfl,-⟩:=(r3.2 _ _ _ _ (show da7 (la7 H buf (hp7 (l++byI s))) buf=hp7 (l++byI s) by rw[gd7,if_pos ⟨rfl,gi7 h2⟩])).2 (by show 0+(n+s.size)=(l++byI s).length;rw[List.length_append,bl7,hn];omega)
 have HF:=hid (And.intro s1 (And.intro (Kp.trans r2 s2) hK))
 have HL:H.length≤(la7 (la7 H buf (hp7 (l++byI s))) id (ir7 (.ptr id 1 0 0) (.h buf 0 (n+s.size)))).length:=by rw[cb7,cb7];exact Nat.le_refl _
 have HR0:=hid r0
 clear hK hR hp hx hy hh hux hS hC ho hp' hh' h0 h0' r1 r2 r3 s1 s2 h1 h2 h1' hne hlb hpe hn r0
 go_enter Tryz.func52,Tryz.ntmps52
 go_wp2_with (go_at_call 125;refine (ptb7 _ _ c0).mono ?_)
 rintro e w2 ⟨rfl,rfl⟩
 go_wp2_with (at_builtin;refine leb7 _ rfl _ _ 24 9 rfl rfl rfl HR0.out ?_)
 refine bodyPost_ret (results_tmp2 rfl _ _ _) rfl ?_
 obtain⟨f1,f3,f4⟩:=HF.out
 exact⟨M',_,.tup [.c (I6 s.size),.c .junk],_,rfl,f1,f3,⟨[.int .i64 s.size,.nilIface],rfl,_,_,rfl,rfl,_,_,rfl,trivial,rfl⟩,fun g hg=>(by cases hg),HL,f4⟩
theorem esb7 {H:List Root}{id:Nat}{s:ByteArray}{K:RV→List Root→Prop}(h1:da7 H id=ir7 .nilp .nils) (hs:0<s.size∧s.size≤1099511627776)
  (hK:K (.tup [.c (I6 s.size),.c .junk]) (la7 H id (ir7 (.ptr id 1 0 0) (.h H.length 0 s.size))++[hp7 (byI s)])):no7 Tryz.prog none 52 [.c (.ptr id 1 0 0),.c (.str s)] H K:=by
 refine⟨⟨_,_,Tryz.func52,by kernel_rfl,rfl⟩,fun E M w vs hR hv=>?_⟩
 obtain⟨p,_,rfl,hp,sv,_,rfl,hsv,rfl⟩:=hv
 obtain rfl:sv = .string s:=hsv
 obtain rfl:=ys7 hR h1 hp
 obtain⟨x,y,hh,h0,hx,hy⟩:=ei7 hR h1
 obtain rfl:x = .pointer none:=hx
 obtain rfl:y = .slice none 0 0:=hy
 have c0:w.cell? ⟨M.phi id,0,none⟩=some (.pointer none):=by rw[Lib.cell_of_heap hh];rfl
 have f0:w.frozen? ⟨M.phi id,0,none⟩=false:=Lib.frozen_of_heap hh _
 have sh:w.shape? (M.phi id)=some (127,2):=by simp[World.shape?,hh]
 have hlt:=gi7 h1
 obtain⟨s1,s2⟩:=sgb7 hR h1 (o:=0) (by decide) hp rfl
 have h2:da7 (la7 H id (ir7 (.ptr id 1 0 0) .nils)) id=ir7 (.ptr id 1 0 0) .nils:=by rw[gd7,if_pos ⟨rfl,hlt⟩]
 have s1:Rel E M (la7 H id (ir7 (.ptr id 1 0 0) .nils)) (w.setCell ⟨M.phi id,0,none⟩ (.pointer (some ⟨M.phi id,0,none⟩))):=s1
 have s2:Kp M H w M (la7 H id (ir7 (.ptr id 1 0 0) .nils)) (w.setCell ⟨M.phi id,0,none⟩ (.pointer (some ⟨M.phi id,0,none⟩))):=s2
 obtain⟨w1,hw1⟩:∃w1,w1=w.setCell ⟨M.phi id,0,none⟩ (.pointer (some ⟨M.phi id,0,none⟩)):=⟨_,rfl⟩
 rw[← hw1]at s1 s2
 obtain⟨H1,hH1⟩:∃H1,H1=la7 H id (ir7 (.ptr id 1 0 0) .nils):=⟨_,rfl⟩
 rw[← hH1]at s1 s2 h2
 have hl1:H1.length=H.length:=by rw[hH1,cb7]
 obtain⟨M',w',v',r0,r1,r2,r3⟩:∃M' w' v',(Builtin.append_ #[24,9] 24 #[.slice none 0 0,.string s]).run Tryz.prog w1 = .ok v' w'∧Rel E M' (H1++[hp7 (byI s)]) w'∧Kp M H1 w1 M' (H1++[hp7 (byI s)]) w'∧Con M' (H1++[hp7 (byI s)]) w' (.h H1.length 0 s.size) v' :=
  ly7 ko7 s1 24 9 5 24 (by kernel_rfl) (by kernel_rfl) ⟨by kernel_rfl,by kernel_rfl,by kernel_rfl⟩ hs
 have h2':da7 (H1++[hp7 (byI s)]) id=ir7 (.ptr id 1 0 0) .nils:=by rw[zi7,if_neg (by omega)];exact h2
 have hp1:=s2 _ _ hp
 have hp':=r2 _ _ hp1
 have hpe:M'.phi id=M.phi id:=by
  have:=ys7 r1 h2' hp'
  simpa using this.symm
 obtain⟨x1,y1,hh1,-,-,hy1⟩:=ei7 s1 h2
 obtain rfl:y1 = .slice none 0 0:=hy1
 obtain⟨x',y',hh',h0',-,-⟩:=ei7 r1 h2'
 rw[hpe]at hh'
 obtain⟨t1,t2⟩:=sgb7 r1 h2' (o:=1) (by decide) r3 r3.1.2
 rw[hpe]at t1 t2
 have c1:w1.cell? ⟨M.phi id,1,none⟩=some (.slice none 0 0):=by rw[Lib.cell_of_heap hh1];rfl
 have c2:w'.cell? ⟨M.phi id,1,none⟩=some y':=by rw[Lib.cell_of_heap hh'];rfl
 have f2:w'.frozen? ⟨M.phi id,1,none⟩=false:=Lib.frozen_of_heap hh' _
 obtain⟨cap',cur',ad',rfl,-⟩:=(r3.2 _ _ _ _ (show da7 (H1++[hp7 (byI s)]) H1.length=hp7 (byI s) by rw[zi7,if_pos rfl])).2 (by show 0+s.size=(byI s).length;rw[bl7,Nat.zero_add])
 have hset:la7 (H1++[hp7 (byI s)]) id (.live false 127 2 (.box (pat [.ptr id 1 0 0,.nils] 1 [.h H1.length 0 s.size])))=la7 H id (ir7 (.ptr id 1 0 0) (.h H.length 0 s.size))++[hp7 (byI s)]:=by
  rw[fw7 (by omega),hH1,ix7,cb7];rfl
 rw[hset]at t1 t2
 have HF:=hid (And.intro t1 (And.intro (Kp.trans s2 (Kp.trans r2 t2)) hK))
 have HL:H.length≤(la7 H id (ir7 (.ptr id 1 0 0) (.h H.length 0 s.size))++[hp7 (byI s)]).length:=by rw[List.length_append,cb7];omega
 have HR0:=hid r0
 have HW1:=hid hw1
 clear hK hR hp hh h0 h0' r1 r2 r3 s1 s2 t1 t2 h1 h2 h2' hpe r0 hset hH1 hl1 hh' hh1 hp1 hp' hlt hw1
 go_enter Tryz.func52,Tryz.ntmps52
 go_wp2_with (go_at_call 125;refine (jqb7 _ _ c0 sh f0).mono ?_)
 rintro e w2 ⟨rfl,hw2⟩
 rw[← HW1.out]at hw2
 subst hw2
 go_wp2_with (at_builtin;refine leb7 _ rfl _ _ 24 9 rfl rfl rfl HR0.out ?_)
 refine bodyPost_ret (results_tmp2 rfl _ _ _) rfl ?_
 obtain⟨f1,f3,f4⟩:=HF.out
 exact⟨M',_,.tup [.c (I6 s.size),.c .junk],_,rfl,f1,f3,⟨[.int .i64 s.size,.nilIface],rfl,_,_,rfl,rfl,_,_,rfl,trivial,rfl⟩,fun g hg=>(by cases hg),HL,f4⟩
theorem yzb7 {E:Env}{M:Mp}{H:List Root}{w w':World}(h:Rel E M H w) {id:Nat}{t:TypeId}{sz:Nat}{r:Row}(hr:da7 H id = .live false t sz r) (hg:w.grownBy w' (some (M.phi id))):Rel E M (la7 H id .dead) w'∧Kp M H w M (la7 H id .dead) w':=by
 have hid:=gi7 hr
 have hrho:∀b,M.rho b→w'.heap[b]? = w.heap[b]? := fun b hb=>hg.block b (h.rlt b hb) fun e=>h.thaw _ _ _ _ hr (by cases e;exact hb)
 have htau:∀b q,M.tau b=some q→w'.heap[b]? = w.heap[b]? := fun b q hq=>hg.block b (h.tau.lt hq) fun e=>by cases e;exact h.tau.row _ _ _ _ _ _ _ hq hr rfl
 have hoth:∀{j:Nat} {fz:Bool} {t2:TypeId} {s2:Nat} {r2:Row},da7 (la7 H id .dead) j = .live fz t2 s2 r2→da7 H j = .live fz t2 s2 r2∧j≠id:=fun {j fz t2 s2 r2} hj=>by
  rw[gd7]at hj
  by_cases e:j=id
  ·rw[if_pos ⟨e,hid⟩]at hj;cases hj
  ·rw[if_neg (fun h=>e h.1)]at hj;exact⟨hj,e⟩
 have hblk:∀{j:Nat} {fz:Bool} {t2:TypeId} {s2:Nat} {r2:Row},da7 H j = .live fz t2 s2 r2→j≠id→w'.heap[M.phi j]? = w.heap[M.phi j]? := fun {j fz t2 s2 r2} hj hne=>hg.block _ (h.lt hj) fun e=>by
  have e:=Option.some.inj e
  cases fz with
  | false=>exact hne (h.inj _ _ _ _ _ _ _ _ hj hr e)
  | true =>
   have:=h.froz _ _ _ _ hj
   rw[e]at this
   exact h.thaw _ _ _ _ hr this
 have hk:Kp M H w M (la7 H id .dead) w':=by
  intro a v c
  cases a with
  | ptr id2 n i o=>exact⟨⟨by rw[cb7];exact c.1.1,c.1.2⟩,fun fz t2 s2 r2 hj=>c.2 _ _ _ _ (hoth hj).1⟩
  | h id2 st len =>
   refine⟨⟨by rw[cb7];exact c.1.1,c.1.2⟩,fun fz t2 s2 r2 hj=>?_⟩
   obtain⟨hj,hne⟩:=hoth hj
   obtain⟨c1,c2⟩:=c.2 _ _ _ _ hj
   refine⟨c1,fun hn=>?_⟩
   obtain⟨cap,cur,ad,k1,k2,k3,k4,k5⟩:=c2 hn
   exact⟨cap,cur,ad,k1,k2,k3,by rw[hblk hj hne];exact k4,k5⟩
  | ws=>exact WSl.keep (po7.of rfl htau) c
  | wu=>obtain⟨n,hb',c⟩:=c;exact⟨n,hb',WSl.keep (po7.of rfl htau) c⟩
  | wp=>exact WPt.keep (po7.of rfl htau) c
  | junk=>trivial
  | _=>exact we7.keep hrho (fun _ h=>h) c
 have hW:E.W0.heap.size≤w.heap.size:=h.bel.size
 refine⟨⟨⟨hg.os.trans h.bel.os,hg.tape.trans h.bel.tape,hg.output.trans h.bel.output,Nat.le_trans h.bel.size hg.size,fun k hk=>by
   rw[hg.block k (by omega) (fun e=>by have:=h.low _ _ _ _ _ hr;cases e;omega)]
   exact h.bel.block k hk⟩,fun j fz t2 s2 r2 hj=>h.low _ _ _ _ _ (hoth hj).1,fun j fz t2 s2 r2 hj=>?_,fun j t2 s2 r2 hj=>h.froz _ _ _ _ (hoth hj).1,fun j t2 s2 r2 hj=>h.thaw _ _ _ _ (hoth hj).1,
  fun i j t1 s1 r1 t2 s2 r2 hi hj he=>h.inj _ _ _ _ _ _ _ _ (hoth hi).1 (hoth hj).1 he,fun b hb=>Nat.lt_of_lt_of_le (h.rlt b hb) hg.size,h.src, ?_⟩,hk⟩
 ·obtain⟨hj,hne⟩:=hoth hj
  exact (h.row _ _ _ _ _ hj).keep hk hrho (fun _ h=>h) (hblk hj hne)
 ·exact h.tau.keep rfl htau (fun b q hq=>(h.tau.new b q hq).2) fun b q j fz t2 s2 r2 hq hj=>h.tau.row _ _ _ _ _ _ _ hq (hoth hj).1
theorem cfb7 {w:World}{p:Addr}(n:Nat):w.grownBy (w.drew.freeze p n) (some p.block):=by
 unfold World.freeze
 split
 ·exact⟨rfl,rfl,rfl,Nat.le_refl _,fun _ _ _=>rfl⟩
 ·exact⟨rfl,rfl,rfl,by simp,fun k _ hk=>by
   simp only[Array.getElem?_modify]
   rw[if_neg (fun e=>hk (by rw[e]))]
   rfl⟩
theorem vzb7 {P:Program}{e:TypeId}(hc:P.cellsOf e=1) (count o n:Nat) (hn:o+n≤count):liesAt P P.depth e count o e n=true:=by
 have hd:P.depth=(2*(P.types.size+Made.depth)+1)+1:=rfl
 rw[hd]
 simp only[liesAt,Bool.or_eq_true]
 left
 rw[hd]
 simp[rowAt,hc,hn,sameLayout]
 exact .inl (Nat.mod_one o)
theorem zbc7 {w:World}{g o cells:Nat}{l:List UInt8}(hsh:w.shape? g=some (5,cells)) (h0:l≠[]) (hn:o+l.length≤cells) (h63:l.length≤1099511627776) (hcell:∀j x,l[j]? = some x→w.cell? ((⟨g,o,none⟩:Addr).add j)=some (.int .u8 x.toNat)) :
  (Builtin.unsafeString_ #[218,3] 9 #[.pointer (some ⟨g,o,none⟩),.int .i64 l.length]).run Tryz.prog w = .ok (.string (S l)) (w.freeze ⟨g,o,none⟩ l.length):=by
 have hl:l.length≠0:=by simpa using h0
 have hc:(Tryz.prog).cellsOf 5=1:=by kernel_rfl
 have hlb:=Lib.run_loadBytes (P:=Tryz.prog) w l ⟨g,o,none⟩ .empty hcell
 have hlies:=vzb7 (P:=Tryz.prog) hc (cells / (Tryz.prog).cellsOf 5) o l.length (by rw[hc,Nat.div_one];exact hn)
 have h63':¬(9223372036854775807:Int)<(l.length:Int):=by omega
 have hdef:Builtin.unsafeString_ #[218,3] 9 #[.pointer (some ⟨g,o,none⟩),.int .i64 l.length] =
   (do
    let n ← asInt (.int .i64 l.length)
    if n < 0 then runtimePanic (.error "unsafe.String: len out of range")
    if n > IntKind.i64.max then unsupported (.unsafePointer "String: a length above the largest int")
    if n=0 then pure (.string .empty)
    else if ← variablesAt ⟨g,o,none⟩ (← elemOf 218) n.toNat then do
     let s ← loadBytes ⟨g,o,none⟩ .empty n.toNat
     freeze ⟨g,o,none⟩ n.toNat
     pure (.string s)
    else unsupported (.unsafePointer "String: not so many bytes at ptr")) := rfl
 rw[hdef]
 have hmax:IntKind.i64.max=9223372036854775807:=rfl
 have hneg:¬(l.length:Int)<0:=by omega
 simp[asInt,asIntOf,hmax,h63',hneg,hl,variablesAt,hsh,elemOf,run_underlying Tryz.underlying218,hlies,hlb]
theorem utb7 (L:List UInt8):byI (S L)=L.map fun b=>(b.toNat:Int):=rfl
theorem rjc7 {H:List Root}{id buf n:Nat}{L:List UInt8}{K:RV→List Root→Prop}(h1:da7 H id=ir7 (.ptr id 1 0 0) (.h buf 0 n)) (h2:da7 H buf=hp7 (byI (S L))) (hn:n=L.length) (h0:L≠[]) (hs:L.length≤1099511627776)
  (hK:K (.c (.str (S L))) (la7 H buf .dead)):no7 Tryz.prog none 57 [.c (.ptr id 1 0 0)] H K:=by
 refine⟨⟨_,_,Tryz.func57,by kernel_rfl,rfl⟩,fun E M w vs hR hv=>?_⟩
 obtain⟨p,_,rfl,hp,rfl⟩:=hv
 obtain rfl:=ys7 hR h1 hp
 obtain⟨x,y,hh,ho,hx,hy⟩:=ei7 hR h1
 subst hn
 have hbl:(byI (S L)).length=L.length:=bl7 _
 obtain⟨cap,cur,ad,rfl,k1,k2,k3,k4,k5⟩:=(hy.2 _ _ _ _ h2).2 (by show 0+L.length=(byI (S L)).length;rw[hbl,Nat.zero_add])
 have hL:0<L.length:=List.length_pos_iff.2 h0
 have hk5:=k5 (by omega)
 rw[Nat.zero_mul,Nat.add_zero]at hk5
 subst hk5
 obtain⟨cur2,m1,m2,m3,m4,m5,m6⟩:=hR.row _ _ _ _ _ h2
 rw[k3]at m1
 cases m1
 have hcell:∀j x,L[j]? = some x→w.drew.cell? ((⟨M.phi buf,M.off buf,none⟩:Addr).add j)=some (.int .u8 x.toNat):=fun j x hj=>by
  obtain⟨hjl,rfl⟩:=List.getElem?_eq_some_iff.1 hj
  obtain⟨v,v1,v2,v3⟩:=m6 j (by show j<(byI (S L)).length;rw[hbl];exact hjl) 0 Nat.one_pos
  have v4:v = .int .u8 ((byI (S L)).getD j 0):=v3
  rw[utb7,List.getD_eq_getElem?_getD,List.getElem?_map,hj]at v4
  rw[Addr.add_lit,Lib.cell_of_heap (w:=w.drew) k3]
  rw[Nat.mul_one,Nat.add_zero]at v1
  rw[v1,v4];rfl
 have hsh:w.drew.shape? (M.phi buf)=some (5,cur.size):=by
  have hg':w.drew.heap[M.phi buf]? = some (.cells cur 5 (0,0)):=k3
  simp[World.shape?,hg']
 have hUS:=zbc7 (w:=w.drew) (g:=M.phi buf) (o:=M.off buf) (l:=L) hsh h0 (by have:M.off buf+(0+cap)*1=cur.size:=k4;omega) hs hcell
 have hSD:(Builtin.unsafeSliceData_ #[24] 218 #[.slice (some ⟨M.phi buf,M.off buf,none⟩) L.length cap]).run Tryz.prog w.drew = .ok (.pointer (some ⟨M.phi buf,M.off buf,none⟩)) w.drew:=Lib.run_unsafeSliceData_row _ _ _ _ _ _ (by omega)
 have c1:w.drew.cell? ⟨M.phi id,1,none⟩=some (.slice (some ⟨M.phi buf,M.off buf,none⟩) L.length cap):=by
  rw[Lib.cell_of_heap (w:=w.drew) hh];rfl
 obtain⟨s1,s2⟩:=yzb7 (w':=w.drew.freeze ⟨M.phi buf,M.off buf,none⟩ L.length) hR h2 (cfb7 (w:=w) (p:=⟨M.phi buf,M.off buf,none⟩) L.length)
 have HF:=hid (And.intro s1 (And.intro s2 hK))
 have HL:H.length≤(la7 H buf .dead).length:=by rw[cb7];exact Nat.le_refl _
 clear hK hR hp hx hy hh ho hbl k1 k2 k3 k4 k5 m2 m3 m4 m5 m6 hcell hsh s1 s2 h1 h2
 have mixed:(Tryz.prog).follows .mixedOrders=true:=by kernel_rfl
 go_enter Tryz.func57,Tryz.ntmps57
 go_wp2
 go_region_o
 all_goals (go_wp2;go_ret;obtain⟨f1,f3,f4⟩:=HF.out;exact⟨M,_,.c (.str (S L)),_,rfl,f1,f3,rfl,fun g hg=>(by cases hg),HL,f4⟩)
end Go.Proofs.YtabadfkikdefeaaGreat.Ab
namespace Go.Proofs.YtabadfkikdefeaaGreat.Ab
open Go.RowKit Go.Lib
theorem uxb7 (a b:List UInt8):byI (S a)++byI (S b)=byI (S (a++b)):=by rw[utb7,utb7,utb7,List.map_append]
def vhb7 (s:hi7) (l:List UInt8):List Root :=
 [.live false 43 5 (.box (pg7 s)),ir7 (.ptr 1 1 0 0) (.h 3 0 l.length),.live false 2 1 (.ints .i64 [s.cost]),hp7 (byI (S l)),.live false 2 1 (.ints .i64 [(s.plan.trucks.length:Int)])]
def twb7 (s:hi7) (l:List UInt8) (k j:Nat):List Root:=vhb7 s l++[.live false 124 1 (.box [wt7 (ef7 s.plan k)]),.live false 2 1 (.ints .i64 (tCells (ef7 s.plan k) (fs7 s.times k) j))]
def pub7 (s:hi7) (l:List UInt8):List Root:=vhb7 s l++[.live false 2 1 (.ints .i64 [(s.plan.bikes.length:Int)])]
def qwb7 (s:hi7) (l:List UInt8) (k j:Nat):List Root:=pub7 s l++[.live false 70 2 (.box [I6 (xe7 s.plan k).sat,ye7 (xe7 s.plan k).stops]),.live false 136 3 (.box [I6 (fi7 s.times k).out,ye7 (fi7 s.times k).starts,I6 (fi7 s.times k).back]),.live false 2 1 (.ints .i64 (kCells (xe7 s.plan k) (fi7 s.times k) j))]
theorem cx7 {H:List Root}{id buf n:Nat}{l m:List UInt8}{K:RV→List Root→Prop}(h1:da7 H id=ir7 (.ptr id 1 0 0) (.h buf 0 n)) (h2:da7 H buf=hp7 (byI (S l))) (hn:n=l.length) (hs:n+m.length≤1099511627776)
  (hK:K (.tup [.c (I6 m.length),.c .junk]) (la7 (la7 H buf (hp7 (byI (S (l++m))))) id (ir7 (.ptr id 1 0 0) (.h buf 0 (l++m).length)))):no7 Tryz.prog none 52 [.c (.ptr id 1 0 0),.c (.str (S m))] H K:=by
 refine ewb7 h1 h2 (by rw[hn];exact (bl7 (S l)).symm) hs ?_
 rw[uxb7]
 rw[List.length_append,← hn]at hK
 exact hK
theorem sheet_p {s:hi7}(h:le7 s.plan s.times s.cost):PCall Tryz.prog 14 [.agg (pg7 s)] (fun r=>r = .c (.str (S (vz7 s.plan s.times s.cost)))):=by
 refine vg7 ko7 (by kernel_rfl) (fun n=>match n with | 11=>([0,1,2,3,4,5,6,7,8,10,9,11,12,13,14],2,none) | _=>([],0,none)) Tryz.func14 rfl (by kernel_rfl) Tryz.ntmps14 (congrArg Array.toList Tryz.results14) (by kernel_rfl) (by simp) ?_
 have hc:=h.c
 have hnt:pa7 (s.plan.trucks.length:Int):=wn h.nt
 have hnb:pa7 (s.plan.bikes.length:Int):=wn h.nb
 have hnn:=h.nt
 have hbb:=h.nb
 have hhd:=h.headL
 have hml:=h.midL
 have l1:=wdb7 [112,108,97,110] [s.cost]
 have l2:=tp7 hc [112,108,97,110]
 have l3:=tp7 hnt [116,114,117,99,107,115]
 simp only[List.length_cons,List.length_nil]at l2 l3
 simp -implicitDefEqProofs only [go_sem,pg7,ee7,zb7]
 refine lj7 (vy7 (nm:=[112,108,97,110]) (l:=[s.cost]) (by simp) (by simp) (fun v hv=>by rw[List.mem_singleton.1 hv];exact hc)) ⟨rfl,⟨rfl,rfl⟩,trivial⟩ (by simp only[kj7,ts7,ap7,frz,da7];rw[of7 (by rfl)]) (fun r h=>by subst h;rfl) ?_
 rintro r rfl
 refine esb7 rfl ⟨l1,by rw[orb7];omega⟩ ?_
 simp -implicitDefEqProofs only [go_sem,ir7,hp7,orb7]
 refine lj7 (vy7 (nm:=[116,114,117,99,107,115]) (l:=[(s.plan.trucks.length:Int)]) (by simp) (by simp) (fun v hv=>by rw[List.mem_singleton.1 hv];exact hnt)) ⟨rfl,⟨rfl,rfl⟩,trivial⟩ (by simp only[kj7,ts7,ap7,frz,da7];rw[of7 (by rfl)]) (fun r h=>by subst h;rfl) ?_
 rintro r rfl
 refine cx7 rfl rfl rfl (by omega) ?_
 simp -implicitDefEqProofs only [go_sem,ir7,hp7]
 refine ie7 (ι:=Nat) [1,3,29,30] [31] (fun k=>k≤s.plan.trucks.length) (fun k=>[.c (I6 k)]) (fun k=>vhb7 s (kp7 s.plan s.cost++wf7 s.plan s.times k)) (fun k=>s.plan.trucks.length-k) (by kernel_rfl) ⟨0,Nat.zero_le _,rfl,(by rw[show wf7 s.plan s.times 0=[] from rfl,List.append_nil];rfl)⟩ (fun _ _=>⟨rfl,rfl,rfl,rfl⟩) ?_
 intro k hk
 have htr:=h.trucksL k
 have htk:=h.truckL k
 have htk':(rg7 [] (tCells (ef7 s.plan k) (fs7 s.times k) (ef7 s.plan k).length)).length≤1980023:=htk
 have hnx:kp7 s.plan s.cost++wf7 s.plan s.times (k+1)=(kp7 s.plan s.cost++wf7 s.plan s.times k)++rg7 [] (tCells (ef7 s.plan k) (fs7 s.times k) (ef7 s.plan k).length):=by rw[sj7,← List.append_assoc];rfl
 have hle:k=s.plan.trucks.length→kp7 s.plan s.cost++wf7 s.plan s.times k++rg7 [98,105,107,101,115] [(s.plan.bikes.length:Int)]=bgb7 s.plan s.times s.cost:=fun e=>by subst e;rfl
 have hal:(kp7 s.plan s.cost++wf7 s.plan s.times k).length≤198002300056:=by rw[List.length_append];omega
 generalize kp7 s.plan s.cost++wf7 s.plan s.times k=acc at hnx hle hal
 simp -implicitDefEqProofs only [go_sem,vhb7,ir7,hp7,pg7,ee7,zb7]
 refine⟨fun h1=>?_,fun h1=>?_⟩
 ·have hkl:(ef7 s.plan k).length≤30000:=(h.truck k).1
  refine⟨by omega, ?_⟩
  refine ie7 (ι:=Nat) [1,3,4,29,30,31,41,42] [6,43] (fun j=>j≤(ef7 s.plan k).length) (fun j=>[.c (.h 6 0 (tCells (ef7 s.plan k) (fs7 s.times k) j).length),.c (I6 j)]) (fun j=>twb7 s acc k j) (fun j=>(ef7 s.plan k).length-j) (by kernel_rfl) ⟨0,Nat.zero_le _,rfl,rfl⟩ (fun _ _=>⟨rfl,rfl,rfl,rfl⟩) ?_
  intro j hj
  have hlen:=wc7 (ef7 s.plan k) (fs7 s.times k) j
  simp -implicitDefEqProofs only [go_sem,twb7,vhb7,ir7,hp7,pg7,ee7,zb7]
  refine⟨fun h3=>?_,fun h3=>?_⟩
  ·refine⟨by omega,wl7 (sxb7 (t:=s.times) (k:=k) (by omega)) (by simp -implicitDefEqProofs only [go_sem]) rfl rfl ?_⟩
   rintro r rfl
   try simp -implicitDefEqProofs only [go_sem]
   refine ve7 (cxb7 (by omega)) (by simp -implicitDefEqProofs only [go_sem]) rfl (fun r h=>by subst h;rfl) ?_
   rintro r rfl
   simp -implicitDefEqProofs only [go_sem]
   refine⟨by omega,⟨by omega,by omega⟩,j+1,by omega, ?_, ?_,by omega⟩
   ·rw[wc7,wc7,show 1+3*(j+1)=1+3*j+3 by omega];rfl
   ·rw[pj7];rfl
  ·obtain rfl:j=(ef7 s.plan k).length:=by omega
   have hcw:=h.tCells k (ef7 s.plan k).length
   refine lj7 (vy7 (nm:=[]) (l:=tCells (ef7 s.plan k) (fs7 s.times k) (ef7 s.plan k).length) (by simp) (by omega) hcw) ⟨rfl,⟨Nat.zero_add _,rfl⟩,trivial⟩ (by simp only[kj7,ts7,ap7,frz,da7];rw[of7 rfl]) (fun r h=>by subst h;rfl) ?_
   rintro r rfl
   refine cx7 rfl rfl rfl (by omega) ?_
   refine⟨⟨by omega,by omega⟩,k+1,by omega,rfl, ?_,by omega⟩
   rw[hnx];rfl
 ·obtain rfl:k=s.plan.trucks.length:=by omega
  have hle:=hle rfl
  clear hk htr htk htk' hnx h1
  refine lj7 (vy7 (nm:=[98,105,107,101,115]) (l:=[(s.plan.bikes.length:Int)]) (by simp) (by simp) (fun v hv=>by rw[List.mem_singleton.1 hv];exact hnb)) ⟨rfl,⟨rfl,rfl⟩,trivial⟩ (by simp only[kj7,ts7,ap7,frz,da7];rw[of7 (by rfl)]) (fun r h=>by subst h;rfl) ?_
  rintro r rfl
  have hle2:=congrArg List.length hle
  rw[List.length_append]at hle2
  refine cx7 rfl rfl rfl (by omega) ?_
  rw[hle]
  simp -implicitDefEqProofs only [go_sem,ir7,hp7]
  refine ie7 (ι:=Nat) [1,3,76,77] [78] (fun k=>k≤s.plan.bikes.length) (fun k=>[.c (I6 k)]) (fun k=>pub7 s (bgb7 s.plan s.times s.cost++qi7 s.plan s.times k)) (fun k=>s.plan.bikes.length-k) (by kernel_rfl) ⟨0,Nat.zero_le _,rfl,(by rw[show qi7 s.plan s.times 0=[] from rfl,List.append_nil];rfl)⟩ (fun _ _=>⟨rfl,rfl,rfl,rfl⟩) ?_
  intro k hk
  have hbr:=h.bikesL k
  have hbk:=h.bikeL k
  have hbk':(rg7 [] (kCells (xe7 s.plan k) (fi7 s.times k) (xe7 s.plan k).stops.length++[(fi7 s.times k).back])).length≤1320089:=hbk
  have hnx:bgb7 s.plan s.times s.cost++qi7 s.plan s.times (k+1)=(bgb7 s.plan s.times s.cost++qi7 s.plan s.times k)++rg7 [] (kCells (xe7 s.plan k) (fi7 s.times k) (xe7 s.plan k).stops.length++[(fi7 s.times k).back]):=by rw[nl7,← List.append_assoc];rfl
  have hen:k=s.plan.bikes.length→bgb7 s.plan s.times s.cost++qi7 s.plan s.times k++[101,110,100,10]=vz7 s.plan s.times s.cost:=fun e=>by subst e;rfl
  have hal2:(bgb7 s.plan s.times s.cost++qi7 s.plan s.times k).length≤400002300056:=by rw[List.length_append];omega
  have hpos:0<(bgb7 s.plan s.times s.cost++qi7 s.plan s.times k).length:=by
   rw[List.length_append,bgb7,List.length_append,List.length_append]
   have:=wdb7 [98,105,107,101,115] [(s.plan.bikes.length:Int)]
   omega
  generalize bgb7 s.plan s.times s.cost++qi7 s.plan s.times k=ac2 at hnx hen hal2 hpos
  simp -implicitDefEqProofs only [go_sem,pub7,vhb7,ir7,hp7,pg7,ee7,zb7]
  refine⟨fun h1=>?_,fun h1=>?_⟩
  ·have hkl:(xe7 s.plan k).stops.length≤30000:=(h.bike k).1
   refine⟨by omega,wl7 (evb7 (t:=s.times) (k:=k) (by omega)) (by simp -implicitDefEqProofs only [go_sem]) rfl rfl ?_⟩
   rintro r rfl
   simp -implicitDefEqProofs only [go_sem]
   refine ie7 (ι:=Nat) [1,3,11,76,77,78,97,98] [12,99] (fun j=>j≤(xe7 s.plan k).stops.length) (fun j=>[.c (.h 8 0 (kCells (xe7 s.plan k) (fi7 s.times k) j).length),.c (I6 j)]) (fun j=>qwb7 s ac2 k j) (fun j=>(xe7 s.plan k).stops.length-j) (by kernel_rfl) ⟨0,Nat.zero_le _,rfl,rfl⟩ (fun _ _=>⟨rfl,rfl,rfl,rfl⟩) ?_
   intro j hj
   have hlen:=zd7 (xe7 s.plan k) (fi7 s.times k) j
   simp -implicitDefEqProofs only [go_sem,qwb7,pub7,vhb7,ir7,hp7,pg7,ee7,zb7]
   refine⟨fun h3=>?_,fun h3=>?_⟩
   ·refine⟨by omega,ve7 (cxb7 (by omega)) (by simp -implicitDefEqProofs only [go_sem]) rfl (fun r h=>by subst h;rfl) ?_⟩
    rintro r rfl
    simp -implicitDefEqProofs only [go_sem]
    refine⟨by omega,⟨by omega,by omega⟩,j+1,by omega, ?_, ?_,by omega⟩
    ·rw[zd7,zd7,show 3+2*(j+1)=3+2*j+2 by omega];rfl
    ·rw[nj7];rfl
   ·obtain rfl:j=(xe7 s.plan k).stops.length:=by omega
    have hcw:=h.kCells k (xe7 s.plan k).stops.length
    have hrb:=(h.ride k).2.1
    refine⟨by omega,lj7 (vy7 (nm:=[]) (l:=kCells (xe7 s.plan k) (fi7 s.times k) (xe7 s.plan k).stops.length++[(fi7 s.times k).back]) (by simp) (by rw[List.length_append,List.length_singleton];omega) (fun v hv=>(List.mem_append.1 hv).elim (hcw v) (fun e=>by rw[List.mem_singleton.1 e];exact hrb))) ⟨rfl,⟨by simp[Row.len],rfl⟩,trivial⟩ (by simp only[kj7,ts7,ap7,frz,da7];rw[of7 (by simp)]) (fun r h=>by subst h;rfl) ?_⟩
    rintro r rfl
    refine cx7 rfl rfl rfl (by omega) ?_
    refine⟨⟨by omega,by omega⟩,k+1,by omega,rfl, ?_,by omega⟩
    rw[hnx];rfl
  ·obtain rfl:k=s.plan.bikes.length:=by omega
   have hen:=hen rfl
   refine ybb7 (vy7 (nm:=[101,110,100]) (l:=[]) (by simp) (by simp) (fun v hv=>by cases hv)) (by simp -implicitDefEqProofs only [go_sem]) ⟨_,_,rfl,.inl rfl,_,_,rfl,.inr ⟨_,rfl,.inr (.inr ⟨_,_,rfl⟩)⟩,rfl⟩ (fun r h=>by subst h;rfl) ?_
   rintro r rfl
   refine cx7 rfl rfl rfl (by simp[rg7,lnS];omega) ?_
   simp -implicitDefEqProofs only [go_sem,ir7,hp7]
   refine rjc7 (L:=ac2++rg7 [101,110,100] []) rfl rfl rfl (fun e=>by have:=congrArg List.length e;rw[List.length_append,List.length_nil]at this;omega) (by simp[rg7,lnS];omega) ?_
   simp -implicitDefEqProofs only [go_sem]
   rw[← hen];rfl
end Go.Proofs.YtabadfkikdefeaaGreat.Ab
namespace Go.Proofs.YtabadfkikdefeaaGreat
open Go.RowKit Go.Lib
theorem pfc7:vz7 ⟨[[⟨0,5⟩]],[]⟩ ⟨[[4]],[]⟩ 0=[112,108,97,110,32,48,10,116,114,117,99,107,115,32,49,10,49,32,48,32,53,32,52,10,98,105,107,101,115,32,48,10,101,110,100,10]:=by
 have d0:itoa 0=[48]:=by unfold itoa decDigits;rfl
 have d1:itoa 1=[49]:=by unfold itoa decDigits;rfl
 have d4:itoa 4=[52]:=by unfold itoa decDigits;rfl
 have d5:itoa 5=[53]:=by unfold itoa decDigits;rfl
 simp[vz7,bgb7,kp7,wf7,qi7,ofb7,rg7,lnS,qh7,tCells,tItem,ft7,d0,d1,d4,d5]
theorem klc7:le7 ⟨[[⟨0,5⟩]],[]⟩ ⟨[[4]],[]⟩ 0 where
 nt:=by decide
 nb:=by decide
 st:=by unfold pa7;decide
 sb:=fun b hb=>by cases hb
 tt:=by unfold pa7;decide
 tb:=fun b hb=>by cases hb
 c:=by unfold pa7;decide
theorem rob7 {P:Program}{f:FuncId}{args:List Ab.RV}{w:World}{vs:List Value}{b:ByteArray}(h:Ab.PCall P f args (fun r=>r = .c (.str b))) (hc:Ab.Con0RL (fun b=>b<w.heap.size) w args vs):Calls P f vs.toArray w fun e w'=>e = .returned (.string b)∧Below w.heap.size w w':=by
 refine (h.2 _ w vs Ab.glob_triv (fun _ h=>h) hc).mono ?_
 rintro e w' ⟨r,v,rho',rfl,rfl,h1,-,h2⟩
 obtain rfl:v = .string b:=h1
 exact⟨rfl,h2⟩
theorem fec7 {w:World}{F:Nat→Prop}{s:hi7}{cs:List Value}(h:le7 s.plan s.times s.cost) (hs:zm7.rep w F s cs) :
  Calls Tryz.prog 14 #[.agg cs.toArray] w fun e w'=>e = .returned (.string (S (vz7 s.plan s.times s.cost)))∧Below w.heap.size w w' :=
 rob7 (vs:=[.agg cs.toArray]) (Ab.sheet_p h) ⟨_,_,rfl,⟨_,rfl,Ab.sheet_f (zm7.old hs)⟩,rfl⟩
theorem ocb7 {α:Type}{S:Shape α}{h0:0<S.sz}(w:World):(ia7 S h0).rep w (fun _=>True) [] [.slice none 0 0] :=
 ⟨none,0,0,0,rfl,Nat.le_refl _,Nat.zero_le _,fun h=>absurd h (Nat.not_lt_zero _),fun i h=>absurd h (Nat.not_lt_zero _)⟩
theorem ppb7 (w:World):Calls Tryz.prog 12 #[] w fun e w'=>e = .returned (.bool true)∧Below w.heap.size w w':=by
 obtain⟨W,hW,hold,r1,r2,r3,r4,r5,hz⟩:=mgb7 w [.int .i64 0,.int .i64 5] [.slice (some ⟨w.heap.size,0,none⟩) 1 1] [.int .i64 4] [.slice (some ⟨w.heap.size+2,0,none⟩) 1 1]
  [.slice (some ⟨w.heap.size+1,0,none⟩) 1 1,.slice none 0 0,.slice (some ⟨w.heap.size+3,0,none⟩) 1 1,.slice none 0 0,.int .i64 0] 121 124 2 78 43
 have HW:=hid hW
 have HB:=hid hold
 have e1:(ia7 ph7).rep W (fun _=>True) [⟨0,5⟩] [.slice (some ⟨w.heap.size,0,none⟩) 1 1]:=tvb7 (S:=ph7) ⟨rfl,by unfold pa7;decide,by unfold pa7;decide⟩ r1 trivial
 have e2:wm7.rep W (fun _=>True) [[⟨0,5⟩]] [.slice (some ⟨w.heap.size+1,0,none⟩) 1 1]:=tvb7 (S:=ia7 ph7) e1 r2 trivial
 have e3:(ia7 dg7).rep W (fun _=>True) [4] [.slice (some ⟨w.heap.size+2,0,none⟩) 1 1]:=tvb7 (S:=dg7) ⟨rfl,by unfold pa7;decide⟩ r3 trivial
 have e4:oh7.rep W (fun _=>True) [[4]] [.slice (some ⟨w.heap.size+3,0,none⟩) 1 1]:=tvb7 (S:=ia7 dg7) e3 r4 trivial
 have HS:=hid (show zm7.rep W (fun _=>True) ⟨⟨[[⟨0,5⟩]],[]⟩,⟨[[4]],[]⟩,0⟩ [.slice (some ⟨w.heap.size+1,0,none⟩) 1 1,.slice none 0 0,.slice (some ⟨w.heap.size+3,0,none⟩) 1 1,.slice none 0 0,.int .i64 0] from
  ⟨_,_,_,_,rfl,by unfold pa7;decide,⟨_,_,rfl,e2,ocb7 _⟩,⟨_,_,rfl,e4,ocb7 _⟩⟩)
 have HR:=hid r5
 clear hW hold r1 r2 r3 r4 r5 e1 e2 e3 e4
 obtain⟨q0,q1,q2,q3,q4⟩:=ysb7 HR.out
 go_enter Tryz.func12,Tryz.ntmps12
 go_upto_region 2 with fail
 rw[show w.heap.size+1+1+1=w.heap.size+3 from rfl,show w.heap.size+1+1=w.heap.size+2 from rfl,← HW.out]
 rw[show w.heap.size+1+1+1+1=w.heap.size+4 from rfl]
 go_wp2_with fail
 refine (fec7 klc7 HS.out).mono ?_
 rintro e w5 ⟨rfl,hb5⟩
 rw[pfc7]
 have HB5:=hid (ca7 HB.out hb5)
 clear hb5 q0 q1 q2 q3 q4 HS HR
 go_wp2_with fail
 refine (lob7 _).mono ?_
 rintro e w6 ⟨rfl,hb6⟩
 have HB6:=hid (ca7 HB5.out hb6)
 clear hb6 HB5
 go_wp2
 go_ret
 exact⟨rfl,HB6.out⟩
end Go.Proofs.YtabadfkikdefeaaGreat
namespace Go.Proofs.YtabadfkikdefeaaGreat.Ab
theorem fsb7:PCall Tryz.prog 12 [] (fun r=>r = .c (.bool true)) :=
 tn7 ⟨_,_,Tryz.func12,by kernel_rfl,rfl⟩ fun rho w vs hcv=>by
  obtain rfl:=hcv
  refine (ppb7 w).mono ?_
  rintro e w' ⟨rfl,hb⟩
  exact⟨_,_,rfl,rfl,rfl,hb⟩
open Go.RowKit Go.Lib
theorem dtb7 {x:ba7}(w:hf7) (hns:1≤x.sats.length∧x.sats.length≤3) (hnc:1≤x.custs.length∧x.custs.length≤6) (hcl:∀c∈x.custs,1≤c.load∧c.load≤1000) (htr:1≤x.troom):(sf7 x w).trucks.length≤99999:=by
 have hol:(af7 x w).length=x.custs.length:=lg7 _ _
 have hk:=aj7 (x:=x) w (os:=af7 x w) (fun c hc=>by have:=hcl c hc;omega) (by omega) (cj7 _ _) (af7 x w).length (Nat.le_refl _)
 have hlv:∀s,0≤(nb7 x w).1.getD s 0∧(nb7 x w).1.getD s 0≤6000:=fun s=>by
  rw[List.getD_eq_getElem?_getD]
  by_cases hs:s<(nb7 x w).1.length
  ·rw[List.getElem?_eq_getElem hs]
   have:=hk.loB _ (List.getElem_mem hs)
   exact⟨this.1,Int.le_trans this.2 (by rw[hol];omega)⟩
  ·rw[List.getElem?_eq_none (by omega)];simp
 have hd:=enb7 (x:=x) (w:=w) htr hlv (nb7 x w).1.length (by unfold nb7;rw[hk.loL];omega)
 have hll:(nb7 x w).1.length≤3:=by unfold nb7;rw[hk.loL];omega
 have:=hd.lenB
 show (dUp x w (nb7 x w).1 (nb7 x w).1.length).1.length≤_;omega
theorem hkb7:∀{l:List (List ea7)}{t:List ea7},t∈l→t.length≤xx7 l
 | b::l,t,h=>by
  have e:xx7 (b::l)=b.length+xx7 l:=by simp[xx7]
  rw[e]
  rcases List.mem_cons.1 h with rfl | h
  ·omega
  ·have:=hkb7 h;omega
theorem kpb7 {p:sa7}(h:p.trucks.length≤99999) (hs:xx7 p.trucks≤20000) (what at_:Nat) (by_:Int):(ib7 p what at_ by_).trucks.length≤100000∧∀t∈(ib7 p what at_ by_).trucks,t.length≤30000:=by
 have base:∀t∈p.trucks,t.length≤30000:=fun t ht=>by have:=hkb7 ht;omega
 have hset:∀(T:Nat) (a:List ea7),a.length≤20001→(p.trucks.set T a).length≤100000∧∀t∈p.trucks.set T a,t.length≤30000:=fun T a h1=>by
  refine⟨by rw[List.length_set];omega,fun t ht=>?_⟩
  rcases List.mem_or_eq_of_mem_set ht with h' | rfl
  ·exact base t h'
  ·omega
 unfold ib7
 split
 ·exact⟨by omega,base⟩
 ·show (ot7 p _ _ _ (at_:Int) by_).length≤100000∧∀t∈ot7 p _ _ _ (at_:Int) by_,t.length≤30000
  generalize at_ % p.trucks.length=T
  generalize (at_ / 3) % _=K
  have hgl:=zbb7 p.trucks T
  unfold ot7
  generalize p.trucks.getD T []=tl at *
  split
  ·exact hset _ _ (by rw[List.length_set];omega)
  ·exact hset _ _ (by rw[List.length_set];omega)
  ·exact hset _ _ (by rw[List.length_append,List.length_singleton];omega)
  ·refine⟨by simp;omega,fun t ht=>?_⟩
   rcases List.mem_append.1 ht with ht | ht
   ·exact base t ht
   ·obtain rfl:=List.mem_singleton.1 ht;simp
  ·exact hset _ _ (by rw[List.length_append,List.length_singleton];omega)
  ·exact⟨by omega,base⟩
theorem any_ok {y:ba7}(h:YOk y) (wi:hf7) (what at_:Nat) (hat:at_≤255) {by_ cost:Int}(hby:-128≤by_∧by_≤127) (hc:pa7 cost) {t:tb7}(ht:otb7 t):le7 (ib7 (sf7 y wi) what at_ by_) t cost:=by
 have h1:=kpb7 (dtb7 wi h.ns h.nc h.ld h.troom) (by have:=jz7 wi h.ns h.nc h.ld;omega) what at_ by_
 have hp:=ebb7 h wi what at_ hat hby
 have h2:=ov7 (yh7 wi h.ns h.nc h.ld h.troom) what at_ hby
 exact⟨h1.1,by have:=h2.1;omega,fun l hl=>⟨h1.2 l hl,hp.wf.trucks l hl⟩,fun b hb=>⟨by have:=(h2.2 b hb).2.1;omega,(hp.wf.bikes b hb).1,(hp.wf.bikes b hb).2⟩,ht.trucks,fun r hr=>⟨(ht.bikes r hr).1,(ht.bikes r hr).2.1,(ht.bikes r hr).2.2⟩,hc⟩
theorem sjc7 {s:vb7}{wi:hf7}{m:List Int×Int}{what at_:Nat}{by_ cost:Int}(hs:SmallK s) (hw:mqb7 wi) (hm:ffb7 m.1 m.2) (hwh:what≤255) (hat:at_≤255) (hby:-128≤by_∧by_≤127) :
  PCall Tryz.prog 13 [.agg (tx7 s),.agg (dhb7 wi),.c (.int .u8 what),.c (.int .u8 at_),.c (.int .i8 by_),.agg (mx7 m),.c (I6 cost)] (fun r=>∃t:tb7,otb7 t∧r = .agg (pg7 ⟨ib7 (sf7 (dh7 s) wi) what at_ by_,t,cost⟩)):=by
 refine vg7 ko7 (by kernel_rfl) (fun n=>match n with | 5=>([0,1,3,2,4,5,6],1,none) | _=>([],0,none)) Tryz.func13 rfl (by kernel_rfl) Tryz.ntmps13 (congrArg Array.toList Tryz.results13) (by kernel_rfl) (by simp) ?_
 simp -implicitDefEqProofs only [go_sem,tx7,dhb7,mx7]
 refine wl7 (icc7 hs) (by simp -implicitDefEqProofs only [go_sem]) rfl rfl ?_
 rintro r rfl
 have hy:=jnb7 hs
 generalize dh7 s=y at hy
 simp -implicitDefEqProofs only [go_sem,ni7]
 refine wl7 (yac7 hy hw) (by simp -implicitDefEqProofs only [go_sem]) rfl rfl ?_
 rintro r rfl
 refine wl7 (kub7 hy wi hwh hat hby) (by simp -implicitDefEqProofs only [go_sem,ee7]) rfl rfl ?_
 rintro r rfl
 have hp:=ebb7 hy wi what at_ hat hby
 generalize ib7 (sf7 y wi) what at_ by_=p at hp
 simp -implicitDefEqProofs only [go_sem,ee7]
 refine wl7 (tcc7 hy hp) (by simp -implicitDefEqProofs only [go_sem]) rfl rfl ?_
 rintro r rfl
 by_cases hc:na7 y p=0
 ·have hsk:=czb7 hy hc
  rw[hc]
  simp -implicitDefEqProofs only [go_sem]
  refine wl7 (rfc7 hsk) (by simp -implicitDefEqProofs only [go_sem]) rfl rfl ?_
  rintro r rfl
  simp -implicitDefEqProofs only [go_sem,zb7]
  refine yvb7 hsk hm (by simp -implicitDefEqProofs only [go_sem,mx7]) rfl rfl ?_
  intro t ht htl htb
  simp -implicitDefEqProofs only [go_sem,zb7]
  exact⟨.agg (pg7 ⟨p,t,cost⟩),⟨_,rfl,⟨_,_,rfl,.inl rfl,_,_,rfl,.inl rfl,_,_,rfl,.inl rfl,_,_,rfl,.inl rfl,_,_,rfl,.inl rfl,rfl⟩⟩,t,ht,rfl⟩
 ·simp -implicitDefEqProofs only [go_sem]
  refine⟨fun h=>absurd h hc,fun _=>?_⟩
  exact⟨.agg (pg7 ⟨p,⟨[],[]⟩,cost⟩),⟨_,rfl,⟨_,_,rfl,.inl rfl,_,_,rfl,.inl rfl,_,_,rfl,.inr (.inr ⟨_,_,rfl⟩),_,_,rfl,.inr (.inr ⟨_,_,rfl⟩),_,_,rfl,.inl rfl,rfl⟩⟩,⟨[],[]⟩,⟨(fun l hl=>by cases hl),(fun r hr=>by cases hr)⟩,rfl⟩
theorem reb7 {s:vb7}{wi:hf7}{m:List Int×Int}{what at_:Nat}{by_ cost:Int}(hs:SmallK s) (hw:mqb7 wi) (hm:ffb7 m.1 m.2) (hwh:what≤255) (hat:at_≤255) (hby:-128≤by_∧by_≤127) (hc:pa7 cost) :
  PCall Tryz.prog 3 [.agg (tx7 s),.agg (dhb7 wi),.c (.int .u8 what),.c (.int .u8 at_),.c (.int .i8 by_),.agg (mx7 m),.c (I6 cost)] (fun r=>r = .c (.bool true)):=by
 have hany:=sjc7 (cost:=cost) hs hw hm hwh hat hby
 have hok:∀t,otb7 t→le7 (ib7 (sf7 (dh7 s) wi) what at_ by_) t cost:=fun t ht=>any_ok (jnb7 hs) wi what at_ hat hby hc ht
 generalize ib7 (sf7 (dh7 s) wi) what at_ by_=p at hany hok
 refine vg7 ko7 (by kernel_rfl) (fun n=>match n with | 4=>([0,2,1,3,4,5],0,none) | _=>([],0,none)) Tryz.func3 rfl (by kernel_rfl) Tryz.ntmps3 (congrArg Array.toList Tryz.results3) (by kernel_rfl) (by simp) ?_
 simp -implicitDefEqProofs only [go_sem,tx7,dhb7,mx7]
 refine ve7 fsb7 trivial rfl (fun r h=>by subst h;rfl) ?_
 rintro r rfl
 (try simp -implicitDefEqProofs only [go_sem])
 (try intro _)
 refine wl7 hany (by simp -implicitDefEqProofs only [go_sem]) rfl rfl ?_
 rintro r ⟨t,ht,rfl⟩
 have hT:=hok t ht
 simp -implicitDefEqProofs only [go_sem,pg7,ee7,zb7]
 refine ve7 (sheet_p (s:=⟨p,t,cost⟩) hT) (by simp -implicitDefEqProofs only [go_sem]) rfl (fun r h=>by subst h;rfl) ?_
 rintro r rfl
 (try simp -implicitDefEqProofs only [go_sem,eq_self,not_true_eq_false,not_false_eq_true,decide_false,decide_true,Bool.not_false,Bool.not_true,Bool.or_false,Bool.false_or,Bool.true_or,Bool.or_true,Bool.and_true,Bool.true_and,Bool.false_and,Bool.and_false,true_implies])
 refine ve7 (cbc7 (s:=⟨p,t,cost⟩) hT) (by simp -implicitDefEqProofs only [go_sem]) rfl (fun r h=>by subst h;rfl) ?_
 rintro r rfl
 (try simp -implicitDefEqProofs only [go_sem,eq_self,not_true_eq_false,not_false_eq_true,decide_false,decide_true,Bool.not_false,Bool.not_true,Bool.or_false,Bool.false_or,Bool.true_or,Bool.or_true,Bool.and_true,Bool.true_and,Bool.false_and,Bool.and_false,true_implies])
 exact congrArg (fun b=>RV.c (AV.bool b)) (show eqS _ _=true from decide_eq_true rfl)
theorem sheetTexts_c {w:World}{F G S:Nat→Prop}{s:vb7}{wi:hf7}{m:List Int×Int}{cs1 cs2 cs3:List Value}{what at_:Nat}{by_ cost:Int}(h1:mr7.rep w F s cs1) (h2:egb7.rep w G wi cs2) (h3:zcb7.rep w S m cs3) (hwh:what≤255) (hat:at_≤255) (hby:-128≤by_∧by_≤127) (hc:pa7 cost) :
  Calls Tryz.prog 3 #[.agg cs1.toArray,.agg cs2.toArray,.int .u8 (what:Int),.int .u8 (at_:Int),.int .i8 by_,.agg cs3.toArray,.int .i64 cost] w fun e w'=>e = .returned (.bool true)∧Below w.heap.size w w' :=
 vfc7 (vs:=[.agg cs1.toArray,.agg cs2.toArray,.int .u8 (what:Int),.int .u8 (at_:Int),.int .i8 by_,.agg cs3.toArray,.int .i64 cost]) (reb7 (ibc7 h1) (zfc7 h2) (lzb7 h3) hwh hat hby hc) ⟨_,_,rfl,⟨_,rfl,oxb7 (mr7.old h1)⟩,_,_,rfl,⟨_,rfl,scc7 (egb7.old h2)⟩,_,_,rfl,rfl,_,_,rfl,rfl,_,_,rfl,rfl,_,_,rfl,⟨_,rfl,uac7 (zcb7.old h3)⟩,_,_,rfl,rfl,rfl⟩
end Go.Proofs.YtabadfkikdefeaaGreat.Ab
