/- Texts of the proof, joined: EarlyD, Cut, Clone64, PileT. -/
import Derived.BigQuiet
import Derived.BigRegion
import Derived.Deep.RegionWith
import Derived.Test.YtabadfkikdefeaaClockK
import Derived.Test.YtabadfkikdefeaaHeap
set_option linter.all false
set_option maxRecDepth 100000
set_option maxHeartbeats 6400000
namespace Go.Proofs.Ytabadfkikdefeaa
open Go.RowKit
theorem lo7 {x:ba7}:∀ (t:List ea7) (st:SnT),(t.foldl (df7 x) st).l.length = st.l.length + t.length
 | [],_=>rfl
 | s :: t,st=>by rw [List.foldl_cons,lo7 t]; simp [df7]; omega
theorem el7 {x:ba7}:∀ (l:List (List ea7)) (a:SnA),(l.foldl (cf7 x) a).ts.map List.length = a.ts.map List.length ++ l.map List.length
 | [],a=>by simp
 | t :: l,a=>by
  rw [List.foldl_cons,el7 l]
  simp only [cf7,ql7,List.map_append,List.map_cons,List.map_nil,List.append_assoc]
  rw [lo7]; simp
theorem un7 {x:ba7}:∀ (t:List Int) (st:SnB),(t.foldl (oe7 x) st).starts.length = st.starts.length + t.length
 | [],_=>rfl
 | s :: t,st=>by rw [List.foldl_cons,un7 t]; simp [oe7]; omega
theorem vu7 (x:ba7) (p:za7):(cb7 x p).trucks.map List.length = p.trucks.map List.length:=by
 unfold cb7 em7
 rw [el7]; rfl
theorem rt7 (x:ba7) (p:za7):(cb7 x p).trucks.length = p.trucks.length:=by
 have:=congrArg List.length (vu7 x p)
 simpa using this
theorem nib7 (x:ba7) (p:za7) {k:Nat} (h:k < p.trucks.length) (h':k < (cb7 x p).trucks.length):(cb7 x p).trucks[k].length = p.trucks[k].length:=by
 have:=congrArg (fun l:List Nat=>l[k]?) (vu7 x p)
 simpa [List.getElem?_eq_getElem h,List.getElem?_eq_getElem h'] using this
theorem yt7 (x:ba7) (p:za7):(cb7 x p).bikes.length = p.bikes.length:=by simp [cb7]
theorem qjb7 (x:ba7) (p:za7) {k:Nat} (h:k < p.bikes.length) (h':k < (cb7 x p).bikes.length):(cb7 x p).bikes[k].starts.length = p.bikes[k].stops.length:=by
 simp only [cb7,List.getElem_map,ol7,sc7]
 rw [un7]; simp
theorem vf7.hi {x:ba7} {d:DrS} {ts ready:List Int} (h:vf7 x d ts ready):∀ n i,i ≤ n → ts.getD i 0 ≤ 1000000000 + i * 1099511627776
 | n,i,hin=>by
  have hl:=h.len
  obtain ⟨h1,h2,h3,h4⟩:=xn7.1 h.late
  by_cases hi:i < d.fr.length
  ·rcases h4 i hi with e | ⟨a,ha,e1,e2⟩
   ·rw [e,List.getD_eq_getElem?_getD,List.getElem?_eq_getElem hi,Option.getD_some]
    have:=(h.frB _ (List.getElem_mem hi)).2
    omega
   ·obtain ⟨g1,g2,g3,g4⟩:=h.arc a ha
    cases n with
    | zero=>omega
    | succ n =>
     have:=h.hi n a.frm (by omega)
     rw [e2]
     have hh:((a.frm:Nat):Int) + 1 ≤ i:=by omega
     omega
  ·rw [List.getD_eq_getElem?_getD,List.getElem?_eq_none (by omega),Option.getD_none]; omega
theorem vf7.wf {x:ba7} {d:DrS} {ts ready:List Int} (h:vf7 x d ts ready) (hl:d.fr.length ≤ 20000):∀ v ∈ ts,0 ≤ v ∧ v ≤ 30000000000000000:=by
 intro v hv
 obtain ⟨i,hi,rfl⟩:=List.getElem_of_mem hv
 have h1:=h.tsB i
 have h2:=h.hi i i (Nat.le_refl _)
 have h3:=h.len
 rw [List.getD_eq_getElem?_getD,List.getElem?_eq_getElem hi,Option.getD_some] at h1 h2
 omega
theorem hib7 {w:World} {F:Nat → Prop} {g c:Nat} {d A m B:List Int} (h:Row w g 2 (d.map gb7)) (hd:d = A ++ m ++ B) (hw:∀ v ∈ d,wa7 v) (hF:F g) (hc:m.length ≤ c) (hm:c ≤ 1000000):(ga7 ge7).rep w F m [.slice (some ⟨g,A.length,none⟩) m.length c]:=by
 subst hd
 refine ⟨some ⟨g,A.length,none⟩,g,A.length,c,rfl,hc,by unfold maxLen; omega,fun _=>⟨rfl,hF⟩,fun i hi=>⟨[.int .i64 m[i]],⟨rfl,hw _ (by simp)⟩,fun j hj => ?_⟩⟩
 have hj0:j = 0:=by simpa [ge7,bc7] using hj
 subst hj0
 have:=h.cell (j:=A.length + i) (by simp; omega)
 simp only [ge7,bc7,Nat.mul_one,Nat.add_zero]
 rw [this]
 simp [gb7,List.getElem_append_left,List.getElem_append_right,hi]
def vx7 (g:Nat):Nat → List (List Int) → List Value
 | _,[]=>[]
 | o,m :: ms => .slice (some ⟨g,o,none⟩) m.length m.length :: vx7 g (o + m.length) ms
theorem gfb7 (g:Nat):∀ (ms:List (List Int)) (o:Nat),(vx7 g o ms).length = ms.length
 | [],_=>rfl
 | m :: ms,o=>by simp only [vx7,List.length_cons,gfb7 g ms]
theorem ez7 (g:Nat):∀ (ms:List (List Int)) (o:Nat) (m:List Int),vx7 g o (ms ++ [m]) = vx7 g o ms ++ [.slice (some ⟨g,o + ms.flatten.length,none⟩) m.length m.length]
 | [],o,m=>by simp [vx7]
 | n :: ms,o,m=>by
  simp only [List.cons_append,vx7,ez7 g ms,List.flatten_cons,List.length_append,Nat.add_assoc]
theorem keb7 (g:Nat):∀ (ms:List (List Int)) (o k:Nat) (h:k < ms.length) (h':k < (vx7 g o ms).length),(vx7 g o ms)[k] = .slice (some ⟨g,o + (ms.take k).flatten.length,none⟩) ms[k].length ms[k].length
 | m :: ms,o,0,_,_=>rfl
 | m :: ms,o,k + 1,h,h'=>by
  simp only [vx7,List.getElem_cons_succ,List.take_succ_cons,List.flatten_cons,List.length_append]
  rw [keb7 g ms (o + m.length) k (by simpa using h)]
  simp only [Nat.add_assoc]
theorem cp7 {α:Type}:∀ (ms:List (List α)) (k:Nat) (h:k < ms.length),ms.flatten = (ms.take k).flatten ++ ms[k] ++ (ms.drop (k + 1)).flatten
 | m :: ms,0,_=>by simp
 | m :: ms,k + 1,h=>by
  have:=cp7 ms k (by simpa using h)
  simp only [List.flatten_cons,List.take_succ_cons,List.getElem_cons_succ,List.drop_succ_cons,this,List.append_assoc]
theorem vsb7 {w:World} {B TR g:Nat} {v:Value} {ms:List (List Int)} {d R:List Int} (ho:w.ownsRow B TR 1 v ms.length (vx7 g 0 ms)) (h:Row w g 2 (d.map gb7)) (hd:d = ms.flatten ++ R) (hw:∀ u ∈ d,wa7 u) (hB:B ≤ g) (hl:d.length ≤ 1000000):gg7.rep w (fun b=>B ≤ b) ms [v]:=by
 rcases ho.2 with ⟨rfl,hn⟩ | ⟨g',cap,cur,rfl,hg,hh,hn1,hc,hsz,ht⟩
 ·have:ms = []:=List.eq_nil_of_length_eq_zero hn
  subst this
  exact wf7 _ _ _
 ·have hR:Row w g' TR (vx7 g 0 ms):=⟨cur,cur.toList.drop (ms.length * 1),hh,by rw [← ht,List.take_append_drop]⟩
  have e:((vx7 g 0 ms).map fun u=>[u]).flatten = vx7 g 0 ms:=by
   induction vx7 g 0 ms with
   | nil=>rfl
   | cons a l ih=>simp only [List.map_cons,List.flatten_cons,ih,List.cons_append,List.nil_append]
  refine bp7 (S:=ga7 ge7) (T:=TR) ((vx7 g 0 ms).map fun u=>[u]) (by simp [gfb7]) (fun u hu => ?_) (fun i h1 h2 => ?_) (by rw [e]; exact hR) hn1 hc hg
  ·obtain ⟨_,_,rfl⟩:=List.mem_map.1 hu; rfl
  ·rw [List.getElem_map,keb7 g ms 0 i h1,Nat.zero_add]
   have hs:=cp7 ms i h1
   have hlm:ms[i].length ≤ 1000000:=by
    have:=congrArg List.length hs
    rw [hd] at hl
    simp only [List.length_append] at this hl
    omega
   exact hib7 (A:=(ms.take i).flatten) (B:=(ms.drop (i + 1)).flatten ++ R) h (by rw [hd,hs]; simp only [List.append_assoc]) hw hB (Nat.le_refl _) hlm
def kl7:List xc7 → List Value → List Value
 | r :: out,u :: vs => .int .i64 r.out :: u :: .int .i64 r.back :: kl7 out vs
 | _,_=>[]
theorem bs7:∀ (out:List xc7) (vs:List Value) (r:xc7) (u:Value),vs.length = out.length → kl7 (out ++ [r]) (vs ++ [u]) = kl7 out vs ++ [.int .i64 r.out,u, .int .i64 r.back]
 | [],[],_,_,_=>rfl
 | a :: out,v :: vs,b,u,h=>by
  have:=bs7 out vs b u (by simpa using h)
  simp only [List.cons_append,kl7,this]
 | [],_ :: _,_,_,h=>by cases h
 | _ :: _,[],_,_,h=>by cases h
structure du7 (TR TI:Nat) (w:World) (B:Nat) (v:Value) (out:List xc7) (vs:List Value):Prop where
 own:w.ownsRow B TR 3 v out.length (kl7 out vs)
 len:vs.length = out.length
 rows:∀ i (h:i < out.length) (h':i < vs.length),w.ownsRow B TI 1 vs[i] out[i].starts.length (out[i].starts.map gb7)
theorem du7.nil (TR TI:Nat) (w:World) (B:Nat):du7 TR TI w B (.slice none 0 0) [] [] :=
 ⟨World.ownsRow_nil _ _ _ _,rfl,fun _ h=>absurd h (Nat.not_lt_zero _)⟩
theorem du7.below {TR TI:Nat} {w w':World} {B:Nat} {v:Value} {out:List xc7} {vs:List Value} (h:du7 TR TI w B v out vs) (hb:Below w.heap.size w w'):du7 TR TI w' B v out vs :=
 ⟨na7 h.own hb,h.len,fun i h1 h2=>na7 (h.rows i h1 h2) hb⟩
theorem du7.keptSet {TR TI TP:Nat} {w:World} {B p j:Nat} {v u:Value} {cs:List Value} {out:List xc7} {vs:List Value} (h:du7 TR TI w B v out vs) (hr:Row w p TP cs) (h1:TP ≠ TR) (h2:TP ≠ TI):du7 TR TI (w.setCell ⟨p,j,none⟩ u) B v out vs :=
 ⟨ja7 h.own hr h1 j u,h.len,fun i k1 k2=>ja7 (h.rows i k1 k2) hr h2 j u⟩
theorem du7.push {TR TI:Nat} {w w':World} {B:Nat} {v v' u:Value} {out:List xc7} {vs:List Value} {r:xc7} (h:du7 TR TI w B v out vs) (hne:TI ≠ TR) (hg:w.grownBy w' v.ownBlock)
  (ho:w'.ownsRow B TR 3 v' (out.length + 1) (kl7 out vs ++ [.int .i64 r.out,u, .int .i64 r.back])) (hu:w.ownsRow B TI 1 u r.starts.length (r.starts.map gb7)):du7 TR TI w' B v' (out ++ [r]) (vs ++ [u]):=by
 refine ⟨by rw [bs7 _ _ _ _ h.len,List.length_append]; exact ho,by simp [h.len],fun i h1 h2 => ?_⟩
 by_cases hl:i < out.length
 ·have hl':i < vs.length:=by rw [h.len]; exact hl
  rw [List.getElem_append_left hl',List.getElem_append_left hl]
  exact (h.rows i hl hl').kept hg (eb7 (h.rows i hl hl') h.own hne)
 ·have:i = out.length:=by simp at h1; omega
  subst this
  have e1:(vs ++ [u])[out.length]'h2 = u:=by rw [List.getElem_append_right (by rw [h.len]; exact Nat.le_refl _)]; simp [h.len]
  have e2:(out ++ [r])[out.length]'h1 = r:=by rw [List.getElem_append_right (Nat.le_refl _)]; simp
  rw [e1,e2]
  exact hu.kept hg (eb7 hu h.own hne)
theorem du7.rep {TR TI:Nat} {w:World} {B:Nat} {v:Value} {out:List xc7} {vs:List Value} (h:du7 TR TI w B v out vs) (hw:∀ r ∈ out,wa7 r.out ∧ wa7 r.back ∧ ∀ s ∈ r.starts,wa7 s):gv7.rep w (fun b=>B ≤ b) out [v]:=by
 have hr:∀ i (h1:i < out.length) (h2:i < vs.length),pq7.rep w (fun b=>B ≤ b) out[i] [.int .i64 out[i].out,vs[i], .int .i64 out[i].back]:=fun i h1 h2 =>
  ⟨vs[i],rfl,(hw _ (List.getElem_mem h1)).1,(hw _ (List.getElem_mem h1)).2.1,xi7 (h.rows i h1 h2) (hw _ (List.getElem_mem h1)).2.2⟩
 rcases h.own.2 with ⟨rfl,hn⟩ | ⟨g,cap,cur,rfl,hg,hh,hn1,hc,hsz,ht⟩
 ·have:out = []:=List.eq_nil_of_length_eq_zero hn
  subst this
  exact wf7 _ _ _
 ·have hR:Row w g TR (kl7 out vs):=⟨cur,cur.toList.drop (out.length * 3),hh,by rw [← ht,List.take_append_drop]⟩
  refine bp7 (S:=pq7) (T:=TR) (List.zipWith (fun (r:xc7) u=>[.int .i64 r.out,u, .int .i64 r.back]) out vs) (by simp [h.len]) (fun v hv => ?_) (fun i h1 h2 => ?_) ?_ hn1 hc hg
  ·obtain ⟨i,hi,rfl⟩:=List.getElem_of_mem hv
   simp only [List.getElem_zipWith]; rfl
  ·rw [List.getElem_zipWith]; exact hr i h1 _
  ·have:∀ (out:List xc7) (vs:List Value),(List.zipWith (fun (r:xc7) u=>[Value.int .i64 r.out,u, .int .i64 r.back]) out vs).flatten = kl7 out vs:=by
    intro out
    induction out with
    | nil=>intro vs; simp [kl7]
    | cons a l ih =>
     intro vs
     cases vs with
     | nil=>simp [kl7]
     | cons v vs=>simp [kl7,ih]
   rw [this]; exact hR
def jbb7 (x:ba7) (p:za7) (k:Nat):Nat:=((cb7 x p).trucks.take k).flatten.length
def qu7 (x:ba7) (p:za7) (k:Nat):Nat:=(cb7 x p).trucks.flatten.length + (((cb7 x p).bikes.take k).flatMap rh7).length
theorem tn7 {α:Type} {l:List α} {k:Nat} (h:k < l.length):l.take (k + 1) = l.take k ++ [l[k]]:=List.take_succ_eq_append_getElem h
theorem oy7 {x:ba7} {p:za7} {k:Nat} (h:k < p.trucks.length):jbb7 x p (k + 1) = jbb7 x p k + p.trucks[k].length:=by
 have h':k < (cb7 x p).trucks.length:=by rw [rt7]; exact h
 unfold jbb7
 rw [tn7 h',List.flatten_append,List.length_append, ← nib7 x p h h']
 simp
theorem anb7 (r:xc7):(rh7 r).length = r.starts.length + 2:=by simp [rh7]
theorem ebb7 (x:ba7) (p:za7):qu7 x p 0 = jbb7 x p p.trucks.length:=by
 unfold qu7 jbb7
 rw [← rt7 x p,List.take_length]; simp
theorem fy7 {x:ba7} {p:za7} {k:Nat} (h:k < p.bikes.length):qu7 x p (k + 1) = qu7 x p k + (p.bikes[k].stops.length + 2):=by
 have h':k < (cb7 x p).bikes.length:=by rw [yt7]; exact h
 unfold qu7
 rw [tn7 h',List.flatMap_append,List.length_append, ← qjb7 x p h h']
 simp [anb7,Nat.add_assoc]
theorem tpb7 (x:ba7) (p:za7):qu7 x p p.bikes.length = (mi7 (cb7 x p)).length:=by
 unfold qu7 mi7
 rw [← yt7 x p,List.take_length,List.length_append]
theorem ylb7 {x:ba7} {p:za7} {j:Nat}:∀ n,j + n ≤ p.bikes.length → qu7 x p j ≤ qu7 x p (j + n)
 | 0,_=>Nat.le_refl _
 | n + 1,h=>by
  have h1:=ylb7 (x:=x) (p:=p) (j:=j) n (by omega)
  rw [← Nat.add_assoc,fy7 (by omega)]; omega
theorem bmb7 {x:ba7} {p:za7} {k:Nat} (h:k ≤ p.bikes.length):qu7 x p k ≤ (mi7 (cb7 x p)).length:=by
 have:=ylb7 (x:=x) (p:=p) (j:=k) (p.bikes.length - k) (by omega)
 rw [show k + (p.bikes.length - k) = p.bikes.length by omega,tpb7] at this
 exact this
theorem akb7 {x:ba7} {p:za7} {j:Nat}:∀ n,j + n ≤ p.trucks.length → jbb7 x p j ≤ jbb7 x p (j + n)
 | 0,_=>Nat.le_refl _
 | n + 1,h=>by
  have h1:=akb7 (x:=x) (p:=p) (j:=j) n (by omega)
  rw [← Nat.add_assoc,oy7 (by omega)]; omega
theorem xrb7 {x:ba7} {p:za7} {k:Nat} (h:k ≤ p.trucks.length):jbb7 x p k ≤ (mi7 (cb7 x p)).length:=by
 have:=akb7 (x:=x) (p:=p) (j:=k) (p.trucks.length - k) (by omega)
 rw [show k + (p.trucks.length - k) = p.trucks.length by omega, ← ebb7] at this
 exact Nat.le_trans this (bmb7 (Nat.zero_le _))
def tqb7 (x:ba7) (p:za7) (go k:Nat):List Value:=vx7 go 0 ((cb7 x p).trucks.take k)
theorem gjb7 {x:ba7} {p:za7} (go:Nat) {k:Nat} (h:k < p.trucks.length):tqb7 x p go (k + 1) = tqb7 x p go k ++ [.slice (some ⟨go,jbb7 x p k,none⟩) p.trucks[k].length p.trucks[k].length]:=by
 have h':k < (cb7 x p).trucks.length:=by rw [rt7]; exact h
 unfold tqb7 jbb7
 rw [tn7 h',ez7,Nat.zero_add,nib7 x p h h']
theorem uv7 {x:ba7} {p:za7} {k:Nat} (h:k < (cb7 x p).bikes.length):∃ A B,mi7 (cb7 x p) = A ++ rh7 (cb7 x p).bikes[k] ++ B ∧ A.length = qu7 x p k:=by
 refine ⟨(cb7 x p).trucks.flatten ++ ((cb7 x p).bikes.take k).flatMap rh7,((cb7 x p).bikes.drop (k + 1)).flatMap rh7, ?_,by rw [List.length_append]; rfl⟩
 unfold mi7
 have hs:=cp7 ((cb7 x p).bikes.map rh7) k (by simpa using h)
 rw [List.getElem_map, ← List.map_take, ← List.map_drop, ← List.flatMap_def, ← List.flatMap_def, ← List.flatMap_def] at hs
 rw [hs]; simp only [List.append_assoc]
theorem jjb7 {x:ba7} {p:za7} {w:World} {go k:Nat} (hr:Row w go 2 ((mi7 (cb7 x p)).map gb7)) (h:k < (cb7 x p).bikes.length) :
  w.cell? ⟨go,qu7 x p k,none⟩ = some (.int .i64 (cb7 x p).bikes[k].out) ∧ w.cell? ⟨go,qu7 x p k + ((cb7 x p).bikes[k].starts.length + 1),none⟩ = some (.int .i64 (cb7 x p).bikes[k].back):=by
 obtain ⟨A,B,e,hA⟩:=uv7 h
 rw [e] at hr
 generalize (cb7 x p).bikes[k] = r at hr ⊢
 have c0:=hr.cell (j:=A.length) (by simp [rh7])
 have c1:=hr.cell (j:=A.length + (r.starts.length + 1)) (by simp [rh7])
 rw [← hA]
 refine ⟨c0.trans ?_,c1.trans ?_⟩
 ·congr 1
  rw [List.getElem_map]
  simp [gb7,rh7]
 ·congr 1
  rw [List.getElem_map]
  simp [gb7,rh7,List.getElem_append_right]
theorem gbb7 {x:ba7} {p:za7} {w:World} {F:Nat → Prop} {go k c:Nat} (hr:Row w go 2 ((mi7 (cb7 x p)).map gb7)) (hF:F go) (hw:∀ v ∈ mi7 (cb7 x p),wa7 v) (h:k < (cb7 x p).bikes.length) (hc:(cb7 x p).bikes[k].starts.length ≤ c) (hm:c ≤ 1000000) :
  (ga7 ge7).rep w F (cb7 x p).bikes[k].starts [.slice (some ⟨go,qu7 x p k + 1,none⟩) (cb7 x p).bikes[k].starts.length c]:=by
 obtain ⟨A,B,e,hA⟩:=uv7 h
 have:=hib7 (F:=F) (A:=A ++ [(cb7 x p).bikes[k].out]) (B:=(cb7 x p).bikes[k].back :: B) hr (by rw [e]; simp [rh7]) hw hF hc hm
 rw [List.length_append,List.length_singleton,hA] at this
 exact this
theorem fob7 {x:ba7} {p:za7} (hw:∀ v ∈ mi7 (cb7 x p),wa7 v):∀ r ∈ (cb7 x p).bikes,wa7 r.out ∧ wa7 r.back ∧ ∀ s ∈ r.starts,wa7 s:=fun r hr=>by
 have hm:∀ v ∈ rh7 r,wa7 v:=fun v hv=>hw v (by unfold mi7; exact List.mem_append_right _ (List.mem_flatMap.2 ⟨r,hr,hv⟩))
 exact ⟨hm _ (by simp [rh7]),hm _ (by simp [rh7]),fun s hs=>hm _ (by simp [rh7,hs])⟩
theorem fyb7 {w:World} {g o m n:Nat} (hn:n ≤ m) (hm:m ≤ 1000000) :
  Calls Try.prog 61 #[.slice (some ⟨g,o,none⟩) m m, .int .i64 n] w fun e w' => ∃ q,e = .returned (.tuple #[.slice (some ⟨g,o,none⟩) n n, .slice (some ⟨g,q,none⟩) (m - n) (m - n)]) ∧ (n < m → q = o + n) ∧ Below w.heap.size w w':=by
 go_enter Try.func61,Try.ntmps61
 by_cases e:m = n
 ·subst e
  rw [Nat.sub_self]
  go_wp2
  go_region
  all_goals
   go_wp2
   exact bodyPost_ret (v := .tuple #[.slice (some ⟨g,o,none⟩) m m, .slice (some ⟨g,o,none⟩) 0 0]) (by simp [results,Try.results61,go_sem]) rfl ⟨o,rfl,fun h=>absurd h (Nat.lt_irrefl _),Below.drew (Below.refl _ _)⟩
 ·go_wp2
  go_region
  all_goals
   go_wp2
   exact bodyPost_ret (v := .tuple #[.slice (some ⟨g,o,none⟩) n n, .slice (some ⟨g,o + n,none⟩) (m - n) (m - n)]) (by simp [results,Try.results61,go_sem]) rfl ⟨o + n,rfl,fun _=>rfl,Below.drew (Below.refl _ _)⟩
theorem chb7 {w:World} {F:Nat → Prop} {l:List Int} {v:Value} (h:(ga7 ge7).rep w F l [v]) (hn:l.length ≤ 1000000) :
  Calls Try.prog 62 #[v] w fun e w' => ∃ u,e = .returned u ∧ w'.ownsRow w.heap.size 2 1 u l.length (l.map gb7) ∧ Below w.heap.size w w':=by
 obtain ⟨a,b,off,c,hs, -, -,ha, -,hcell, -⟩:=bb7 h
 obtain rfl:=List.cons.inj hs |>.1
 clear h hs
 cases a with
 | none =>
  have h0:l = []:=by
   cases l with
   | nil=>rfl
   | cons s l=>have:=ha (by simp); cases this
  subst h0
  clear hcell ha
  have q22:∀ (w:World) (a:Option Addr) (n c n' c':Nat),(binOp .eql 43 (.slice a n c) (.slice none n' c')).run Try.prog w = .ok (.bool a.isNone) w:=fun w a n c n' c'=>Lib.run_eql_slice_nil w _ _ a n c n' c' Try.underlying43
  go_enter Try.func62,Try.ntmps62
  go_wp2
  go_ret
  exact ⟨_,rfl,World.ownsRow_nil _ _ _ _,Below.refl _ _⟩
 | some a =>
  have hnews:∀ j u,(l.map gb7)[j]? = some u → (w.alloc (.cells #[] 2)).cell? (a.add j) = some u:=fun j u hj=>by
   have hjl:=(List.getElem?_eq_some_iff.1 hj).1
   rw [List.length_map] at hjl
   obtain rfl:=Option.some.inj (ha (by omega))
   rw [Addr.add_lit]
   have:=hcell j hjl
   rw [← (List.getElem?_eq_some_iff.1 hj).2,List.getElem_map]
   exact aa7 ((Below.refl _ _).alloc (Nat.le_refl _) _) this
  have hone:∀ u ∈ l.map gb7,u.oneCell' = true:=fun u hu=>by
   obtain ⟨s,_,rfl⟩:=List.mem_map.1 hu; rfl
  have hfl:(l.map gb7).length = l.length * 1:=by rw [List.length_map,Nat.mul_one]
  have HNEWS:=hid hnews
  have HONE:=hid hone
  clear hcell hnews hone ha
  obtain ⟨i1,hi,hi0,hi1,hi2⟩:=info_parts ii7
  have hown1:=World.ownsRow_lit (base:=w.heap.size) (e:=2) (size:=1) w #[] 0 (Nat.le_refl _) (by unfold maxLen; omega) rfl
  have q22:∀ (w:World) (a:Option Addr) (n c n' c':Nat),(binOp .eql 43 (.slice a n c) (.slice none n' c')).run Try.prog w = .ok (.bool a.isNone) w:=fun w a n c n' c'=>Lib.run_eql_slice_nil w _ _ a n c n' c' Try.underlying43
  go_enter Try.func62,Try.ntmps62
  go_wp2_with (at_builtin; refine wpList_append_own _ rfl _ _ 43 rfl w.heap.size 2 i1 (.int .i64 0) 1 8 Try.underlying43 hi hi0 hi1 hi2 rfl (by decide) _ _ _ rfl hown1 a l.length c (l.map gb7) rfl hfl HNEWS.out HONE.out ?c3 ?c4 ?c5 ?_)
  case c3=>unfold maxLen; omega
  case c4=>omega
  intro v' w2 hown' hgrow _
  have HB:=hid (ed7 (w:=w.alloc (.cells #[] 2)) ((Below.refl w.heap.size w).alloc (Nat.le_refl _) _) hown1 (by simp) (Nat.le_refl _) hgrow)
  have HO:=hid (show w2.ownsRow w.heap.size 2 1 v' l.length (l.map gb7) from by simpa using hown')
  clear hown' hgrow hown1 hi hi0 hi1 hi2
  go_wp2
  go_ret
  exact ⟨_,rfl,HO.out,HB.out⟩
theorem flb7 {w:World}:Calls Try.prog 103 #[] w fun e w' => ∃ q,e = .returned (.pointer (some ⟨q,0,none⟩)) ∧ cc7 w' w.heap.size q [] ∧ Below w.heap.size w w':=by
 have h1:cc7 (w.alloc (.cells #[.slice none 0 0] 207)) w.heap.size w.heap.size []:=⟨_,Row.new rfl,World.ownsRow_nil _ _ _ _,Nat.le_refl _⟩
 go_enter Try.func103,Try.ntmps103
 go_wp2
 go_ret
 exact ⟨_,rfl,h1,(Below.refl _ _).alloc (Nat.le_refl _) _⟩
theorem cc7.below {w w':World} {B q:Nat} {l:List qa7} (h:cc7 w B q l) (hb:Below w.heap.size w w'):cc7 w' B q l:=by
 obtain ⟨v,R,O,hq⟩:=h
 exact ⟨v,R.below hb,na7 O hb,hq⟩
theorem gj7.below {w w':World} {B q g:Nat} {l:List qa7} (h:gj7 w B q g l) (hb:Below w.heap.size w w'):gj7 w' B q g l:=by
 obtain ⟨c,R,O,hq⟩:=h
 exact ⟨c,R.below hb,na7 O hb,hq⟩
theorem cc7.qlt {w:World} {B q:Nat} {l:List qa7} (h:cc7 w B q l):q < w.heap.size:=by
 obtain ⟨v,R,O,hq⟩:=h
 exact R.lt
theorem cc7.le {w:World} {B q:Nat} {l:List qa7} (h:cc7 w B q l):B ≤ w.heap.size:=by
 obtain ⟨v,R,O,hq⟩:=h
 have:=R.lt; omega
theorem pz7 {w:World} {B q:Nat} {l:List qa7} (h:cc7 w B q l) (hl:l.length ≤ 100000) (s:qa7) :
  Calls Try.prog 104 #[.pointer (some ⟨q,0,none⟩), .agg #[.int .i64 s.1, .int .i64 s.2]] w fun e w'=>e = .returned (.tuple #[]) ∧ (∃ l':List qa7,l'.Perm (s :: l) ∧ (hm7 l → hm7 l') ∧ cc7 w' B q l') ∧ ob7 B w w' ∧ fe7 q w w':=by
 obtain ⟨s1,s2⟩:=s
 have hal:Below w.heap.size w (w.alloc (.cells #[.int .i64 s1, .int .i64 s2] 193)):=(Below.refl _ _).alloc (Nat.le_refl _) _
 have HPU:=hid (zfb7 (h.below hal).drew hl (s1,s2))
 have HK:=hid (ob7.below (B:=B) hal h.le)
 have HA:=hid (fe7.of_below hal h.qlt)
 simp only [] at HPU
 clear h hal
 go_enter Try.func104,Try.ntmps104
 go_wp2
 go_region_with (go_at_call 116; refine HPU.out.mono ?_; rintro e w1 ⟨rfl,hP1,hK1,hA1⟩)
 go_wp2
 go_end0
 exact ⟨rfl,hP1,HK.out.drew.trans hK1,HA.out.trans hA1⟩
theorem sv7 {w:World} {B e k n g c b:Nat} {xs:List Value} (h:w.ownsRow B e k (.slice (some ⟨g,0,none⟩) n c) n xs) (hb:b ≠ g) (j:Nat) (u:Value):(w.setCell ⟨b,j,none⟩ u).ownsRow B e k (.slice (some ⟨g,0,none⟩) n c) n xs :=
 h.kept (ef7 w ⟨b,j,none⟩ u) (.inr fun e=>hb (Option.some.inj e).symm)
theorem rv7 {w:World} {B q:Nat} {l:List qa7} (h:cc7 w B q l) (hl:l.length ≤ 100000) :
  Calls Try.prog 105 #[.pointer (some ⟨q,0,none⟩)] w fun e w' => ∃ (s:qa7) (ok:Bool) (l':List qa7),e = .returned (.tuple #[.agg #[.int .i64 s.1, .int .i64 s.2], .bool ok]) ∧
   (ok = false → l = [] ∧ l' = []) ∧ (ok = true → (s :: l').Perm l ∧ (hm7 l → hm7 l' ∧ ∀ t ∈ l,leI s t)) ∧ cc7 w' B q l' ∧ ob7 B w w' ∧ fe7 q w w':=by
 have hal:Below w.heap.size w (w.alloc (.cells #[.int .i64 0, .int .i64 0] 193)):=(Below.refl _ _).alloc (Nat.le_refl _) _
 have HK:=hid (ob7.below (B:=B) hal h.le)
 have hBw:=h.le
 have HA:=hid (fe7.of_below hal h.qlt)
 have hR0:=Row.new (w:=w) (g:=w.heap.size) (e:=193) (cs:=[.int .i64 0, .int .i64 0]) rfl
 have hP:=h.below hal
 have hqz:q < w.heap.size:=by obtain ⟨v,R,O,hq⟩:=h; exact R.lt
 go_enter Try.func105,Try.ntmps105
 by_cases h0:l.length = 0
 ·have hl0:=List.eq_nil_of_length_eq_zero h0
  have HP2:=hid (show cc7 (w.alloc (.cells #[.int .i64 0, .int .i64 0] 193)) B q [] from hl0 ▸ hP)
  obtain ⟨v,R,O,hq⟩:=hP
  obtain ⟨a,c,rfl, -, -⟩:=ua7 O
  have p0:=R.cell (j:=0) (by simp)
  simp only [List.getElem_cons_zero] at p0
  have hz:((l.length:Int) == 0) = true:=by simp [h0]
  have rc0:=hR0.cell (j:=0) (by simp)
  have rc1:=hR0.cell (j:=1) (by simp)
  simp only [List.getElem_cons_zero,List.getElem_cons_succ] at rc0 rc1
  have HL0:=hid hl0
  clear R O h hR0 hl0 h0
  go_wp2
  refine bodyPost_ret (v := .tuple #[.agg #[.int .i64 0, .int .i64 0], .bool false]) (by simp [results,Try.results105,go_sem]) rfl ⟨(0,0),false,[],rfl,fun _=>⟨HL0.out,rfl⟩,(fun h=>by cases h),HP2.out,HK.out,HA.out⟩
 ·have hz:((l.length:Int) == 0) = false:=by simp [h0]
  obtain ⟨g,hG0⟩:=h.g (by omega)
  have hgw:g < w.heap.size:=by obtain ⟨_,_,O,_⟩:=hG0; exact (Row.of_items O).lt
  have hG:=hG0.below hal
  have hG':=hG
  obtain ⟨c,R,O,hq⟩:=hG'
  have p0:=R.cell (j:=0) (by simp)
  simp only [List.getElem_cons_zero] at p0
  have HPO:=hid (tlb7 hG hl (by omega))
  have HGG:=hid hG
  have HTA:=jlb7
  have HR0:=hid hR0
  clear h hP hG hG0 R O hR0
  go_wp2_with fail
  refine HPO.out.mono ?_
  rintro e w1 ⟨s,l',rfl,hp1,hho,hP1,hK1,hM1⟩
  have hp:=And.intro hp1 hho
  clear hp1 hho
  obtain ⟨s1,s2⟩:=s
  have R1:=HR0.out.keep (hM1.2 w.heap.size HR0.out.lt (by omega) (by omega))
  have f0:=R1.frozen 0
  have f1:=R1.frozen 1
  have k0:=R1.cell (j:=0) (by simp)
  have k1:=R1.cell (j:=1) (by simp)
  have R2:=R1.set (j:=0) (by simp) (.int .i64 s1)
  have R3:=R2.set (j:=1) (by simp) (.int .i64 s2)
  have k2:=R2.cell (j:=1) (by simp)
  have rc0:=R3.cell (j:=0) (by simp)
  have rc1:=R3.cell (j:=1) (by simp)
  simp only [List.set_cons_zero,List.set_cons_succ,List.getElem_cons_zero,List.getElem_cons_succ] at k0 k1 k2 rc0 rc1
  have HA1:=hid (HA.out.trans (fe7.of_keep2 hM1 HGG.out hP1))
  obtain ⟨c1,Q1,O1, -⟩:=hP1
  have HP2:=hid (show cc7 ((w1.setCell ⟨w.heap.size,0,none⟩ (.int .i64 s1)).setCell ⟨w.heap.size,1,none⟩ (.int .i64 s2)) B q l' from
   ⟨_,(Q1.setOther (by show q ≠ w.heap.size; omega) _).setOther (by show q ≠ w.heap.size; omega) _,sv7 (sv7 O1 (by omega) _ _) (by omega) _ _,hq⟩)
  have HK2:=hid (((HK.out.trans hK1).trans (ob7.set R1 (.inl rfl) hBw 0 (.int .i64 s1))).trans (ob7.set R2 (.inl rfl) hBw 1 (.int .i64 s2)))
  have HPP:=hid hp
  have HA2:=hid (show fe7 q w ((w1.setCell ⟨w.heap.size,0,none⟩ (.int .i64 s1)).setCell ⟨w.heap.size,1,none⟩ (.int .i64 s2)) from fun X e cs hx=>by
   have hX:X ≠ w.heap.size:=by have:=hx.1.lt; omega
   obtain ⟨hr,h1,h2⟩:=HA1.out X e cs hx
   refine ⟨(hr.setOther (by show X ≠ w.heap.size; exact hX) _).setOther (by show X ≠ w.heap.size; exact hX) _,h1,fun v hv=>h2 v ?_⟩
   rw [World.cell?_of_block (Below.heap_setCell _ _ _ _ (by show q ≠ w.heap.size; omega)),World.cell?_of_block (Below.heap_setCell _ _ _ _ (by show q ≠ w.heap.size; omega))] at hv
   exact hv)
  clear hp R1 R2 R3 O1 Q1 hK1 hM1 HPO
  go_wp2
  refine bodyPost_ret (v := .tuple #[.agg #[.int .i64 s1, .int .i64 s2], .bool true]) (by simp [results,Try.results105,go_sem,rc0,rc1]) rfl ⟨(s1,s2),true,l',rfl,(fun h=>by cases h),fun _=>HPP.out,HP2.out,HK2.out,HA2.out⟩
end Go.Proofs.Ytabadfkikdefeaa
