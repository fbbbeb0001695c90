/- Texts of the proof, joined: EarlyD, Cut, Clone64, PileT. -/
import Derived.BigQuiet
import Derived.BigRegion
import Derived.Test.YtahffcepagopmaaClockK
import Derived.Test.YtahffcepagopmaaHeap
set_option linter.all false
set_option maxRecDepth 100000
set_option maxHeartbeats 6400000
namespace Go.Proofs.Ytahffcepagopmaa
open Go.RowKit
theorem vq7 {x:ba7}:∀ (t:List da7) (st:SnT),(t.foldl (dc7 x) st).l.length = st.l.length + t.length
 | [],_=>rfl
 | s :: t,st=>by rw [List.foldl_cons,vq7 t]; simp [dc7]; omega
theorem jm7 {x:ba7}:∀ (l:List (List da7)) (a:SnA),(l.foldl (zd7 x) a).ts.map List.length = a.ts.map List.length ++ l.map List.length
 | [],a=>by simp
 | t :: l,a=>by
  rw [List.foldl_cons,jm7 l]
  simp only [zd7,ri7,List.map_append,List.map_cons,List.map_nil,List.append_assoc]
  rw [vq7]; simp
theorem up7 {x:ba7}:∀ (t:List Int) (st:SnB),(t.foldl (ec7 x) st).starts.length = st.starts.length + t.length
 | [],_=>rfl
 | s :: t,st=>by rw [List.foldl_cons,up7 t]; simp [ec7]; omega
theorem cy7 (x:ba7) (p:sa7):(za7 x p).trucks.map List.length = p.trucks.map List.length:=by
 unfold za7 jb7
 rw [jm7]; rfl
theorem ro7 (x:ba7) (p:sa7):(za7 x p).trucks.length = p.trucks.length:=by
 have:=congrArg List.length (cy7 x p)
 simpa using this
theorem web7 (x:ba7) (p:sa7) {k:Nat} (h:k < p.trucks.length) (h':k < (za7 x p).trucks.length):(za7 x p).trucks[k].length = p.trucks[k].length:=by
 have:=congrArg (fun l:List Nat=>l[k]?) (cy7 x p)
 simpa [List.getElem?_eq_getElem h,List.getElem?_eq_getElem h'] using this
theorem lo7 (x:ba7) (p:sa7):(za7 x p).bikes.length = p.bikes.length:=by simp [za7]
theorem cfb7 (x:ba7) (p:sa7) {k:Nat} (h:k < p.bikes.length) (h':k < (za7 x p).bikes.length):(za7 x p).bikes[k].starts.length = p.bikes[k].stops.length:=by
 simp only [za7,List.getElem_map,xg7,md7]
 rw [up7]; simp
theorem jh7.hi {x:ba7} {d:DrS} {ts ready:List Int} (h:jh7 x d ts ready):∀ n i,i ≤ n → ts.getD i 0 ≤ 1000000000 + i * 1099511627776
 | n,i,hin=>by
  have hl:=h.len
  obtain ⟨h1,h2,h3,h4⟩:=sq7.1 h.late
  by_cases hi:i < d.fr.length
  ·rcases h4 i hi with e | ⟨a,ha,e1,e2⟩
   ·rw [e,List.getD_eq_getElem?_getD,List.getElem?_eq_getElem hi,Option.getD_some]
    have:=(h.frB _ (List.getElem_mem hi)).2
    omega
   ·obtain ⟨g1,g2,g3,g4⟩:=h.arc a ha
    cases n with
    | zero=>omega
    | succ n =>
     have:=h.hi n a.frm (by omega)
     rw [e2]
     have hh:((a.frm:Nat):Int) + 1 ≤ i:=by omega
     omega
  ·rw [List.getD_eq_getElem?_getD,List.getElem?_eq_none (by omega),Option.getD_none]; omega
theorem jh7.wf {x:ba7} {d:DrS} {ts ready:List Int} (h:jh7 x d ts ready) (hl:d.fr.length ≤ 20000):∀ v ∈ ts,0 ≤ v ∧ v ≤ 30000000000000000:=by
 intro v hv
 obtain ⟨i,hi,rfl⟩:=List.getElem_of_mem hv
 have h1:=h.tsB i
 have h2:=h.hi i i (Nat.le_refl _)
 have h3:=h.len
 rw [List.getD_eq_getElem?_getD,List.getElem?_eq_getElem hi,Option.getD_some] at h1 h2
 omega
theorem enb7 {w:World} {F:Nat → Prop} {g c:Nat} {d A m B:List Int} (h:Row w g 2 (d.map wa7)) (hd:d = A ++ m ++ B) (hw:∀ v ∈ d,ua7 v) (hF:F g) (hc:m.length ≤ c) (hm:c ≤ 1000000):(la7 ig7).rep w F m [.slice (some ⟨g,A.length,none⟩) m.length c]:=by
 subst hd
 refine ⟨some ⟨g,A.length,none⟩,g,A.length,c,rfl,hc,by unfold maxLen; omega,fun _=>⟨rfl,hF⟩,fun i hi=>⟨[.int .i64 m[i]],⟨rfl,hw _ (by simp)⟩,fun j hj => ?_⟩⟩
 have hj0:j = 0:=by simpa [ig7,oc7] using hj
 subst hj0
 have:=h.cell (j:=A.length + i) (by simp; omega)
 simp only [ig7,oc7,Nat.mul_one,Nat.add_zero]
 rw [this]
 simp [wa7,List.getElem_append_left,List.getElem_append_right,hi]
def vab7 (g:Nat):Nat → List (List Int) → List Value
 | _,[]=>[]
 | o,m :: ms => .slice (some ⟨g,o,none⟩) m.length m.length :: vab7 g (o + m.length) ms
theorem qgb7 (g:Nat):∀ (ms:List (List Int)) (o:Nat),(vab7 g o ms).length = ms.length
 | [],_=>rfl
 | m :: ms,o=>by simp only [vab7,List.length_cons,qgb7 g ms]
theorem kdb7 (g:Nat):∀ (ms:List (List Int)) (o:Nat) (m:List Int),vab7 g o (ms ++ [m]) = vab7 g o ms ++ [.slice (some ⟨g,o + ms.flatten.length,none⟩) m.length m.length]
 | [],o,m=>by simp [vab7]
 | n :: ms,o,m=>by
  simp only [List.cons_append,vab7,kdb7 g ms,List.flatten_cons,List.length_append,Nat.add_assoc]
theorem ygb7 (g:Nat):∀ (ms:List (List Int)) (o k:Nat) (h:k < ms.length) (h':k < (vab7 g o ms).length),(vab7 g o ms)[k] = .slice (some ⟨g,o + (ms.take k).flatten.length,none⟩) ms[k].length ms[k].length
 | m :: ms,o,0,_,_=>rfl
 | m :: ms,o,k + 1,h,h'=>by
  simp only [vab7,List.getElem_cons_succ,List.take_succ_cons,List.flatten_cons,List.length_append]
  rw [ygb7 g ms (o + m.length) k (by simpa using h)]
  simp only [Nat.add_assoc]
theorem kr7 {α:Type}:∀ (ms:List (List α)) (k:Nat) (h:k < ms.length),ms.flatten = (ms.take k).flatten ++ ms[k] ++ (ms.drop (k + 1)).flatten
 | m :: ms,0,_=>by simp
 | m :: ms,k + 1,h=>by
  have:=kr7 ms k (by simpa using h)
  simp only [List.flatten_cons,List.take_succ_cons,List.getElem_cons_succ,List.drop_succ_cons,this,List.append_assoc]
theorem yub7 {w:World} {B TR g:Nat} {v:Value} {ms:List (List Int)} {d R:List Int} (ho:w.ownsRow B TR 1 v ms.length (vab7 g 0 ms)) (h:Row w g 2 (d.map wa7)) (hd:d = ms.flatten ++ R) (hw:∀ u ∈ d,ua7 u) (hB:B ≤ g) (hl:d.length ≤ 1000000):kh7.rep w (fun b=>B ≤ b) ms [v]:=by
 rcases ho.2 with ⟨rfl,hn⟩ | ⟨g',cap,cur,rfl,hg,hh,hn1,hc,hsz,ht⟩
 ·have:ms = []:=List.eq_nil_of_length_eq_zero hn
  subst this
  exact nh7 _ _ _
 ·have hR:Row w g' TR (vab7 g 0 ms):=⟨cur,cur.toList.drop (ms.length * 1),hh,by rw [← ht,List.take_append_drop]⟩
  have e:((vab7 g 0 ms).map fun u=>[u]).flatten = vab7 g 0 ms:=by
   induction vab7 g 0 ms with
   | nil=>rfl
   | cons a l ih=>simp only [List.map_cons,List.flatten_cons,ih,List.cons_append,List.nil_append]
  refine ur7 (S:=la7 ig7) (T:=TR) ((vab7 g 0 ms).map fun u=>[u]) (by simp [qgb7]) (fun u hu => ?_) (fun i h1 h2 => ?_) (by rw [e]; exact hR) hn1 hc hg
  ·obtain ⟨_,_,rfl⟩:=List.mem_map.1 hu; rfl
  ·rw [List.getElem_map,ygb7 g ms 0 i h1,Nat.zero_add]
   have hs:=kr7 ms i h1
   have hlm:ms[i].length ≤ 1000000:=by
    have:=congrArg List.length hs
    rw [hd] at hl
    simp only [List.length_append] at this hl
    omega
   exact enb7 (A:=(ms.take i).flatten) (B:=(ms.drop (i + 1)).flatten ++ R) h (by rw [hd,hs]; simp only [List.append_assoc]) hw hB (Nat.le_refl _) hlm
def xl7:List zc7 → List Value → List Value
 | r :: out,u :: vs => .int .i64 r.out :: u :: .int .i64 r.back :: xl7 out vs
 | _,_=>[]
theorem vt7:∀ (out:List zc7) (vs:List Value) (r:zc7) (u:Value),vs.length = out.length → xl7 (out ++ [r]) (vs ++ [u]) = xl7 out vs ++ [.int .i64 r.out,u, .int .i64 r.back]
 | [],[],_,_,_=>rfl
 | a :: out,v :: vs,b,u,h=>by
  have:=vt7 out vs b u (by simpa using h)
  simp only [List.cons_append,xl7,this]
 | [],_ :: _,_,_,h=>by cases h
 | _ :: _,[],_,_,h=>by cases h
structure nw7 (TR TI:Nat) (w:World) (B:Nat) (v:Value) (out:List zc7) (vs:List Value):Prop where
 own:w.ownsRow B TR 3 v out.length (xl7 out vs)
 len:vs.length = out.length
 rows:∀ i (h:i < out.length) (h':i < vs.length),w.ownsRow B TI 1 vs[i] out[i].starts.length (out[i].starts.map wa7)
theorem nw7.nil (TR TI:Nat) (w:World) (B:Nat):nw7 TR TI w B (.slice none 0 0) [] [] :=
 ⟨World.ownsRow_nil _ _ _ _,rfl,fun _ h=>absurd h (Nat.not_lt_zero _)⟩
theorem nw7.below {TR TI:Nat} {w w':World} {B:Nat} {v:Value} {out:List zc7} {vs:List Value} (h:nw7 TR TI w B v out vs) (hb:Below w.heap.size w w'):nw7 TR TI w' B v out vs :=
 ⟨oa7 h.own hb,h.len,fun i h1 h2=>oa7 (h.rows i h1 h2) hb⟩
theorem nw7.keptSet {TR TI TP:Nat} {w:World} {B p j:Nat} {v u:Value} {cs:List Value} {out:List zc7} {vs:List Value} (h:nw7 TR TI w B v out vs) (hr:Row w p TP cs) (h1:TP ≠ TR) (h2:TP ≠ TI):nw7 TR TI (w.setCell ⟨p,j,none⟩ u) B v out vs :=
 ⟨ma7 h.own hr h1 j u,h.len,fun i k1 k2=>ma7 (h.rows i k1 k2) hr h2 j u⟩
theorem nw7.push {TR TI:Nat} {w w':World} {B:Nat} {v v' u:Value} {out:List zc7} {vs:List Value} {r:zc7} (h:nw7 TR TI w B v out vs) (hne:TI ≠ TR) (hg:w.grownBy w' v.ownBlock)
  (ho:w'.ownsRow B TR 3 v' (out.length + 1) (xl7 out vs ++ [.int .i64 r.out,u, .int .i64 r.back])) (hu:w.ownsRow B TI 1 u r.starts.length (r.starts.map wa7)):nw7 TR TI w' B v' (out ++ [r]) (vs ++ [u]):=by
 refine ⟨by rw [vt7 _ _ _ _ h.len,List.length_append]; exact ho,by simp [h.len],fun i h1 h2 => ?_⟩
 by_cases hl:i < out.length
 ·have hl':i < vs.length:=by rw [h.len]; exact hl
  rw [List.getElem_append_left hl',List.getElem_append_left hl]
  exact (h.rows i hl hl').kept hg (db7 (h.rows i hl hl') h.own hne)
 ·have:i = out.length:=by simp at h1; omega
  subst this
  have e1:(vs ++ [u])[out.length]'h2 = u:=by rw [List.getElem_append_right (by rw [h.len]; exact Nat.le_refl _)]; simp [h.len]
  have e2:(out ++ [r])[out.length]'h1 = r:=by rw [List.getElem_append_right (Nat.le_refl _)]; simp
  rw [e1,e2]
  exact hu.kept hg (db7 hu h.own hne)
theorem nw7.rep {TR TI:Nat} {w:World} {B:Nat} {v:Value} {out:List zc7} {vs:List Value} (h:nw7 TR TI w B v out vs) (hw:∀ r ∈ out,ua7 r.out ∧ ua7 r.back ∧ ∀ s ∈ r.starts,ua7 s):gy7.rep w (fun b=>B ≤ b) out [v]:=by
 have hr:∀ i (h1:i < out.length) (h2:i < vs.length),vw7.rep w (fun b=>B ≤ b) out[i] [.int .i64 out[i].out,vs[i], .int .i64 out[i].back]:=fun i h1 h2 =>
  ⟨vs[i],rfl,(hw _ (List.getElem_mem h1)).1,(hw _ (List.getElem_mem h1)).2.1,pj7 (h.rows i h1 h2) (hw _ (List.getElem_mem h1)).2.2⟩
 rcases h.own.2 with ⟨rfl,hn⟩ | ⟨g,cap,cur,rfl,hg,hh,hn1,hc,hsz,ht⟩
 ·have:out = []:=List.eq_nil_of_length_eq_zero hn
  subst this
  exact nh7 _ _ _
 ·have hR:Row w g TR (xl7 out vs):=⟨cur,cur.toList.drop (out.length * 3),hh,by rw [← ht,List.take_append_drop]⟩
  refine ur7 (S:=vw7) (T:=TR) (List.zipWith (fun (r:zc7) u=>[.int .i64 r.out,u, .int .i64 r.back]) out vs) (by simp [h.len]) (fun v hv => ?_) (fun i h1 h2 => ?_) ?_ hn1 hc hg
  ·obtain ⟨i,hi,rfl⟩:=List.getElem_of_mem hv
   simp only [List.getElem_zipWith]; rfl
  ·rw [List.getElem_zipWith]; exact hr i h1 _
  ·have:∀ (out:List zc7) (vs:List Value),(List.zipWith (fun (r:zc7) u=>[Value.int .i64 r.out,u, .int .i64 r.back]) out vs).flatten = xl7 out vs:=by
    intro out
    induction out with
    | nil=>intro vs; simp [xl7]
    | cons a l ih =>
     intro vs
     cases vs with
     | nil=>simp [xl7]
     | cons v vs=>simp [xl7,ih]
   rw [this]; exact hR
def zdb7 (x:ba7) (p:sa7) (k:Nat):Nat:=((za7 x p).trucks.take k).flatten.length
def yw7 (x:ba7) (p:sa7) (k:Nat):Nat:=(za7 x p).trucks.flatten.length + (((za7 x p).bikes.take k).flatMap aj7).length
theorem ui7 {α:Type} {l:List α} {k:Nat} (h:k < l.length):l.take (k + 1) = l.take k ++ [l[k]]:=List.take_succ_eq_append_getElem h
theorem fbb7 {x:ba7} {p:sa7} {k:Nat} (h:k < p.trucks.length):zdb7 x p (k + 1) = zdb7 x p k + p.trucks[k].length:=by
 have h':k < (za7 x p).trucks.length:=by rw [ro7]; exact h
 unfold zdb7
 rw [ui7 h',List.flatten_append,List.length_append, ← web7 x p h h']
 simp
theorem dnb7 (r:zc7):(aj7 r).length = r.starts.length + 2:=by simp [aj7]
theorem wab7 (x:ba7) (p:sa7):yw7 x p 0 = zdb7 x p p.trucks.length:=by
 unfold yw7 zdb7
 rw [← ro7 x p,List.take_length]; simp
theorem kcb7 {x:ba7} {p:sa7} {k:Nat} (h:k < p.bikes.length):yw7 x p (k + 1) = yw7 x p k + (p.bikes[k].stops.length + 2):=by
 have h':k < (za7 x p).bikes.length:=by rw [lo7]; exact h
 unfold yw7
 rw [ui7 h',List.flatMap_append,List.length_append, ← cfb7 x p h h']
 simp [dnb7,Nat.add_assoc]
theorem lqb7 (x:ba7) (p:sa7):yw7 x p p.bikes.length = (fj7 (za7 x p)).length:=by
 unfold yw7 fj7
 rw [← lo7 x p,List.take_length,List.length_append]
theorem rnb7 {x:ba7} {p:sa7} {j:Nat}:∀ n,j + n ≤ p.bikes.length → yw7 x p j ≤ yw7 x p (j + n)
 | 0,_=>Nat.le_refl _
 | n + 1,h=>by
  have h1:=rnb7 (x:=x) (p:=p) (j:=j) n (by omega)
  rw [← Nat.add_assoc,kcb7 (by omega)]; omega
theorem job7 {x:ba7} {p:sa7} {k:Nat} (h:k ≤ p.bikes.length):yw7 x p k ≤ (fj7 (za7 x p)).length:=by
 have:=rnb7 (x:=x) (p:=p) (j:=k) (p.bikes.length - k) (by omega)
 rw [show k + (p.bikes.length - k) = p.bikes.length by omega,lqb7] at this
 exact this
theorem gmb7 {x:ba7} {p:sa7} {j:Nat}:∀ n,j + n ≤ p.trucks.length → zdb7 x p j ≤ zdb7 x p (j + n)
 | 0,_=>Nat.le_refl _
 | n + 1,h=>by
  have h1:=gmb7 (x:=x) (p:=p) (j:=j) n (by omega)
  rw [← Nat.add_assoc,fbb7 (by omega)]; omega
theorem htb7 {x:ba7} {p:sa7} {k:Nat} (h:k ≤ p.trucks.length):zdb7 x p k ≤ (fj7 (za7 x p)).length:=by
 have:=gmb7 (x:=x) (p:=p) (j:=k) (p.trucks.length - k) (by omega)
 rw [show k + (p.trucks.length - k) = p.trucks.length by omega, ← wab7] at this
 exact Nat.le_trans this (job7 (Nat.zero_le _))
def jsb7 (x:ba7) (p:sa7) (go k:Nat):List Value:=vab7 go 0 ((za7 x p).trucks.take k)
theorem dpb7 {x:ba7} {p:sa7} (go:Nat) {k:Nat} (h:k < p.trucks.length):jsb7 x p go (k + 1) = jsb7 x p go k ++ [.slice (some ⟨go,zdb7 x p k,none⟩) p.trucks[k].length p.trucks[k].length]:=by
 have h':k < (za7 x p).trucks.length:=by rw [ro7]; exact h
 unfold jsb7 zdb7
 rw [ui7 h',kdb7,Nat.zero_add,web7 x p h h']
theorem px7 {x:ba7} {p:sa7} {k:Nat} (h:k < (za7 x p).bikes.length):∃ A B,fj7 (za7 x p) = A ++ aj7 (za7 x p).bikes[k] ++ B ∧ A.length = yw7 x p k:=by
 refine ⟨(za7 x p).trucks.flatten ++ ((za7 x p).bikes.take k).flatMap aj7,((za7 x p).bikes.drop (k + 1)).flatMap aj7, ?_,by rw [List.length_append]; rfl⟩
 unfold fj7
 have hs:=kr7 ((za7 x p).bikes.map aj7) k (by simpa using h)
 rw [List.getElem_map, ← List.map_take, ← List.map_drop, ← List.flatMap_def, ← List.flatMap_def, ← List.flatMap_def] at hs
 rw [hs]; simp only [List.append_assoc]
theorem wlb7 {x:ba7} {p:sa7} {w:World} {go k:Nat} (hr:Row w go 2 ((fj7 (za7 x p)).map wa7)) (h:k < (za7 x p).bikes.length) :
  w.cell? ⟨go,yw7 x p k,none⟩ = some (.int .i64 (za7 x p).bikes[k].out) ∧ w.cell? ⟨go,yw7 x p k + ((za7 x p).bikes[k].starts.length + 1),none⟩ = some (.int .i64 (za7 x p).bikes[k].back):=by
 obtain ⟨A,B,e,hA⟩:=px7 h
 rw [e] at hr
 generalize (za7 x p).bikes[k] = r at hr ⊢
 have c0:=hr.cell (j:=A.length) (by simp [aj7])
 have c1:=hr.cell (j:=A.length + (r.starts.length + 1)) (by simp [aj7])
 rw [← hA]
 refine ⟨c0.trans ?_,c1.trans ?_⟩
 ·congr 1
  rw [List.getElem_map]
  simp [wa7,aj7]
 ·congr 1
  rw [List.getElem_map]
  simp [wa7,aj7,List.getElem_append_right]
theorem ybb7 {x:ba7} {p:sa7} {w:World} {F:Nat → Prop} {go k c:Nat} (hr:Row w go 2 ((fj7 (za7 x p)).map wa7)) (hF:F go) (hw:∀ v ∈ fj7 (za7 x p),ua7 v) (h:k < (za7 x p).bikes.length) (hc:(za7 x p).bikes[k].starts.length ≤ c) (hm:c ≤ 1000000) :
  (la7 ig7).rep w F (za7 x p).bikes[k].starts [.slice (some ⟨go,yw7 x p k + 1,none⟩) (za7 x p).bikes[k].starts.length c]:=by
 obtain ⟨A,B,e,hA⟩:=px7 h
 have:=enb7 (F:=F) (A:=A ++ [(za7 x p).bikes[k].out]) (B:=(za7 x p).bikes[k].back :: B) hr (by rw [e]; simp [aj7]) hw hF hc hm
 rw [List.length_append,List.length_singleton,hA] at this
 exact this
theorem spb7 {x:ba7} {p:sa7} (hw:∀ v ∈ fj7 (za7 x p),ua7 v):∀ r ∈ (za7 x p).bikes,ua7 r.out ∧ ua7 r.back ∧ ∀ s ∈ r.starts,ua7 s:=fun r hr=>by
 have hm:∀ v ∈ aj7 r,ua7 v:=fun v hv=>hw v (by unfold fj7; exact List.mem_append_right _ (List.mem_flatMap.2 ⟨r,hr,hv⟩))
 exact ⟨hm _ (by simp [aj7]),hm _ (by simp [aj7]),fun s hs=>hm _ (by simp [aj7,hs])⟩
theorem vyb7 {w:World} {g o m n:Nat} (hn:n ≤ m) (hm:m ≤ 1000000) :
  Calls Try.prog 52 #[.slice (some ⟨g,o,none⟩) m m, .int .i64 n] w fun e w' => ∃ q,e = .returned (.tuple #[.slice (some ⟨g,o,none⟩) n n, .slice (some ⟨g,q,none⟩) (m - n) (m - n)]) ∧ (n < m → q = o + n) ∧ Below w.heap.size w w':=by
 go_enter Try.func52,Try.ntmps52
 by_cases e:m = n
 ·subst e
  rw [Nat.sub_self]
  go_wp2
  go_region
  all_goals
   go_wp2
   exact bodyPost_ret (v := .tuple #[.slice (some ⟨g,o,none⟩) m m, .slice (some ⟨g,o,none⟩) 0 0]) (by simp [results,Try.results52,go_sem]) rfl ⟨o,rfl,fun h=>absurd h (Nat.lt_irrefl _),Below.drew (Below.refl _ _)⟩
 ·go_wp2
  go_region
  all_goals
   go_wp2
   exact bodyPost_ret (v := .tuple #[.slice (some ⟨g,o,none⟩) n n, .slice (some ⟨g,o + n,none⟩) (m - n) (m - n)]) (by simp [results,Try.results52,go_sem]) rfl ⟨o + n,rfl,fun _=>rfl,Below.drew (Below.refl _ _)⟩
theorem xhb7 {w:World} {F:Nat → Prop} {l:List Int} {v:Value} (h:(la7 ig7).rep w F l [v]) (hn:l.length ≤ 1000000) :
  Calls Try.prog 53 #[v] w fun e w' => ∃ u,e = .returned u ∧ w'.ownsRow w.heap.size 2 1 u l.length (l.map wa7) ∧ Below w.heap.size w w':=by
 obtain ⟨a,b,off,c,hs, -, -,ha, -,hcell, -⟩:=bb7 h
 obtain rfl:=List.cons.inj hs |>.1
 clear h hs
 cases a with
 | none =>
  have h0:l = []:=by
   cases l with
   | nil=>rfl
   | cons s l=>have:=ha (by simp); cases this
  subst h0
  clear hcell ha
  have q22:∀ (w:World) (a:Option Addr) (n c n' c':Nat),(binOp .eql 65 (.slice a n c) (.slice none n' c')).run Try.prog w = .ok (.bool a.isNone) w:=fun w a n c n' c'=>Lib.run_eql_slice_nil w _ _ a n c n' c' Try.underlying65
  go_enter Try.func53,Try.ntmps53
  go_wp2
  go_ret
  exact ⟨_,rfl,World.ownsRow_nil _ _ _ _,Below.refl _ _⟩
 | some a =>
  have hnews:∀ j u,(l.map wa7)[j]? = some u → (w.alloc (.cells #[] 2)).cell? (a.add j) = some u:=fun j u hj=>by
   have hjl:=(List.getElem?_eq_some_iff.1 hj).1
   rw [List.length_map] at hjl
   obtain rfl:=Option.some.inj (ha (by omega))
   rw [Addr.add_lit]
   have:=hcell j hjl
   rw [← (List.getElem?_eq_some_iff.1 hj).2,List.getElem_map]
   exact aa7 ((Below.refl _ _).alloc (Nat.le_refl _) _) this
  have hone:∀ u ∈ l.map wa7,u.oneCell' = true:=fun u hu=>by
   obtain ⟨s,_,rfl⟩:=List.mem_map.1 hu; rfl
  have hfl:(l.map wa7).length = l.length * 1:=by rw [List.length_map,Nat.mul_one]
  have HNEWS:=hid hnews
  have HONE:=hid hone
  clear hcell hnews hone ha
  obtain ⟨i1,hi,hi0,hi1,hi2⟩:=info_parts qh7
  have hown1:=World.ownsRow_lit (base:=w.heap.size) (e:=2) (size:=1) w #[] 0 (Nat.le_refl _) (by unfold maxLen; omega) rfl
  have q22:∀ (w:World) (a:Option Addr) (n c n' c':Nat),(binOp .eql 65 (.slice a n c) (.slice none n' c')).run Try.prog w = .ok (.bool a.isNone) w:=fun w a n c n' c'=>Lib.run_eql_slice_nil w _ _ a n c n' c' Try.underlying65
  go_enter Try.func53,Try.ntmps53
  go_wp2_with (at_builtin; refine wpList_append_own _ rfl _ _ 65 rfl w.heap.size 2 i1 (.int .i64 0) 1 8 Try.underlying65 hi hi0 hi1 hi2 rfl (by decide) _ _ _ rfl hown1 a l.length c (l.map wa7) rfl hfl HNEWS.out HONE.out ?c3 ?c4 ?c5 ?_)
  case c3=>unfold maxLen; omega
  case c4=>omega
  intro v' w2 hown' hgrow _
  have HB:=hid (gb7 (w:=w.alloc (.cells #[] 2)) ((Below.refl w.heap.size w).alloc (Nat.le_refl _) _) hown1 (by simp) (Nat.le_refl _) hgrow)
  have HO:=hid (show w2.ownsRow w.heap.size 2 1 v' l.length (l.map wa7) from by simpa using hown')
  clear hown' hgrow hown1 hi hi0 hi1 hi2
  go_wp2
  go_ret
  exact ⟨_,rfl,HO.out,HB.out⟩
theorem clb7 {w:World}:Calls Try.prog 80 #[] w fun e w' => ∃ q,e = .returned (.pointer (some ⟨q,0,none⟩)) ∧ ed7 w' w.heap.size q [] ∧ Below w.heap.size w w':=by
 have h1:ed7 (w.alloc (.cells #[.slice none 0 0] 169)) w.heap.size w.heap.size []:=⟨_,Row.new rfl,World.ownsRow_nil _ _ _ _,Nat.le_refl _⟩
 go_enter Try.func80,Try.ntmps80
 go_wp2
 go_ret
 exact ⟨_,rfl,h1,(Below.refl _ _).alloc (Nat.le_refl _) _⟩
theorem ed7.below {w w':World} {B q:Nat} {l:List xb7} (h:ed7 w B q l) (hb:Below w.heap.size w w'):ed7 w' B q l:=by
 obtain ⟨v,R,O,hq⟩:=h
 exact ⟨v,R.below hb,oa7 O hb,hq⟩
theorem dk7.below {w w':World} {B q g:Nat} {l:List xb7} (h:dk7 w B q g l) (hb:Below w.heap.size w w'):dk7 w' B q g l:=by
 obtain ⟨c,R,O,hq⟩:=h
 exact ⟨c,R.below hb,oa7 O hb,hq⟩
theorem ed7.qlt {w:World} {B q:Nat} {l:List xb7} (h:ed7 w B q l):q < w.heap.size:=by
 obtain ⟨v,R,O,hq⟩:=h
 exact R.lt
theorem ed7.le {w:World} {B q:Nat} {l:List xb7} (h:ed7 w B q l):B ≤ w.heap.size:=by
 obtain ⟨v,R,O,hq⟩:=h
 have:=R.lt; omega
theorem odb7 {w:World} {B q:Nat} {l:List xb7} (h:ed7 w B q l) (hl:l.length ≤ 100000) (s:xb7) :
  Calls Try.prog 81 #[.pointer (some ⟨q,0,none⟩), .agg #[.int .i64 s.1, .int .i64 s.2]] w fun e w'=>e = .returned (.tuple #[]) ∧ (∃ l':List xb7,l'.Perm (s :: l) ∧ ed7 w' B q l') ∧ cc7 B w w' ∧ nf7 q w w':=by
 obtain ⟨s1,s2⟩:=s
 have hal:Below w.heap.size w (w.alloc (.cells #[.int .i64 s1, .int .i64 s2] 158)):=(Below.refl _ _).alloc (Nat.le_refl _) _
 have HPU:=hid (nib7 (h.below hal).drew hl (s1,s2))
 have HK:=hid (cc7.below (B:=B) hal h.le)
 have HA:=hid (nf7.of_below hal h.qlt)
 simp only [] at HPU
 clear h hal
 go_enter Try.func81,Try.ntmps81
 go_wp2
 go_region_with (go_at_call 88; refine HPU.out.mono ?_; rintro e w1 ⟨rfl,hP1,hK1,hA1⟩)
 go_wp2
 go_end0
 exact ⟨rfl,hP1,HK.out.drew.trans hK1,HA.out.trans hA1⟩
theorem dy7 {w:World} {B e k n g c b:Nat} {xs:List Value} (h:w.ownsRow B e k (.slice (some ⟨g,0,none⟩) n c) n xs) (hb:b ≠ g) (j:Nat) (u:Value):(w.setCell ⟨b,j,none⟩ u).ownsRow B e k (.slice (some ⟨g,0,none⟩) n c) n xs :=
 h.kept (ze7 w ⟨b,j,none⟩ u) (.inr fun e=>hb (Option.some.inj e).symm)
theorem xx7 {w:World} {B q:Nat} {l:List xb7} (h:ed7 w B q l) (hl:l.length ≤ 100000) :
  Calls Try.prog 82 #[.pointer (some ⟨q,0,none⟩)] w fun e w' => ∃ (s:xb7) (ok:Bool) (l':List xb7),e = .returned (.tuple #[.agg #[.int .i64 s.1, .int .i64 s.2], .bool ok]) ∧
   (ok = false → l = [] ∧ l' = []) ∧ (ok = true → (s :: l').Perm l) ∧ ed7 w' B q l' ∧ cc7 B w w' ∧ nf7 q w w':=by
 have hal:Below w.heap.size w (w.alloc (.cells #[.int .i64 0, .int .i64 0] 158)):=(Below.refl _ _).alloc (Nat.le_refl _) _
 have HK:=hid (cc7.below (B:=B) hal h.le)
 have hBw:=h.le
 have HA:=hid (nf7.of_below hal h.qlt)
 have hR0:=Row.new (w:=w) (g:=w.heap.size) (e:=158) (cs:=[.int .i64 0, .int .i64 0]) rfl
 have hP:=h.below hal
 have hqz:q < w.heap.size:=by obtain ⟨v,R,O,hq⟩:=h; exact R.lt
 go_enter Try.func82,Try.ntmps82
 by_cases h0:l.length = 0
 ·have hl0:=List.eq_nil_of_length_eq_zero h0
  have HP2:=hid (show ed7 (w.alloc (.cells #[.int .i64 0, .int .i64 0] 158)) B q [] from hl0 ▸ hP)
  obtain ⟨v,R,O,hq⟩:=hP
  obtain ⟨a,c,rfl, -, -⟩:=ka7 O
  have p0:=R.cell (j:=0) (by simp)
  simp only [List.getElem_cons_zero] at p0
  have hz:((l.length:Int) == 0) = true:=by simp [h0]
  have rc0:=hR0.cell (j:=0) (by simp)
  have rc1:=hR0.cell (j:=1) (by simp)
  simp only [List.getElem_cons_zero,List.getElem_cons_succ] at rc0 rc1
  have HL0:=hid hl0
  clear R O h hR0 hl0 h0
  go_wp2
  refine bodyPost_ret (v := .tuple #[.agg #[.int .i64 0, .int .i64 0], .bool false]) (by simp [results,Try.results82,go_sem]) rfl ⟨(0,0),false,[],rfl,fun _=>⟨HL0.out,rfl⟩,(fun h=>by cases h),HP2.out,HK.out,HA.out⟩
 ·have hz:((l.length:Int) == 0) = false:=by simp [h0]
  obtain ⟨g,hG0⟩:=h.g (by omega)
  have hgw:g < w.heap.size:=by obtain ⟨_,_,O,_⟩:=hG0; exact (Row.of_items O).lt
  have hG:=hG0.below hal
  have hG':=hG
  obtain ⟨c,R,O,hq⟩:=hG'
  have p0:=R.cell (j:=0) (by simp)
  simp only [List.getElem_cons_zero] at p0
  have HPO:=hid (hlb7 hG hl (by omega))
  have HGG:=hid hG
  have HTA:=zlb7
  have HR0:=hid hR0
  clear h hP hG hG0 R O hR0
  go_wp2_with fail
  refine HPO.out.mono ?_
  rintro e w1 ⟨s,l',rfl,hp,hP1,hK1,hM1⟩
  obtain ⟨s1,s2⟩:=s
  have R1:=HR0.out.keep (hM1.2 w.heap.size HR0.out.lt (by omega) (by omega))
  have f0:=R1.frozen 0
  have f1:=R1.frozen 1
  have k0:=R1.cell (j:=0) (by simp)
  have k1:=R1.cell (j:=1) (by simp)
  have R2:=R1.set (j:=0) (by simp) (.int .i64 s1)
  have R3:=R2.set (j:=1) (by simp) (.int .i64 s2)
  have k2:=R2.cell (j:=1) (by simp)
  have rc0:=R3.cell (j:=0) (by simp)
  have rc1:=R3.cell (j:=1) (by simp)
  simp only [List.set_cons_zero,List.set_cons_succ,List.getElem_cons_zero,List.getElem_cons_succ] at k0 k1 k2 rc0 rc1
  have HA1:=hid (HA.out.trans (nf7.of_keep2 hM1 HGG.out hP1))
  obtain ⟨c1,Q1,O1, -⟩:=hP1
  have HP2:=hid (show ed7 ((w1.setCell ⟨w.heap.size,0,none⟩ (.int .i64 s1)).setCell ⟨w.heap.size,1,none⟩ (.int .i64 s2)) B q l' from
   ⟨_,(Q1.setOther (by show q ≠ w.heap.size; omega) _).setOther (by show q ≠ w.heap.size; omega) _,dy7 (dy7 O1 (by omega) _ _) (by omega) _ _,hq⟩)
  have HK2:=hid (((HK.out.trans hK1).trans (cc7.set R1 (.inl rfl) hBw 0 (.int .i64 s1))).trans (cc7.set R2 (.inl rfl) hBw 1 (.int .i64 s2)))
  have HPP:=hid hp
  have HA2:=hid (show nf7 q w ((w1.setCell ⟨w.heap.size,0,none⟩ (.int .i64 s1)).setCell ⟨w.heap.size,1,none⟩ (.int .i64 s2)) from fun X e cs hx=>by
   have hX:X ≠ w.heap.size:=by have:=hx.1.lt; omega
   obtain ⟨hr,h1,h2⟩:=HA1.out X e cs hx
   refine ⟨(hr.setOther (by show X ≠ w.heap.size; exact hX) _).setOther (by show X ≠ w.heap.size; exact hX) _,h1,fun v hv=>h2 v ?_⟩
   rw [World.cell?_of_block (Below.heap_setCell _ _ _ _ (by show q ≠ w.heap.size; omega)),World.cell?_of_block (Below.heap_setCell _ _ _ _ (by show q ≠ w.heap.size; omega))] at hv
   exact hv)
  clear hp R1 R2 R3 O1 Q1 hK1 hM1 HPO
  go_wp2
  refine bodyPost_ret (v := .tuple #[.agg #[.int .i64 s1, .int .i64 s2], .bool true]) (by simp [results,Try.results82,go_sem,rc0,rc1]) rfl ⟨(s1,s2),true,l',rfl,(fun h=>by cases h),fun _=>HPP.out,HP2.out,HK2.out,HA2.out⟩
end Go.Proofs.Ytahffcepagopmaa
