/- Texts of the proof, joined: A5, A6, A7, AR, A8. -/
import Derived.Test.YtahffcepagopmaaQ1
set_option linter.all false
namespace Go.Proofs.Ytahffcepagopmaa.Ab
open Go.RowKit
section
variable {P : Program} {ty : Ty} {E : Env} {nt : Nat} {M M' : Mp} {H H' : List Root} {σ : AS} {a : Act} {w w' : World}
theorem newRow_ok (h : Rel E M H w) (hg : w.grownBy w' none) {cur : Array Value} {t : TypeId} (hb : w'.heap[w.heap.size]? = some (.cells cur t (0, 0))) {sz : Nat} {r : Row} (hbx : r.isBox = false) (h0 : 0 < sz) {cap : Nat} (hc : cap * sz = cur.size) (hl : r.len ≤ cap)
  (hv : ∀ i, i < r.len → ∀ o, o < sz → ∃ v, cur[i * sz + o]? = some v ∧ v.oneCell' = true ∧ Con0 M.rho w (r.get i o) v) :
  Rel E (M.upd H.length w.heap.size) (H ++ [.live false t sz r]) w' ∧ Kp M H w (M.upd H.length w.heap.size) (H ++ [.live false t sz r]) w' := by
 have p := Put.push h hg (t := t) (sz := sz) (r := r)
 refine ⟨p.rel h ⟨cur, hb, h0, ?_, ⟨cap, hc⟩, fun hb => (by rw [hbx] at hb; cases hb), fun i hi o ho => ?_⟩, p.kp h⟩
 ·rw [← hc]; exact Nat.mul_le_mul_right _ hl
 ·obtain ⟨v, h1, h2, h3⟩ := hv i hi o ho
  refine ⟨v, h1, h2, ?_⟩
  unfold RCon
  rw [hbx, if_neg (by simp)]
  exact h3.keep (p.rho h) (fun _ h => h)
theorem Con0.one {rho : Nat → Prop} {x : AV} {v : Value} (hn : x.nj = true) (h : Con0 rho w x v) : v.oneCell' = true := by
 cases x with
 | ptr => exact h.elim
 | h => exact h.elim
 | junk => cases hn
 | sl => obtain ⟨a, b, off, c, rfl, -⟩ := h; rfl
 | rp => obtain ⟨b, off, rfl, -⟩ := h; rfl
 | int => cases h; rfl
 | bool => cases h; rfl
 | flt => cases h; rfl
 | str => cases h; rfl
 | nilp => cases h; rfl
 | nils => cases h; rfl
theorem rep_len (z : List AV) : ∀ n, (rep z n).length = n * z.length
 | 0 => by simp [rep]
 | n + 1 => by simp [rep, rep_len z n, Nat.add_mul]; omega
theorem rep_nth (z : List AV) : ∀ n j, j < n * z.length → nth (rep z n) j = nth z (j % z.length)
 | 0, j, h => by simp at h
 | n + 1, j, h => by
  simp only [rep]
  rw [nth_append]
  split
  ·rename_i hlt; rw [Nat.mod_eq_of_lt hlt]
  ·rename_i hlt
   rw [Nat.add_mul] at h
   rw [rep_nth z n _ (by omega), ← Nat.mod_eq_sub_mod (by omega)]
theorem takeN_nth : ∀ (n : Nat) (l : List AV) (j : Nat), j < n → nth (takeN n l) j = nth l j
 | n + 1, [], j, _ => by simp [takeN, nth]
 | n + 1, a :: l, 0, _ => rfl
 | n + 1, a :: l, j + 1, h => takeN_nth n l j (by omega)
theorem dropN_nth : ∀ (n : Nat) (l : List AV) (j : Nat), nth (dropN n l) j = nth l (n + j)
 | 0, l, j => by simp [dropN]
 | n + 1, [], j => by simp [dropN, nth]
 | n + 1, a :: l, j => by rw [show n + 1 + j = (n + j) + 1 by omega]; exact dropN_nth n l j
theorem chunk_len (sz : Nat) : ∀ (n : Nat) (l : List AV), (chunk sz n l).length = n
 | 0, _ => rfl
 | n + 1, l => by simp [chunk, chunk_len sz n]
theorem chunk_get (sz : Nat) : ∀ (n : Nat) (l : List AV) (i o : Nat), i < n → o < sz → nth ((chunk sz n l).getD i []) o = nth l (i * sz + o)
 | n + 1, l, 0, o, _, h => by simp only [chunk, List.getD_cons_zero, Nat.zero_mul, Nat.zero_add]; exact takeN_nth _ _ _ h
 | n + 1, l, i + 1, o, hi, h => by
  simp only [chunk, List.getD_cons_succ]
  rw [chunk_get sz n _ i o (by omega) h, dropN_nth]
  congr 1
  rw [Nat.add_mul]; omega
theorem allInts_get {k : IntKind} : ∀ {els : List (List AV)} {l : List Int}, allInts k els = some l → l.length = els.length ∧ ∀ i, i < els.length → els.getD i [] = [.int k (l.getD i 0)]
 | [], l, h => by cases h; exact ⟨rfl, fun i hi => absurd hi (Nat.not_lt_zero _)⟩
 | x :: els, l, h => by
  unfold allInts at h
  split at h
  ·rename_i he; cases he
  ·rename_i k' n l' he
   obtain ⟨rfl, rfl⟩ := List.cons.inj he
   split at h
   ·rename_i hk
    subst hk
    obtain ⟨m, hm, rfl⟩ := Option.map_eq_some_iff.1 h
    obtain ⟨h1, h2⟩ := allInts_get hm
    refine ⟨by simp [h1], fun i hi => ?_⟩
    cases i with
    | zero => rfl
    | succ i => simpa using h2 i (by simpa using hi)
   ·cases h
  ·cases h
theorem allBools_get : ∀ {els : List (List AV)} {l : List Bool}, allBools els = some l → l.length = els.length ∧ ∀ i, i < els.length → els.getD i [] = [.bool (l.getD i false)]
 | [], l, h => by cases h; exact ⟨rfl, fun i hi => absurd hi (Nat.not_lt_zero _)⟩
 | x :: els, l, h => by
  unfold allBools at h
  split at h
  ·rename_i he; cases he
  ·rename_i n l' he
   obtain ⟨rfl, rfl⟩ := List.cons.inj he
   obtain ⟨m, hm, rfl⟩ := Option.map_eq_some_iff.1 h
   obtain ⟨h1, h2⟩ := allBools_get hm
   refine ⟨by simp [h1], fun i hi => ?_⟩
   cases i with
   | zero => rfl
   | succ i => simpa using h2 i (by simpa using hi)
  ·cases h
theorem mkRow_get {k : TyK} {els : List (List AV)} (h : (mkRow k els).1) : (mkRow k els).2.len = els.length ∧ (mkRow k els).2.isBox = false ∧ ∀ i o, i < els.length → nth (els.getD i []) o = (mkRow k els).2.get i o ∨ nth (els.getD i []) o = .junk := by
 unfold mkRow at h ⊢
 split at h
 ·split at h
  ·rename_i l hl
   obtain ⟨h1, h2⟩ := allInts_get hl
   refine ⟨h1, rfl, fun i o hi => ?_⟩
   rw [h2 i hi]
   cases o with
   | zero => exact .inl rfl
   | succ o => exact .inr rfl
  ·exact h.elim
 ·split at h
  ·rename_i l hl
   obtain ⟨h1, h2⟩ := allBools_get hl
   refine ⟨h1, rfl, fun i o hi => ?_⟩
   rw [h2 i hi]
   cases o with
   | zero => exact .inl rfl
   | succ o => exact .inr rfl
  ·exact h.elim
 ·exact h.elim
 ·exact ⟨rfl, rfl, fun i o _ => .inl rfl⟩
theorem frz_nj {x : AV} (h : x.nj = true) (hp : ∀ id n i o, x ≠ .ptr id n i o) (hv : ∀ id st len, x = .h id st len → vldF H id st len) : (frz H x).nj = true := by
 cases x with
 | h id st len =>
  have := hv _ _ _ rfl
  unfold vldF at this
  split at this
  ·rename_i hr; simp only [frz, hr]; rfl
  ·exact this.elim
 | ptr => exact absurd rfl (hp _ _ _ _)
 | junk => cases h
 | _ => rfl
theorem frzOk_nj : ∀ {l : List AV}, frzOk H l → ∀ j, j < l.length → (nth (frzL H l) j).nj = true
 | a :: l, h, 0, _ => by
  cases a with
  | h => exact frz_nj rfl (fun _ _ _ _ e => by cases e) (fun _ _ _ e => by cases e; exact h.1)
  | ptr => exact h.elim
  | junk => exact h.elim
  | _ => rfl
 | a :: l, h, j + 1, hj => by
  have hj' : j < l.length := by simpa using hj
  cases a with
  | h => exact frzOk_nj h.2 j hj'
  | ptr => exact h.elim
  | junk => exact h.elim
  | int => exact frzOk_nj (l := l) h j hj'
  | bool => exact frzOk_nj (l := l) h j hj'
  | flt => exact frzOk_nj (l := l) h j hj'
  | str => exact frzOk_nj (l := l) h j hj'
  | nilp => exact frzOk_nj (l := l) h j hj'
  | nils => exact frzOk_nj (l := l) h j hj'
  | sl => exact frzOk_nj (l := l) h j hj'
  | rp => exact frzOk_nj (l := l) h j hj'
theorem lit_ok (h : Rel E M H w) {l : List AV} {vs : Array Value} {n sz : Nat} {k : TyK} (e : TypeId) (hc : ConL M H w l vs.toList) (hf : frzOk H l) (hm : (mkRow k (chunk sz n (frzL H l))).1) (h0 : 0 < sz) (hn : n * sz = l.length) (hmax : n ≤ maxLen) :
  ∃ M', Rel E M' (frzH H l ++ [.live false e sz (mkRow k (chunk sz n (frzL H l))).2]) (w.alloc (.cells vs e)) ∧ Kp M H w M' (frzH H l ++ [.live false e sz (mkRow k (chunk sz n (frzL H l))).2]) (w.alloc (.cells vs e)) ∧
   Con M' (frzH H l ++ [.live false e sz (mkRow k (chunk sz n (frzL H l))).2]) (w.alloc (.cells vs e)) (.h H.length 0 n) (.slice (some ⟨w.heap.size, 0, none⟩) n n) := by
 obtain ⟨M1, e1, e2, h1, k1, c1⟩ := frz_ok l h hf
 have hcl := c1 _ hc
 have hlen := hcl.len
 rw [frzL_len] at hlen
 obtain ⟨m1, m2, m3⟩ := mkRow_get hm
 rw [chunk_len] at m1 m3
 have hg : w.grownBy (w.alloc (.cells vs e)) none := ⟨rfl, rfl, rfl, by simp, fun k hk _ => Below.heap_alloc _ _ _ hk⟩
 have hsz : n * sz = vs.size := by simp at hlen; omega
 obtain ⟨r1, r2⟩ := newRow_ok h1 hg (heap_push w _) m2 h0 hsz (by omega) (fun i hi o ho => by
  have hi' : i < n := by omega
  have hlt : i * sz + o < l.length := by
   rw [← hn]
   have : (i + 1) * sz ≤ n * sz := Nat.mul_le_mul_right _ hi'
   rw [Nat.add_mul] at this
   omega
  have hlt2 : i * sz + o < vs.size := by omega
  have hcon := hcl.get (i * sz + o) vs[i * sz + o] (by simp [hlt2])
  have hnj := frzOk_nj hf _ hlt
  refine ⟨vs[i * sz + o], by simp [hlt2], hcon.one hnj, ?_⟩
  rcases m3 i o hi' with q | q
  ·rw [← q, chunk_get _ _ _ _ _ hi' ho]; exact hcon
  ·rw [chunk_get _ _ _ _ _ hi' ho] at q
   rw [q] at hnj; cases hnj)
 refine ⟨_, r1, k1.trans r2, ?_⟩
 have := con_newH (M := M1) (H := frzH H l) (w := w) (w' := w.alloc (.cells vs e)) (t := e) (sz := sz) (n := n) (cap := n) (r := (mkRow k (chunk sz n (frzL H l))).2) (cur := vs) m1.symm (Nat.le_refl _) hmax (heap_push w _) hsz
 rw [frzH_len] at this ⊢
 exact this
theorem buildSlice_ok (hT : TyOk P ty) (h : St E nt M σ a w) (t e : TypeId) (hk : (ty t).k = .sl e) (n : Nat) (ps : Array (Nat × Operand)) (hg : gOk true (pgs σ.rd ps.toList))
  (ho : (buildV (fun i => (i * (ty e).sz, (ty e).sz)) σ.rd (rep (ty e).zero n) ps.toList).1) (h0 : 0 < (ty e).sz) (hmax : n * (ty e).sz ≤ 16777216) :
  ∃ out : Array Value, ConL M σ.H w (buildV (fun i => (i * (ty e).sz, (ty e).sz)) σ.rd (rep (ty e).zero n) ps.toList).2 out.toList ∧ out.size = n * (ty e).sz ∧ ∀ w', (Instr.buildSlice t n (ps.map fun (i, x) => (i, a.eval x))).run P w' = .ok (.slice (some ⟨w'.heap.size, 0, none⟩) n n) (w'.alloc (.cells out e)) := by
 obtain ⟨hu, hke⟩ : P.underlying t = some (.slice e) ∧ _ := kOk_of hT hk
 obtain ⟨i, z, hi, hz, hs, -, hzs, hzl, hzc⟩ := zero_con (M := M) (σ := σ) (w := w) (P := P) hT (t := e) hke
 have hzl2 : (ty e).zero.length = (ty e).sz := by have := hzc.len; simp at this; omega
 have hzero : ConL M σ.H w (rep (ty e).zero n) (((Array.range (n * i.size)).map (z.cells[· % z.cells.size]!)).toList) := by
  refine ConL.of_getElem (by rw [rep_len, hzl2, hs]; simp) fun j v hj => ?_
  have hjl : j < n * (ty e).sz := by
   have := (List.getElem?_eq_some_iff.1 hj).1
   simpa [hs] using this
  have hpos : j % (ty e).sz < z.cells.size := by rw [hzs]; exact Nat.mod_lt _ h0
  have hv : v = z.cells[j % (ty e).sz] := by
   simp only [Array.getElem?_toList, Array.getElem?_map, Array.getElem?_range, hs, hjl, if_true, Option.map_some, Option.some.injEq] at hj
   rw [← hj, hzs]
   exact getElem!_pos z.cells _ hpos
  rw [rep_nth _ _ _ (by rw [hzl2]; exact hjl), hzl2]
  refine hzc.get _ _ ?_
  rw [hv]; simp [hpos]
 obtain ⟨out, h1, h2⟩ := fill_ok (M := M) (σ := σ) (w := w) (a := a) (fun i => (i * (ty e).sz, (ty e).sz)) (fun i => some (i * (ty e).sz, (ty e).sz)) (fun _ _ => rfl) ps.toList (rep (ty e).zero n) _ (fun x _ hx => h.rd hx) hg hzero ho
 have hlen : ∀ (ps : List (Nat × Operand)) (l : List AV), (buildV (fun i => (i * (ty e).sz, (ty e).sz)) σ.rd l ps).2.length = l.length := by
  intro ps
  induction ps with
  | nil => intro l; rfl
  | cons p ps ih => intro l; obtain ⟨i, x⟩ := p; simp only [buildV]; rw [ih, pat_len]
 have hos : out.size = n * (ty e).sz := by
  have := h2.len
  rw [hlen, rep_len, hzl2] at this
  simpa using this
 refine ⟨out, h2, hos, fun w' => ?_⟩
 rcases Nat.eq_zero_or_pos n with rfl | hn0
 ·have hps : ps.toList = [] := by
   cases hq : ps.toList with
   | nil => rfl
   | cons q qs =>
    rw [hq] at ho
    obtain ⟨⟨-, -, -, h4⟩, -⟩ := ho
    simp only [rep, List.length_nil] at h4
    omega
  have hps2 : ps = #[] := by simpa using hps
  subst hps2
  have : out = #[] := by simpa using hos
  subst this
  have hz0 : (Array.map (fun _ => (default : Value)) (Array.range 0)) = #[] := by simp
  simp [Instr.buildSlice, run_underlying hu, sizeOf, typeInfo, hi, newRow, Instr.fill, hz0]
 refine run_buildSlice w' t e n _ out i z hu hi hz (by rw [hs]; omega) (by rw [hs]; exact Nat.pos_iff_ne_zero.1 (Nat.mul_pos hn0 h0)) ?_
 rw [← h1, hs]
 simp
theorem zeros_get {k : TyK} {z : List AV} (hz : zOk k z) (n : Nat) : (zeros k z n).len = n ∧ (zeros k z n).isBox = false ∧ ∀ i o, i < n → o < z.length → (zeros k z n).get i o = nth z o := by
 unfold zOk at hz
 unfold zeros
 split at hz
 ·subst hz
  refine ⟨by simp [Row.len], rfl, fun i o hi ho => ?_⟩
  have : o = 0 := by simpa using ho
  subst this
  simp [Row.get, nth, List.getD_eq_getElem?_getD, List.getElem?_replicate, hi]
 ·subst hz
  refine ⟨by simp [Row.len], rfl, fun i o hi ho => ?_⟩
  have : o = 0 := by simpa using ho
  subst this
  simp [Row.get, nth, List.getD_eq_getElem?_getD, List.getElem?_replicate, hi]
 ·exact hz.elim
 ·rename_i h1 h2 h3
  split
  ·exact absurd rfl (h1 _)
  ·exact absurd rfl h2
  ·refine ⟨by simp [Row.len], rfl, fun i o hi ho => ?_⟩
   simp [Row.get, List.getD_eq_getElem?_getD, List.getElem?_replicate, hi]
theorem make_ok (hT : TyOk P ty) (h : Rel E M H w) (t e : TypeId) (hk : (ty t).k = .sl e) (kl kc : IntKind) (n : Int) (h1 : 0 ≤ n) (h2 : n ≤ 1099511627776) (h0 : 0 < (ty e).sz) (hb : (ty e).bytes ≤ 128) (hz : zOk (ty e).k (ty e).zero) :
  ∃ M' w' v, (Instr.makeSlice t (.int kl n) (.int kc n)).run P w = .ok v w' ∧ Below w.heap.size w w' ∧ Rel E M' (H ++ [.live false e (ty e).sz (zeros (ty e).k (ty e).zero n.toNat)]) w' ∧ Kp M H w M' (H ++ [.live false e (ty e).sz (zeros (ty e).k (ty e).zero n.toNat)]) w' ∧ Con M' (H ++ [.live false e (ty e).sz (zeros (ty e).k (ty e).zero n.toNat)]) w' (.h H.length 0 n.toNat) v := by
 obtain ⟨hu, hke⟩ : P.underlying t = some (.slice e) ∧ _ := kOk_of hT hk
 obtain ⟨i, z, hi, hzz, hs, hby, hzs, hzl, -⟩ := zero_con (M := M) (σ := ⟨[], H⟩) (w := w) (P := P) hT (t := e) hke
 obtain ⟨m, rfl⟩ : ∃ m : Nat, n = m := ⟨n.toNat, by omega⟩
 have hmx : m ≤ maxLen := by unfold maxLen; omega
 have hzn : (ty e).zero.length = (ty e).sz := by have := zvL_len hzl; simp at this; omega
 obtain ⟨w', hr, hown, hg⟩ := run_make_full (P := P) (w := w) w.heap.size t e i z (ty e).sz hu hi hzz hs kl kc m (by rw [hby]; have := Nat.mul_le_mul hb (show m ≤ 1099511627776 by omega); omega) hmx (Nat.le_refl _)
 obtain ⟨hl, hor⟩ := hown
 rcases hor with ⟨hbad, -⟩ | ⟨g, cap, cur, hv, hge, hheap, hcap, hcm, hcs, htk⟩
 ·cases hbad
 ·cases hv
  have hcur : cur.toList = (madeCells z.cells (m * (ty e).sz)).toList := by rw [← htk, List.take_of_length_le]; simp [hcs]
  have hcur2 : cur = madeCells z.cells (m * (ty e).sz) := Array.toList_inj.1 hcur
  obtain ⟨z1, z2, z3⟩ := zeros_get hz m
  obtain ⟨r1, r2⟩ := newRow_ok (r := zeros (ty e).k (ty e).zero m) h hg hheap z2 h0 hcs.symm (by omega) (fun i hi o ho => by
   have hi' : i < m := by omega
   have hlt : i * (ty e).sz + o < m * (ty e).sz := by
    have : (i + 1) * (ty e).sz ≤ m * (ty e).sz := Nat.mul_le_mul_right _ hi'
    rw [Nat.add_mul] at this
    omega
   have ho2 : o < z.cells.size := by omega
   have hzo := zvL_get hzl o z.cells[o] (by simp [ho2])
   refine ⟨z.cells[o], ?_, zvB_one hzo, ?_⟩
   ·rw [hcur2]
    unfold madeCells
    have hmod : (i * (ty e).sz + o) % z.cells.size = o := by rw [hzs, Nat.mul_comm, Nat.mul_add_mod]; exact Nat.mod_eq_of_lt ho
    simp only [Array.getElem?_map, Array.getElem?_range, hlt, if_true, Option.map_some, hmod]
    rw [getElem!_pos z.cells o ho2]
   ·rw [z3 i o hi' (by omega)]; exact zvB_con hzo)
  refine ⟨_, w', _, hr, ⟨hg.os, hg.tape, hg.output, hg.size, fun k hk => hg.block k hk (by simp)⟩, r1, r2, ?_⟩
  exact con_newH (w := w) z1.symm (Nat.le_refl _) hmx hheap hcs.symm
theorem drop_get {r : Row} (hb : r.isBox = false) (st : Nat) : (r.drop st).isBox = false ∧ (r.drop st).len = r.len - st ∧ ∀ i o, (r.drop st).get i o = r.get (st + i) o := by
 cases r with
 | box => cases hb
 | ints k l => exact ⟨rfl, by simp [Row.drop, Row.len], fun i o => by simp [Row.drop, Row.get, List.getD_eq_getElem?_getD, List.getElem?_drop]⟩
 | bools l => exact ⟨rfl, by simp [Row.drop, Row.len], fun i o => by simp [Row.drop, Row.get, List.getD_eq_getElem?_getD, List.getElem?_drop]⟩
 | gen l => exact ⟨rfl, by simp [Row.drop, Row.len], fun i o => by simp [Row.drop, Row.get, List.getD_eq_getElem?_getD, List.getElem?_drop]⟩
theorem getD_append {α : Type} (l m : List α) (i : Nat) (d : α) : (l ++ m).getD i d = if i < l.length then l.getD i d else m.getD (i - l.length) d := by
 simp only [List.getD_eq_getElem?_getD]
 split
 ·rename_i h; rw [List.getElem?_append_left h]
 ·rename_i h; rw [List.getElem?_append_right (by omega)]
theorem app_get {r s : Row} (h : (r.app s).1) : (r.app s).2.isBox = false ∧ r.isBox = false ∧ (r.app s).2.len = r.len + s.len ∧ ∀ i o, (r.app s).2.get i o = if i < r.len then r.get i o else s.get (i - r.len) o := by
 unfold Row.app at h ⊢
 split at h
 ·rename_i k l k' m
  simp only at h
  subst h
  exact ⟨rfl, rfl, by simp [Row.len], fun i o => by simp only [Row.get, Row.len, getD_append]; split <;> simp [*]⟩
 ·exact ⟨rfl, rfl, by simp [Row.len], fun i o => by simp only [Row.get, Row.len, getD_append]; split <;> simp [*]⟩
 ·exact ⟨rfl, rfl, by simp [Row.len], fun i o => by simp only [Row.get, Row.len, getD_append]; split <;> simp [*]⟩
 ·exact h.elim
structure SrcOk (M : Mp) (w : World) (v : Value) (s : Row) (sz : Nat) (ad : Addr) (c : Nat) (news : List Value) : Prop where
 v : v = .slice (some ad) s.len c
 len : news.length = s.len * sz
 cell : ∀ j u, news[j]? = some u → w.cell? (ad.add j) = some u
 one : ∀ u ∈ news, u.oneCell' = true
 con : ∀ i o, i < s.len → o < sz → ∃ u, news[i * sz + o]? = some u ∧ Con0 M.rho w (s.get i o) u
theorem src_ok (h : Rel E M H w) {x : RV} {v : Value} (hx : ConR M H w x v) (ho : (appSrc H x).1) : ∃ ad c news, SrcOk M w v (appSrc H x).2.1 (appSrc H x).2.2 ad c news := by
 unfold appSrc at ho ⊢
 split at ho
 ·rename_i id st len
  split at ho
  ·rename_i fz t sz r hr
   obtain ⟨h1, h2⟩ := ho
   obtain ⟨cap, cur, rfl, h3, h4, h5, h6⟩ := (hx.2 _ _ _ _ hr).2 h1
   obtain ⟨cur2, k1, k2, k3, k4, k5, k6⟩ := h.row _ _ _ _ _ hr
   rw [h5] at k1
   cases k1
   obtain ⟨d1, d2, d3⟩ := drop_get h2 st
   have hl : (r.drop st).len = len := by omega
   have hfit : st * sz + len * sz ≤ cur.size := by rw [← Nat.add_mul, h1]; exact k3
   refine ⟨⟨M.phi id, st * sz, none⟩, cap, (cur.toList.drop (st * sz)).take (len * sz), ⟨by rw [hl], by rw [hl]; simp; omega, fun j u hj => ?_, fun u hu => ?_, fun i o hi ho => ?_⟩⟩
   ·have hjl : j < len * sz := by have := (List.getElem?_eq_some_iff.1 hj).1; simp at this; omega
    rw [List.getElem?_take_of_lt hjl, List.getElem?_drop] at hj
    rw [addr_add]
    simp only [World.cell?, h5, Option.isSome_none, Bool.false_eq_true, if_false]
    simpa using hj
   ·obtain ⟨j, hj, rfl⟩ := List.getElem_of_mem hu
    have hjl : j < len * sz := by simp at hj; omega
    have hi : j / sz < len := (Nat.div_lt_iff_lt_mul k2).2 hjl
    obtain ⟨v, e1, e2, e3⟩ := k6 (st + j / sz) (by omega) (j % sz) (Nat.mod_lt _ k2)
    have e4 : (st + j / sz) * sz + j % sz = st * sz + j := by rw [Nat.add_mul, Nat.add_assoc, Nat.mul_comm (j / sz), Nat.div_add_mod]
    rw [e4] at e1
    have : ((cur.toList.drop (st * sz)).take (len * sz))[j] = v := by
     rw [List.getElem_take, List.getElem_drop]
     have hh := (Array.getElem?_eq_some_iff.1 e1).2
     simpa using hh
    rw [this]; exact e2
   ·rw [hl] at hi
    have ho : o < sz := ho
    obtain ⟨v, e1, e2, e3⟩ := k6 (st + i) (by omega) o ho
    have hlt : i * sz + o < len * sz := by
     have : (i + 1) * sz ≤ len * sz := Nat.mul_le_mul_right _ hi
     rw [Nat.add_mul] at this
     omega
    refine ⟨v, ?_, ?_⟩
    ·rw [List.getElem?_take_of_lt hlt, List.getElem?_drop, ← Nat.add_assoc, ← Nat.add_mul]
     simpa using e1
    ·unfold RCon at e3
     rw [h2, if_neg (by simp)] at e3
     rw [d3]; exact e3
  ·exact ho.elim
 ·exact ho.elim
theorem appNil_ok (hT : TyOk P ty) (h : Rel E M H w) (t e rt : TypeId) (hk : (ty t).k = .sl e) (h0 : 0 < (ty e).sz) (hb : (ty e).bytes ≤ 128) {v : Value} {s : Row} {ad : Addr} {c : Nat} {news : List Value} (hs : SrcOk M w v s (ty e).sz ad c news) (hbx : s.isBox = false) (hn : 0 < s.len ∧ s.len ≤ 1099511627776) :
  ∃ M' w' v', (Builtin.append_ #[t, t] rt #[.slice none 0 0, v]).run P w = .ok v' w' ∧ Rel E M' (H ++ [.live false e (ty e).sz s]) w' ∧ Kp M H w M' (H ++ [.live false e (ty e).sz s]) w' ∧ Con M' (H ++ [.live false e (ty e).sz s]) w' (.h H.length 0 s.len) v' := by
 obtain ⟨hu, hke⟩ : P.underlying t = some (.slice e) ∧ _ := kOk_of hT hk
 obtain ⟨i, z, hi, hzz, hsz, hby, hzs, hzl, -⟩ := zero_con (M := M) (σ := ⟨[], H⟩) (w := w) (P := P) hT (t := e) hke
 have hown : w.ownsRow w.heap.size e (ty e).sz (.slice none 0 0) 0 [] := ⟨by simp, .inl ⟨rfl, rfl⟩⟩
 obtain ⟨v', w', hr, ho, hg, hnone, hblk⟩ := run_append_own_at (P := P) (w := w) w.heap.size t rt e i z (ty e).sz (ty e).bytes hu hi hzz hsz hby hzs h0 (.slice none 0 0) 0 [] hown ad s.len c news hs.len hs.cell hs.one (by unfold maxLen; omega)
  (by have := Nat.mul_le_mul (show 0 + s.len ≤ 1099511627776 by omega) hb; omega) (Nat.le_refl _)
 rw [← hs.v] at hr
 obtain ⟨hl, hor⟩ := ho
 rcases hor with ⟨hbad, -⟩ | ⟨g, cap, cur, rfl, hge, hheap, hcap, hcm, hcs, htk⟩
 ·have := (hnone.1 hbad).2; omega
 ·have hgg : g = w.heap.size := by
   rcases hblk with hb | hb
   ·simp [Value.ownBlock] at hb
   ·simpa [Value.ownBlock] using hb
  subst hgg
  simp only [List.nil_append, Nat.zero_add] at htk hl hcap ⊢
  rw [Nat.zero_add] at hr
  obtain ⟨r1, r2⟩ := newRow_ok (r := s) h hg hheap hbx h0 hcs.symm (by omega) (fun i hi o ho => by
   obtain ⟨u, u1, u2⟩ := hs.con i o hi ho
   refine ⟨u, ?_, hs.one u (List.mem_of_getElem? u1), u2⟩
   have hlt : i * (ty e).sz + o < s.len * (ty e).sz := by
    have : (i + 1) * (ty e).sz ≤ s.len * (ty e).sz := Nat.mul_le_mul_right _ hi
    rw [Nat.add_mul] at this
    omega
   rw [← htk, List.getElem?_take_of_lt hlt] at u1
   simpa using u1)
  exact ⟨_, w', _, hr, r1, r2, con_newH (w := w) rfl hcap hcm hheap hcs.symm⟩
theorem appOwn_ok (hT : TyOk P ty) (h : Rel E M H w) (t e rt : TypeId) (hk : (ty t).k = .sl e) (h0 : 0 < (ty e).sz) (hb : (ty e).bytes ≤ 128) {v q : Value} {s : Row} {ad : Addr} {c : Nat} {news : List Value} (hs : SrcOk M w v s (ty e).sz ad c news)
  {id len : Nat} {r : Row} (hr : rootAt H id = .live false e (ty e).sz r) (hlen : len = r.len) (hq : Con M H w (.h id 0 len) q) (hmax : len + s.len ≤ 1099511627776) (happ : (r.app s).1) :
  ∃ M' w' v', (Builtin.append_ #[t, t] rt #[q, v]).run P w = .ok v' w' ∧ Rel E M' (setRoot H id (.live false e (ty e).sz (r.app s).2)) w' ∧ Kp M H w M' (setRoot H id (.live false e (ty e).sz (r.app s).2)) w' ∧ Con M' (setRoot H id (.live false e (ty e).sz (r.app s).2)) w' (.h id 0 (len + s.len)) v' := by
 obtain ⟨hu, hke⟩ : P.underlying t = some (.slice e) ∧ _ := kOk_of hT hk
 obtain ⟨i, z, hi, hzz, hsz, hby, hzs, hzl, -⟩ := zero_con (M := M) (σ := ⟨[], H⟩) (w := w) (P := P) hT (t := e) hke
 obtain ⟨cap, cur, rfl, q1, q2, q3, q4⟩ := (hq.2 _ _ _ _ hr).2 (by omega)
 simp only [Nat.zero_mul, Nat.zero_add] at q4 ⊢
 obtain ⟨cur2, k1, k2, k3, k4, k5, k6⟩ := h.row _ _ _ _ _ hr
 rw [q3] at k1
 cases k1
 obtain ⟨a1, a2, a3, a4⟩ := app_get happ
 have hfit : len * (ty e).sz ≤ cur.size := by rw [hlen]; exact k3
 have hown : w.ownsRow E.W0.heap.size e (ty e).sz (.slice (some ⟨M.phi id, 0, none⟩) len cap) len (cur.toList.take (len * (ty e).sz)) :=
  ⟨by simp; omega, .inr ⟨M.phi id, cap, cur, rfl, h.low _ _ _ _ _ hr, q3, q1, q2, q4.symm, rfl⟩⟩
 have hidl := rootAt_lt hr
 have fin : ∀ (w' : World) (g cap' : Nat) (cur' : Array Value), w.grownBy w' (some (M.phi id)) → w'.heap[g]? = some (.cells cur' e (0, 0)) → (g = M.phi id ∨ w.heap.size ≤ g) → len + s.len ≤ cap' → cap' ≤ maxLen → cur'.size = cap' * (ty e).sz →
   cur'.toList.take ((len + s.len) * (ty e).sz) = cur.toList.take (len * (ty e).sz) ++ news → (0 < s.len ∨ g = M.phi id ∧ cap' = cap) →
   ∃ M', Rel E M' (setRoot H id (.live false e (ty e).sz (r.app s).2)) w' ∧ Kp M H w M' (setRoot H id (.live false e (ty e).sz (r.app s).2)) w' ∧ Con M' (setRoot H id (.live false e (ty e).sz (r.app s).2)) w' (.h id 0 (len + s.len)) (.slice (some ⟨g, 0, none⟩) (len + s.len) cap') := by
  intro w' g cap' cur' hg hheap hgg hcap hcm hcs htk hpos
  have p : Put E M H (setRoot H id (.live false e (ty e).sz (r.app s).2)) w w' (some (M.phi id)) id g e (ty e).sz (r.app s).2 :=
   ⟨hg, fun j hj => (by rw [rootAt_set, if_neg (fun h => hj h.1)]), (by rw [rootAt_set, if_pos ⟨rfl, hidl⟩]), (by rw [setRoot_len]; exact Nat.le_refl _), fun e => (by rw [hr] at e; cases e),
    fun b e' => ⟨(Option.some.inj e').symm, _, _, r, hr⟩, (by rcases hgg with rfl | hgg; exact .inl ⟨rfl, _, _, r, hr⟩; exact .inr hgg), fun fz t2 s2 r2 e' => by
     rw [hr] at e'
     cases e'
     rcases hpos with hpos | ⟨rfl, rfl⟩
     ·left; omega
     ·rcases Nat.eq_zero_or_pos s.len with h0' | h0'
      ·refine .inr ⟨by omega, rfl, rfl, rfl, fun c hc => ⟨cur', hheap, ?_⟩⟩
       rw [q3] at hc
       cases hc
       omega
      ·left; omega⟩
  have hk := p.kp h
  refine ⟨_, p.rel h ⟨cur', hheap, h0, ?_, ⟨cap', hcs.symm⟩, fun hb => (by rw [a1] at hb; cases hb), fun i hi o ho => ?_⟩, hk, ?_⟩
  ·rw [a3, hcs, ← hlen]; exact Nat.mul_le_mul_right _ hcap
  ·rw [a3, ← hlen] at hi
   have hlt : i * (ty e).sz + o < (len + s.len) * (ty e).sz := by
    have : (i + 1) * (ty e).sz ≤ (len + s.len) * (ty e).sz := Nat.mul_le_mul_right _ hi
    rw [Nat.add_mul] at this
    omega
   have hget : cur'[i * (ty e).sz + o]? = (cur.toList.take (len * (ty e).sz) ++ news)[i * (ty e).sz + o]? := by
    rw [← htk, List.getElem?_take_of_lt hlt]; simp
   have htl : (cur.toList.take (len * (ty e).sz)).length = len * (ty e).sz := by simp; omega
   have wrap : (∃ u, (cur.toList.take (len * (ty e).sz) ++ news)[i * (ty e).sz + o]? = some u ∧ u.oneCell' = true ∧ Con0 M.rho w' (if i < r.len then r.get i o else s.get (i - r.len) o) u) → ∃ u, cur'[i * (ty e).sz + o]? = some u ∧ u.oneCell' = true ∧ RCon (M.upd id g) (setRoot H id (.live false e (ty e).sz (r.app s).2)) w' (r.app s).2.isBox ((r.app s).2.get i o) u := by
    rintro ⟨u, u1, u2, u3⟩
    refine ⟨u, by rw [hget]; exact u1, u2, ?_⟩
    unfold RCon
    rw [a1, if_neg (by simp), a4]
    exact u3
   refine wrap ?_
   by_cases hil : i < len
   ·obtain ⟨u, u1, u2, u3⟩ := k6 i (by omega) o ho
    have hlt2 : i * (ty e).sz + o < len * (ty e).sz := by
     have : (i + 1) * (ty e).sz ≤ len * (ty e).sz := Nat.mul_le_mul_right _ hil
     rw [Nat.add_mul] at this
     omega
    refine ⟨u, ?_, u2, ?_⟩
    ·rw [List.getElem?_append_left (by omega), List.getElem?_take_of_lt hlt2]; simpa using u1
    ·rw [if_pos (by omega)]
     unfold RCon at u3
     rw [a2, if_neg (by simp)] at u3
     exact u3.keep (p.rho h) (fun _ h => h)
   ·obtain ⟨u, u1, u2⟩ := hs.con (i - len) o (by omega) ho
    refine ⟨u, ?_, hs.one u (List.mem_of_getElem? u1), ?_⟩
    ·have hle : len * (ty e).sz ≤ i * (ty e).sz := Nat.mul_le_mul_right _ (by omega)
     rw [List.getElem?_append_right (by omega), htl, ← u1, Nat.sub_mul]
     congr 1; omega
    ·rw [if_neg (by omega), ← hlen]
     exact u2.keep (p.rho h) (fun _ h => h)
  ·refine ⟨⟨by rw [setRoot_len]; exact hidl, rfl⟩, fun fz t2 s2 r2 e' => ?_⟩
   rw [rootAt_set, if_pos ⟨rfl, hidl⟩] at e'
   cases e'
   exact ⟨by omega, fun _ => ⟨cap', cur', by simp [Mp.upd], hcap, hcm, by simpa [Mp.upd] using hheap, by simp [hcs]⟩⟩
 by_cases hroom : len + s.len ≤ cap
 ·obtain ⟨w', hr1, ho, hg⟩ := run_append_fits (P := P) (w := w) E.W0.heap.size t rt e i (ty e).sz hu hi hsz (M.phi id) len cap _ hown ad s.len c news hs.len hs.cell hs.one hroom
  rw [← hs.v] at hr1
  obtain ⟨hl, hor⟩ := ho
  rcases hor with ⟨hbad, -⟩ | ⟨g, cap', cur', hv, hge, hheap, hcap, hcm, hcs, htk⟩
  ·cases hbad
  ·cases hv
   obtain ⟨M', m1, m2, m3⟩ := fin w' _ _ cur' hg hheap (.inl rfl) hcap hcm hcs htk (.inr ⟨rfl, rfl⟩)
   exact ⟨M', w', _, hr1, m1, m2, m3⟩
 ·obtain ⟨v', w', hr1, ho, hg, hnone, hblk⟩ := run_append_own_at (P := P) (w := w) E.W0.heap.size t rt e i z (ty e).sz (ty e).bytes hu hi hzz hsz hby hzs h0 _ len _ hown ad s.len c news hs.len hs.cell hs.one (by unfold maxLen; omega)
   (by have := Nat.mul_le_mul hmax hb; omega) h.bel.size
  rw [← hs.v] at hr1
  obtain ⟨hl, hor⟩ := ho
  rcases hor with ⟨hbad, -⟩ | ⟨g, cap', cur', rfl, hge, hheap, hcap, hcm, hcs, htk⟩
  ·have := (hnone.1 hbad).1; cases this
  ·obtain ⟨M', m1, m2, m3⟩ := fin w' g cap' cur' hg hheap (by
    rcases hblk with hb | hb
    ·exact .inl (by simpa [Value.ownBlock] using hb)
    ·exact .inr (by have : g = w.heap.size := (by simpa [Value.ownBlock] using hb); omega)) hcap hcm hcs htk (.inl (by omega))
   exact ⟨M', w', _, hr1, m1, m2, m3⟩
end
end Go.Proofs.Ytahffcepagopmaa.Ab
namespace Go.Proofs.Ytahffcepagopmaa.Ab
open Go.RowKit
section
variable {P : Program} {ty : Ty} {E : Env} {nt : Nat} {M M' : Mp} {H H' : List Root} {σ : AS} {a : Act} {w w' : World}
theorem lk_put (tm : Tm) (g : Bool) (d t : Nat) (v : RV) : lk (putT tm g (some d) v) t = if d = t then (g, v) else lk tm t := rfl
theorem getD_put (a : Act) (d t : Nat) (v : Value) (hd : d < a.tmps.size) : (a.put (some d) v).tmps.getD t undef = if d = t then v else a.tmps.getD t undef := by
 simp only [Act.put, Array.getD_eq_getD_getElem?, Array.getElem?_setIfInBounds]
 by_cases e : d = t
 ·subst e; simp [hd]
 ·simp [e]
theorem St.put (h : St E nt M σ a w) (hr : Rel E M' H' w') (hk : Kp M σ.H w M' H' w') {d : Option Nat} (hd : ∀ t, d = some t → t < nt) {r : RV} {v : Value} (hv : ConR M' H' w' r v) : St E nt M' ⟨putT σ.tm true d r, H'⟩ (a.put d v) w' := by
 cases d with
 | none => exact ⟨hr, fun t ht => hk.R (h.tms t ht), h.off, h.sz, h.df⟩
 | some d =>
  have hd' : d < a.tmps.size := by rw [h.sz]; exact hd d rfl
  refine ⟨hr, fun t ht => ?_, fun t ht => ?_, by simp [Act.put, h.sz], h.df⟩
  ·show ConR M' H' w' (lk (putT σ.tm true (some d) r) t).2 _
   have ht' : (lk (putT σ.tm true (some d) r) t).1 = true := ht
   rw [getD_put _ _ _ _ hd', lk_put] at *
   by_cases e : d = t
   ·rw [if_pos e, if_pos e]; exact hv
   ·rw [if_neg e] at ht' ⊢
    rw [if_neg e]
    exact hk.R (h.tms t ht')
  ·have ht' : (lk (putT σ.tm true (some d) r) t).1 = false := ht
   rw [lk_put] at ht'
   rw [getD_put _ _ _ _ hd']
   by_cases e : d = t
   ·rw [if_pos e] at ht'; cases ht'
   ·rw [if_neg e] at ht' ⊢
    exact h.off t ht'
theorem St.putV (h : St E nt M σ a w) {d : Option Nat} (hd : ∀ t, d = some t → t < nt) {g : Bool} {r : RV} {v : Value} (hv : g = true → ConR M σ.H w r v) (hn : g = false → v = undef) : St E nt M ⟨putT σ.tm g d r, σ.H⟩ (a.put d v) w := by
 cases g with
 | true => exact h.put h.rel (Kp.refl _ _ _) hd (hv rfl)
 | false =>
  obtain rfl := hn rfl
  cases d with
  | none => exact ⟨h.rel, h.tms, h.off, h.sz, h.df⟩
  | some d =>
   have hd' : d < a.tmps.size := by rw [h.sz]; exact hd d rfl
   refine ⟨h.rel, fun t ht => ?_, fun t ht => ?_, by simp [Act.put, h.sz], h.df⟩
   ·have ht' : (lk (putT σ.tm false (some d) r) t).1 = true := ht
    show ConR M σ.H w (lk (putT σ.tm false (some d) r) t).2 _
    rw [getD_put _ _ _ _ hd', lk_put] at *
    by_cases e : d = t
    ·rw [if_pos e] at ht'; cases ht'
    ·rw [if_neg e] at ht' ⊢
     rw [if_neg e]
     exact h.tms t ht'
   ·have ht' : (lk (putT σ.tm false (some d) r) t).1 = false := ht
    rw [lk_put] at ht'
    rw [getD_put _ _ _ _ hd']
    by_cases e : d = t
    ·rw [if_pos e]
    ·rw [if_neg e] at ht' ⊢
     exact h.off t ht'
theorem nthO_eq : ∀ (l : List Oper) (j : Nat), nthO l j = l[j]?
 | [], _ => rfl
 | _ :: _, 0 => rfl
 | _ :: l, j + 1 => by simp only [nthO, List.getElem?_cons_succ]; exact nthO_eq l j
theorem guard_ok (h : St E nt M σ a w) {ops : Array Oper} {gd : Option (Nat × Bool)} {g : Bool} (hg : guardOf σ.tm ops gd = some g) {o : Oper} (ho : o.guard = gd) : Region.wanted o (yielded ops a.tmps) = g := by
 unfold Region.wanted
 rw [ho]
 unfold guardOf at hg
 split at hg
 ·cases hg; rfl
 ·rename_i j want
  split at hg
  ·rename_i o2 ho2
   rw [nthO_eq, Array.getElem?_toList] at ho2
   split at hg
   ·rename_i d hd
    split at hg
    ·rename_i g2 b hlk
     simp only [Option.some.injEq] at hg
     subst hg
     cases g2 with
     | true =>
      have hc := h.tms d (by rw [hlk])
      rw [hlk] at hc
      have hv : a.tmps.getD d undef = .bool b := hc
      have hq : a.tmps[d]? = some (.bool b) := by
       rw [Array.getD_eq_getD_getElem?] at hv
       cases hh : a.tmps[d]? with
       | none => rw [hh] at hv; simp [undef] at hv
       | some u => rw [hh] at hv; simpa using hv
      simp only [yielded, ho2, Option.bind_some, hd, hq]
      cases b <;> cases want <;> rfl
     | false =>
      have hv := h.off d (by rw [hlk])
      have : yielded ops a.tmps j = none := by
       simp only [yielded, ho2, Option.bind_some, hd]
       rw [Array.getD_eq_getD_getElem?] at hv
       cases hh : a.tmps[d]? with
       | none => rfl
       | some u =>
             rw [hh] at hv; have hv' : u = undef := by simpa using hv
             subst hv'; rfl
      simp [this]
    ·cases hg
   ·cases hg
  ·cases hg
theorem val_ok (hT : TyOk P ty) (h : St E nt M σ a w) {ops : Array Oper} {o : Oper} (hv : isV o.op = true) (hd : ∀ t, o.dst = some t → t < nt) {K : AS → Prop} (hw : awpV ty (guardOf σ.tm ops o.guard) σ o K) :
  ∃ σ' v, K σ' ∧ σ'.H = σ.H ∧ St E nt M σ' (a.put o.dst v) w ∧ (Region.wanted o (yielded ops a.tmps) = true → ∀ w', Same M σ.H w w' → (execOp a.eval o).run P w' = .ok (.value v) w') ∧ (Region.wanted o (yielded ops a.tmps) = false → v = undef) := by
 unfold awpV at hw
 split at hw
 ·exact hw.elim
 ·rename_i g hg
  obtain ⟨h1, h2, h3⟩ := hw
  have hwt := guard_ok h hg rfl
  rw [hwt]
  cases g with
  | true =>
   obtain ⟨v, v1, v2⟩ := opV_ok hT h hv rfl h1 (h2 rfl)
   exact ⟨_, v, h3, rfl, h.putV hd (fun _ => v1) (fun e => by cases e), fun _ => v2, (fun e => by cases e)⟩
  | false => exact ⟨_, undef, h3, rfl, h.putV hd (fun e => by cases e) (fun _ => rfl), (fun e => by cases e), fun _ => rfl⟩
theorem Same.refl : Same M H w w := fun _ _ => rfl
structure Stp (M : Mp) (σ : AS) (a : Act) (w : World) (M' : Mp) (σ' : AS) (a' : Act) (w' : World) (ds : Nat → Prop) : Prop where
 len : σ.H.length ≤ σ'.H.length
 kp : Kp M σ.H w M' σ'.H w'
 tm : ∀ t, ¬ ds t → a'.tmps.getD t undef = a.tmps.getD t undef
theorem put_tm (a : Act) (d : Option Nat) (v : Value) (t : Nat) (h : ¬ d = some t) : (a.put d v).tmps.getD t undef = a.tmps.getD t undef := by
 cases d with
 | none => rfl
 | some d =>
  have hne : ¬ d = t := fun e => h (by rw [e])
  simp only [Act.put, Array.getD_eq_getD_getElem?, Array.getElem?_setIfInBounds, if_neg hne]
theorem conRL_app : ∀ {l : List RV} {vs : List Value} {m : List RV} {us : List Value}, ConRL M H w l vs → ConRL M H w m us → ConRL M H w (l ++ m) (vs ++ us)
 | [], _, _, _, h, k => by cases h; exact k
 | x :: l, _, _, _, ⟨v, r, e, h1, h2⟩, k => by subst e; exact ⟨v, r ++ _, rfl, h1, conRL_app h2 k⟩
theorem conRL_map : ∀ {l : List AV} {vs : List Value}, ConL M H w l vs → ConRL M H w (l.map .c) vs
 | [], _, h => h
 | _ :: _, _, ⟨v, r, e, h1, h2⟩ => ⟨v, r, e, h1, conRL_map h2⟩
theorem rds_ok (h : St E nt M σ a w) : ∀ (l : List Operand), gOk true (rgs σ.rd l) → ConRL M σ.H w (rds σ.rd l) (l.map a.eval)
 | [], _ => rfl
 | x :: l, hg => ⟨_, _, rfl, h.rd (hg.1 rfl), rds_ok h l hg.2⟩
theorem run_lift {x : Sem Value} {v : Value} {w w' : World} (h : x.run P w = .ok v w') : ((do pure (Next.value (← x))) : Sem Next).run P w = .ok (.value v) w' := by
 rw [Sem.run_bind, h]; rfl
theorem run_liftU {x : Sem Unit} {w w' : World} (h : x.run P w = .ok () w') : ((do x; pure Next.skip) : Sem Next).run P w = .ok .skip w' := by
 rw [Sem.run_bind, h]; rfl
theorem oneL_box : ∀ {l : List AV} {vs : List Value}, njL l = true → ConL M H w l vs → ∀ v ∈ vs, v.oneCell' = true
 | [], _, _, h, v, hv => by cases h; cases hv
 | x :: l, _, hn, ⟨u, r, e, h1, h2⟩, v, hv => by
  subst e
  simp only [njL, Bool.and_eq_true] at hn
  rcases List.mem_cons.1 hv with rfl | hv
  ·exact (Con.one (σ := ⟨[], H⟩) hn.1 h1).1
  ·exact oneL_box hn.2 h2 v hv
theorem Enters.run {f : FuncId} (h : Enters P f) (args : Array Value) (w : World) : (callFunc f args).run P w = .ok (.enter f args) w := by
 obtain ⟨fn, c, h1, h2, h3⟩ := h
 have h4 : fn.name ≠ "runtime.NumGoroutine" := by simpa using h2
 simp [callFunc, h1, h4, h3]
theorem frz_njL : ∀ {l : List AV}, frzOk H l → ∀ {vs : List Value} {rho : Nat → Prop}, Con0L rho w (frzL H l) vs → ∀ v ∈ vs, v.oneCell' = true := by
 intro l hf vs rho hc v hv
 obtain ⟨j, hj, rfl⟩ := List.getElem_of_mem hv
 have hl := hc.len
 rw [frzL_len] at hl
 exact (hc.get j _ (List.getElem?_eq_getElem hj)).one (frzOk_nj hf j (by omega))
theorem frz_cells {x : RV} {v : Value} (hf : frzOk H (cellsR x)) (h0 : (cellsR x).length ≠ 0) (h : ConR M H w x v) : ConL M H w (cellsR x) v.cells.toList := by
 refine cellsR_ok (σ := ⟨[], H⟩) ?_ h0 h
 have : ∀ l : List AV, frzOk H l → njL l = true := by
  intro l
  induction l with
  | nil => intro _; rfl
  | cons b l ih =>
   intro hh
   cases b with
   | h => simp only [njL, AV.nj, Bool.true_and]; exact ih hh.2
   | ptr => exact hh.elim
   | junk => exact hh.elim
   | int => simp only [njL, AV.nj, Bool.true_and]; exact ih hh
   | bool => simp only [njL, AV.nj, Bool.true_and]; exact ih hh
   | flt => simp only [njL, AV.nj, Bool.true_and]; exact ih hh
   | str => simp only [njL, AV.nj, Bool.true_and]; exact ih hh
   | nilp => simp only [njL, AV.nj, Bool.true_and]; exact ih hh
   | nils => simp only [njL, AV.nj, Bool.true_and]; exact ih hh
   | sl => simp only [njL, AV.nj, Bool.true_and]; exact ih hh
   | rp => simp only [njL, AV.nj, Bool.true_and]; exact ih hh
 exact this _ hf
theorem eff_ok (hT : TyOk P ty) (h : St E nt M σ a w) {pu : Bool} {o : Oper} (hd : ∀ t, o.dst = some t → t < nt) (hgs : gOk true (opGs σ.rd o.op)) {K : AS → Prop} (he : eff P ty pu σ.tm σ.rd σ.H o K) {next : Act → World → Prop} {Q : Exit → Act → World → Prop}
  (hn : ∀ M' σ' a' w', St E nt M' σ' a' w' → (pu = true → Below w.heap.size w w') → Stp M σ a w M' σ' a' w' (fun t => o.dst = some t) → K σ' → next a' w') : o.wp P a w next Q := by
 obtain ⟨dst, op, type, pos, after, guard⟩ := o
 unfold eff at he
 simp only at he hd
 have hz : ∀ {t : TypeId}, 0 < (ty t).sz → (match (ty t).k with | .no => False | _ => True) → (sizeOf t).run P w = .ok (ty t).sz w := fun _ hk => info_sz hT hk w
 cases op <;> simp only at he <;> try exact he.elim
 case alloc t =>
  obtain ⟨⟨h0, hk⟩, he⟩ := he
  obtain ⟨i, z, hi, hzz, hs, -, hzs, hzl, hzc⟩ := zero_con (M := M) (σ := σ) (w := w) (P := P) hT (t := t) hk
  have hl : (ty t).zero.length = (ty t).sz := by have := zvL_len hzl; simp at this; omega
  obtain ⟨r1, r2⟩ := box_ok h.rel (vs := z.cells) t hzc (fun v hv => by
   obtain ⟨j, hj, rfl⟩ := List.getElem_of_mem hv
   exact zvB_one (zvL_get hzl j _ (List.getElem?_eq_getElem hj))) (by omega)
  rw [hl] at r1 r2
  unfold Oper.wp
  have hrun : (execOp a.eval ⟨dst, .alloc t, type, pos, after, guard⟩).run P w = .ok (.value (.pointer (some ⟨w.heap.size, 0, none⟩))) (w.alloc (.cells z.cells t)) := by
   refine run_lift (x := Instr.alloc t true (.tuple #[])) ?_
   simp [Instr.alloc, zeroValue, typeInfo, hi, hzz, newVar, newRow]
  rw [hrun]
  exact hn _ _ _ _ (h.put (r := .c (.ptr σ.H.length 1 0 0)) r1 r2 hd (con_new (w' := w))) (fun _ => (Below.refl _ _).alloc (Nat.le_refl _) _) ⟨by simp, r2, put_tm _ _ _⟩ he
 case box t x =>
  obtain ⟨⟨h1, h0, hnj⟩, he⟩ := he
  simp only [opGs, gOk] at hgs
  have hx := cellsR_ok hnj (by omega) (h.rd (hgs.1 trivial))
  obtain ⟨r1, r2⟩ := box_ok h.rel (vs := (a.eval x).cells) t hx (oneL_box hnj hx) (by omega)
  rw [h1] at r1 r2
  unfold Oper.wp
  have hrun : (execOp a.eval ⟨dst, .box t x, type, pos, after, guard⟩).run P w = .ok (.value (.pointer (some ⟨w.heap.size, 0, none⟩))) (w.alloc (.cells (a.eval x).cells t)) := by
   refine run_lift (x := Instr.box t (a.eval x)) ?_
   simp [Instr.box, newVar, newRow]
  rw [hrun]
  exact hn _ _ _ _ (h.put (r := .c (.ptr σ.H.length 1 0 0)) r1 r2 hd (con_new (w' := w))) (fun _ => (Below.refl _ _).alloc (Nat.le_refl _) _) ⟨by simp, r2, put_tm _ _ _⟩ he
 case buildSlice t n ps =>
  split at he
  ·rename_i e hk
   obtain ⟨h1, h2, h3, ⟨h4, h5⟩, he⟩ := he
   obtain ⟨hu, hke⟩ : P.underlying t = some (.slice e) ∧ _ := kOk_of hT hk
   obtain ⟨out, o1, o2, o3⟩ := buildSlice_ok hT h t e hk n ps hgs h1 h4 h5
   have hlen := o1.len
   obtain ⟨M', r1, r2, r3⟩ := lit_ok (k := (ty e).k) (n := n) (sz := (ty e).sz) h.rel e o1 h2 h3 h4 (by simp at hlen; omega) (by unfold maxLen; have := Nat.le_mul_of_pos_right n h4; omega)
   unfold Oper.wp
   rw [show (execOp a.eval ⟨dst, .buildSlice t n ps, type, pos, after, guard⟩).run P w = _ from run_lift (o3 w)]
   exact hn _ _ _ _ (h.put (r := .c (.h σ.H.length 0 n)) r1 r2 hd r3) (fun _ => (Below.refl _ _).alloc (Nat.le_refl _) _) ⟨by simp [frzH_len], r2, put_tm _ _ _⟩ he
  ·exact he.elim
 case store t p v =>
  obtain ⟨hpu, he⟩ := he
  simp only [opGs, gOk] at hgs
  have hp := h.rd (hgs.1 trivial)
  have hv := h.rd (hgs.2.1 trivial)
  unfold storeV at he
  split at he
  ·rename_i id n i o hpe
   rw [hpe] at hp
   split at he
   ·rename_i fz t2 sz r hr
    obtain ⟨rfl, ⟨h1, h2, h3, h4, h5, hk⟩, he⟩ := he
    have hpv := (hp.2 _ _ _ _ hr).2 h2
    have hlen : ∀ {l : List AV}, ConL M σ.H w l (a.eval v).cells.toList → (a.eval v).cells.size = l.length := fun hc => by have := hc.len; simpa using this
    have hsto : ∀ w', (storeCells ⟨M.phi id, i * sz + o, none⟩ (a.eval v).cells.toList 0).run P w = .ok () w' → (a.eval v).cells.size = (ty t).sz → (execOp a.eval ⟨dst, .store t p v, type, pos, after, guard⟩).run P w = .ok .skip w' := fun w' h1 h2 => by
     refine run_liftU (x := Instr.storeAt t (a.eval p) (a.eval v)) ?_
     have hzt := hz (t := t) (by omega) hk
     rw [hpv]
     simp [Instr.storeAt, Instr.sureAddr, storeVar, hzt, h2, h1]
    split at he
    ·rename_i hb
     obtain ⟨hnj, he⟩ := he
     have hc := cellsR_ok hnj (by omega) hv
     have hput : (r.put sz i o (cellsR (σ.rd v).2)).1 := by
      cases r with
      | box => trivial
      | _ => cases hb
     obtain ⟨w', r1, r2, r3⟩ := store_ok (P := P) h.rel hr (i := i) (o := o) (by omega) (by omega) (oneL_box hnj hc) hc.len (fun j u hj => by unfold RCon; rw [if_pos hb]; exact hc.get j u hj) hput
     unfold Oper.wp
     rw [hsto w' r3 (by rw [hlen hc]; exact h1)]
     exact hn _ _ _ _ (h.put (r := .c .junk) r1 r2 hd trivial) (fun e => by rw [hpu] at e; cases e) ⟨by simp [setRoot_len], r2, put_tm _ _ _⟩ he
    ·rename_i hb
     obtain ⟨hf, hr2, hput, he⟩ := he
     obtain ⟨M1, e1, e2, q1, q2, q3⟩ := frz_ok _ h.rel hf
     have hc := frz_cells hf (by omega) hv
     have hc0 := q3 _ hc
     obtain ⟨w', r1, r2, r3⟩ := store_ok (P := P) q1 hr2 (i := i) (o := o) (cs := frzL σ.H (cellsR (σ.rd v).2)) (vs := (a.eval v).cells.toList) (by omega) (by rw [frzL_len]; omega) (frz_njL hf hc0) hc0.len (fun j u hj => by unfold RCon; rw [if_neg hb]; exact hc0.get j u hj) hput
     unfold Oper.wp
     rw [e1] at r3
     rw [hsto w' r3 (by rw [hlen hc]; exact h1)]
     exact hn _ _ _ _ (h.put (r := .c .junk) r1 (q2.trans r2) hd trivial) (fun e => by rw [hpu] at e; cases e) ⟨by simp [setRoot_len, frzH_len], q2.trans r2, put_tm _ _ _⟩ he
   ·exact he.elim
  ·exact he.elim
 case makeSlice t x y =>
  simp only [opGs, gOk] at hgs
  have hx := h.rd (hgs.1 trivial)
  have hy := h.rd (hgs.2.1 trivial)
  unfold makeV at he
  split at he
  ·rename_i e hk
   split at he
   ·rename_i k1 n k2 c hx1 hy1
    rw [hx1] at hx
    rw [hy1] at hy
    obtain ⟨⟨h1, h2, rfl, h3, h4, h5⟩, he⟩ := he
    obtain ⟨M', w', v, r0, rb, r1, r2, r3⟩ := make_ok hT h.rel t e hk k1 k2 c h1 h2 h3 h4 h5
    unfold Oper.wp
    have hrun : (execOp a.eval ⟨dst, .makeSlice t x y, type, pos, after, guard⟩).run P w = .ok (.value v) w' := by
     refine run_lift (x := Instr.makeSlice t (a.eval x) (a.eval y)) ?_
     rw [show a.eval x = .int k1 c from hx, show a.eval y = .int k2 c from hy]
     exact r0
    rw [hrun]
    exact hn _ _ _ _ (h.put (r := .c (.h σ.H.length 0 c.toNat)) r1 r2 hd r3) (fun _ => rb) ⟨by simp, r2, put_tm _ _ _⟩ he
   ·exact he.elim
  ·exact he.elim
 case call c =>
  obtain ⟨callee, args, ats⟩ := c
  simp only at he
  cases callee with
  | invoke r m => exact he.elim
  | value f =>
   simp only [opGs, gOk] at hgs
   simp only at he
   split at he
   ·rename_i f' caps hf
    have hfv := h.rd (hgs.1 trivial)
    rw [hf] at hfv
    obtain ⟨cs, hfe, hcs⟩ := hfv
    obtain ⟨henter, hcall⟩ := he
    have hargs := rds_ok h args.toList hgs.2
    have hc := hcall E M w _ h.rel (conRL_app hargs (conRL_map hcs))
    unfold Oper.wp
    have hrun : (execOp a.eval ⟨dst, .call ⟨.value f, args, ats⟩, type, pos, after, guard⟩).run P w = .ok (.enter f' (args.toList.map a.eval ++ cs).toArray) w := by
     have e1 : args.map a.eval ++ cs.toArray = (args.toList.map a.eval ++ cs).toArray := by
      apply Array.toList_inj.1; simp
     simp [execOp, resolve, hfe, Deferred.ofValue, invoke, henter.run, ← e1]
    rw [hrun, Oper.upon_enter]
    refine hc.mono ?_
    rintro e w' ⟨M', H', r, v, rfl, q1, q2, q3, q4, q5, q6⟩
    exact hn _ _ _ _ (h.put q1 q2 hd q3) q4 ⟨q5, q2, put_tm _ _ _⟩ q6
   ·exact he.elim
  | builtin b =>
   cases b <;> simp only at he <;> try exact he.elim
   case append =>
    split at he
    ·rename_i s x hsx
     obtain ⟨hpu, hats, he⟩ := he
     obtain ⟨args⟩ := args
     simp only at hsx
     subst hsx
     obtain ⟨ats⟩ := ats
     simp only [opGs, rgs, gOk] at hgs
     have hs := h.rd (hgs.1 trivial)
     have hx := h.rd (hgs.2.1 trivial)
     obtain ⟨t, rfl⟩ : ∃ t, ats = [t, t] := ⟨_, hats⟩
     have htt : (List.toArray [t, t]).getD 0 0 = t := rfl
     rw [htt] at he
     unfold appV at he
     split at he
     ·rename_i e hk
      obtain ⟨s1, s2, s3, s4, he⟩ := he
      obtain ⟨ad, c, news, hsrc⟩ := src_ok h.rel hx s1
      rw [s2] at hsrc
      have hbx : (appSrc σ.H (σ.rd x).2).2.1.isBox = false := by
       unfold appSrc at s1 ⊢
       split at s1
       ·split at s1
        ·exact (drop_get s1.2 _).1
        ·exact s1.elim
       ·exact s1.elim
      have hex : ∀ {v : Value} {w' : World}, (Builtin.append_ #[t, t] type #[a.eval s, a.eval x]).run P w = .ok v w' → (execOp a.eval ⟨dst, .call ⟨.builtin .append, [s, x].toArray, [t, t].toArray⟩, type, pos, after, guard⟩).run P w = .ok (.value v) w' := fun {v w'} h1 => by
       have := run_lift (x := Builtin.append_ #[t, t] type #[a.eval s, a.eval x]) h1
       simpa [execOp, resolve, invoke, builtin] using this
      split at he
      ·rename_i hs1
       rw [hs1] at hs
       have hsv : a.eval s = .slice none 0 0 := hs
       obtain ⟨h1, he⟩ := he
       obtain ⟨M', w', v', r0, r1, r2, r3⟩ := appNil_ok hT h.rel t e type hk s3 s4 hsrc hbx h1
       unfold Oper.wp
       rw [hex (by rw [hsv]; exact r0)]
       exact hn _ _ _ _ (h.put (r := .c (.h _ 0 _)) r1 r2 hd r3) (fun e => by rw [hpu] at e; cases e) ⟨by simp, r2, put_tm _ _ _⟩ he
      ·rename_i id st len hs1
       rw [hs1] at hs
       split at he
       ·rename_i fz t2 sz r hr
        obtain ⟨⟨rfl, rfl, h1, rfl, rfl, h2⟩, happ, he⟩ := he
        obtain ⟨M', w', v', r0, r1, r2, r3⟩ := appOwn_ok hT h.rel t t2 type hk s3 s4 hsrc hr h1 hs h2 happ
        unfold Oper.wp
        rw [hex r0]
        exact hn _ _ _ _ (h.put (r := .c (.h _ 0 _)) r1 r2 hd r3) (fun e => by rw [hpu] at e; cases e) ⟨by simp [setRoot_len], r2, put_tm _ _ _⟩ he
       ·exact he.elim
      ·exact he.elim
     ·exact he.elim
    ·exact he.elim
end
end Go.Proofs.Ytahffcepagopmaa.Ab
namespace Go.Proofs.Ytahffcepagopmaa.Ab
open Go.RowKit
section
variable {P : Program} {ty : Ty} {E : Env} {nt : Nat} {M M' : Mp} {σ σ' : AS} {a a' : Act} {w w' : World}
theorem Stp.refl (M : Mp) (σ : AS) (a : Act) (w : World) (ds : Nat → Prop) : Stp M σ a w M σ a w ds := ⟨Nat.le_refl _, Kp.refl _ _ _, fun _ _ => rfl⟩
theorem Stp.trans {ds ds1 ds2 : Nat → Prop} {M2 : Mp} {σ2 : AS} {a2 : Act} {w2 : World} (h : Stp M σ a w M' σ' a' w' ds1) (k : Stp M' σ' a' w' M2 σ2 a2 w2 ds2) (h1 : ∀ t, ds1 t → ds t) (h2 : ∀ t, ds2 t → ds t) : Stp M σ a w M2 σ2 a2 w2 ds :=
 ⟨Nat.le_trans h.len k.len, h.kp.trans k.kp, fun t ht => (k.tm t (fun h => ht (h2 t h))).trans (h.tm t (fun h => ht (h1 t h)))⟩
theorem Stp.mono {ds ds1 : Nat → Prop} (h : Stp M σ a w M' σ' a' w' ds1) (h1 : ∀ t, ds1 t → ds t) : Stp M σ a w M' σ' a' w' ds := ⟨h.len, h.kp, fun t ht => h.tm t fun h => ht (h1 t h)⟩
def dstL (l : List Oper) (t : Nat) : Prop := ∃ o ∈ l, o.dst = some t
theorem val_stp {o : Oper} {v : Value} (h : σ'.H = σ.H) : Stp M σ a w M σ' (a.put o.dst v) w (fun t => o.dst = some t) :=
 ⟨by rw [h]; exact Nat.le_refl _, by rw [h]; exact Kp.refl _ _ _, put_tm _ _ _⟩
def After (E : Env) (nt : Nat) (M : Mp) (σ : AS) (a : Act) (w : World) (ds : Nat → Prop) (K : AS → Prop) (a' : Act) (w' : World) : Prop := ∃ M' σ', St E nt M' σ' a' w' ∧ Stp M σ a w M' σ' a' w' ds ∧ K σ'
theorem After.step {ds ds1 : Nat → Prop} {K : AS → Prop} {a2 : Act} {w2 : World} (h : Stp M σ a w M' σ' a' w' ds1) (k : After E nt M' σ' a' w' ds K a2 w2) (h1 : ∀ t, ds1 t → ds t) : After E nt M σ a w ds K a2 w2 := by
 obtain ⟨M2, σ2, q1, q2, q3⟩ := k
 exact ⟨M2, σ2, q1, h.trans q2 h1 (fun _ h => h), q3⟩
theorem op_ok (hT : TyOk P ty) (h : St E nt M σ a w) {pu : Bool} {ops : Array Oper} {o : Oper} (hd : ∀ t, o.dst = some t → t < nt) {K : AS → Prop} (hw : awpO P ty pu ops σ o K) {next : Act → World → Prop} {Q : Exit → Act → World → Prop}
  (hn : ∀ M' σ' a' w', St E nt M' σ' a' w' → (pu = true → Below w.heap.size w w') → Stp M σ a w M' σ' a' w' (fun t => o.dst = some t) → K σ' → next a' w') : if Region.wanted o (yielded ops a.tmps) then o.wp P a w next Q else next (a.put o.dst undef) w := by
 unfold awpO at hw
 split at hw
 ·rename_i hv
  obtain ⟨σ', v, k1, k2, k3, k4, k5⟩ := val_ok hT h hv hd hw
  have hnx := hn M σ' (a.put o.dst v) w k3 (fun _ => Below.refl _ _) (val_stp k2) k1
  cases hwt : Region.wanted o (yielded ops a.tmps) with
  | true =>
   rw [if_pos rfl]
   unfold Oper.wp
   rw [k4 hwt w Same.refl]
   exact hnx
  | false =>
   rw [if_neg (by simp)]
   rw [k5 hwt] at hnx
   exact hnx
 ·unfold awpE at hw
  split at hw
  ·exact hw.elim
  ·rename_i g hg
   obtain ⟨h2, h3, h4⟩ := hw
   rw [guard_ok h hg rfl]
   cases g with
   | true => exact eff_ok hT h hd h2 (h3 rfl) hn
   | false => exact hn M _ (a.put o.dst undef) w (h.putV hd (fun e => by cases e) (fun _ => rfl)) (fun _ => Below.refl _ _) (val_stp rfl) (h4 rfl)
theorem awpL_ok (hT : TyOk P ty) {nf : Nat} {ops : Array Oper} {K : AS → Prop} {Q : Exit → Act → World → Prop} : ∀ (l : List Oper) {M : Mp} {σ : AS} {a : Act} {w : World}, St E nt M σ a w → (∀ o ∈ l, ∀ t, o.dst = some t → t < nt) → awpL P ty nf ops l K σ →
  (∀ a' w', After E nt M σ a w (dstL l) K a' w' → Q .normal a' w') → wpList P ops Q l a w
 | [], M, σ, a, w, h, _, hw, hQ => hQ a w ⟨M, σ, h, Stp.refl _ _ _ _ _, hw⟩
 | o :: l, M, σ, a, w, h, hd, hw, hQ => by
  have := op_ok (Q := Q) (next := wpList P ops Q l) hT h (hd o (List.mem_cons_self ..)) hw fun M' σ' a' w' q1 _ q3 q4 =>
   awpL_ok hT l q1 (fun o ho => hd o (List.mem_cons_of_mem _ ho)) q4 fun a2 w2 hA => hQ a2 w2 (by
    obtain ⟨M2, σ2, r1, r2, r3⟩ := hA
    exact ⟨M2, σ2, r1, q3.trans r2 (fun t ht => ⟨o, List.mem_cons_self .., ht⟩) (fun t ⟨o2, ho, ht⟩ => ⟨o2, List.mem_cons_of_mem _ ho, ht⟩), r3⟩)
  unfold wpList
  split
  ·rename_i hwt; rw [if_pos hwt] at this; exact .inl this
  ·rename_i hwt; rw [if_neg hwt] at this; exact this
end
section draw
variable {P : Program} {ops : Array Oper} {Q : Exit → Act → World → Prop} {md : Region.Mode}
def wpMixO (P : Program) (ops : Array Oper) (Q : Exit → Act → World → Prop) : List (List Oper × Oper × Bool) → Act → World → Prop
 | [], a, w => Q .normal a w
 | (lq, o, f) :: rest, a, w => wpQuiet P ops (fun w' => ∃ e : At (Old w), w' = e.val) (fun a' => wpList P ops (Exit.then (fun a'' w'' => (f = true ∨ Old w w'') ∧ wpMixO P ops Q rest a'' w'') Q) [o] a' w) lq a
theorem wpAnyF_mono {S S' : World → Prop} {fins : List Nat} (hS : ∀ w, S w → S' w) : ∀ (fuel : Nat) (listed : Array Bool) (a : Act) (w : World), wpAnyF P md ops Q S fins fuel listed a w → wpAnyF P md ops Q S' fins fuel listed a w
 | 0, _, _, _, h => h
 | fuel + 1, _, _, _, h => ⟨h.1, fun i hi => wpOp_mono (fun a' w' h' => ⟨h'.1.imp id (hS _), wpAnyF_mono hS fuel _ a' w' h'.2⟩) (h.2 i hi)⟩
theorem one_run {S : World → Prop} {fins : List Nat} {i : Nat} (hi : i < ops.size) {fuel : Nat} {listed : Array Bool} (hr : Region.ready md ops listed = [i]) {K : Act → World → Prop} {a : Act} {w : World} (hl : wpList P ops (Exit.then K Q) [ops.getD i default] a w)
  (hK : ∀ a'' w'', K a'' w'' → (i ∈ fins ∨ S w'') ∧ wpAnyF P md ops Q S fins fuel (listed.setIfInBounds i true) a'' w'') : wpAnyF P md ops Q S fins (fuel + 1) listed a w := by
 have ho : ops[i]? = some (ops.getD i default) := by simp [Array.getD, hi]
 refine ⟨fun h0 => (by rw [hr] at h0; cases h0), fun j hj => ?_⟩
 rw [hr, List.mem_singleton] at hj
 subst hj
 exact wpOp_mono (fun a'' w'' hk => hK a'' w'' hk) (wpOp_of_list ho hl)
theorem fin_run {S : World → Prop} {fins : List Nat} : ∀ (l : List (List Nat × Nat × Bool)) (listed : Array Bool) (a : Act) (w : World), l.all (fun x => x.2.2 && x.1.isEmpty) = true → mixB md ops fins l listed = true →
  wpMixO P ops Q (mixOf ops l) a w → wpAnyF P md ops Q S fins (mixFuel l) listed a w
 | [], listed, a, w, _, hB, h => ⟨by simpa [mixB] using hB, h⟩
 | (lq, i, f) :: rest, listed, a, w, ha, hB, h => by
  simp only [List.all_cons, Bool.and_eq_true, List.isEmpty_iff] at ha
  obtain ⟨⟨rfl, rfl⟩, ha⟩ := ha
  simp only [mixB, quietB] at hB
  simp only [Bool.and_eq_true, decide_eq_true_eq, beq_iff_eq] at hB
  obtain ⟨⟨⟨⟨h1, h2⟩, h3⟩, h4⟩, h5⟩ := hB
  simp only [mixOf, List.map_cons, List.map_nil, wpMixO, wpQuiet] at h
  have hif : i ∈ fins := by simpa using h2.symm
  rw [show mixFuel (([], i, true) :: rest) = mixFuel rest + 1 by simp [mixFuel]; omega]
  exact one_run h4 h1 h fun a'' w'' hk => ⟨.inl hif, fin_run rest _ a'' w'' ha h5 hk.2⟩
theorem mix_runO {fins : List Nat} (hs : Region.noSelect ops = true) (hQ : ∀ c a d v w, Q (.panic c) (Act.put a d v) w → Q (.panic c) a w) :
  ∀ (l : List (List Nat × Nat × Bool)) (listed : Array Bool) (a : Act) (w : World), Closed md ops listed → mixB md ops fins l listed = true → wpMixO P ops Q (mixOf ops l) a w → wpAnyF P md ops Q (Old w) fins (mixFuel l) listed a w
 | [], listed, a, w, _, hB, h => ⟨by simpa [mixB] using hB, h⟩
 | (lq, i, f) :: rest, listed, a, w, hcl, hB, h => by
  cases f with
  | true =>
   have hB2 := hB
   simp only [mixB] at hB2
   split at hB2
   ·cases hB2
   ·simp only [Bool.not_true, Bool.false_or, Bool.and_eq_true] at hB2
    exact fin_run _ _ _ _ (by simp only [List.all_cons, Bool.and_eq_true]; exact ⟨⟨trivial, hB2.1.1.2.1⟩, hB2.1.1.2.2⟩) hB h
  | false =>
   simp only [mixB] at hB
   split at hB
   case h_1 => cases hB
   rename_i listed' hq
   simp only [Bool.and_eq_true, decide_eq_true_eq, beq_iff_eq] at hB
   obtain ⟨⟨⟨⟨h1, h2⟩, h3⟩, h4⟩, h5⟩ := hB
   rw [show mixFuel ((lq, i, false) :: rest) = lq.length + (mixFuel rest + 1) by simp only [mixFuel]; omega]
   simp only [mixOf, List.map_cons, wpMixO] at h
   exact quiet_run hs hQ (Below.refl _ _) lq listed listed' a hcl hq h fun a' hcl' hl => one_run h4 h1 hl fun a'' w'' ⟨ho, hm⟩ =>
    have ho : Old w w'' := ho.resolve_left (by simp)
    ⟨.inr ho, wpAnyF_mono (fun w3 h3 => Old.step ho h3) _ _ _ _ (mix_runO hs hQ rest _ a'' w'' (hcl'.set (by rw [h1]; exact List.mem_singleton.2 rfl)) h5 hm)⟩
end draw
section
variable {P : Program} {ty : Ty} {E : Env} {nt : Nat} {M M' : Mp} {σ σ' : AS} {a a' : Act} {w w' : World}
theorem Same.old (h : Rel E M σ.H w) (ho : Old w w') : Same M σ.H w w' := by
 rintro b (hb | ⟨id, fz, t, sz, r, hr, rfl⟩)
 ·exact ho.block b (h.rlt b hb)
 ·exact ho.block _ (h.lt hr)
theorem pick_len (ops : Array Oper) : ∀ l : List Nat, (pick ops l).length = l.length
 | [] => rfl
 | _ :: l => by simp [pick, pick_len ops l]
theorem mixO_of (hT : TyOk P ty) {nf : Nat} {ops : Array Oper} {K : AS → Prop} {Q : Exit → Act → World → Prop} : ∀ (l : List Nat) {M : Mp} {σ : AS} {a : Act} {w : World}, St E nt M σ a w → (∀ o ∈ pick ops l, ∀ t, o.dst = some t → t < nt) → awpL P ty nf ops (pick ops l) K σ →
  (∀ a' w', After E nt M σ a w (dstL (pick ops l)) K a' w' → Q .normal a' w') → wpMixO P ops Q (mixOf ops (planO ops nf l)) a w
 | [], M, σ, a, w, h, _, hw, hQ => hQ a w ⟨M, σ, h, Stp.refl _ _ _ _ _, hw⟩
 | i :: l, M, σ, a, w, h, hd, hw, hQ => by
  have hd0 := hd _ (List.mem_cons_self ..)
  have hdl : ∀ o ∈ pick ops l, ∀ t, o.dst = some t → t < nt := fun o ho => hd o (List.mem_cons_of_mem _ ho)
  have cont : ∀ {M' σ' a' w'}, Stp M σ a w M' σ' a' w' (fun t => (ops.getD i default).dst = some t) → ∀ a2 w2, After E nt M' σ' a' w' (dstL (pick ops l)) K a2 w2 → Q .normal a2 w2 := fun q3 a2 w2 ⟨M2, σ2, r1, r2, r3⟩ =>
   hQ a2 w2 ⟨M2, σ2, r1, q3.trans r2 (fun t ht => ⟨_, List.mem_cons_self .., ht⟩) (fun t ⟨o2, ho, ht⟩ => ⟨o2, List.mem_cons_of_mem _ ho, ht⟩), r3⟩
  simp only [planO]
  split
  ·rename_i q j r hc hp
   simp only [Bool.and_eq_true] at hc
   obtain ⟨hv, -⟩ := hc
   have hw' : awpV ty (guardOf σ.tm ops (ops.getD i default).guard) σ (ops.getD i default) (awpL P ty nf ops (pick ops l) K) := by
    have : awpO P ty _ ops σ (ops.getD i default) _ := hw
    unfold awpO at this
    rw [if_pos hv] at this
    exact this
   obtain ⟨σ', v, k1, k2, k3, k4, k5⟩ := val_ok hT h hv hd0 hw'
   have ih := mixO_of hT l k3 hdl k1 (cont (val_stp k2))
   rw [hp] at ih
   simp only [mixOf, List.map_cons, wpMixO] at ih ⊢
   unfold wpQuiet
   split
   ·rename_i hwt
    refine ⟨v, ?_, ih⟩
    rintro w1 ⟨e, rfl⟩
    unfold Oper.quietAt
    rw [k4 hwt e.val (Same.old h.rel e.ok)]
    exact ⟨rfl, rfl⟩
   ·rename_i hwt
    rw [k5 (by simpa using hwt)] at ih
    exact ih
  ·have hw' : awpO P ty (decide (nf ≤ l.length)) ops σ (ops.getD i default) (awpL P ty nf ops (pick ops l) K) := by
    have : awpO P ty (decide (nf ≤ (pick ops l).length)) ops σ (ops.getD i default) (awpL P ty nf ops (pick ops l) K) := hw
    rwa [pick_len] at this
   have := op_ok (Q := Exit.then (fun a'' w'' => (decide (l.length < nf) = true ∨ Old w w'') ∧ wpMixO P ops Q (mixOf ops (planO ops nf l)) a'' w'') Q)
    (next := wpList P ops (Exit.then (fun a'' w'' => (decide (l.length < nf) = true ∨ Old w w'') ∧ wpMixO P ops Q (mixOf ops (planO ops nf l)) a'' w'') Q) []) hT h hd0 hw' fun M' σ' a' w' q1 q2 q3 q4 =>
     ⟨by
      by_cases hf : l.length < nf
      ·exact .inl (decide_eq_true hf)
      ·exact .inr (q2 (decide_eq_true (by omega))), mixO_of hT l q1 hdl q4 (cont q3)⟩
   simp only [mixOf, List.map_cons, List.map_nil, wpMixO, wpQuiet]
   unfold wpList
   split
   ·rename_i hwt; rw [if_pos hwt] at this; exact .inl this
   ·rename_i hwt; rw [if_neg hwt] at this; exact this
def ordL (ops : Array Oper) (q : List Nat × Nat) : List Nat := if q.1.isEmpty then List.range ops.size else q.1
def drawOk (ops : Array Oper) (q : List Nat × Nat) : Bool :=
 Region.noSelect ops && mixB .any ops ((ordL ops q).drop ((ordL ops q).length - q.2)) (planO ops q.2 (ordL ops q)) (Array.replicate ops.size false) && decide (mixFuel (planO ops q.2 (ordL ops q)) = ops.size) && (ordL ops q).all (fun i => decide (i < ops.size))
def dstOk (nt : Nat) (ops : Array Oper) : Bool := ops.toList.all fun o => match o.dst with
 | some t => decide (t < nt)
 | none => true
theorem dstOk_spec {ops : Array Oper} (h : dstOk nt ops = true) : ∀ o ∈ ops.toList, ∀ t, o.dst = some t → t < nt := by
 intro o ho t ht
 have := List.all_eq_true.1 h o ho
 rw [ht] at this
 simpa using this
theorem pick_mem {ops : Array Oper} : ∀ {l : List Nat}, (∀ i ∈ l, i < ops.size) → ∀ o ∈ pick ops l, o ∈ ops.toList
 | [], _, o, h => by cases h
 | i :: l, hl, o, h => by
  rcases List.mem_cons.1 h with rfl | h
  ·have hi := hl i (List.mem_cons_self ..)
   simp [Array.getD, hi]
  ·exact pick_mem (fun j hj => hl j (List.mem_cons_of_mem _ hj)) o h
theorem pick_range (ops : Array Oper) : pick ops (List.range ops.size) = ops.toList := by
 have : ∀ l : List Nat, pick ops l = l.map fun i => ops.getD i default := by
  intro l
  induction l with
  | nil => rfl
  | cons i l ih => simp [pick, ih]
 rw [this]
 apply List.ext_getElem
 ·simp
 ·intro i h1 h2
  simp at h1 h2 ⊢
  simp [Array.getD, h1]
theorem region_ok (hT : TyOk P ty) (hm : P.follows .mixedOrders = true) {id : Nat} {ops : Array Oper} {q : List Nat × Nat} (hB : drawOk ops q = true) (hd : dstOk nt ops = true) {K : AS → Prop} (h : St E nt M σ a w) (hw : awpR P ty ops q K σ) {Q : Exit → Act → World → Prop}
  (hQ : ∀ a' w', After E nt M σ a w (dstL ops.toList) K a' w' → Q .normal a' w') (hQp : ∀ c a w, ¬ Q (.panic c) a w) : (Code.region id ops true).wp P Q a w := by
 unfold drawOk at hB
 simp only [Bool.and_eq_true, decide_eq_true_eq, List.all_eq_true] at hB
 obtain ⟨⟨⟨b1, b2⟩, b3⟩, b4⟩ := hB
 have hw2 : awpL P ty q.2 ops (pick ops (ordL ops q)) K σ := by
  obtain ⟨l, nf⟩ := q
  cases l with
  | nil =>
   show awpL P ty nf ops (pick ops (List.range ops.size)) K σ
   rw [pick_range]; exact hw
  | cons i l => exact hw
 have hb : Below w.heap.size w w.drew := (Below.refl _ _).drew
 have h2 : St E nt M σ a w.drew := ⟨h.rel.below hb, fun t ht => (Kp.below h.rel hb).R (h.tms t ht), h.off, h.sz, h.df⟩
 have hmem : ∀ o ∈ pick ops (ordL ops q), o ∈ ops.toList := pick_mem b4
 have hmix := mixO_of (Q := Q) hT (ordL ops q) h2 (fun o ho => dstOk_spec hd o (hmem o ho)) hw2 fun a' w' ⟨M2, σ2, r1, r2, r3⟩ => hQ a' w' ⟨M2, σ2, r1, ⟨r2.len, (Kp.below h.rel hb).trans r2.kp, fun t ht => r2.tm t fun ⟨o, ho, e⟩ => ht ⟨o, hmem o ho, e⟩⟩, r3⟩
 refine wp_region_any hm (wpAny_of_F (S := Old w.drew) (fins := (ordL ops q).drop ((ordL ops q).length - q.2)) _ _ _ _ ?_)
 rw [← b3]
 exact mix_runO b1 (fun c a d v w hh => (hQp _ _ _ hh).elim) _ _ a _ (fun j oj _ hl => by rw [getD_replicate_false] at hl; cases hl) (by rw [b3]; exact b2) hmix
end
end Go.Proofs.Ytahffcepagopmaa.Ab
namespace Go.Proofs.Ytahffcepagopmaa.Ab
open Go.RowKit
theorem renT_lk (n : Nat) (ids : List Nat) : ∀ (tm : Tm) (t : Nat), lk (renT n ids tm) t = ((lk tm t).1, renR n ids (lk tm t).2)
 | [], _ => rfl
 | (k, g, v) :: l, t => by
  simp only [renT, lk]
  split
  ·rfl
  ·exact renT_lk n ids l t
theorem renT_gets (n : Nat) (ids : List Nat) (tm : Tm) : ∀ vy : List Nat, gets (renT n ids tm) vy = renG n ids (gets tm vy)
 | [] => rfl
 | t :: l => by simp only [gets, renG, renT_lk, renT_gets n ids tm l]
theorem renRs_len (n : Nat) (ids : List Nat) : ∀ l : List Root, (renRs n ids l).length = l.length
 | [] => rfl
 | _ :: l => by simp [renRs, renRs_len n ids l]
theorem pickR_len (n : Nat) (ids : List Nat) (H : List Root) : ∀ l : List Nat, (pickR n ids H l).length = l.length
 | [] => rfl
 | _ :: l => by simp [pickR, pickR_len n ids H l]
theorem renRs_at (n : Nat) (ids : List Nat) : ∀ (l : List Root) (j : Nat), rootAt (renRs n ids l) j = renRoot n ids (rootAt l j)
 | [], _ => rfl
 | _ :: _, 0 => rfl
 | _ :: l, j + 1 => by simp only [renRs, rootAt]; exact renRs_at n ids l j
theorem rootAt_append : ∀ (l m : List Root) (j : Nat), rootAt (l ++ m) j = if j < l.length then rootAt l j else rootAt m (j - l.length)
 | [], m, j => by simp
 | a :: l, m, 0 => by simp [rootAt]
 | a :: l, m, j + 1 => by
  simp only [List.cons_append, rootAt, List.length_cons, rootAt_append l m j, Nat.add_lt_add_iff_right]
  congr 2
  omega
theorem pickR_at (n : Nat) (ids : List Nat) (H : List Root) : ∀ (l : List Nat) (j : Nat), rootAt (pickR n ids H l) j = match l[j]? with
  | some i => renRoot n ids (rootAt H i)
  | none => .dead
 | [], j => by simp [pickR, rootAt]
 | _ :: _, 0 => by simp [pickR, rootAt]
 | _ :: l, j + 1 => by simp only [pickR, rootAt, List.getElem?_cons_succ]; exact pickR_at n ids H l j
def src (n : Nat) (ids : List Nat) (j : Nat) : Option Nat := if j < n then some j else ids[j - n]?
theorem renH_at {n : Nat} {ids : List Nat} {H : List Root} (hn : n ≤ H.length) (j : Nat) : rootAt (renH n ids H) j = match src n ids j with
  | some i => renRoot n ids (rootAt H i)
  | none => .dead := by
 have hl : (H.take n).length = n := by simp; omega
 unfold renH src
 rw [rootAt_append, renRs_len, hl, renRs_at, rootAt_take, pickR_at]
 by_cases h : j < n
 ·simp [h]
 ·simp [h]
theorem renH_len {n : Nat} {ids : List Nat} {H : List Root} (hn : n ≤ H.length) : (renH n ids H).length = n + ids.length := by
 unfold renH
 rw [List.length_append, renRs_len, pickR_len, List.length_take]
 omega
theorem pos_spec : ∀ (l : List Nat) (id k j : Nat), pos l id k = some j → k ≤ j ∧ l[j - k]? = some id
 | [], _, _, _, h => by cases h
 | a :: l, id, k, j, h => by
  simp only [pos] at h
  split at h
  ·rename_i e
   cases h
   exact ⟨Nat.le_refl _, by simp [e]⟩
  ·obtain ⟨h1, h2⟩ := pos_spec l id (k + 1) j h
   refine ⟨by omega, ?_⟩
   rw [show j - k = (j - (k + 1)) + 1 by omega, List.getElem?_cons_succ]
   exact h2
theorem renI_spec {n : Nat} {ids : List Nat} {id j : Nat} (h : renI n ids id = some j) : src n ids j = some id := by
 unfold renI at h
 unfold src
 split at h
 ·cases h; rename_i h; rw [if_pos h]
 ·obtain ⟨h1, h2⟩ := pos_spec _ _ _ _ h
  rw [if_neg (by omega), h2]
theorem src_lt {n : Nat} {ids : List Nat} {j i : Nat} (h : src n ids j = some i) : j < n + ids.length := by
 unfold src at h
 split at h
 ·omega
 ·have := (List.getElem?_eq_some_iff.1 h).1; omega
theorem renRow_len (n : Nat) (ids : List Nat) (r : Row) : (renRow n ids r).len = r.len := by cases r <;> rfl
theorem renRow_box (n : Nat) (ids : List Nat) (r : Row) : (renRow n ids r).isBox = r.isBox := by cases r <;> rfl
theorem nth_ren (n : Nat) (ids : List Nat) : ∀ (l : List AV) (o : Nat), nth (renL n ids l) o = renA n ids (nth l o)
 | [], _ => rfl
 | _ :: _, 0 => rfl
 | _ :: l, o + 1 => by simp only [renL, nth]; exact nth_ren n ids l o
theorem okI_mem {n : Nat} : ∀ {l : List Nat}, okI n l = true → (∀ i ∈ l, n ≤ i) ∧ ∀ (j k i : Nat), l[j]? = some i → l[k]? = some i → j = k
 | [], _ => ⟨fun _ h => (by cases h), fun j k i h => by simp at h⟩
 | a :: l, h => by
  simp only [okI, Bool.and_eq_true, decide_eq_true_eq, Bool.not_eq_true', List.contains_eq_mem, decide_eq_false_iff_not] at h
  obtain ⟨⟨h1, h2⟩, h3⟩ := h
  obtain ⟨k1, k2⟩ := okI_mem h3
  refine ⟨fun i hi => ?_, fun j k i hj hk => ?_⟩
  ·rcases List.mem_cons.1 hi with rfl | hi
   ·exact h1
   ·exact k1 i hi
  ·cases j with
   | zero =>
    cases k with
    | zero => rfl
    | succ k =>
     simp at hj hk
     subst hj
     exact absurd (List.mem_of_getElem? hk) h2
   | succ j =>
    cases k with
    | zero =>
     simp at hj hk
     subst hk
     exact absurd (List.mem_of_getElem? hj) h2
    | succ k =>
     simp at hj hk
     rw [k2 j k i hj hk]
theorem src_inj {n : Nat} {ids : List Nat} (ho : okI n ids = true) {i j k : Nat} (h1 : src n ids i = some k) (h2 : src n ids j = some k) : i = j := by
 obtain ⟨k1, k2⟩ := okI_mem ho
 unfold src at h1 h2
 split at h1
 ·cases h1
  split at h2
  ·cases h2; rfl
  ·have := k1 _ (List.mem_of_getElem? h2); omega
 ·split at h2
  ·cases h2
   have := k1 _ (List.mem_of_getElem? h1); omega
  ·have := k2 _ _ _ h1 h2; omega
section
variable {E : Env} {nt : Nat} {M : Mp} {H : List Root} {σ : AS} {a : Act} {w : World} {n : Nat} {ids : List Nat}
def renM (n : Nat) (ids : List Nat) (M : Mp) : Mp := ⟨fun j => match src n ids j with
 | some i => M.phi i
 | none => 0, M.rho⟩
theorem renM_phi {j i : Nat} (h : src n ids j = some i) : (renM n ids M).phi j = M.phi i := by
 show (match src n ids j with | some i => M.phi i | none => 0) = _
 rw [h]
theorem ren_live (hn : n ≤ H.length) {j : Nat} {fz : Bool} {t : TypeId} {sz : Nat} {r : Row} (h : rootAt (renH n ids H) j = .live fz t sz r) : ∃ i r0, src n ids j = some i ∧ rootAt H i = .live fz t sz r0 ∧ r = renRow n ids r0 := by
 rw [renH_at hn] at h
 cases hs : src n ids j with
 | none => rw [hs] at h; cases h
 | some i =>
  rw [hs] at h
  simp only at h
  cases hr : rootAt H i with
  | dead => rw [hr] at h; cases h
  | live fz' t' sz' r' => rw [hr] at h; cases h; exact ⟨i, r', rfl, hr, rfl⟩
theorem Con.ren (hn : n ≤ H.length) {x : AV} {v : Value} (h : Con M H w x v) : Con (renM n ids M) (renH n ids H) w (renA n ids x) v := by
 cases x with
 | ptr id m i o =>
  simp only [renA]
  cases hs : renI n ids id with
  | none => trivial
  | some j =>
   have hsr := renI_spec hs
   refine ⟨⟨by rw [renH_len hn]; exact src_lt hsr, h.1.2⟩, fun fz t sz r hr => ?_⟩
   obtain ⟨i0, r0, k1, k2, rfl⟩ := ren_live hn hr
   rw [hsr] at k1
   cases k1
   rw [renRow_len, renM_phi hsr]
   exact h.2 _ _ _ _ k2
 | h id st len =>
  simp only [renA]
  cases hs : renI n ids id with
  | none => trivial
  | some j =>
   have hsr := renI_spec hs
   refine ⟨⟨by rw [renH_len hn]; exact src_lt hsr, h.1.2⟩, fun fz t sz r hr => ?_⟩
   obtain ⟨i0, r0, k1, k2, rfl⟩ := ren_live hn hr
   rw [hsr] at k1
   cases k1
   rw [renRow_len, renM_phi hsr]
   exact h.2 _ _ _ _ k2
 | junk => trivial
 | _ => exact h
theorem ConL.ren (hn : n ≤ H.length) : ∀ {l : List AV} {vs : List Value}, ConL M H w l vs → ConL (renM n ids M) (renH n ids H) w (renL n ids l) vs
 | [], _, h => h
 | _ :: _, _, ⟨v, r, e, h1, h2⟩ => ⟨v, r, e, h1.ren hn, ConL.ren hn h2⟩
mutual
theorem ConR.ren (hn : n ≤ H.length) : ∀ {x : RV} {v : Value}, ConR M H w x v → ConR (renM n ids M) (renH n ids H) w (renR n ids x) v
 | .c _, _, h => Con.ren hn h
 | .agg _, _, ⟨vs, e, h⟩ => ⟨vs, e, ConL.ren hn h⟩
 | .fn _ _, _, ⟨vs, e, h⟩ => ⟨vs, e, ConL.ren hn h⟩
 | .tup _, _, ⟨vs, e, h⟩ => ⟨vs, e, ConRL.ren hn h⟩
theorem ConRL.ren (hn : n ≤ H.length) : ∀ {x : List RV} {vs : List Value}, ConRL M H w x vs → ConRL (renM n ids M) (renH n ids H) w (renRL n ids x) vs
 | [], _, h => h
 | _ :: _, _, ⟨v, r, e, h1, h2⟩ => ⟨v, r, e, ConR.ren hn h1, ConRL.ren hn h2⟩
end
theorem Rel.ren (h : Rel E M H w) (hn : n ≤ H.length) (ho : okI n ids = true) : Rel E (renM n ids M) (renH n ids H) w := by
 refine ⟨h.bel, fun id fz t sz r hr => ?_, fun id fz t sz r hr => ?_, fun id t sz r hr => ?_, fun id t sz r hr => ?_, fun i j t s r t' s' r' hi hj he => ?_, h.rlt, h.src⟩
 ·obtain ⟨i, r0, k1, k2, rfl⟩ := ren_live hn hr
  rw [renM_phi k1]; exact h.low _ _ _ _ _ k2
 ·obtain ⟨i, r0, k1, k2, rfl⟩ := ren_live hn hr
  rw [renM_phi k1]
  obtain ⟨cur, c1, c2, c3, c4, c5, c6⟩ := h.row _ _ _ _ _ k2
  refine ⟨cur, c1, c2, by rw [renRow_len]; exact c3, c4, by rw [renRow_box]; exact c5, fun i hi o ho2 => ?_⟩
  rw [renRow_len] at hi
  obtain ⟨v, q1, q2, q3⟩ := c6 i hi o ho2
  refine ⟨v, q1, q2, ?_⟩
  unfold RCon at q3 ⊢
  rw [renRow_box]
  cases r0 with
  | box l =>
   simp only [Row.isBox, if_true] at q3 ⊢
   show Con _ _ w (nth (renL n ids l) o) v
   rw [nth_ren]
   exact q3.ren hn
  | _ => exact q3
 ·obtain ⟨i, r0, k1, k2, rfl⟩ := ren_live hn hr
  rw [renM_phi k1]; exact h.froz _ _ _ _ k2
 ·obtain ⟨i, r0, k1, k2, rfl⟩ := ren_live hn hr
  rw [renM_phi k1]; exact h.thaw _ _ _ _ k2
 ·obtain ⟨i0, r0, k1, k2, rfl⟩ := ren_live hn hi
  obtain ⟨j0, r1, k3, k4, rfl⟩ := ren_live hn hj
  rw [renM_phi k1, renM_phi k3] at he
  obtain rfl := h.inj _ _ _ _ _ _ _ _ k2 k4 he
  exact src_inj ho k1 k3
def renS (n : Nat) (ids : List Nat) (σ : AS) : AS := ⟨renT n ids σ.tm, renH n ids σ.H⟩
theorem St.ren (h : St E nt M σ a w) (hn : n ≤ σ.H.length) (ho : okI n ids = true) : St E nt (renM n ids M) (renS n ids σ) a w := by
 refine ⟨h.rel.ren hn ho, fun t ht => ?_, fun t ht => ?_, h.sz, h.df⟩
 ·have ht : (lk (renT n ids σ.tm) t).1 = true := ht
  show ConR _ _ w (lk (renT n ids σ.tm) t).2 _
  rw [renT_lk] at ht ⊢
  exact (h.tms t ht).ren hn
 ·have ht : (lk (renT n ids σ.tm) t).1 = false := ht
  rw [renT_lk] at ht
  exact h.off t ht
theorem ren_scp {x : AV} (hs : x.scp n = true) : renA n ids x = x := by
 cases x with
 | ptr id m i o =>
  have : id < n := by simpa [AV.scp] using hs
  simp only [renA, renI, if_pos this, mkPtr]
 | h id st len =>
  have : id < n := by simpa [AV.scp] using hs
  simp only [renA, renI, if_pos this, mkH]
 | _ => rfl
theorem dead_rep : ∀ d k : Nat, rootAt (List.replicate d .dead) k = .dead
 | 0, _ => rfl
 | _ + 1, 0 => rfl
 | d + 1, k + 1 => by simp only [List.replicate_succ, rootAt]; exact dead_rep d k
theorem dead_at (H : List Root) (d j : Nat) : rootAt (H ++ List.replicate d .dead) j = rootAt H j := by
 rw [rootAt_append]
 split
 ·rfl
 ·rename_i h
  rw [dead_rep, rootAt_big (H := H) (by omega)]
theorem Con.dead (d : Nat) {x : AV} {v : Value} (h : Con M H w x v) : Con M (H ++ List.replicate d .dead) w x v := by
 cases x with
 | ptr id m i o => exact ⟨⟨by rw [List.length_append]; have := h.1.1; omega, h.1.2⟩, fun fz t sz r hr => h.2 _ _ _ _ (by rw [dead_at] at hr; exact hr)⟩
 | h id st len => exact ⟨⟨by rw [List.length_append]; have := h.1.1; omega, h.1.2⟩, fun fz t sz r hr => h.2 _ _ _ _ (by rw [dead_at] at hr; exact hr)⟩
 | junk => trivial
 | _ => exact h
theorem ConL.dead (d : Nat) : ∀ {l : List AV} {vs : List Value}, ConL M H w l vs → ConL M (H ++ List.replicate d .dead) w l vs
 | [], _, h => h
 | _ :: _, _, ⟨v, r, e, h1, h2⟩ => ⟨v, r, e, h1.dead d, ConL.dead d h2⟩
mutual
theorem ConR.dead (d : Nat) : ∀ {x : RV} {v : Value}, ConR M H w x v → ConR M (H ++ List.replicate d .dead) w x v
 | .c _, _, h => Con.dead d h
 | .agg _, _, ⟨vs, e, h⟩ => ⟨vs, e, ConL.dead d h⟩
 | .fn _ _, _, ⟨vs, e, h⟩ => ⟨vs, e, ConL.dead d h⟩
 | .tup _, _, ⟨vs, e, h⟩ => ⟨vs, e, ConRL.dead d h⟩
theorem ConRL.dead (d : Nat) : ∀ {x : List RV} {vs : List Value}, ConRL M H w x vs → ConRL M (H ++ List.replicate d .dead) w x vs
 | [], _, h => h
 | _ :: _, _, ⟨v, r, e, h1, h2⟩ => ⟨v, r, e, ConR.dead d h1, ConRL.dead d h2⟩
end
theorem Rel.dead (d : Nat) (h : Rel E M H w) : Rel E M (H ++ List.replicate d .dead) w := by
 refine ⟨h.bel, fun id fz t sz r hr => ?_, fun id fz t sz r hr => ?_, fun id t sz r hr => ?_, fun id t sz r hr => ?_, fun i j t s r t' s' r' hi hj he => ?_, h.rlt, h.src⟩
 ·rw [dead_at] at hr; exact h.low _ _ _ _ _ hr
 ·rw [dead_at] at hr
  obtain ⟨cur, c1, c2, c3, c4, c5, c6⟩ := h.row _ _ _ _ _ hr
  refine ⟨cur, c1, c2, c3, c4, c5, fun i hi o ho2 => ?_⟩
  obtain ⟨v, q1, q2, q3⟩ := c6 i hi o ho2
  refine ⟨v, q1, q2, ?_⟩
  unfold RCon at q3 ⊢
  split
  ·rename_i hb; rw [if_pos hb] at q3; exact q3.dead d
  ·rename_i hb; rw [if_neg hb] at q3; exact q3
 ·rw [dead_at] at hr; exact h.froz _ _ _ _ hr
 ·rw [dead_at] at hr; exact h.thaw _ _ _ _ hr
 ·rw [dead_at] at hi hj; exact h.inj _ _ _ _ _ _ _ _ hi hj he
end
end Go.Proofs.Ytahffcepagopmaa.Ab
namespace Go.Proofs.Ytahffcepagopmaa.Ab
open Go.RowKit
section
variable {P : Program} {ty : Ty} {E : Env} {nt : Nat} {M M' : Mp} {σ σ' : AS} {a a' : Act} {w w' : World}
def okC (nt : Nat) (ord : Nat → List Nat × Nat) : Code → Bool
 | .region id ops dr => dstOk nt ops && (!dr || drawOk ops (ord id))
 | .seq a b => okC nt ord a && okC nt ord b
 | .cond _ a b => okC nt ord a && okC nt ord b
 | .block _ a => okC nt ord a
 | .loop a => okC nt ord a
 | _ => true
def asgP (c : Code) (t : Nat) : Prop := t ∈ asg c
theorem least (p : Nat → Prop) (h : ∃ n, p n) : ∃ n, p n ∧ ∀ m, p m → n ≤ m := by
 obtain ⟨n, hn⟩ := h
 induction n using Nat.strongRecOn with
 | _ n ih =>
  by_cases hc : ∃ m, m < n ∧ p m
  ·obtain ⟨m, hm, hp⟩ := hc; exact ih m hm hp
  ·exact ⟨n, hn, fun m hm => Nat.le_of_not_lt fun hlt => hc ⟨m, hlt, hm⟩⟩
theorem wp_loop_ghost {ι : Type} {c : Code} {Q : Exit → Act → World → Prop} (I : ι → Act → World → Prop) (μ : ι → Nat) (s0 : ι) {a : Act} {w : World} (h0 : I s0 a w)
  (round : ∀ s a w, I s a w → c.wp P (Exit.then (fun a' w' => ∃ s', I s' a' w' ∧ μ s' < μ s) Q) a w) : (Code.loop c).wp P Q a w := by
 classical
 have hl : ∀ (a : Act) (w : World), (∃ n, ∃ s, I s a w ∧ μ s = n) → ∃ n, (∃ s, I s a w ∧ μ s = n) ∧ ∀ m, (∃ s, I s a w ∧ μ s = m) → n ≤ m := fun a w h => least _ h
 let f : Act → World → Nat := fun a w => if h : ∃ n, ∃ s, I s a w ∧ μ s = n then Classical.choose (hl a w h) else 0
 have hf : ∀ a w s, I s a w → (∃ s', I s' a w ∧ μ s' = f a w) ∧ f a w ≤ μ s := by
  intro a w s hs
  have h : ∃ n, ∃ s, I s a w ∧ μ s = n := ⟨_, s, hs, rfl⟩
  have := Classical.choose_spec (hl a w h)
  have e : f a w = Classical.choose (hl a w h) := dif_pos h
  rw [e]
  exact ⟨this.1, this.2 _ ⟨s, hs, rfl⟩⟩
 refine wp_loop (fun a w => ∃ s, I s a w) f ⟨s0, h0⟩ fun a w ⟨s, hs⟩ => ?_
 obtain ⟨⟨s1, h1, h2⟩, -⟩ := hf a w s hs
 refine wp_mono (round s1 a w h1) fun e a' w' q => ?_
 cases e with
 | normal =>
  obtain ⟨s', q1, q2⟩ := q
  exact ⟨⟨s', q1⟩, by have := (hf a' w' s' q1).2; omega⟩
 | _ => exact q
theorem lk_setT : ∀ (vy : List Nat) (vs : List RV) (tm tm0 : Tm), gets tm0 vy = tvals vs → ∀ t, (t ∈ vy ∧ lk (setT vy vs tm) t = lk tm0 t) ∨ (t ∉ vy ∧ lk (setT vy vs tm) t = lk tm t)
 | [], vs, tm, tm0, _, t => .inr ⟨by simp, by cases vs <;> rfl⟩
 | v :: vy, [], tm, tm0, h, t => by simp [gets, tvals] at h
 | v :: vy, x :: vs, tm, tm0, h, t => by
  simp only [gets, tvals, List.cons.injEq] at h
  simp only [setT, lk]
  by_cases e : v = t
  ·subst e
   exact .inl ⟨List.mem_cons_self .., by rw [if_pos rfl, h.1]⟩
  ·rw [if_neg e]
   rcases lk_setT vy vs tm tm0 h.2 t with ⟨h1, h2⟩ | ⟨h1, h2⟩
   ·exact .inl ⟨List.mem_cons_of_mem _ h1, h2⟩
   ·exact .inr ⟨by simp only [List.mem_cons, not_or]; exact ⟨fun e2 => e e2.symm, h1⟩, h2⟩
theorem lk_fxT (tm : Tm) : ∀ (fx : List Nat) (t : Nat), (t ∈ fx ∧ lk (fxT tm fx) t = lk tm t) ∨ (t ∉ fx ∧ lk (fxT tm fx) t = (true, .c .junk))
 | [], t => .inr ⟨by simp, rfl⟩
 | x :: fx, t => by
  simp only [fxT, lk]
  by_cases e : x = t
  ·subst e; exact .inl ⟨List.mem_cons_self .., by rw [if_pos rfl]⟩
  ·rw [if_neg e]
   rcases lk_fxT tm fx t with ⟨h1, h2⟩ | ⟨h1, h2⟩
   ·exact .inl ⟨List.mem_cons_of_mem _ h1, h2⟩
   ·exact .inr ⟨by simp only [List.mem_cons, not_or]; exact ⟨fun e2 => e e2.symm, h1⟩, h2⟩
theorem noAsg_spec {c : Code} {fx : List Nat} (h : noAsg c fx = true) {t : Nat} (ht : t ∈ fx) : ¬ asgP c t := by
 have := List.all_eq_true.1 h t ht
 simpa [asgP] using this
theorem Con.take {H : List Root} {k : Nat} {x : AV} {v : Value} (hk : k ≤ H.length) (hs : x.scp k = true) (h : Con M H w x v) : Con M (H.take k) w x v := by
 have hlen : (H.take k).length = k := by simp; omega
 cases x with
 | ptr id n i o =>
  have hid : id < k := by simpa [AV.scp] using hs
  exact ⟨⟨by omega, h.1.2⟩, fun fz t sz r hr => by rw [rootAt_take, if_pos hid] at hr; exact h.2 _ _ _ _ hr⟩
 | h id st len =>
  have hid : id < k := by simpa [AV.scp] using hs
  exact ⟨⟨by omega, h.1.2⟩, fun fz t sz r hr => by rw [rootAt_take, if_pos hid] at hr; exact h.2 _ _ _ _ hr⟩
 | junk => trivial
 | _ => exact h
theorem ConL.take {H : List Root} {k : Nat} (hk : k ≤ H.length) : ∀ {l : List AV} {vs : List Value}, scpL k l = true → ConL M H w l vs → ConL M (H.take k) w l vs
 | [], _, _, h => h
 | x :: l, _, hs, ⟨v, r, e, h1, h2⟩ => by
  simp only [scpL, Bool.and_eq_true] at hs
  exact ⟨v, r, e, h1.take hk hs.1, ConL.take hk hs.2 h2⟩
mutual
theorem ConR.take {H : List Root} {k : Nat} (hk : k ≤ H.length) : ∀ {x : RV} {v : Value}, scpR k x = true → ConR M H w x v → ConR M (H.take k) w x v
 | .c _, _, hs, h => Con.take hk hs h
 | .agg _, _, hs, ⟨vs, e, h⟩ => ⟨vs, e, ConL.take hk hs h⟩
 | .fn _ _, _, hs, ⟨vs, e, h⟩ => ⟨vs, e, ConL.take hk hs h⟩
 | .tup _, _, hs, ⟨vs, e, h⟩ => ⟨vs, e, ConRL.take hk hs h⟩
theorem ConRL.take {H : List Root} {k : Nat} (hk : k ≤ H.length) : ∀ {x : List RV} {vs : List Value}, scpRL k x = true → ConRL M H w x vs → ConRL M (H.take k) w x vs
 | [], _, _, h => h
 | x :: l, _, hs, ⟨v, r, e, h1, h2⟩ => by
  simp only [scpRL, Bool.and_eq_true] at hs
  exact ⟨v, r, e, ConR.take hk hs.1 h1, ConRL.take hk hs.2 h2⟩
end
theorem scp_of {H : List Root} {x : AV} {v : Value} (h : Con M H w x v) : x.scp H.length = true := by
 cases x with
 | ptr => simpa [AV.scp] using h.1.1
 | h => simpa [AV.scp] using h.1.1
 | _ => rfl
theorem scpH_at {k : Nat} : ∀ {H : List Root}, scpH k H = true → ∀ {id : Nat} {fz : Bool} {t : TypeId} {sz : Nat} {l : List AV}, rootAt H id = .live fz t sz (.box l) → scpL k l = true
 | [], _, _, _, _, _, _, h => by cases h
 | .live fz t sz (.box l) :: H, hs, 0, _, _, _, _, h => by
  simp only [scpH, Bool.and_eq_true] at hs
  cases h; exact hs.1
 | .live _ _ _ (.box _) :: H, hs, id + 1, _, _, _, _, h => by
  simp only [scpH, Bool.and_eq_true] at hs
  exact scpH_at hs.2 h
 | .dead :: H, hs, 0, _, _, _, _, h => by cases h
 | .live _ _ _ (.ints ..) :: H, hs, 0, _, _, _, _, h => by cases h
 | .live _ _ _ (.bools ..) :: H, hs, 0, _, _, _, _, h => by cases h
 | .live _ _ _ (.gen ..) :: H, hs, 0, _, _, _, _, h => by cases h
 | .dead :: H, hs, id + 1, _, _, _, _, h => scpH_at (H := H) hs h
 | .live _ _ _ (.ints ..) :: H, hs, id + 1, _, _, _, _, h => scpH_at (H := H) hs h
 | .live _ _ _ (.bools ..) :: H, hs, id + 1, _, _, _, _, h => scpH_at (H := H) hs h
 | .live _ _ _ (.gen ..) :: H, hs, id + 1, _, _, _, _, h => scpH_at (H := H) hs h
theorem nth_scp {k : Nat} : ∀ {l : List AV}, scpL k l = true → ∀ j, (nth l j).scp k = true
 | [], _, _ => rfl
 | x :: l, hs, 0 => by simp only [scpL, Bool.and_eq_true] at hs; exact hs.1
 | x :: l, hs, j + 1 => by simp only [scpL, Bool.and_eq_true] at hs; exact nth_scp hs.2 j
theorem Rel.take {H : List Root} {k : Nat} (h : Rel E M H w) (hk : k ≤ H.length) (hs : scpH k (H.take k) = true) : Rel E M (H.take k) w := by
 have lift : ∀ {id : Nat} {fz : Bool} {t : TypeId} {sz : Nat} {r : Row}, rootAt (H.take k) id = .live fz t sz r → rootAt H id = .live fz t sz r := fun {id fz t sz r} hr => by
  rw [rootAt_take] at hr
  split at hr
  ·exact hr
  ·cases hr
 refine ⟨h.bel, fun id fz t sz r hr => h.low _ _ _ _ _ (lift hr), fun id fz t sz r hr => ?_, fun id t sz r hr => h.froz _ _ _ _ (lift hr), fun id t sz r hr => h.thaw _ _ _ _ (lift hr), fun i j t s r t' s' r' hi hj => h.inj _ _ _ _ _ _ _ _ (lift hi) (lift hj), h.rlt, h.src⟩
 obtain ⟨cur, h1, h2, h3, h4, h5, h6⟩ := h.row _ _ _ _ _ (lift hr)
 refine ⟨cur, h1, h2, h3, h4, h5, fun i hi o ho => ?_⟩
 obtain ⟨v, k1, k2, k3⟩ := h6 i hi o ho
 refine ⟨v, k1, k2, ?_⟩
 unfold RCon at k3 ⊢
 cases r with
 | box l =>
  simp only [Row.isBox, if_true] at k3 ⊢
  exact k3.take hk (nth_scp (scpH_at hs hr) o)
 | _ => exact k3
def headS (σ : AS) (fx vy : List Nat) (vs : List RV) (H : List Root) : AS := ⟨setT vy vs (fxT σ.tm fx), H⟩
theorem setT_scp {k : Nat} {vy : List Nat} {vs : List RV} {tm : Tm} (hs : scpRL k vs = true) : ∀ t, t ∈ vy → vs.length = vy.length → ∃ x, lk (setT vy vs tm) t = (true, x) ∧ scpR k x = true := by
 induction vy generalizing vs with
 | nil => intro t ht; cases ht
 | cons v vy ih =>
  intro t ht hl
  cases vs with
  | nil => simp at hl
  | cons x vs =>
   simp only [scpRL, Bool.and_eq_true] at hs
   simp only [setT, lk]
   by_cases e : v = t
   ·rw [if_pos e]; exact ⟨x, rfl, hs.1⟩
   ·rw [if_neg e]
    rcases List.mem_cons.1 ht with rfl | ht
    ·exact absurd rfl e
    ·exact ih hs.2 t ht (by simpa using hl)
theorem awp_ok (hT : TyOk P ty) (hm : P.follows .mixedOrders = true) {ord : Nat → List Nat × Nat} : ∀ (c : Code), okC nt ord c = true → ∀ {Q : Exit → AS → Prop} {M : Mp} {σ : AS} {a : Act} {w : World}, St E nt M σ a w → awp P ty ord c Q σ →
  c.wp P (fun e a' w' => (∀ ch, e ≠ .panic ch) ∧ After E nt M σ a w (asgP c) (Q e) a' w') a w
 | .skip, _, Q, M, σ, a, w, h, hw => wp_skip ⟨fun _ e => (by cases e), M, σ, h, Stp.refl _ _ _ _ _, hw⟩
 | .exit id, _, Q, M, σ, a, w, h, hw => wp_exit ⟨fun _ e => (by cases e), M, σ, h, Stp.refl _ _ _ _ _, hw⟩
 | .ret, _, Q, M, σ, a, w, h, hw => wp_ret ⟨fun _ e => (by cases e), M, σ, h, Stp.refl _ _ _ _ _, hw⟩
 | .region id ops dr, hc, Q, M, σ, a, w, h, hw => by
  simp only [okC, Bool.and_eq_true] at hc
  have hds : ∀ t, dstL ops.toList t → asgP (.region id ops dr) t := fun t ⟨o, ho, e⟩ => List.mem_filterMap.2 ⟨o, ho, e⟩
  cases dr with
  | true =>
   simp only [awp, if_true] at hw
   exact region_ok hT hm (by simpa using hc.2) hc.1 h hw (fun a' w' ⟨M2, σ2, r1, r2, r3⟩ => ⟨fun _ e => (by cases e), M2, σ2, r1, r2.mono hds, r3⟩) fun c a w hh => hh.1 c rfl
  | false =>
   simp only [awp, Bool.false_eq_true, if_false] at hw
   exact wp_region_list (awpL_ok hT ops.toList h (dstOk_spec hc.1) hw fun a' w' ⟨M2, σ2, r1, r2, r3⟩ => ⟨fun _ e => (by cases e), M2, σ2, r1, r2.mono hds, r3⟩)
 | .seq x y, hc, Q, M, σ, a, w, h, hw => by
  simp only [okC, Bool.and_eq_true] at hc
  refine wp_seq (wp_mono (awp_ok hT hm x hc.1 h (Q := thenK (awp P ty ord y Q) Q) hw) fun e a1 w1 ⟨hp, M1, σ1, q1, q2, q3⟩ => ?_)
  cases e with
  | normal =>
   refine wp_mono (awp_ok hT hm y hc.2 q1 q3) fun e a2 w2 ⟨hp2, M2, σ2, r1, r2, r3⟩ => ⟨hp2, M2, σ2, r1, q2.trans r2 (fun t ht => List.mem_append_left _ ht) (fun t ht => List.mem_append_right _ ht), r3⟩
  | panic ch => exact absurd rfl (hp ch)
  | exit id => exact ⟨hp, M1, σ1, q1, q2.mono fun t ht => List.mem_append_left _ ht, q3⟩
  | goto l => exact ⟨hp, M1, σ1, q1, q2.mono fun t ht => List.mem_append_left _ ht, q3⟩
  | ret => exact ⟨hp, M1, σ1, q1, q2.mono fun t ht => List.mem_append_left _ ht, q3⟩
  | outgrown => exact ⟨hp, M1, σ1, q1, q2.mono fun t ht => List.mem_append_left _ ht, q3⟩
 | .cond x y z, hc, Q, M, σ, a, w, h, hw => by
  simp only [okC, Bool.and_eq_true] at hc
  have hw' : condK (σ.rd x) (awp P ty ord y Q σ) (awp P ty ord z Q σ) := hw
  unfold condK at hw'
  split at hw'
  ·rename_i b hb
   have hv := h.rd (x := x) (by rw [hb])
   rw [hb] at hv
   have hv' : a.eval x = .bool b := hv
   refine wp_cond hv' ?_
   cases b with
   | true => exact wp_mono (awp_ok hT hm y hc.1 h (hw'.1 rfl)) fun e a1 w1 ⟨hp, M1, σ1, q1, q2, q3⟩ => ⟨hp, M1, σ1, q1, q2.mono fun t ht => List.mem_append_left _ ht, q3⟩
   | false => exact wp_mono (awp_ok hT hm z hc.2 h (hw'.2 rfl)) fun e a1 w1 ⟨hp, M1, σ1, q1, q2, q3⟩ => ⟨hp, M1, σ1, q1, q2.mono fun t ht => List.mem_append_right _ ht, q3⟩
  ·exact hw'.elim
 | .block id x, hc, Q, M, σ, a, w, h, hw => by
  refine wp_block (wp_mono (awp_ok hT hm x hc h (Q := inB id Q) hw) fun e a1 w1 ⟨hp, M1, σ1, q1, q2, q3⟩ => ?_)
  cases e with
  | exit j =>
   simp only [Exit.inBlock]
   simp only [inB] at q3
   split
   ·rename_i e; rw [if_pos e] at q3; exact ⟨fun _ e => (by cases e), M1, σ1, q1, q2, q3⟩
   ·rename_i e; rw [if_neg e] at q3; exact ⟨hp, M1, σ1, q1, q2, q3⟩
  | normal => exact ⟨hp, M1, σ1, q1, q2, q3⟩
  | panic ch => exact absurd rfl (hp ch)
  | goto l => exact ⟨hp, M1, σ1, q1, q2, q3⟩
  | ret => exact ⟨hp, M1, σ1, q1, q2, q3⟩
  | outgrown => exact ⟨hp, M1, σ1, q1, q2, q3⟩
 | .loop x, hc, Q, M, σ, a, w, h, hw => by
  rcases (show loopK (awp P ty ord x) x Q σ ∨ loopK2 (awp P ty ord x) x Q σ from hw) with hw | hw
  case inr =>
   obtain ⟨ι, d, fx, vy, inv, vals, H, μ, hfx, ⟨s0, i0, g0, e0⟩, hsc, round⟩ := hw
   have mk : ∀ {M1 σ1 a1 w1 s}, inv s → St E nt M1 σ1 a1 w1 → Stp M σ a w M1 σ1 a1 w1 (asgP x) → gets σ1.tm vy = tvals (vals s) → σ1.H = H s → St E nt M1 (headS σ fx vy (vals s) (H s)) a1 w1 ∧ Stp M σ a w M1 (headS σ fx vy (vals s) (H s)) a1 w1 (asgP x) := by
    intro M1 σ1 a1 w1 s hs q1 q2 hg hH
    have s1 := hsc s hs
    have hkp : Kp M σ.H w M1 (H s) w1 := fun x v c => by
     rw [← hH]
     exact q2.kp x v c
    refine ⟨⟨?_, fun t ht => ?_, fun t ht => ?_, q1.sz, q1.df⟩, ⟨by show σ.H.length ≤ (H s).length; omega, hkp, q2.tm⟩⟩
    ·show Rel E M1 (H s) w1
     rw [← hH]
     exact q1.rel
    ·show ConR M1 (H s) w1 (lk (setT vy (vals s) (fxT σ.tm fx)) t).2 _
     have ht' : (lk (setT vy (vals s) (fxT σ.tm fx)) t).1 = true := ht
     rcases lk_setT vy (vals s) (fxT σ.tm fx) σ1.tm hg t with ⟨m1, m2⟩ | ⟨m1, m2⟩
     ·rw [m2] at ht' ⊢
      rw [← hH]
      exact q1.tms t ht'
     ·rw [m2] at ht' ⊢
      rcases lk_fxT σ.tm fx t with ⟨f1, f2⟩ | ⟨f1, f2⟩
      ·rw [f2] at ht' ⊢
       rw [q2.tm t (noAsg_spec hfx f1)]
       exact hkp.R (h.tms t ht')
      ·rw [f2]; trivial
    ·have ht' : (lk (setT vy (vals s) (fxT σ.tm fx)) t).1 = false := ht
     rcases lk_setT vy (vals s) (fxT σ.tm fx) σ1.tm hg t with ⟨m1, m2⟩ | ⟨m1, m2⟩
     ·rw [m2] at ht'
      exact q1.off t ht'
     ·rw [m2] at ht'
      rcases lk_fxT σ.tm fx t with ⟨f1, f2⟩ | ⟨f1, f2⟩
      ·rw [f2] at ht'
       rw [q2.tm t (noAsg_spec hfx f1)]
       exact h.off t ht'
      ·rw [f2] at ht'; cases ht'
   have hd : St E nt M ⟨σ.tm, σ.H ++ List.replicate d .dead⟩ a w := ⟨h.rel.dead d, fun t ht => (h.tms t ht).dead d, h.off, h.sz, h.df⟩
   have hstart := mk i0 hd ⟨by simp, fun x v c => c.dead d, fun _ _ => rfl⟩ g0 e0
   refine wp_loop_ghost (fun s a1 w1 => ∃ M1, inv s ∧ St E nt M1 (headS σ fx vy (vals s) (H s)) a1 w1 ∧ Stp M σ a w M1 (headS σ fx vy (vals s) (H s)) a1 w1 (asgP x)) μ s0 ⟨M, i0, hstart⟩ ?_
   rintro s a1 w1 ⟨M1, hs, q1, q2⟩
   refine wp_mono (awp_ok hT hm x hc q1 (round s hs)) fun e a2 w2 ⟨hp, M2, σ2, r1, r2, r3⟩ => ?_
   have r4 := q2.trans r2 (fun _ h => h) (fun _ h => h)
   cases e with
   | normal =>
    obtain ⟨s', ids, t1, ⟨o1, o2⟩, t2, t3, t4⟩ := r3
    have st := r1.ren r4.len o2
    refine ⟨s', ⟨renM σ.H.length ids M2, t1, mk t1 st ⟨?_, fun x v c => ?_, r4.tm⟩ ?_ t3⟩, t4⟩
    ·show σ.H.length ≤ (renH σ.H.length ids σ2.H).length
     rw [renH_len r4.len]; omega
    ·have := (r4.kp x v c).ren (ids := ids) r4.len
     rw [ren_scp (scp_of c)] at this
     exact this
    ·show gets (renT σ.H.length ids σ2.tm) vy = _
     rw [renT_gets]; exact t2
   | panic ch => exact absurd rfl (hp ch)
   | exit id => exact ⟨hp, M2, σ2, r1, r4, r3⟩
   | goto l => exact ⟨hp, M2, σ2, r1, r4, r3⟩
   | ret => exact ⟨hp, M2, σ2, r1, r4, r3⟩
   | outgrown => exact ⟨hp, M2, σ2, r1, r4, r3⟩
  obtain ⟨ι, fx, vy, inv, vals, H, μ, hfx, ⟨s0, i0, g0, e0⟩, hsc, round⟩ := hw
  have mk : ∀ {M1 σ1 a1 w1 s}, inv s → St E nt M1 σ1 a1 w1 → Stp M σ a w M1 σ1 a1 w1 (asgP x) → gets σ1.tm vy = tvals (vals s) → σ1.H.take σ.H.length = H s → St E nt M1 (headS σ fx vy (vals s) (H s)) a1 w1 ∧ Stp M σ a w M1 (headS σ fx vy (vals s) (H s)) a1 w1 (asgP x) := by
   intro M1 σ1 a1 w1 s hs q1 q2 hg hH
   obtain ⟨s1, s2, s3, s4⟩ := hsc s hs
   have hkp : Kp M σ.H w M1 (H s) w1 := fun x v c => by
    rw [← hH]
    exact (q2.kp x v c).take q2.len (scp_of c)
   refine ⟨⟨?_, fun t ht => ?_, fun t ht => ?_, q1.sz, q1.df⟩, ⟨by show σ.H.length ≤ (H s).length; omega, hkp, q2.tm⟩⟩
   ·show Rel E M1 (H s) w1
    rw [← hH]
    exact q1.rel.take q2.len (by rw [hH]; exact s3)
   ·show ConR M1 (H s) w1 (lk (setT vy (vals s) (fxT σ.tm fx)) t).2 _
    have ht' : (lk (setT vy (vals s) (fxT σ.tm fx)) t).1 = true := ht
    rcases lk_setT vy (vals s) (fxT σ.tm fx) σ1.tm hg t with ⟨m1, m2⟩ | ⟨m1, m2⟩
    ·obtain ⟨y, y1, y2⟩ := setT_scp (tm := fxT σ.tm fx) s2 t m1 s4
     rw [m2] at ht' ⊢
     rw [m2] at y1
     have := q1.tms t ht'
     rw [y1] at this ⊢
     rw [← hH]
     exact ConR.take q2.len y2 this
    ·rw [m2] at ht' ⊢
     rcases lk_fxT σ.tm fx t with ⟨f1, f2⟩ | ⟨f1, f2⟩
     ·rw [f2] at ht' ⊢
      rw [q2.tm t (noAsg_spec hfx f1)]
      exact hkp.R (h.tms t ht')
     ·rw [f2]; trivial
   ·have ht' : (lk (setT vy (vals s) (fxT σ.tm fx)) t).1 = false := ht
    rcases lk_setT vy (vals s) (fxT σ.tm fx) σ1.tm hg t with ⟨m1, m2⟩ | ⟨m1, m2⟩
    ·obtain ⟨y, y1, y2⟩ := setT_scp (tm := fxT σ.tm fx) s2 t m1 s4
     rw [y1] at ht'; cases ht'
    ·rw [m2] at ht'
     rcases lk_fxT σ.tm fx t with ⟨f1, f2⟩ | ⟨f1, f2⟩
     ·rw [f2] at ht'
      rw [q2.tm t (noAsg_spec hfx f1)]
      exact h.off t ht'
     ·rw [f2] at ht'; cases ht'
  have hstart := mk i0 h (Stp.refl _ _ _ _ _) g0 (by rw [List.take_length]; exact e0)
  refine wp_loop_ghost (fun s a1 w1 => ∃ M1, inv s ∧ St E nt M1 (headS σ fx vy (vals s) (H s)) a1 w1 ∧ Stp M σ a w M1 (headS σ fx vy (vals s) (H s)) a1 w1 (asgP x)) μ s0 ⟨M, i0, hstart⟩ ?_
  rintro s a1 w1 ⟨M1, hs, q1, q2⟩
  refine wp_mono (awp_ok hT hm x hc q1 (round s hs)) fun e a2 w2 ⟨hp, M2, σ2, r1, r2, r3⟩ => ?_
  have r4 := q2.trans r2 (fun _ h => h) (fun _ h => h)
  cases e with
  | normal =>
   obtain ⟨s', t1, t2, t3, t4⟩ := r3
   exact ⟨s', ⟨M2, t1, mk t1 r1 r4 t2 t3⟩, t4⟩
  | panic ch => exact absurd rfl (hp ch)
  | exit id => exact ⟨hp, M2, σ2, r1, r4, r3⟩
  | goto l => exact ⟨hp, M2, σ2, r1, r4, r3⟩
  | ret => exact ⟨hp, M2, σ2, r1, r4, r3⟩
  | outgrown => exact ⟨hp, M2, σ2, r1, r4, r3⟩
 | .label l, _, Q, M, σ, a, w, h, hw => (by cases hw)
 | .goto l, _, Q, M, σ, a, w, h, hw => (by cases hw)
 | .scope b, _, Q, M, σ, a, w, h, hw => (by cases hw)
 | .rangeFunc .., _, Q, M, σ, a, w, h, hw => (by cases hw)
 | .refuse y, _, Q, M, σ, a, w, h, hw => (by cases hw)
end
end Go.Proofs.Ytahffcepagopmaa.Ab
