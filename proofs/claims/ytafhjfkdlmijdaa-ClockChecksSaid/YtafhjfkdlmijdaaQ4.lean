/- Texts of the proof, joined: A10, Ty. -/
import Derived.Test.YtafhjfkdlmijdaaProg
import Derived.Test.YtafhjfkdlmijdaaQ3
set_option linter.all false
set_option maxRecDepth 100000
set_option maxHeartbeats 6400000
namespace Go.Proofs.Ytafhjfkdlmijdaa.Ab
open Go.RowKit
section
variable {P : Program} {ty : Ty} {ord : Nat → List Nat × Nat × Option Nat} {Q : Exit → AS → Prop} {K : AS → Prop} {σ : AS} {nf : Nat} {ops : Array Oper} {o : Oper} {l : List Oper} {pu : Pu} {tm : Tm} {rd : Operand → Bool × RV} {H : List Root}
theorem eub7 (g : Bool) : gOk g [] = True := rfl
theorem mbc7 (g : Bool) (l : List Bool) : gOk g (true :: l) = gOk g l := by simp [gOk]
theorem dbc7 (g : Bool) (l : List Bool) : gOk g (g :: l) = gOk g l := by simp [gOk]
theorem gbc7 (g h : Bool) (l : List Bool) : gOk (g && h) (h :: l) = gOk (g && h) l := by cases g <;> cases h <;> simp [gOk]
theorem uac7 (g h : Bool) (l : List Bool) : gOk (g && h) (g :: l) = gOk (g && h) l := by cases g <;> cases h <;> simp [gOk]
theorem wbc7 (b c : Bool) : lbc7 b c false = (b && c) := by cases b <;> rfl
theorem jac7 (b c : Bool) : lbc7 b true c = (b || c) := by cases b <;> rfl
theorem cfb7 {pu : Pu} {f : FuncId} {a a' : List RV} {H H' : List Root} {K : RV → List Root → Prop} (h : a = a') (h2 : H = H') : qt7 P pu f a H K = qt7 P pu f a' H' K := by rw [h, h2]
theorem wvb7 : awp P ty ord .skip Q σ = Q .normal σ := rfl
theorem kcc7 {id : Nat} : awp P ty ord (.region id ops true) Q σ = zyb7 P ty ops (ord id) (Q .normal) σ := rfl
theorem bzb7 {id : Nat} : awp P ty ord (.region id ops false) Q σ = et7 P ty ops.toList.length none ops ops.toList (Q .normal) σ := rfl
theorem ubc7 {a b : Code} : awp P ty ord (.seq a b) Q σ = awp P ty ord a (io7 (awp P ty ord b Q) Q) σ := rfl
theorem dxb7 {x : Operand} {a b : Code} : awp P ty ord (.cond x a b) Q σ = hy7 (σ.rd x) (awp P ty ord a Q σ) (awp P ty ord b Q σ) := rfl
theorem ctb7 {id : Nat} {a : Code} : awp P ty ord (.block id a) Q σ = awp P ty ord a (inB id Q) σ := rfl
theorem kzb7 {id : Nat} : awp P ty ord (.exit id) Q σ = Q (.exit id) σ := rfl
theorem acc7 : awp P ty ord .ret Q σ = Q .ret σ := rfl
theorem wdc7 {n : Nat} {dd : Option Nat} : zyb7 P ty ops ([], n, dd) K σ = et7 P ty n dd ops ops.toList K σ := rfl
theorem iec7 {n i : Nat} {is : List Nat} {dd : Option Nat} : zyb7 P ty ops (i :: is, n, dd) K σ = et7 P ty n dd ops (pick ops (i :: is)) K σ := rfl
theorem ybc7 {dd : Option Nat} : et7 P ty nf dd ops [] K σ = K σ := rfl
theorem mwb7 {dd : Option Nat} : et7 P ty nf dd ops (o :: l) K σ = yz7 P ty (rtb7 nf l.length dd) dd ops σ o (et7 P ty nf dd ops l K) := rfl
theorem vdc7 {n : Nat} {dd : Option Nat} : isW (rtb7 nf n dd) = (n < nf) := by
 unfold rtb7 isW
 by_cases h : nf ≤ n
 ·rw [if_pos h]; exact propext ⟨fun h => h.elim, fun h2 => by omega⟩
 ·rw [if_neg h]; exact propext ⟨fun _ => by omega, fun _ => trivial⟩
theorem udc7 {dd : Option Nat} : yz7 P ty pu dd ops σ o K = if isV o.op = true then rob7 ty (guardOf σ.tm ops o.guard) dd σ o K else stb dd (zib7 σ.H) ∧ dac7 P ty (guardOf σ.tm ops o.guard) pu σ o K := rfl
theorem ccc7 {A : Nat → Prop} : stb none A = True := rfl
theorem fcc7 {A : Nat → Prop} {k : Nat} : stb (some k) A = A k := rfl
theorem obc7 {g : Bool} : dac7 P ty (some g) pu σ o K = (gOk g (dhb7 σ.rd o.op) ∧ wsb7 g (eff P ty pu σ.tm σ.rd σ.H o K) (K ⟨il7 σ.tm g o.dst (.c .junk), σ.H⟩)) := rfl
theorem mhb7 {g g' : Bool} {A B : Prop} (h : g = g') : wsb7 g A B = wsb7 g' A B := by rw [h]
theorem hec7 {A B : Prop} : wsb7 true A B = A := by simp [wsb7]
theorem hdc7 {g : Bool} {A B : Prop} : wsb7 g A B = ((g = true → A) ∧ (g = false → B)) := rfl
def putV (g : Bool) (tm : Tm) (H : List Root) (d : Option Nat) (q : Vo) (K : AS → Prop) : Prop := (g = true → q.1) ∧ K ⟨il7 tm g d q.2, H⟩
theorem fbc7 {g : Bool} {dd : Option Nat} : rob7 ty (some g) dd σ o K = (gOk g (dhb7 σ.rd o.op) ∧ stb dd (fun k => zib7 σ.H k ∧ (g = true → (opV ty g σ.rd (bb7 σ.H k .dead) o.op).1)) ∧ putV g σ.tm σ.H o.dst (opV ty g σ.rd σ.H o.op) K) := rfl
theorem jyb7 {d : Option Nat} {p : Prop} {v : RV} : putV true tm H d (p, v) K = (p ∧ K ⟨il7 tm true d v, H⟩) := by simp [putV]
theorem iwb7 {g : Bool} {d : Option Nat} {p : Prop} {v : RV} : putV g tm H d (p, v) K = ((g = true → p) ∧ K ⟨il7 tm g d v, H⟩) := rfl
theorem pvb7 {g : Bool} {d : Option Nat} : putV g tm H d no K = ((g = true → False) ∧ K ⟨il7 tm g d (.c .junk), H⟩) := rfl
theorem jwb7 {t : Nat} {g : Bool} {v : RV} : il7 tm g (some t) v = (t, g, v) :: tm := rfl
theorem uyb7 {g : Bool} {v : RV} : il7 tm g none v = tm := rfl
section
variable {d : Option Nat} {t : TypeId} {p : String} {af : Array Edge} {gd : Option (Nat × Bool)}
theorem mac7 {u : TypeId} {x : Operand} : eff P ty pu tm rd H ⟨d, .box u x, t, p, af, gd⟩ K = (((xc7 (rd x).2).length = (ty u).sz ∧ 0 < (ty u).sz ∧ njL (xc7 (rd x).2) = true) ∧ K ⟨il7 tm true d (.c (.ptr H.length 1 0 0)), H ++ [.live false u (ty u).sz (.box (xc7 (rd x).2))]⟩) := rfl
theorem stb7 {u : TypeId} : eff P ty pu tm rd H ⟨d, .alloc u, t, p, af, gd⟩ K = ((0 < (ty u).sz ∧ kN (ty u).k) ∧ K ⟨il7 tm true d (.c (.ptr H.length 1 0 0)), H ++ [.live false u (ty u).sz (.box (ty u).zero)]⟩) := rfl
theorem ztb7 {u : TypeId} {x v : Operand} : eff P ty pu tm rd H ⟨d, .store u x v, t, p, af, gd⟩ K = (isW pu ∧ fac7 (ty u) H (rd x).2 (rd v).2 (fun H => K ⟨il7 tm true d (.c .junk), H⟩)) := rfl
def mxb7 (wk : Option (List CK)) (ty : Ty) (e : TypeId) (H : List Root) (n : Nat) (q : Prop × List AV) (K : RV → List Root → Prop) : Prop :=
 match wk with
 | none => bac7 ty e H n q K
 | some ck => yzb7 ty e ck n q (fun r => K r H)
theorem tac7 {e : TypeId} {n : Nat} {q : Prop × List AV} {K : RV → List Root → Prop} : mxb7 none ty e H n q K = bac7 ty e H n q K := rfl
theorem kac7 {ck : List CK} {e : TypeId} {n : Nat} {q : Prop × List AV} {K : RV → List Root → Prop} : mxb7 (some ck) ty e H n q K = yzb7 ty e ck n q (fun r => K r H) := rfl
def rbc7 (wk : Option (List CK)) (ty : Ty) (e : TypeId) (H : List Root) (s x : RV) (K : RV → List Root → Prop) : Prop :=
 match wk with
 | none => jvb7 ty (.sl e) H s x K
 | some ck => appW ty e ck s x (fun r => K r H)
theorem ecc7 {e : TypeId} {s x : RV} {K : RV → List Root → Prop} : xzb7 ty (.sl e) H s x K = rbc7 (ty e).wk ty e H s x K := rfl
theorem pac7 {e : TypeId} {s x : RV} {K : RV → List Root → Prop} : rbc7 none ty e H s x K = jvb7 ty (.sl e) H s x K := rfl
theorem jbc7 {ck : List CK} {e : TypeId} {s x : RV} {K : RV → List Root → Prop} : rbc7 (some ck) ty e H s x K = appW ty e ck s x (fun r => K r H) := rfl
def qbc7 (ty : Ty) (k : TyK) (rd : Operand → Bool × RV) (H : List Root) (n : Nat) (ps : List (Nat × Operand)) (K : RV → List Root → Prop) : Prop :=
 match k with
 | .sl e => mxb7 (ty e).wk ty e H n (zg7 (fun i => (i * (ty e).sz, (ty e).sz)) rd (rep (ty e).zero n) ps) K
 | _ => False
theorem jcc7 {u : TypeId} {n : Nat} {ps : Array (Nat × Operand)} : eff P ty pu tm rd H ⟨d, .buildSlice u n ps, t, p, af, gd⟩ K = qbc7 ty (ty u).k rd H n ps.toList (fun r H => K ⟨il7 tm true d r, H⟩) := by
 unfold eff qbc7
 dsimp only
 cases (ty u).k with
 | sl e =>
  unfold mxb7
  dsimp only
  cases (ty e).wk <;> rfl
 | _ => rfl
theorem tyb7 {e : TypeId} {n : Nat} {ps : List (Nat × Operand)} {K : RV → List Root → Prop} : qbc7 ty (.sl e) rd H n ps K = mxb7 (ty e).wk ty e H n (zg7 (fun i => (i * (ty e).sz, (ty e).sz)) rd (rep (ty e).zero n) ps) K := rfl
theorem hyb7 {u : TypeId} {x y : Operand} : eff P ty pu tm rd H ⟨d, .makeSlice u x y, t, p, af, gd⟩ K = zqb7 ty (ty u).k H (rd x).2 (rd y).2 (fun r H => K ⟨il7 tm true d r, H⟩) := rfl
theorem pcc7 {x y : Operand} {u : TypeId} : eff P ty pu tm rd H ⟨d, .call ⟨.builtin .append, #[x, y], #[u, u]⟩, t, p, af, gd⟩ K = (isW pu ∧ [u, u] = [u, u] ∧ xzb7 ty (ty u).k H (rd x).2 (rd y).2 (fun r H => K ⟨il7 tm true d r, H⟩)) := rfl
def fdc7 (P : Program) (pu : Pu) (f : RV) (zs : List RV) (H : List Root) (K : RV → List Root → Prop) : Prop :=
 match f with
 | .fn f caps => qt7 P pu f (zs ++ caps.map .c) H K
 | _ => False
theorem cxb7 {x : Operand} {zs : Array Operand} {ts : Array TypeId} : eff P ty pu tm rd H ⟨d, .call ⟨.value x, zs, ts⟩, t, p, af, gd⟩ K = fdc7 P pu (rd x).2 (rds rd zs.toList) H (fun r H => K ⟨il7 tm true d r, H⟩) := rfl
theorem sac7 {f : FuncId} {caps : List AV} {zs : List RV} {K : RV → List Root → Prop} : fdc7 P pu (.fn f caps) zs H K = qt7 P pu f (zs ++ caps.map .c) H K := rfl
end
theorem nbc7 {k : IntKind} {n : Int} {p : RV → Prop} : (∃ r, fvb7 (.c (.int k n)) r ∧ p r) = p (.c (.int k n)) := propext ⟨fun ⟨_, ⟨_, e, e2⟩, h⟩ => by subst e; rcases e2 with e2 | e2 <;> (subst e2; exact h), fun h => ⟨_, ⟨_, rfl, .inl rfl⟩, h⟩⟩
theorem ywb7 {b : Bool} {p : RV → Prop} : (∃ r, fvb7 (.c (.bool b)) r ∧ p r) = p (.c (.bool b)) := propext ⟨fun ⟨_, ⟨_, e, e2⟩, h⟩ => by subst e; rcases e2 with e2 | e2 <;> (subst e2; exact h), fun h => ⟨_, ⟨_, rfl, .inl rfl⟩, h⟩⟩
def lpK {ι : Type} (vy : List Nat) (n : Nat) (inv : ι → Prop) (vals : ι → List RV) (H : ι → List Root) (μ : ι → Nat) (m : Nat) (σ' : AS) : Prop := ∃ s', inv s' ∧ gets σ'.tm vy = rn7 (vals s') ∧ σ'.H.take n = H s' ∧ μ s' < m
theorem nf7 {c : Code} {ι : Type} (fx vy : List Nat) (inv : ι → Prop) (vals : ι → List RV) (H : ι → List Root) (μ : ι → Nat) (hfx : djb7 c fx = true) (h0 : ∃ s, inv s ∧ gets σ.tm vy = rn7 (vals s) ∧ σ.H = H s)
  (hsc : ∀ s, inv s → (H s).length = σ.H.length ∧ yv7 σ.H.length (vals s) = true ∧ mib7 σ.H.length (H s) = true ∧ (vals s).length = vy.length)
  (round : ∀ s, inv s → awp P ty ord c (io7 (lpK vy σ.H.length inv vals H μ (μ s)) Q) ⟨setT vy (vals s) (fxT σ.tm fx), H s⟩) : awp P ty ord (.loop c) Q σ :=
 .inl ⟨ι, fx, vy, inv, vals, H, μ, hfx, h0, hsc, round⟩
def ycc7 {ι : Type} (d : Nat) (vy : List Nat) (n : Nat) (inv : ι → Prop) (vals : ι → List RV) (H : ι → List Root) (μ : ι → Nat) (m : Nat) (σ' : AS) : Prop := ∃ s' ids, inv s' ∧ (ids.length = d ∧ okI n ids = true) ∧ renG n ids (gets σ'.tm vy) = rn7 (vals s') ∧ heb7 n ids σ'.H = H s' ∧ μ s' < m
theorem qo7 {c : Code} {ι : Type} (d : Nat) (fx vy : List Nat) (inv : ι → Prop) (vals : ι → List RV) (H : ι → List Root) (μ : ι → Nat) (hfx : djb7 c fx = true) (h0 : ∃ s, inv s ∧ gets σ.tm vy = rn7 (vals s) ∧ σ.H ++ List.replicate d .dead = H s)
  (hsc : ∀ s, inv s → (H s).length = σ.H.length + d)
  (round : ∀ s, inv s → awp P ty ord c (io7 (ycc7 d vy σ.H.length inv vals H μ (μ s)) Q) ⟨setT vy (vals s) (fxT σ.tm fx), H s⟩) : awp P ty ord (.loop c) Q σ :=
 .inr ⟨ι, d, fx, vy, inv, vals, H, μ, hfx, h0, hsc, round⟩
def opD : List Oper → Nat → Oper
 | [], _ => default
 | o :: _, 0 => o
 | _ :: l, n + 1 => opD l n
theorem mjb7 : ∀ (l : List Oper) (j : Nat), opD l j = l.getD j default
 | [], _ => rfl
 | _ :: _, 0 => rfl
 | _ :: l, j + 1 => by simp only [opD, List.getD_cons_succ]; exact mjb7 l j
theorem rzb7 {i : Nat} {is : List Nat} : pick ops (i :: is) = opD ops.toList i :: pick ops is := by
 simp [pick, mjb7, List.getD_eq_getElem?_getD, Array.getD_eq_getD_getElem?]
theorem avb7 : pick ops [] = [] := rfl
theorem t_n {n : AS → Prop} : io7 n Q .normal σ = n σ := rfl
theorem t_e {n : AS → Prop} {id : Nat} : io7 n Q (.exit id) σ = Q (.exit id) σ := rfl
theorem t_r {n : AS → Prop} : io7 n Q .ret σ = Q .ret σ := rfl
theorem b_n {id : Nat} : inB id Q .normal σ = Q .normal σ := rfl
theorem b_e {id j : Nat} : inB id Q (.exit j) σ = if j = id then Q .normal σ else Q (.exit j) σ := rfl
theorem b_r {id : Nat} : inB id Q .ret σ = Q .ret σ := rfl
theorem c_t {b : Bool} {A B : Prop} : hy7 (true, .c (.bool b)) A B = ((b = true → A) ∧ (b = false → B)) := rfl
theorem r_r {rs : List ResultVar} {K : RV → List Root → Prop} : vzb7 ty rs K .ret σ = ((ws7 ty σ rs).1 ∧ K (one (ws7 ty σ rs).2) σ.H) := rfl
theorem r_n {rs : List ResultVar} {K : RV → List Root → Prop} : vzb7 ty rs K .normal σ = ((ws7 ty σ rs).1 ∧ K (one (ws7 ty σ rs).2) σ.H) := rfl
end
section
variable {n : Nat} {ids : List Nat}
theorem lub7 {n : Nat} {ids : List Nat} : qf7 n ids .dead = .dead := rfl
theorem cwb7 {n : Nat} {ids : List Nat} {fz : Bool} {t : TypeId} {sz : Nat} {l : List AV} : qf7 n ids (.live fz t sz (.box l)) = .live fz t sz (.box (qob7 n ids l)) := rfl
theorem hsb7 {n : Nat} {ids : List Nat} {fz : Bool} {t : TypeId} {sz : Nat} {k : IntKind} {l : List Int} : qf7 n ids (.live fz t sz (.ints k l)) = .live fz t sz (.ints k l) := rfl
theorem dpb7 {n : Nat} {ids : List Nat} {fz : Bool} {t : TypeId} {sz : Nat} {l : List Bool} : qf7 n ids (.live fz t sz (.bools l)) = .live fz t sz (.bools l) := rfl
theorem pwb7 {n : Nat} {ids : List Nat} {fz : Bool} {t : TypeId} {sz : Nat} {l : List (List AV)} : qf7 n ids (.live fz t sz (.gen l)) = .live fz t sz (.gen l) := rfl
theorem qxb7 {id m i o : Nat} : rv7 n ids (.ptr id m i o) = ejb7 m i o (ajb7 n ids id) := rfl
theorem kec7 {id st len : Nat} : rv7 n ids (.h id st len) = mkH st len (ajb7 n ids id) := rfl
theorem sxb7 {k : IntKind} {v : Int} : rv7 n ids (.int k v) = .int k v := rfl
theorem xub7 {b : Bool} : rv7 n ids (.bool b) = .bool b := rfl
theorem wzb7 {b : Nat} : rv7 n ids (.flt b) = .flt b := rfl
theorem kxb7 {b : ByteArray} : rv7 n ids (.str b) = .str b := rfl
theorem dub7 : rv7 n ids .nilp = .nilp := rfl
theorem xsb7 : rv7 n ids .nils = .nils := rfl
theorem qtb7 : rv7 n ids .junk = .junk := rfl
theorem yac7 {k sz : Nat} {f : Nat → Nat → AV} : rv7 n ids (.sl k sz f) = .sl k sz f := rfl
theorem rcc7 {k : Nat} {f : Nat → AV} : rv7 n ids (.rp k f) = .rp k f := rfl
theorem vbc7 {m i o j : Nat} : ejb7 m i o (some j) = .ptr j m i o := rfl
theorem occ7 {m i o : Nat} : ejb7 m i o none = .junk := rfl
theorem scc7 {st len j : Nat} : mkH st len (some j) = .h j st len := rfl
theorem vac7 {st len : Nat} : mkH st len none = .junk := rfl
end
attribute [congr] cfb7 mhb7
def tyM : Nat → TyE
 | 2 => ⟨1, 8, .i .i64, [.int .i64 0], none⟩
 | 3 => ⟨1, 8, .i .i64, [.int .i64 0], none⟩
 | 4 => ⟨1, 1, .b, [.bool false], none⟩
 | 5 => ⟨1, 1, .i .u8, [.int .u8 0], none⟩
 | 6 => ⟨1, 1, .i .u8, [.int .u8 0], none⟩
 | 7 => ⟨4, 24, .st [(0, 1), (1, 1), (2, 1), (3, 1)], [.int .i64 0, .int .i64 0, .bool false, .int .u8 0], none⟩
 | 8 => ⟨4, 24, .st [(0, 1), (1, 1), (2, 1), (3, 1)], [.int .i64 0, .int .i64 0, .bool false, .int .u8 0], none⟩
 | 9 => ⟨1, 16, .str, [.str ⟨#[]⟩], none⟩
 | 10 => ⟨1, 16, .str, [.str ⟨#[]⟩], none⟩
 | 11 => ⟨1, 16, .str, [.str ⟨#[]⟩], none⟩
 | 12 => ⟨1, 8, .i .u64, [.int .u64 0], none⟩
 | 13 => ⟨2, 24, .st [(0, 1), (1, 1)], [.str ⟨#[]⟩, .int .u64 0], none⟩
 | 14 => ⟨2, 24, .st [(0, 1), (1, 1)], [.str ⟨#[]⟩, .int .u64 0], none⟩
 | 15 => ⟨1, 8, .sc, [.nilp], none⟩
 | 16 => ⟨1, 8, .sc, [.nilp], none⟩
 | 17 => ⟨1, 8, .sc, [.nilp], none⟩
 | 18 => ⟨1, 8, .st [(0, 1)], [.nilp], none⟩
 | 19 => ⟨1, 8, .st [(0, 1)], [.nilp], none⟩
 | 21 => ⟨1, 4, .i .i32, [.int .i32 0], none⟩
 | 22 => ⟨1, 24, .sl 103, [.nils], none⟩
 | 23 => ⟨1, 24, .sl 110, [.nils], none⟩
 | 24 => ⟨1, 24, .sl 5, [.nils], none⟩
 | 25 => ⟨11, 112, .st [(0, 1), (1, 1), (2, 1), (3, 1), (4, 1), (5, 1), (6, 1), (7, 1), (8, 1), (9, 1), (10, 1)], [.int .u8 0, .int .u8 0, .int .u8 0, .int .u8 0, .int .u8 0, .nils, .nils, .nils, .nils, .bool false, .bool false], none⟩
 | 26 => ⟨11, 112, .st [(0, 1), (1, 1), (2, 1), (3, 1), (4, 1), (5, 1), (6, 1), (7, 1), (8, 1), (9, 1), (10, 1)], [.int .u8 0, .int .u8 0, .int .u8 0, .int .u8 0, .int .u8 0, .nils, .nils, .nils, .nils, .bool false, .bool false], none⟩
 | 27 => ⟨2, 16, .st [(0, 1), (1, 1)], [.int .i64 0, .int .i64 0], none⟩
 | 28 => ⟨2, 16, .st [(0, 1), (1, 1)], [.int .i64 0, .int .i64 0], none⟩
 | 29 => ⟨1, 24, .sl 38, [.nils], none⟩
 | 30 => ⟨1, 24, .sl 112, [.nils], none⟩
 | 31 => ⟨1, 24, .sl 34, [.nils], none⟩
 | 32 => ⟨9, 136, .st [(0, 1), (1, 2), (3, 2), (5, 1), (6, 1), (7, 1), (8, 1)], [.int .i64 0, .int .i64 0, .int .i64 0, .int .i64 0, .int .i64 0, .nils, .nils, .nils, .nils], none⟩
 | 33 => ⟨9, 136, .st [(0, 1), (1, 2), (3, 2), (5, 1), (6, 1), (7, 1), (8, 1)], [.int .i64 0, .int .i64 0, .int .i64 0, .int .i64 0, .int .i64 0, .nils, .nils, .nils, .nils], none⟩
 | 34 => ⟨1, 24, .sl 2, [.nils], none⟩
 | 37 => ⟨2, 16, .st [(0, 1), (1, 1)], [.int .i64 0, .int .i64 0], none⟩
 | 38 => ⟨2, 16, .st [(0, 1), (1, 1)], [.int .i64 0, .int .i64 0], none⟩
 | 39 => ⟨1, 24, .sl 108, [.nils], none⟩
 | 40 => ⟨1, 8, .i .i64, [.int .i64 0], none⟩
 | 44 => ⟨1, 24, .sl 128, [.nils], none⟩
 | 45 => ⟨2, 48, .st [(0, 1), (1, 1)], [.nils, .nils], none⟩
 | 46 => ⟨2, 48, .st [(0, 1), (1, 1)], [.nils, .nils], none⟩
 | 49 => ⟨1, 24, .sl 3, [.nils], none⟩
 | 52 => ⟨1, 24, .sl 85, [.nils], none⟩
 | 53 => ⟨2, 48, .st [(0, 1), (1, 1)], [.nils, .nils], none⟩
 | 54 => ⟨2, 48, .st [(0, 1), (1, 1)], [.nils, .nils], none⟩
 | 55 => ⟨5, 104, .st [(0, 2), (2, 2), (4, 1)], [.nils, .nils, .nils, .nils, .int .i64 0], none⟩
 | 56 => ⟨5, 104, .st [(0, 2), (2, 2), (4, 1)], [.nils, .nils, .nils, .nils, .int .i64 0], none⟩
 | 65 => ⟨1, 8, .sc, [.flt 0], none⟩
 | 71 => ⟨3, 72, .st [(0, 1), (1, 1), (2, 1)], [.nils, .nils, .nils], none⟩
 | 72 => ⟨3, 72, .st [(0, 1), (1, 1), (2, 1)], [.nils, .nils, .nils], none⟩
 | 77 => ⟨1, 1, .i .i8, [.int .i8 0], none⟩
 | 82 => ⟨1, 8, .sc, [.nilp], none⟩
 | 84 => ⟨3, 40, .st [(0, 1), (1, 1), (2, 1)], [.int .i64 0, .nils, .int .i64 0], none⟩
 | 85 => ⟨3, 40, .st [(0, 1), (1, 1), (2, 1)], [.int .i64 0, .nils, .int .i64 0], none⟩
 | 86 => ⟨1, 24, .sl 54, [.nils], none⟩
 | 92 => ⟨1, 24, .sl 77, [.nils], none⟩
 | 93 => ⟨2, 32, .st [(0, 1), (1, 1)], [.nils, .int .u8 0], none⟩
 | 94 => ⟨2, 32, .st [(0, 1), (1, 1)], [.nils, .int .u8 0], none⟩
 | 102 => ⟨2, 2, .st [(0, 1), (1, 1)], [.int .u8 0, .int .u8 0], none⟩
 | 103 => ⟨2, 2, .st [(0, 1), (1, 1)], [.int .u8 0, .int .u8 0], none⟩
 | 104 => ⟨2, 16, .st [(0, 1), (1, 1)], [.int .i64 0, .int .i64 0], none⟩
 | 105 => ⟨2, 16, .st [(0, 1), (1, 1)], [.int .i64 0, .int .i64 0], none⟩
 | 106 => ⟨1, 24, .sl 105, [.nils], none⟩
 | 107 => ⟨1, 24, .st [(0, 1)], [.nils], none⟩
 | 108 => ⟨1, 24, .st [(0, 1)], [.nils], none⟩
 | 109 => ⟨4, 4, .st [(0, 1), (1, 1), (2, 1), (3, 1)], [.int .u8 0, .int .u8 0, .int .u8 0, .int .u8 0], none⟩
 | 110 => ⟨4, 4, .st [(0, 1), (1, 1), (2, 1), (3, 1)], [.int .u8 0, .int .u8 0, .int .u8 0, .int .u8 0], none⟩
 | 111 => ⟨4, 32, .st [(0, 1), (1, 1), (2, 1), (3, 1)], [.int .i64 0, .int .i64 0, .int .i64 0, .int .i64 0], none⟩
 | 112 => ⟨4, 32, .st [(0, 1), (1, 1), (2, 1), (3, 1)], [.int .i64 0, .int .i64 0, .int .i64 0, .int .i64 0], none⟩
 | 115 => ⟨1, 8, .sc, [.nilp], none⟩
 | 120 => ⟨1, 24, .sl 65, [.nils], none⟩
 | 127 => ⟨2, 32, .st [(0, 1), (1, 1)], [.int .i64 0, .nils], none⟩
 | 128 => ⟨2, 32, .st [(0, 1), (1, 1)], [.int .i64 0, .nils], none⟩
 | 141 => ⟨1, 8, .sc, [.nilp], none⟩
 | 148 => ⟨1, 24, .sl 188, [.nils], none⟩
 | 149 => ⟨2, 32, .st [(0, 1), (1, 1)], [.int .i64 0, .nils], none⟩
 | 150 => ⟨2, 32, .st [(0, 1), (1, 1)], [.int .i64 0, .nils], none⟩
 | 164 => ⟨2, 48, .ar 2 1, [.nils, .nils], none⟩
 | 168 => ⟨1, 8, .i .i64, [.int .i64 0], none⟩
 | 172 => ⟨1, 8, .i .u64, [.int .u64 0], none⟩
 | 173 => ⟨1, 8, .i .u64, [.int .u64 0], none⟩
 | 176 => ⟨1, 8, .sc, [.nilp], none⟩
 | 177 => ⟨3, 56, .st [(0, 2), (2, 1)], [.int .i64 0, .nils, .nils], none⟩
 | 178 => ⟨3, 56, .st [(0, 2), (2, 1)], [.int .i64 0, .nils, .nils], none⟩
 | 179 => ⟨1, 24, .sl 49, [.nils], none⟩
 | 187 => ⟨3, 24, .st [(0, 1), (1, 1), (2, 1)], [.int .i64 0, .int .i64 0, .int .i64 0], none⟩
 | 188 => ⟨3, 24, .st [(0, 1), (1, 1), (2, 1)], [.int .i64 0, .int .i64 0, .int .i64 0], none⟩
 | 197 => ⟨1, 8, .sc, [.nilp], none⟩
 | 200 => ⟨2, 16, .st [(0, 1), (1, 1)], [.int .i64 0, .int .i64 0], none⟩
 | 201 => ⟨2, 16, .st [(0, 1), (1, 1)], [.int .i64 0, .int .i64 0], none⟩
 | 204 => ⟨1, 8, .i .u64, [.int .u64 0], none⟩
 | 207 => ⟨1, 24, .sl 201, [.nils], none⟩
 | 208 => ⟨1, 24, .sl 201, [.nils], none⟩
 | 209 => ⟨1, 24, .st [(0, 1)], [.nils], none⟩
 | 210 => ⟨1, 24, .st [(0, 1)], [.nils], none⟩
 | 212 => ⟨1, 8, .sc, [.nilp], none⟩
 | 223 => ⟨4, 40, .st [(0, 1), (1, 1), (2, 1), (3, 1)], [.nilp, .nilp, .nilp, .str ⟨#[]⟩], none⟩
 | 224 => ⟨4, 40, .st [(0, 1), (1, 1), (2, 1), (3, 1)], [.nilp, .nilp, .nilp, .str ⟨#[]⟩], none⟩
 | 225 => ⟨0, 0, .ar 0 1, [], none⟩
 | 226 => ⟨0, 0, .st [(0, 0)], [], none⟩
 | 227 => ⟨0, 0, .st [(0, 0)], [], none⟩
 | 228 => ⟨1, 4, .i .u32, [.int .u32 0], none⟩
 | 229 => ⟨1, 1, .i .u8, [.int .u8 0], none⟩
 | 230 => ⟨1, 1, .i .u8, [.int .u8 0], none⟩
 | 232 => ⟨1, 8, .sc, [.nilp], none⟩
 | 233 => ⟨1, 4, .i .i32, [.int .i32 0], none⟩
 | 234 => ⟨1, 4, .i .i32, [.int .i32 0], none⟩
 | _ => ⟨0, 0, .no, [], none⟩
def ty : Ty := fun t => if t < 239 then tyM t else ⟨0, 0, .no, [], none⟩
theorem bcc7 (t : Nat) : ty t = if t < 239 then tyM t else ⟨0, 0, .no, [], none⟩ := rfl
theorem neb7 : cj7 Try.prog ty := aub7 (n := 239) (by kernel_rfl) (fun t h => by
 show (if t < 239 then tyM t else _).k = .no
 rw [if_neg (Nat.not_lt.2 h)])
end Go.Proofs.Ytafhjfkdlmijdaa.Ab
