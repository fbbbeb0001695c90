/- Contracts: container/heap over a pile's row: whatever they do, the things stay the same. -/
import Derived.Test.YtafhjfkdlmijdaaPile
set_option linter.all false
set_option maxRecDepth 100000
set_option maxHeartbeats 6400000
namespace Go.Proofs.Ytafhjfkdlmijdaa
open Go.RowKit
section
variable {w : World} {q : Nat} {a : Option Addr} {n c : Nat}
theorem rk7 (h : w.cell? ⟨q, 0, none⟩ = some (.slice a n c)) (f : Nat) : (method (f + 1) 212 (.pointer (some ⟨q, 0, none⟩)) "Less").run Try.prog w = .ok (152, .slice a n c) w := by
 have e : (method (f + 1) 212 (.pointer (some ⟨q, 0, none⟩)) "Less").run Try.prog w = ((do let v ← load ⟨q, 0, none⟩; pure (152, v)) : Sem _).run Try.prog w := by kernel_rfl
 rw [e, Sem.run_bind]
 simp only [h, run_load, Result.andThen]
 rfl
theorem sw7 (h : w.cell? ⟨q, 0, none⟩ = some (.slice a n c)) (f : Nat) : (method (f + 1) 212 (.pointer (some ⟨q, 0, none⟩)) "Len").run Try.prog w = .ok (151, .slice a n c) w := by
 have e : (method (f + 1) 212 (.pointer (some ⟨q, 0, none⟩)) "Len").run Try.prog w = ((do let v ← load ⟨q, 0, none⟩; pure (151, v)) : Sem _).run Try.prog w := by kernel_rfl
 rw [e, Sem.run_bind]
 simp only [h, run_load, Result.andThen]
 rfl
theorem nk7 (h : w.cell? ⟨q, 0, none⟩ = some (.slice a n c)) (f : Nat) : (method (f + 1) 212 (.pointer (some ⟨q, 0, none⟩)) "Swap").run Try.prog w = .ok (153, .slice a n c) w := by
 have e : (method (f + 1) 212 (.pointer (some ⟨q, 0, none⟩)) "Swap").run Try.prog w = ((do let v ← load ⟨q, 0, none⟩; pure (153, v)) : Sem _).run Try.prog w := by kernel_rfl
 rw [e, Sem.run_bind]
 simp only [h, run_load, Result.andThen]
 rfl
theorem jeb7 (w : World) (q f : Nat) : (method (f + 1) 212 (.pointer (some ⟨q, 0, none⟩)) "Push").run Try.prog w = .ok (155, .pointer (some ⟨q, 0, none⟩)) w := by kernel_rfl
theorem rhb7 (w : World) (q f : Nat) : (method (f + 1) 212 (.pointer (some ⟨q, 0, none⟩)) "Pop").run Try.prog w = .ok (154, .pointer (some ⟨q, 0, none⟩)) w := by kernel_rfl
end
theorem zc7.drewN {w : World} {B q : Nat} {l : List vb7} (h : zc7 w B q l) (n : Nat) : zc7 (w.drewN n) B q l := h
theorem lm7 {w : World} {B e k n : Nat} {v : Value} {xs : List Value} (h : w.ownsRow B e k v n xs) (m : Nat) : (w.drewN m).ownsRow B e k v n xs := h
theorem zc7.drew {w : World} {B q : Nat} {l : List vb7} (h : zc7 w B q l) : zc7 w.drew B q l := h
theorem xb7.drewN {B : Nat} {w w' : World} (h : xb7 B w w') (n : Nat) : xb7 B w (w'.drewN n) := ⟨below_drewN h.bel n, h.old⟩
theorem bcb7 {α : Type} {l : List α} (h : 0 < l.length) : ∃ l' a, l = l' ++ [a] := ⟨l.dropLast, l.getLast (List.ne_nil_of_length_pos h), (List.dropLast_concat_getLast _).symm⟩
theorem pp7 {w wr w4 : World} {B q g c i j : Nat} {l l' : List vb7} (hp : l'.Perm l) (hpl : l'.length = l.length) (hqg : q ≠ g) (hR : Row wr q 210 [.slice (some ⟨g, 0, none⟩) l'.length c]) {hi : i < l'.length} {hj : j < l'.length}
  (hO : w4.ownsRow B 201 2 (.slice (some ⟨g, 0, none⟩) l'.length c) l'.length ((bw7 l' i j l'[i] l'[j]).flatMap itemV)) (hK : xb7 B w wr) (hK4 : xb7 B wr w4) (hG : wr.grownBy w4 (some g)) (hM : wh7 q g w wr) (_ : i < l'.length) (_ : j < l'.length) (hq : B ≤ q) :
  (bw7 l' i j l'[i] l'[j]).Perm l ∧ jj7 w4 B q g (bw7 l' i j l'[i] l'[j]) ∧ xb7 B w w4 ∧ wh7 q g w w4 := by
 have R2 := hR.keep (hG.block q hR.lt (fun e => hqg (Option.some.inj e)))
 have hll := nv7 l' i j l'[i] l'[j]
 rw [← hll] at R2 hO
 exact ⟨(swap_perm l' hi hj).trans hp, ⟨_, R2, hO, hq⟩, hK.trans hK4, hM.trans (wh7.grown hG)⟩
theorem zdc7 {w : World} {B q : Nat} {g : Nat} {l : List vb7} (h : jj7 w B q g l) (hl : l.length ≤ 1000000) {j : Nat} (hj : j < l.length) :
  Calls Try.prog 129 #[.iface 212 (.pointer (some ⟨q, 0, none⟩)), .int .i64 (j : Int)] w fun e w' => e = .returned (.tuple #[]) ∧ (∃ l' : List vb7, l'.Perm l ∧ jj7 w' B q g l') ∧ xb7 B w w' ∧ wh7 q g w w' := by
 go_enter Try.func129, Try.ntmps129
 go_wp2
 go_loopw [1] (fun jv wr => ∃ (i : Nat) (l' : List vb7), jv = .int .i64 i ∧ i < l.length ∧ l'.Perm l ∧ jj7 wr B q g l' ∧ xb7 B w wr ∧ wh7 q g w wr) (fun jv _ => (intOf jv).toNat)
 case atStart => exact ⟨j, l, rfl, hj, List.Perm.refl _, h, xb7.refl _ _, wh7.refl _ _ _⟩
 case round =>
  obtain ⟨i, l', rfl, hi, hp, hP, hK, hM⟩ := hrel
  have HM := hid hM
  clear hM
  by_cases h0 : i = 0
  ·subst h0
   go_wp2
   go_end0
   exact ⟨rfl, ⟨l', hp, hP⟩, hK, HM.out⟩
  ·have hii : 1 ≤ (i : Int) := by omega
   obtain ⟨k, hk⟩ : ∃ k, k = (i - 1) / 2 := ⟨_, rfl⟩
   have hki : k < i := by omega
   have hdv : Int.tdiv ((i : Int) - 1) 2 = (k : Int) := by rw [Int.tdiv_eq_ediv_of_nonneg (by omega)]; omega
   have hne : ((k : Int) == (i : Int)) = false := by simp; omega
   have hil : (i : Int) ≤ 1000000 := by omega
   have hpl := hp.length_eq
   obtain ⟨c, R, O, hq⟩ := hP
   have hR := Row.of_items O
   have p0 := R.cell (j := 0) (by simp)
   simp only [List.getElem_cons_zero] at p0
   have hml := rk7 p0
   have hms := fun m => nk7 (w := wr.drewN m) (q := q) p0
   have hi' : i < l'.length := by omega
   have hk' : k < l'.length := by omega
   have HR := hid R
   have HO := hid O
   have HI := hid (mp7 hR)
   have HP := hid hp
   have HK := hid hK
   have HPL := hid hpl
   have hR0 := hid (R.ne hR (by decide))
   clear hk R O hR hp hK h hpl
   go_wp2_with fail
   refine (lj7 HI.out hi' hk').mono ?_
   rintro e w1 ⟨b, m, rfl, rfl⟩
   have HO2 := hid (lm7 HO.out m)
   cases b
   ·go_wp2
    go_end0
    exact ⟨rfl, ⟨l', HP.out, ⟨_, HR.out.drewN m, HO.out, hq⟩⟩, HK.out.drewN m, HM.out.drewN m⟩
   ·go_wp2_with fail
    refine (kj7 HO2.out hk' hi').mono ?_
    rintro e w2 ⟨rfl, hO2, hK2, hG2⟩
    have HS := hid (swap_perm l' hk' hi')
    have HL := hid (nv7 l' k i l'[k] l'[i])
    generalize bw7 l' k i l'[k] l'[i] = l2 at hO2 HS HL
    have hqg : q ≠ g := hR0.out
    have R2 := (HR.out.drewN m).keep (hG2.block q (HR.out.drewN m).lt (fun e => hqg (Option.some.inj e)))
    have hll : l2.length = l'.length := HL.out
    rw [← hll] at R2 hO2
    have HM2 := hid ((HM.out.drewN m).trans (wh7.grown hG2))
    have HP2 := hid (show jj7 w2 B q g l2 from ⟨_, R2, hO2, hq⟩)
    have HK2 := hid ((HK.out.drewN m).trans hK2)
    clear hO2 hK2 hG2 R2 hll hqg
    go_wp2
    exact ⟨⟨k, l2, rfl, by omega, HS.out.trans HP.out, HP2.out, HK2.out, HM2.out⟩, by simp [intOf]; omega⟩
theorem ihb7 {w : World} {B q : Nat} {l : List vb7} (h : zc7 w B q l) (hl : l.length ≤ 100000) (s : vb7) :
  Calls Try.prog 125 #[.iface 212 (.pointer (some ⟨q, 0, none⟩)), .iface 201 (.agg #[.int .i64 s.1, .int .i64 s.2])] w fun e w' => e = .returned (.tuple #[]) ∧ (∃ l' : List vb7, l'.Perm (s :: l) ∧ zc7 w' B q l') ∧ xb7 B w w' ∧ hf7 q w w' := by
 have HPU := hid (vib7 h (by omega) s)
 have hmp := jeb7
 obtain ⟨s1, s2⟩ := s
 simp only [] at HPU
 clear h
 go_enter Try.func125, Try.ntmps125
 go_wp2_with fail
 refine HPU.out.mono ?_
 rintro e w1 ⟨rfl, hP1, hK1, hA1⟩
 obtain ⟨l1, hl1⟩ : ∃ l1, l1 = l ++ [(s1, s2)] := ⟨_, rfl⟩
 rw [← hl1] at hP1
 have hpe : l1.Perm ((s1, s2) :: l) := by rw [hl1]; exact List.perm_append_comm
 have hln : l1.length = l.length + 1 := by rw [hl1]; simp
 obtain ⟨g, hG1⟩ := hP1.g (by omega)
 have hP1' := hG1
 obtain ⟨c, R, O, hq⟩ := hP1'
 have p0 := R.cell (j := 0) (by simp)
 simp only [List.getElem_cons_zero] at p0
 have hml := sw7 p0
 have HG1 := hid hG1
 have hb1 : (l1.length : Int) ≤ 1000000 := by omega
 have HUP := hid (show Calls Try.prog 129 #[.iface 212 (.pointer (some ⟨q, 0, none⟩)), .int .i64 ((l1.length : Int) - 1)] w1 _ from by
  have := zdc7 hG1 (by omega) (j := l1.length - 1) (by omega)
  rw [show ((l1.length - 1 : Nat) : Int) = (l1.length : Int) - 1 by omega] at this
  exact this)
 have hb0 : (1 : Int) ≤ (l1.length : Int) := by omega
 have HLN := hid hln
 have HPE := hid hpe
 clear hl1 hpe hln hP1 hG1 R O HPU hl
 go_wp2_with fail
 refine ucb7.mono ?_
 rintro e w2 ⟨rfl, rfl⟩
 go_wp2_with fail
 refine HUP.out.mono ?_
 rintro e w3 ⟨rfl, ⟨l', hp', hP'⟩, hK', hM'⟩
 go_wp2
 go_end0
 exact ⟨rfl, ⟨l', hp'.trans HPE.out, hP'.at⟩, hK1.trans hK', hA1.trans (hf7.of_keep2 hM' HG1.out hP')⟩
theorem rvb7 {w : World} {B q : Nat} {g : Nat} {l : List vb7} (h : jj7 w B q g l) (hl : l.length ≤ 1000000) {i0 n : Nat} (hi0 : i0 < l.length) (hnl : n ≤ l.length) :
  Calls Try.prog 130 #[.iface 212 (.pointer (some ⟨q, 0, none⟩)), .int .i64 (i0 : Int), .int .i64 (n : Int)] w fun e w' => (∃ b, e = .returned (.bool b)) ∧ (∃ l' : List vb7, l'.Perm l ∧ jj7 w' B q g l') ∧ xb7 B w w' ∧ wh7 q g w w' := by
 go_enter Try.func130, Try.ntmps130
 go_wp2
 go_loopw [7] (fun jv wr => ∃ (i : Nat) (l' : List vb7), jv = .int .i64 i ∧ i < l.length ∧ l'.Perm l ∧ jj7 wr B q g l' ∧ xb7 B w wr ∧ wh7 q g w wr) (fun jv _ => l.length - (intOf jv).toNat)
 case atStart => exact ⟨i0, l, rfl, hi0, List.Perm.refl _, h, xb7.refl _ _, wh7.refl _ _ _⟩
 case round =>
  obtain ⟨i, l', rfl, hi, hp, hP, hK, hM⟩ := hrel
  have hpl := hp.length_eq
  have HM := hid hM
  clear hM
  have hil : (i : Int) ≤ 1000000 := by omega
  have hnn : (n : Int) ≤ 1000000 := by omega
  obtain ⟨j1, hj1⟩ : ∃ j1 : Nat, j1 = 2 * i + 1 := ⟨_, rfl⟩
  obtain ⟨j2, hj2⟩ : ∃ j2 : Nat, j2 = j1 + 1 := ⟨_, rfl⟩
  have e1 : 2 * (i : Int) + 1 = (j1 : Int) := by omega
  have e2 : (j1 : Int) + 1 = (j2 : Int) := by omega
  by_cases hend : n ≤ j1
  ·have hee : (n : Int) ≤ (j1 : Int) := by omega
   have HP := hid hP
   have HK := hid hK
   have HPP := hid hp
   have hjb : (j1 : Int) ≤ 2000001 := by omega
   clear hj1 hj2 e2 hpl h hP hK hp
   go_wp2
   go_ret
   exact ⟨⟨_, rfl⟩, ⟨l', HPP.out, HP.out⟩, HK.out, HM.out⟩
  ·have hee : (j1 : Int) < (n : Int) := by omega
   obtain ⟨c, R, O, hq⟩ := hP
   have hR := Row.of_items O
   have p0 := R.cell (j := 0) (by simp)
   simp only [List.getElem_cons_zero] at p0
   have hml := rk7 p0
   have hml2 := fun m => rk7 (w := wr.drewN m) (q := q) p0
   have hml3 := fun m m' => rk7 (w := (wr.drewN m).drewN m') (q := q) p0
   have hms2 := fun m => nk7 (w := wr.drewN m) (q := q) p0
   have hms3 := fun m m' => nk7 (w := (wr.drewN m).drewN m') (q := q) p0
   have hi' : i < l'.length := by omega
   have h1' : j1 < l'.length := by omega
   have HR := hid R
   have HO := hid O
   have HI := hid (mp7 hR)
   have HP := hid hp
   have HK := hid hK
   have HPL := hid hpl
   have hR0 := hid (R.ne hR (by decide))
   have hi12 : i < j1 ∧ j1 < j2 := by omega
   have hjb : (0 : Int) ≤ (j1 : Int) := by omega
   have hj2n : j2 < n → j2 < l'.length := by omega
   clear hj1 hj2 R O hR hp hK h hpl
   by_cases hj2l : j2 < n
   ·have h2' := hj2n hj2l
    have hee2 : (j2 : Int) < (n : Int) := by omega
    go_wp2_with fail
    refine (lj7 HI.out h2' h1').mono ?_
    rintro e w1 ⟨b, m, rfl, rfl⟩
    cases b
    ·go_wp2_with fail
     refine (lj7 (w := wr.drewN m) HI.out h1' hi').mono ?_
     rintro e w3 ⟨b2, m2, rfl, rfl⟩
     have HO2 := hid (lm7 HO.out (m + m2))
     cases b2
     ·go_wp2
      go_ret
      exact ⟨⟨_, rfl⟩, ⟨l', HP.out, ⟨_, HR.out.drewN (m + m2), HO2.out, hq⟩⟩, HK.out.drewN (m + m2), HM.out.drewN (m + m2)⟩
     ·go_wp2_with fail
      refine (kj7 HO2.out hi' h1').mono ?_
      rintro e w4 ⟨rfl, hO4, hK4, hG4⟩
      have HSW := hid (pp7 HP.out HPL.out hR0.out (HR.out.drewN (m + m2)) hO4 (HK.out.drewN (m + m2)) hK4 hG4 (HM.out.drewN (m + m2)) hi' h1' hq)
      clear hO4 hK4 hG4
      go_wp2
      exact ⟨⟨j1, _, rfl, by have := HPL.out; omega, HSW.out⟩, by simp [intOf]; have := HPL.out; omega⟩
    ·go_wp2_with fail
     refine (lj7 (w := wr.drewN m) HI.out h2' hi').mono ?_
     rintro e w3 ⟨b2, m2, rfl, rfl⟩
     have HO2 := hid (lm7 HO.out (m + m2))
     cases b2
     ·go_wp2
      go_ret
      exact ⟨⟨_, rfl⟩, ⟨l', HP.out, ⟨_, HR.out.drewN (m + m2), HO2.out, hq⟩⟩, HK.out.drewN (m + m2), HM.out.drewN (m + m2)⟩
     ·go_wp2_with fail
      refine (kj7 HO2.out hi' h2').mono ?_
      rintro e w4 ⟨rfl, hO4, hK4, hG4⟩
      have HSW := hid (pp7 HP.out HPL.out hR0.out (HR.out.drewN (m + m2)) hO4 (HK.out.drewN (m + m2)) hK4 hG4 (HM.out.drewN (m + m2)) hi' h2' hq)
      clear hO4 hK4 hG4
      go_wp2
      exact ⟨⟨j2, _, rfl, by have := HPL.out; omega, HSW.out⟩, by simp [intOf]; have := HPL.out; omega⟩
   ·have hee2 : (n : Int) ≤ (j2 : Int) := by omega
    go_wp2_with fail
    refine (lj7 HI.out h1' hi').mono ?_
    rintro e w3 ⟨b2, m2, rfl, rfl⟩
    have HO2 := hid (lm7 HO.out m2)
    cases b2
    ·go_wp2
     go_ret
     exact ⟨⟨_, rfl⟩, ⟨l', HP.out, ⟨_, HR.out.drewN m2, HO2.out, hq⟩⟩, HK.out.drewN m2, HM.out.drewN m2⟩
    ·go_wp2_with fail
     refine (kj7 HO2.out hi' h1').mono ?_
     rintro e w4 ⟨rfl, hO4, hK4, hG4⟩
     have HSW := hid (pp7 HP.out HPL.out hR0.out (HR.out.drewN m2) hO4 (HK.out.drewN m2) hK4 hG4 (HM.out.drewN m2) hi' h1' hq)
     clear hO4 hK4 hG4
     go_wp2
     exact ⟨⟨j1, _, rfl, by have := HPL.out; omega, HSW.out⟩, by simp [intOf]; have := HPL.out; omega⟩
theorem ulb7 {w : World} {B q : Nat} {g : Nat} {l : List vb7} (h : jj7 w B q g l) (hl : l.length ≤ 100000) (hpos : 0 < l.length) :
  Calls Try.prog 126 #[.iface 212 (.pointer (some ⟨q, 0, none⟩))] w fun e w' => ∃ (s : vb7) (l' : List vb7), e = .returned (.iface 201 (.agg #[.int .i64 s.1, .int .i64 s.2])) ∧ (s :: l').Perm l ∧ jj7 w' B q g l' ∧ xb7 B w w' ∧ wh7 q g w w' := by
 obtain ⟨c, R, O, hq⟩ := h
 have hR := Row.of_items O
 have p0 := R.cell (j := 0) (by simp)
 simp only [List.getElem_cons_zero] at p0
 have hml := sw7 p0
 have hms := nk7 p0
 have hmp := rhb7
 have HO := hid O
 have HR := hid R
 have hR0 := hid (R.ne hR (by decide))
 obtain ⟨n, hnn⟩ : ∃ n, n = l.length - 1 := ⟨_, rfl⟩
 have hn1 : (l.length : Int) - 1 = (n : Int) := by omega
 have hb0 : (l.length : Int) ≤ 100000 := by omega
 have hb1 : (1 : Int) ≤ (l.length : Int) := by omega
 have hni : n < l.length := by omega
 have hl2 : l.length ≤ 1000000 := by omega
 clear R O hR hnn hl
 go_enter Try.func126, Try.ntmps126
 go_wp2_with fail
 refine ucb7.mono ?_
 rintro e w1 ⟨rfl, rfl⟩
 go_wp2_with fail
 refine (kj7 (i := 0) HO.out hpos hni).mono ?_
 rintro e w2 ⟨rfl, hO2, hK2, hG2⟩
 obtain ⟨hp2, hP2, hK2', hM2⟩ := pp7 (List.Perm.refl l) rfl hR0.out HR.out hO2 (xb7.refl B w1) hK2 hG2 (wh7.refl _ _ _) hpos hni hq
 have hll := nv7 l 0 n l[0] l[n]
 have HK2 := hid hK2'
 generalize bw7 l 0 n l[0] l[n] = l2 at hp2 hP2 hll
 have HDN := hid (rvb7 hP2 (by omega) (i0 := 0) (n := n) (by omega) (by omega))
 have HP2 := hid hp2
 have HLL := hid hll
 clear hO2 hK2 hG2 hP2 hp2 hK2' hll
 go_wp2_with fail
 refine HDN.out.mono ?_
 rintro e w3 ⟨⟨b, rfl⟩, ⟨l3, hp3, hP3⟩, hK3, hM3⟩
 have hl3 := hp3.length_eq
 obtain ⟨l4, s, hl4⟩ := bcb7 (l := l3) (by have := HLL.out; omega)
 subst hl4
 have hl4 : l4.length ≤ 1000000 := by have := HLL.out; simp only [List.length_append, List.length_singleton] at hl3; omega
 have HPO := hid (cob7 hP3 hl4)
 have HP3 := hid hp3
 clear hp3 hP3 hl3 hl4 HDN
 go_wp2_with fail
 refine HPO.out.mono ?_
 rintro e w4 ⟨rfl, hP4, hK4, hM4⟩
 go_wp2
 go_ret
 refine ⟨s, l4, rfl, ?_, hP4, (HK2.out.trans hK3).trans hK4, (hM2.trans hM3).trans hM4⟩
 exact (List.perm_append_comm (l₁ := [s]) (l₂ := l4)).trans (HP3.out.trans HP2.out)
end Go.Proofs.Ytafhjfkdlmijdaa
