/- Plain words for wharfagelaw11: small instances, the instance that Make makes of one, and an instance that may be written. No program in sight. -/
import Derived.Test.YtafhjfkdlmijdaaOwn
import Derived.Test.YtafhjfkdlmijdaaSquare
namespace Go.Proofs.Ytafhjfkdlmijdaa
open Go.RowKit

structure LSat where
  room : Int
  hold : Int
structure LWho where
  load : Int
  opn : Int
  wide : Int
  stay : Int
structure SmallD where
  fin : Int
  trucks : Int
  troom : Int
  bikes : Int
  broom : Int
  sats : List LSat
  custs : List LWho
  cost : List Int
  time : List Int
  tight : Bool
  loose : Bool
def wf8 (x : Int) : Prop := 0 ≤ x ∧ x ≤ 255
def lsatS : Shape LSat := plainS 2 (fun x cs => cs = [.int .u8 x.room, .int .u8 x.hold] ∧ wf8 x.room ∧ wf8 x.hold) (by rintro x cs ⟨rfl, _⟩; rfl)
def lwhoS : Shape LWho := plainS 4 (fun x cs => cs = [.int .u8 x.load, .int .u8 x.opn, .int .u8 x.wide, .int .u8 x.stay] ∧ wf8 x.load ∧ wf8 x.opn ∧ wf8 x.wide ∧ wf8 x.stay) (by rintro x cs ⟨rfl, _⟩; rfl)
def bytesS : Shape (List Int) := sliceS u8S
def lsatsS : Shape (List LSat) := sliceS lsatS
def lwhosS : Shape (List LWho) := sliceS lwhoS
def smallS : Shape SmallD where
  sz := 11
  rep := fun w F x cs => ∃ s c co ti, cs = [.int .u8 x.fin, .int .u8 x.trucks, .int .u8 x.troom, .int .u8 x.bikes, .int .u8 x.broom, s, c, co, ti, .bool x.tight, .bool x.loose] ∧
    (wf8 x.fin ∧ wf8 x.trucks ∧ wf8 x.troom ∧ wf8 x.bikes ∧ wf8 x.broom) ∧ lsatsS.rep w F x.sats [s] ∧ lwhosS.rep w F x.custs [c] ∧ bytesS.rep w F x.cost [co] ∧ bytesS.rep w F x.time [ti]
  len := by rintro w F x cs ⟨_, _, _, _, rfl, _⟩; rfl
  keep := by rintro w w' F x cs ⟨_, _, _, _, rfl, h0, h1, h2, h3, h4⟩ ha; exact ⟨_, _, _, _, rfl, h0, lsatsS.keep h1 ha, lwhosS.keep h2 ha, bytesS.keep h3 ha, bytesS.keep h4 ha⟩
  weak := by rintro w F G x cs ⟨_, _, _, _, rfl, h0, h1, h2, h3, h4⟩ ha; exact ⟨_, _, _, _, rfl, h0, lsatsS.weak h1 ha, lwhosS.weak h2 ha, bytesS.weak h3 ha, bytesS.weak h4 ha⟩
  lt := by rintro w F x cs ⟨_, _, _, _, rfl, h0, h1, h2, h3, h4⟩; exact ⟨_, _, _, _, rfl, h0, lsatsS.lt h1, lwhosS.lt h2, bytesS.lt h3, bytesS.lt h4⟩

theorem lsats_open {w : World} {F : Nat → Prop} {xs : List LSat} {cs : List Value} (h : lsatsS.rep w F xs cs) :
    ∃ (a : Option Addr) (b off c : Nat), cs = [.slice a xs.length c] ∧ xs.length ≤ c ∧ c ≤ 9223372036854775807 ∧ (0 < xs.length → a = some ⟨b, off, none⟩) ∧ (0 < xs.length → F b) ∧
      (∀ k (h : k < xs.length), w.cell? ⟨b, off + k * 2, none⟩ = some (.int .u8 xs[k].room) ∧ w.cell? ⟨b, off + k * 2 + 1, none⟩ = some (.int .u8 xs[k].hold)) ∧ ∀ x ∈ xs, wf8 x.room ∧ wf8 x.hold := by
  obtain ⟨a, b, off, c, rfl, h1, h2, h3, h4⟩ := h
  refine ⟨a, b, off, c, rfl, h1, h2, fun h => (h3 h).1, fun h => (h3 h).2, fun k hk => ?_, fun x hx => ?_⟩
  · obtain ⟨es, ⟨rfl, _⟩, hc⟩ := h4 k hk
    have e0 := hc 0 (by decide)
    have e1 := hc 1 (by decide)
    exact ⟨by simpa [lsatS, plainS] using e0, by simpa [lsatS, plainS] using e1⟩
  · obtain ⟨k, hk, rfl⟩ := List.getElem_of_mem hx
    obtain ⟨es, he, _⟩ := h4 k hk
    exact he.2
theorem lwhos_open {w : World} {F : Nat → Prop} {xs : List LWho} {cs : List Value} (h : lwhosS.rep w F xs cs) :
    ∃ (a : Option Addr) (b off c : Nat), cs = [.slice a xs.length c] ∧ xs.length ≤ c ∧ c ≤ 9223372036854775807 ∧ (0 < xs.length → a = some ⟨b, off, none⟩) ∧ (0 < xs.length → F b) ∧
      (∀ k (h : k < xs.length), w.cell? ⟨b, off + k * 4, none⟩ = some (.int .u8 xs[k].load) ∧ w.cell? ⟨b, off + k * 4 + 1, none⟩ = some (.int .u8 xs[k].opn) ∧
        w.cell? ⟨b, off + k * 4 + 2, none⟩ = some (.int .u8 xs[k].wide) ∧ w.cell? ⟨b, off + k * 4 + 3, none⟩ = some (.int .u8 xs[k].stay)) ∧
      ∀ x ∈ xs, wf8 x.load ∧ wf8 x.opn ∧ wf8 x.wide ∧ wf8 x.stay := by
  obtain ⟨a, b, off, c, rfl, h1, h2, h3, h4⟩ := h
  refine ⟨a, b, off, c, rfl, h1, h2, fun h => (h3 h).1, fun h => (h3 h).2, fun k hk => ?_, fun x hx => ?_⟩
  · obtain ⟨es, ⟨rfl, _⟩, hc⟩ := h4 k hk
    have e0 := hc 0 (by decide)
    have e1 := hc 1 (by decide)
    have e2 := hc 2 (by decide)
    have e3 := hc 3 (by decide)
    exact ⟨by simpa [lwhoS, plainS] using e0, by simpa [lwhoS, plainS] using e1, by simpa [lwhoS, plainS] using e2, by simpa [lwhoS, plainS] using e3⟩
  · obtain ⟨k, hk, rfl⟩ := List.getElem_of_mem hx
    obtain ⟨es, he, _⟩ := h4 k hk
    exact he.2

def wideOf (x : SmallD) : Int := if x.loose then 9 else 1
def satOf (x : SmallD) (s : LSat) : SatD := ⟨4 + wideOf x * (s.room % 40), s.hold % 12⟩
def loadOf (x : SmallD) (c : LWho) : Int := if x.tight then 1 + c.load % 6 + c.load / 32 else 1 + c.load % 6
def custOf (x : SmallD) (c : LWho) : CustD := ⟨loadOf x c, c.opn % 50, c.opn % 50 + wideOf x * c.wide, c.stay % 8⟩
/-- The first so many, made. -/
def satsUp (x : SmallD) (k : Nat) : List SatD := ((x.sats.take k).take 3).map (satOf x)
def custsUp (x : SmallD) (k : Nat) : List CustD := ((x.custs.take k).take 6).map (custOf x)
def satsOf (x : SmallD) : List SatD := if x.sats = [] then [⟨60, 2⟩] else satsUp x x.sats.length
def custsOf (x : SmallD) : List CustD := if x.custs = [] then [⟨2, 5, 90, 1⟩] else custsUp x x.custs.length
def nodesOf (x : SmallD) : Nat := 1 + (satsOf x).length + (custsOf x).length
/-- wharfagelaw11.Make -/
def makeD (x : SmallD) : InstD where
  fin := 40 + x.fin * wideOf x
  tmany := 1 + x.trucks % 4
  troom := 5 + wideOf x * (x.troom % 40)
  bmany := 1 + x.bikes % 6
  broom := 3 + wideOf x * (x.broom % 20)
  sats := satsOf x
  custs := custsOf x
  cost := square11 x.cost (nodesOf x)
  time := square11 x.time (nodesOf x)

def satV (s : SatD) : List Value := [intV s.room, intV s.hold]
def custV (c : CustD) : List Value := [intV c.load, intV c.opn, intV c.cls, intV c.stay]

theorem satsUp_lt {x : SmallD} {k : Nat} (h : k < x.sats.length) (h3 : k < 3) : satsUp x (k + 1) = satsUp x k ++ [satOf x x.sats[k]] := by
  unfold satsUp
  rw [List.take_take, List.take_take, show min 3 (k + 1) = k + 1 by omega, show min 3 k = k by omega, List.take_succ_eq_append_getElem h, List.map_append]
  rfl
theorem satsUp_ge {x : SmallD} {k : Nat} (h3 : 3 ≤ k) : satsUp x (k + 1) = satsUp x k := by
  unfold satsUp
  rw [List.take_take, List.take_take, show min 3 (k + 1) = 3 by omega, show min 3 k = 3 by omega]
theorem custsUp_lt {x : SmallD} {k : Nat} (h : k < x.custs.length) (h3 : k < 6) : custsUp x (k + 1) = custsUp x k ++ [custOf x x.custs[k]] := by
  unfold custsUp
  rw [List.take_take, List.take_take, show min 6 (k + 1) = k + 1 by omega, show min 6 k = k by omega, List.take_succ_eq_append_getElem h, List.map_append]
  rfl
theorem custsUp_ge {x : SmallD} {k : Nat} (h3 : 6 ≤ k) : custsUp x (k + 1) = custsUp x k := by
  unfold custsUp
  rw [List.take_take, List.take_take, show min 6 (k + 1) = 6 by omega, show min 6 k = 6 by omega]
theorem satsUp_len {x : SmallD} {k : Nat} (h : k ≤ x.sats.length) : (satsUp x k).length = min k 3 := by unfold satsUp; simp; omega
theorem custsUp_len {x : SmallD} {k : Nat} (h : k ≤ x.custs.length) : (custsUp x k).length = min k 6 := by unfold custsUp; simp; omega
theorem satsOf_len (x : SmallD) : 1 ≤ (satsOf x).length ∧ (satsOf x).length ≤ 3 := by
  unfold satsOf; split
  · simp
  · rename_i h
    have : 0 < x.sats.length := List.length_pos_iff.2 h
    rw [satsUp_len (Nat.le_refl _)]; omega
theorem custsOf_len (x : SmallD) : 1 ≤ (custsOf x).length ∧ (custsOf x).length ≤ 6 := by
  unfold custsOf; split
  · simp
  · rename_i h
    have : 0 < x.custs.length := List.length_pos_iff.2 h
    rw [custsUp_len (Nat.le_refl _)]; omega
theorem nodesOf_le (x : SmallD) : 3 ≤ nodesOf x ∧ nodesOf x ≤ 10 := by
  have := satsOf_len x; have := custsOf_len x; unfold nodesOf; omega

/-- An instance that lies in blocks from B on, each block known, all apart: it may be written. TS, TC, TR, TI: the element types' numbers. -/
def InstOwn (TS TC TR TI : Nat) (w : World) (B : Nat) (x : InstD) (cs : List Value) : Prop :=
  ∃ gs cs1 gc cc1 vco vti gco rco gti rti, cs = [intV x.fin, intV x.tmany, intV x.troom, intV x.bmany, intV x.broom, .slice (some ⟨gs, 0, none⟩) x.sats.length cs1, .slice (some ⟨gc, 0, none⟩) x.custs.length cc1, vco, vti] ∧
    (x.sats.length ≤ cs1 ∧ cs1 ≤ maxLen ∧ x.custs.length ≤ cc1 ∧ cc1 ≤ maxLen) ∧ B ≤ gs ∧ B ≤ gc ∧ Row w gs TS (x.sats.flatMap satV) ∧ Row w gc TC (x.custs.flatMap custV) ∧
    RowsOwn w B TR TI vco x.cost gco rco ∧ RowsOwn w B TR TI vti x.time gti rti ∧ gco ≠ gti ∧ (∀ a ∈ rco, ∀ b ∈ rti, a ≠ b)
theorem RowsOwn.keepOn {w w' : World} {B TR TI TX : Nat} {v : Value} {rows : List (List Int)} {g : Nat} {rs : List Nat} (h : RowsOwn w B TR TI v rows g rs) (hk : ∀ b e cs, Row w b e cs → e ≠ TX → w'.heap[b]? = w.heap[b]?) (h1 : TR ≠ TX) (h2 : TI ≠ TX) :
    RowsOwn w' B TR TI v rows g rs := by
  obtain ⟨c, k0, k1, k2, k3, k4, k5, k6, k7, k8⟩ := h
  exact ⟨c, k0, k1, k2, k3, k4.keep (hk _ _ _ k4 h1), k5, fun i h h' => (k6 i h h').keep (hk _ _ _ (k6 i h h') h2), k7, k8⟩
theorem RowsOwn.mono {w : World} {B B' TR TI : Nat} {v : Value} {rows : List (List Int)} {g : Nat} {rs : List Nat} (h : RowsOwn w B TR TI v rows g rs) (hB : B' ≤ B) : RowsOwn w B' TR TI v rows g rs := by
  obtain ⟨c, k0, k1, k2, k3, k4, k5, k6, k7, k8⟩ := h
  exact ⟨c, k0, k1, k2, Nat.le_trans hB k3, k4, k5, k6, k7, fun b hb => Nat.le_trans hB (k8 b hb)⟩
/-- Nothing but blocks of type TX has changed. -/
theorem InstOwn.keepOn {TS TC TR TI TX B : Nat} {w w' : World} {x : InstD} {cs : List Value} (h : InstOwn TS TC TR TI w B x cs) (hk : ∀ b e cs, Row w b e cs → e ≠ TX → w'.heap[b]? = w.heap[b]?)
    (h1 : TS ≠ TX) (h2 : TC ≠ TX) (h3 : TR ≠ TX) (h4 : TI ≠ TX) : InstOwn TS TC TR TI w' B x cs := by
  obtain ⟨gs, cs1, gc, cc1, vco, vti, gco, rco, gti, rti, k0, k1, k2, k3, k4, k5, k6, k7, k8, k9⟩ := h
  exact ⟨gs, cs1, gc, cc1, vco, vti, gco, rco, gti, rti, k0, k1, k2, k3, k4.keep (hk _ _ _ k4 h1), k5.keep (hk _ _ _ k5 h2), k6.keepOn hk h3 h4, k7.keepOn hk h3 h4, k8, k9⟩
theorem InstOwn.mono {TS TC TR TI B B' : Nat} {w : World} {x : InstD} {cs : List Value} (h : InstOwn TS TC TR TI w B x cs) (hB : B' ≤ B) : InstOwn TS TC TR TI w B' x cs := by
  obtain ⟨gs, cs1, gc, cc1, vco, vti, gco, rco, gti, rti, k0, k1, k2, k3, k4, k5, k6, k7, k8, k9⟩ := h
  exact ⟨gs, cs1, gc, cc1, vco, vti, gco, rco, gti, rti, k0, k1, Nat.le_trans hB k2, Nat.le_trans hB k3, k4, k5, k6.mono hB, k7.mono hB, k8, k9⟩
theorem InstOwn.below {TS TC TR TI B : Nat} {w w' : World} {x : InstD} {cs : List Value} (h : InstOwn TS TC TR TI w B x cs) (hb : Below w.heap.size w w') : InstOwn TS TC TR TI w' B x cs := by
  obtain ⟨gs, cs1, gc, cc1, vco, vti, gco, rco, gti, rti, h0, h1, h2, h3, h4, h5, h6, h7, h8, h9⟩ := h
  exact ⟨gs, cs1, gc, cc1, vco, vti, gco, rco, gti, rti, h0, h1, h2, h3, h4.below hb, h5.below hb, h6.below hb, h7.below hb, h8, h9⟩
end Go.Proofs.Ytafhjfkdlmijdaa
