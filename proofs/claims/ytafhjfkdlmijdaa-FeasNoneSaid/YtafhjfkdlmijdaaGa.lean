/- Texts of the proof, joined: Lib, InstA, Facts, InstB, InstC, Region, InstD, Own. -/
import Derived.WalkKit
import Derived.Deep.QuietTactic
import Derived.BigQuiet
import Derived.Outline
import Derived.WalkLawsBesides
import Derived.WalkSpells
import Derived.Test.YtafhjfkdlmijdaaProg
import Derived.Deep.DeepCutAuto
/- Plain words for Go's data in a world: shapes, readings, and what keeps them. No program in sight. -/
namespace Go.Proofs.Ytafhjfkdlmijdaa
open Go.RowKit

theorem hid {p : Prop} (h : p) : Hid p := h

/-- Two worlds agree on the blocks of F. -/
def Agree (F : Nat → Prop) (w w' : World) : Prop := ∀ b, F b → w'.heap[b]? = w.heap[b]?

theorem cell_lt {w : World} {a : Addr} {v : Value} (h : w.cell? a = some v) : a.block < w.heap.size := by
  unfold World.cell? at h
  split at h
  · rename_i c _ _ hc
    exact (Array.getElem?_eq_some_iff.1 hc).1
  · cases h

theorem cell_agree {F : Nat → Prop} {w w' : World} (h : Agree F w w') {a : Addr} (ha : F a.block) : w'.cell? a = w.cell? a :=
  World.cell?_of_block (h _ ha)

theorem Agree.of_below {B : Nat} {w w' : World} (h : Below B w w') : Agree (fun b => b < B) w w' := fun b hb => h.block b hb

/-- Go's int64 and int. -/
def wf64 (x : Int) : Prop := -9223372036854775808 ≤ x ∧ x ≤ 9223372036854775807

/-- How data of a type lie in a world: so many cells; F: the blocks that a reading comes to. -/
structure Shape (α : Type) where
  sz : Nat
  rep : World → (Nat → Prop) → α → List Value → Prop
  len : ∀ {w F x cs}, rep w F x cs → cs.length = sz
  keep : ∀ {w w' F x cs}, rep w F x cs → Agree F w w' → rep w' F x cs
  weak : ∀ {w F G x cs}, rep w F x cs → (∀ b, F b → G b) → rep w G x cs
  lt : ∀ {w F x cs}, rep w F x cs → rep w (fun b => F b ∧ b < w.heap.size) x cs

theorem Shape.below {α : Type} (S : Shape α) {w w' : World} {F : Nat → Prop} {x : α} {cs : List Value} (h : S.rep w F x cs) (hb : Below w.heap.size w w') : S.rep w' F x cs :=
  S.weak (S.keep (S.lt h) fun b k => hb.block b k.2) fun _ k => k.1

/-- What reads below B goes on reading. -/
theorem Shape.belowB {α : Type} (S : Shape α) {B : Nat} {w w' : World} {x : α} {cs : List Value} (h : S.rep w (fun b => b < B) x cs) (hb : Below B w w') : S.rep w' (fun b => b < B) x cs :=
  S.keep h fun b k => hb.block b k

theorem Shape.any {α : Type} (S : Shape α) {w : World} {F : Nat → Prop} {x : α} {cs : List Value} (h : S.rep w F x cs) : S.rep w (fun _ => True) x cs := S.weak h fun _ _ => trivial

theorem Shape.old {α : Type} (S : Shape α) {w : World} {F : Nat → Prop} {x : α} {cs : List Value} (h : S.rep w F x cs) : S.rep w (fun b => b < w.heap.size) x cs := S.weak (S.lt h) fun _ k => k.2

/-- A shape whose cells name no memory. -/
def plainS {α : Type} (n : Nat) (P : α → List Value → Prop) (hl : ∀ {x cs}, P x cs → cs.length = n) : Shape α where
  sz := n
  rep := fun _ _ x cs => P x cs
  len := hl
  keep := fun h _ => h
  weak := fun h _ => h
  lt := fun h => h

def intS : Shape Int := plainS 1 (fun x cs => cs = [.int .i64 x] ∧ wf64 x) (by rintro x cs ⟨rfl, _⟩; rfl)
def u8S : Shape Int := plainS 1 (fun x cs => cs = [.int .u8 x] ∧ 0 ≤ x ∧ x ≤ 255) (by rintro x cs ⟨rfl, _⟩; rfl)

/-- A slice: its length, and element by element. -/
def sliceRep {α : Type} (S : Shape α) (w : World) (F : Nat → Prop) (xs : List α) (cs : List Value) : Prop :=
  ∃ (a : Option Addr) (b off c : Nat), cs = [.slice a xs.length c] ∧ xs.length ≤ c ∧ c ≤ maxLen ∧ (0 < xs.length → a = some ⟨b, off, none⟩ ∧ F b) ∧
    ∀ i (h : i < xs.length), ∃ es, S.rep w F xs[i] es ∧ ∀ j, j < S.sz → w.cell? ⟨b, off + i * S.sz + j, none⟩ = es[j]?

def sliceS {α : Type} (S : Shape α) (h0 : 0 < S.sz := by decide) : Shape (List α) where
  sz := 1
  rep := sliceRep S
  len := by rintro w F x cs ⟨a, b, off, c, rfl, _⟩; rfl
  keep := by
    rintro w w' F x cs ⟨a, b, off, c, rfl, h1, h2, h3, h4⟩ ha
    refine ⟨a, b, off, c, rfl, h1, h2, h3, fun i hi => ?_⟩
    obtain ⟨es, he, hc⟩ := h4 i hi
    refine ⟨es, S.keep he ha, fun j hj => ?_⟩
    rw [← hc j hj]
    exact cell_agree ha (h3 (by omega)).2
  weak := by
    rintro w F G x cs ⟨a, b, off, c, rfl, h1, h2, h3, h4⟩ ha
    refine ⟨a, b, off, c, rfl, h1, h2, fun h => ⟨(h3 h).1, ha _ (h3 h).2⟩, fun i hi => ?_⟩
    obtain ⟨es, he, hc⟩ := h4 i hi
    exact ⟨es, S.weak he ha, hc⟩
  lt := by
    rintro w F x cs ⟨a, b, off, c, rfl, h1, h2, h3, h4⟩
    refine ⟨a, b, off, c, rfl, h1, h2, fun h => ⟨(h3 h).1, (h3 h).2, ?_⟩, fun i hi => ?_⟩
    · obtain ⟨es, he, hc⟩ := h4 0 h
      have hl := S.len he
      have := hc 0 h0
      rw [List.getElem?_eq_getElem (by omega)] at this
      exact cell_lt this
    · obtain ⟨es, he, hc⟩ := h4 i hi
      exact ⟨es, S.lt he, hc⟩

/-- Opened: a slice of ints. -/
theorem ints_open {w : World} {F : Nat → Prop} {xs : List Int} {cs : List Value} (h : (sliceS intS).rep w F xs cs) :
    ∃ (a : Option Addr) (b off c : Nat), cs = [.slice a xs.length c] ∧ xs.length ≤ c ∧ c ≤ 9223372036854775807 ∧ (0 < xs.length → a = some ⟨b, off, none⟩) ∧ (0 < xs.length → F b) ∧
      (∀ k (h : k < xs.length), w.cell? ⟨b, off + k, none⟩ = some (.int .i64 xs[k])) ∧ ∀ x ∈ xs, wf64 x := by
  obtain ⟨a, b, off, c, rfl, h1, h2, h3, h4⟩ := h
  refine ⟨a, b, off, c, rfl, h1, h2, fun h => (h3 h).1, fun h => (h3 h).2, fun k hk => ?_, fun x hx => ?_⟩
  · obtain ⟨es, ⟨rfl, _⟩, hc⟩ := h4 k hk
    have := hc 0 (by decide)
    simpa [intS, plainS] using this
  · obtain ⟨k, hk, rfl⟩ := List.getElem_of_mem hx
    obtain ⟨es, he, _⟩ := h4 k hk
    exact he.2

theorem bytes_open {w : World} {F : Nat → Prop} {xs : List Int} {cs : List Value} (h : (sliceS u8S).rep w F xs cs) :
    ∃ (a : Option Addr) (b off c : Nat), cs = [.slice a xs.length c] ∧ xs.length ≤ c ∧ c ≤ 9223372036854775807 ∧ (0 < xs.length → a = some ⟨b, off, none⟩) ∧ (0 < xs.length → F b) ∧
      (∀ k (h : k < xs.length), w.cell? ⟨b, off + k, none⟩ = some (.int .u8 xs[k])) ∧ ∀ x ∈ xs, 0 ≤ x ∧ x ≤ 255 := by
  obtain ⟨a, b, off, c, rfl, h1, h2, h3, h4⟩ := h
  refine ⟨a, b, off, c, rfl, h1, h2, fun h => (h3 h).1, fun h => (h3 h).2, fun k hk => ?_, fun x hx => ?_⟩
  · obtain ⟨es, ⟨rfl, _⟩, hc⟩ := h4 k hk
    have := hc 0 (by decide)
    simpa [u8S, plainS] using this
  · obtain ⟨k, hk, rfl⟩ := List.getElem_of_mem hx
    obtain ⟨es, he, _⟩ := h4 k hk
    exact he.2

/-- A slice whose elements are slices (one cell each). -/
theorem rows_open {α : Type} {S : Shape α} {h0 : 0 < S.sz} {w : World} {F : Nat → Prop} {xs : List (List α)} {cs : List Value} (h : (sliceS (sliceS S h0) Nat.one_pos).rep w F xs cs) :
    ∃ (a : Option Addr) (b off c : Nat), cs = [.slice a xs.length c] ∧ xs.length ≤ c ∧ c ≤ 9223372036854775807 ∧ (0 < xs.length → a = some ⟨b, off, none⟩) ∧ (0 < xs.length → F b) ∧
      ∀ k (h : k < xs.length), ∃ v, w.cell? ⟨b, off + k, none⟩ = some v ∧ (sliceS S h0).rep w F xs[k] [v] := by
  obtain ⟨a, b, off, c, rfl, h1, h2, h3, h4⟩ := h
  refine ⟨a, b, off, c, rfl, h1, h2, fun h => (h3 h).1, fun h => (h3 h).2, fun k hk => ?_⟩
  obtain ⟨es, he, hc⟩ := h4 k hk
  have hl := (sliceS S h0).len he
  have := hc 0 Nat.one_pos
  match es, hl with
  | [v], _ => exact ⟨v, by simpa [sliceS] using this, he⟩

/-- A satellite, a customer, a stop, a bike, a plan, an instance. -/
structure SatD where
  room : Int
  hold : Int
  deriving DecidableEq
structure CustD where
  load : Int
  opn : Int
  cls : Int
  stay : Int
  deriving DecidableEq
structure StopD where
  sat : Int
  load : Int
  deriving DecidableEq
structure BikeD where
  sat : Int
  stops : List Int
  deriving DecidableEq
structure PlanD where
  trucks : List (List StopD)
  bikes : List BikeD
  deriving DecidableEq
structure InstD where
  fin : Int
  tmany : Int
  troom : Int
  bmany : Int
  broom : Int
  sats : List SatD
  custs : List CustD
  cost : List (List Int)
  time : List (List Int)
  deriving DecidableEq

def satS : Shape SatD := plainS 2 (fun x cs => cs = [.int .i64 x.room, .int .i64 x.hold] ∧ wf64 x.room ∧ wf64 x.hold) (by rintro x cs ⟨rfl, _⟩; rfl)
def custS : Shape CustD := plainS 4 (fun x cs => cs = [.int .i64 x.load, .int .i64 x.opn, .int .i64 x.cls, .int .i64 x.stay] ∧ wf64 x.load ∧ wf64 x.opn ∧ wf64 x.cls ∧ wf64 x.stay) (by rintro x cs ⟨rfl, _⟩; rfl)
def stopS : Shape StopD := plainS 2 (fun x cs => cs = [.int .i64 x.sat, .int .i64 x.load] ∧ wf64 x.sat ∧ wf64 x.load) (by rintro x cs ⟨rfl, _⟩; rfl)
def bikeS : Shape BikeD where
  sz := 2
  rep := fun w F x cs => ∃ v, cs = [.int .i64 x.sat, v] ∧ wf64 x.sat ∧ (sliceS intS).rep w F x.stops [v]
  len := by rintro w F x cs ⟨v, rfl, _⟩; rfl
  keep := by rintro w w' F x cs ⟨v, rfl, h1, h2⟩ ha; exact ⟨v, rfl, h1, (sliceS intS).keep h2 ha⟩
  weak := by rintro w F G x cs ⟨v, rfl, h1, h2⟩ ha; exact ⟨v, rfl, h1, (sliceS intS).weak h2 ha⟩
  lt := by rintro w F x cs ⟨v, rfl, h1, h2⟩; exact ⟨v, rfl, h1, (sliceS intS).lt h2⟩
def trucksS : Shape (List (List StopD)) := sliceS (sliceS stopS)
def bikesS : Shape (List BikeD) := sliceS bikeS
def planS : Shape PlanD where
  sz := 2
  rep := fun w F x cs => ∃ t b, cs = [t, b] ∧ trucksS.rep w F x.trucks [t] ∧ bikesS.rep w F x.bikes [b]
  len := by rintro w F x cs ⟨t, b, rfl, _⟩; rfl
  keep := by rintro w w' F x cs ⟨t, b, rfl, h1, h2⟩ ha; exact ⟨t, b, rfl, trucksS.keep h1 ha, bikesS.keep h2 ha⟩
  weak := by rintro w F G x cs ⟨t, b, rfl, h1, h2⟩ ha; exact ⟨t, b, rfl, trucksS.weak h1 ha, bikesS.weak h2 ha⟩
  lt := by rintro w F x cs ⟨t, b, rfl, h1, h2⟩; exact ⟨t, b, rfl, trucksS.lt h1, bikesS.lt h2⟩
def satsS : Shape (List SatD) := sliceS satS
def custsS : Shape (List CustD) := sliceS custS
def rowsS : Shape (List (List Int)) := sliceS (sliceS intS)
def instS : Shape InstD where
  sz := 9
  rep := fun w F x cs => ∃ s c co ti, cs = [.int .i64 x.fin, .int .i64 x.tmany, .int .i64 x.troom, .int .i64 x.bmany, .int .i64 x.broom, s, c, co, ti] ∧
    (wf64 x.fin ∧ wf64 x.tmany ∧ wf64 x.troom ∧ wf64 x.bmany ∧ wf64 x.broom) ∧ satsS.rep w F x.sats [s] ∧ custsS.rep w F x.custs [c] ∧ rowsS.rep w F x.cost [co] ∧ rowsS.rep w F x.time [ti]
  len := by rintro w F x cs ⟨_, _, _, _, rfl, _⟩; rfl
  keep := by rintro w w' F x cs ⟨_, _, _, _, rfl, h0, h1, h2, h3, h4⟩ ha; exact ⟨_, _, _, _, rfl, h0, satsS.keep h1 ha, custsS.keep h2 ha, rowsS.keep h3 ha, rowsS.keep h4 ha⟩
  weak := by rintro w F G x cs ⟨_, _, _, _, rfl, h0, h1, h2, h3, h4⟩ ha; exact ⟨_, _, _, _, rfl, h0, satsS.weak h1 ha, custsS.weak h2 ha, rowsS.weak h3 ha, rowsS.weak h4 ha⟩
  lt := by rintro w F x cs ⟨_, _, _, _, rfl, h0, h1, h2, h3, h4⟩; exact ⟨_, _, _, _, rfl, h0, satsS.lt h1, custsS.lt h2, rowsS.lt h3, rowsS.lt h4⟩

theorem sats_open {w : World} {F : Nat → Prop} {xs : List SatD} {cs : List Value} (h : satsS.rep w F xs cs) :
    ∃ (a : Option Addr) (b off c : Nat), cs = [.slice a xs.length c] ∧ xs.length ≤ c ∧ c ≤ 9223372036854775807 ∧ (0 < xs.length → a = some ⟨b, off, none⟩) ∧ (0 < xs.length → F b) ∧
      (∀ k (h : k < xs.length), w.cell? ⟨b, off + k * 2, none⟩ = some (.int .i64 xs[k].room) ∧ w.cell? ⟨b, off + k * 2 + 1, none⟩ = some (.int .i64 xs[k].hold)) ∧ ∀ x ∈ xs, wf64 x.room ∧ wf64 x.hold := by
  obtain ⟨a, b, off, c, rfl, h1, h2, h3, h4⟩ := h
  refine ⟨a, b, off, c, rfl, h1, h2, fun h => (h3 h).1, fun h => (h3 h).2, fun k hk => ?_, fun x hx => ?_⟩
  · obtain ⟨es, ⟨rfl, _⟩, hc⟩ := h4 k hk
    have e0 := hc 0 (by decide)
    have e1 := hc 1 (by decide)
    exact ⟨by simpa [satS, plainS] using e0, by simpa [satS, plainS] using e1⟩
  · obtain ⟨k, hk, rfl⟩ := List.getElem_of_mem hx
    obtain ⟨es, he, _⟩ := h4 k hk
    exact he.2

theorem stops_open {w : World} {F : Nat → Prop} {xs : List StopD} {cs : List Value} (h : (sliceS stopS).rep w F xs cs) :
    ∃ (a : Option Addr) (b off c : Nat), cs = [.slice a xs.length c] ∧ xs.length ≤ c ∧ c ≤ 9223372036854775807 ∧ (0 < xs.length → a = some ⟨b, off, none⟩) ∧ (0 < xs.length → F b) ∧
      (∀ k (h : k < xs.length), w.cell? ⟨b, off + k * 2, none⟩ = some (.int .i64 xs[k].sat) ∧ w.cell? ⟨b, off + k * 2 + 1, none⟩ = some (.int .i64 xs[k].load)) ∧ ∀ x ∈ xs, wf64 x.sat ∧ wf64 x.load := by
  obtain ⟨a, b, off, c, rfl, h1, h2, h3, h4⟩ := h
  refine ⟨a, b, off, c, rfl, h1, h2, fun h => (h3 h).1, fun h => (h3 h).2, fun k hk => ?_, fun x hx => ?_⟩
  · obtain ⟨es, ⟨rfl, _⟩, hc⟩ := h4 k hk
    have e0 := hc 0 (by decide)
    have e1 := hc 1 (by decide)
    exact ⟨by simpa [stopS, plainS] using e0, by simpa [stopS, plainS] using e1⟩
  · obtain ⟨k, hk, rfl⟩ := List.getElem_of_mem hx
    obtain ⟨es, he, _⟩ := h4 k hk
    exact he.2

theorem bikes_open {w : World} {F : Nat → Prop} {xs : List BikeD} {cs : List Value} (h : bikesS.rep w F xs cs) :
    ∃ (a : Option Addr) (b off c : Nat), cs = [.slice a xs.length c] ∧ xs.length ≤ c ∧ c ≤ 9223372036854775807 ∧ (0 < xs.length → a = some ⟨b, off, none⟩) ∧ (0 < xs.length → F b) ∧
      ∀ k (h : k < xs.length), ∃ v, w.cell? ⟨b, off + k * 2, none⟩ = some (.int .i64 xs[k].sat) ∧ w.cell? ⟨b, off + k * 2 + 1, none⟩ = some v ∧ wf64 xs[k].sat ∧ (sliceS intS).rep w F xs[k].stops [v] := by
  obtain ⟨a, b, off, c, rfl, h1, h2, h3, h4⟩ := h
  refine ⟨a, b, off, c, rfl, h1, h2, fun h => (h3 h).1, fun h => (h3 h).2, fun k hk => ?_⟩
  obtain ⟨es, ⟨v, rfl, hw, hr⟩, hc⟩ := h4 k hk
  have e0 := hc 0 (by decide)
  have e1 := hc 1 (by decide)
  exact ⟨v, by simpa [bikeS] using e0, by simpa [bikeS] using e1, hw, hr⟩

theorem custs_open {w : World} {F : Nat → Prop} {xs : List CustD} {cs : List Value} (h : custsS.rep w F xs cs) :
    ∃ (a : Option Addr) (b off c : Nat), cs = [.slice a xs.length c] ∧ xs.length ≤ c ∧ c ≤ 9223372036854775807 ∧ (0 < xs.length → a = some ⟨b, off, none⟩) ∧ (0 < xs.length → F b) ∧
      (∀ k (h : k < xs.length), w.cell? ⟨b, off + k * 4, none⟩ = some (.int .i64 xs[k].load) ∧ w.cell? ⟨b, off + k * 4 + 1, none⟩ = some (.int .i64 xs[k].opn) ∧
        w.cell? ⟨b, off + k * 4 + 2, none⟩ = some (.int .i64 xs[k].cls) ∧ w.cell? ⟨b, off + k * 4 + 3, none⟩ = some (.int .i64 xs[k].stay)) ∧
      ∀ x ∈ xs, wf64 x.load ∧ wf64 x.opn ∧ wf64 x.cls ∧ wf64 x.stay := by
  obtain ⟨a, b, off, c, rfl, h1, h2, h3, h4⟩ := h
  refine ⟨a, b, off, c, rfl, h1, h2, fun h => (h3 h).1, fun h => (h3 h).2, fun k hk => ?_, fun x hx => ?_⟩
  · obtain ⟨es, ⟨rfl, _⟩, hc⟩ := h4 k hk
    have e0 := hc 0 (by decide)
    have e1 := hc 1 (by decide)
    have e2 := hc 2 (by decide)
    have e3 := hc 3 (by decide)
    exact ⟨by simpa [custS, plainS] using e0, by simpa [custS, plainS] using e1, by simpa [custS, plainS] using e2, by simpa [custS, plainS] using e3⟩
  · obtain ⟨k, hk, rfl⟩ := List.getElem_of_mem hx
    obtain ⟨es, he, _⟩ := h4 k hk
    exact he.2

/-- A cell that is there stays there. -/
theorem below_cell {w w' : World} {a : Addr} {v : Value} (hb : Below w.heap.size w w') (h : w.cell? a = some v) : w'.cell? a = some v := by
  rw [hb.cell (cell_lt h)]; exact h

/-- An index within a slice, whatever the slice's address. -/
theorem idx_at {P : Program} {t e : TypeId} {sz : Nat} (ht : P.underlying t = some (.slice e)) (hsz : ∀ w, (sizeOf e).run P w = .ok sz w) {a : Option Addr} {b off n c k : Nat} (ha : a = some ⟨b, off, none⟩) (hk : k < n) :
    ∀ w, (Instr.indexAt t (.slice a n c) (.int .i64 (k : Int))).run P w = .ok (.pointer (some ⟨b, off + k * sz, none⟩)) w := by
  intro w
  subst ha
  have he : P.elem t = e := by simp [Program.elem, ht]
  have ht' : P.underlying t = some (.slice (P.elem t)) := by rw [he]; exact ht
  rw [run_indexAt_slice w t _ _ _ _ _ ht', if_pos ⟨by omega, by omega⟩, he, hsz]
  simp only [Result.andThen]
  congr 3
  simp [Addr.add]
theorem idx_at1 {P : Program} {t e : TypeId} (ht : P.underlying t = some (.slice e)) (hsz : ∀ w, (sizeOf e).run P w = .ok 1 w) {a : Option Addr} {b off n c k : Nat} (ha : a = some ⟨b, off, none⟩) (hk : k < n) :
    ∀ w, (Instr.indexAt t (.slice a n c) (.int .i64 (k : Int))).run P w = .ok (.pointer (some ⟨b, off + k, none⟩)) w := by
  have h := idx_at ht hsz (c := c) ha hk
  simpa only [Nat.mul_one] using h

/-- The ways through a chain of '&&'. -/
theorem chain2 (p q : Bool) : p = false ∨ (p = true ∧ q = false) ∨ (p = true ∧ q = true) := by cases p <;> cases q <;> simp
theorem chain3 (p q r : Bool) : p = false ∨ (p = true ∧ q = false) ∨ (p = true ∧ q = true ∧ r = false) ∨ (p = true ∧ q = true ∧ r = true) := by cases p <;> cases q <;> cases r <;> simp
theorem chain4 (p q r s : Bool) : p = false ∨ (p = true ∧ q = false) ∨ (p = true ∧ q = true ∧ r = false) ∨ (p = true ∧ q = true ∧ r = true ∧ s = false) ∨ (p = true ∧ q = true ∧ r = true ∧ s = true) := by
  cases p <;> cases q <;> cases r <;> cases s <;> simp
theorem chain5 (p q r s t : Bool) : p = false ∨ (p = true ∧ q = false) ∨ (p = true ∧ q = true ∧ r = false) ∨ (p = true ∧ q = true ∧ r = true ∧ s = false) ∨ (p = true ∧ q = true ∧ r = true ∧ s = true ∧ t = false) ∨
    (p = true ∧ q = true ∧ r = true ∧ s = true ∧ t = true) := by
  cases p <;> cases q <;> cases r <;> cases s <;> cases t <;> simp

theorem below_step {a w w' : World} (h : Below a.heap.size a w) (hb : Below w.heap.size w w') : Below a.heap.size a w' := h.trans (hb.mono h.size)

/-- A contract's value, named otherwise. -/
theorem Calls.val {P : Program} {f : FuncId} {args : Array Value} {w : World} {R : World → Prop} {v v' : Value} (h : Calls P f args w fun e w' => e = .returned v ∧ R w') (hv : v = v') :
    Calls P f args w fun e w' => e = .returned v' ∧ R w' := hv ▸ h
theorem Calls.bool {P : Program} {f : FuncId} {args : Array Value} {w : World} {R : World → Prop} {b b' : Bool} (h : Calls P f args w fun e w' => e = .returned (.bool b) ∧ R w') (hb : b = b') :
    Calls P f args w fun e w' => e = .returned (.bool b') ∧ R w' := hb ▸ h

theorem ret_bool {a b : Bool} (h : a = b) : Ending.returned (.bool a) = .returned (.bool b) := by rw [h]
theorem ret_int {k : IntKind} {a b : Int} (h : a = b) : Ending.returned (.int k a) = .returned (.int k b) := by rw [h]
theorem all_take_succ {α : Type} (p : α → Bool) (l : List α) (k : Nat) (h : k < l.length) : (l.take (k + 1)).all p = ((l.take k).all p && p l[k]) := by
  rw [List.take_succ_eq_append_getElem h, List.all_append]; simp
end Go.Proofs.Ytafhjfkdlmijdaa
/- Contracts of package inst's small functions: may, many, Nodes, square. -/
namespace Go.Proofs.Ytafhjfkdlmijdaa
open Go.RowKit

/-- inst.may -/
def mayB (n l : Int) : Bool := decide (l ≤ n) && decide (n ≤ 1000000000)
theorem may_c (n l : Int) (w : World) :
    Calls Try.prog 88 #[.int .i64 n, .int .i64 l] w fun e w' => e = .returned (.bool (mayB n l)) ∧ w' = w := by
  by_cases h1 : l ≤ n <;> by_cases h2 : n ≤ 1000000000
  all_goals
    go_enter Try.func88, Try.ntmps88
    go_wp2
    go_ret
    exact ⟨ret_bool (by simp [mayB]; omega), rfl⟩

/-- inst.Check's 'many' -/
def manyB (n m : Int) : Bool := decide (1 ≤ n) && decide (n ≤ m)
theorem many_c (n m : Int) (w : World) :
    Calls Try.prog 51 #[.int .i64 n, .int .i64 m] w fun e w' => e = .returned (.bool (manyB n m)) ∧ w' = w := by
  by_cases h1 : 1 ≤ n <;> by_cases h2 : n ≤ m
  all_goals
    go_enter Try.func51, Try.ntmps51
    go_wp2
    go_ret
    exact ⟨ret_bool (by simp [manyB]; omega), rfl⟩

def nodes (x : InstD) : Nat := 1 + x.sats.length + x.custs.length
/-- inst.Instance.Nodes; wraps at lengths beyond any machine. -/
theorem nodes_c {w : World} {F : Nat → Prop} {x : InstD} {cs : List Value} (h : instS.rep w F x cs) (hl : x.sats.length ≤ 1000000) (hl' : x.custs.length ≤ 1000000) :
    Calls Try.prog 53 #[.agg cs.toArray] w fun e w' => e = .returned (.int .i64 (nodes x : Nat)) ∧ Below w.heap.size w w' := by
  obtain ⟨s, c, co, ti, rfl, -, h1, h2, -, -⟩ := h
  obtain ⟨a, b, off, c1, hs, -, -, -, -, -, -⟩ := sats_open h1
  obtain ⟨a', b', off', c1', hs', -, -, -, -, -, -⟩ := custs_open h2
  obtain rfl := List.cons.inj hs |>.1
  obtain rfl := List.cons.inj hs' |>.1
  clear hs hs' h1 h2
  go_enter Try.func53, Try.ntmps53
  go_wp2
  go_ret
  exact ⟨ret_int (by simp [nodes]), (Below.refl _ _).alloc (Nat.le_refl _) _⟩

/-- inst.square's test of one row -/
theorem square1_c {w : World} {F : Nat → Prop} {r : List Int} {v : Value} (h : (sliceS intS).rep w F r [v]) (q : Nat) (n : Int) (hq : w.cell? ⟨q, 0, none⟩ = some (.int .i64 n)) :
    Calls Try.prog 87 #[v, .pointer (some ⟨q, 0, none⟩)] w fun e w' => e = .returned (.bool ((r.length : Int) != n)) ∧ w' = w := by
  obtain ⟨a, b, off, c1, hs, -, -, -, -, -, -⟩ := ints_open h
  obtain rfl := List.cons.inj hs |>.1
  clear hs h
  go_enter Try.func87, Try.ntmps87
  go_wp2
  go_ret
  exact ⟨rfl, rfl⟩
end Go.Proofs.Ytafhjfkdlmijdaa
/- Closed facts on the types' sizes. -/
namespace Go.Proofs.Ytafhjfkdlmijdaa
theorem sz_int : ∀ w, (sizeOf 3).run Try.prog w = .ok 1 w := fun w => by kernel_rfl
theorem sz_i64 : ∀ w, (sizeOf 2).run Try.prog w = .ok 1 w := fun w => by kernel_rfl
theorem sz_u8 : ∀ w, (sizeOf 5).run Try.prog w = .ok 1 w := fun w => by kernel_rfl
theorem sz_row : ∀ w, (sizeOf 34).run Try.prog w = .ok 1 w := fun w => by kernel_rfl
theorem sz_sat : ∀ w, (sizeOf 38).run Try.prog w = .ok 2 w := fun w => by kernel_rfl
theorem sz_cust : ∀ w, (sizeOf 112).run Try.prog w = .ok 4 w := fun w => by kernel_rfl
theorem sz_stop : ∀ w, (sizeOf 105).run Try.prog w = .ok 2 w := fun w => by kernel_rfl
theorem sz_truck : ∀ w, (sizeOf 108).run Try.prog w = .ok 1 w := fun w => by kernel_rfl
theorem sz_bike : ∀ w, (sizeOf 128).run Try.prog w = .ok 2 w := fun w => by kernel_rfl
theorem sz_lsat : ∀ w, (sizeOf 103).run Try.prog w = .ok 2 w := fun w => by kernel_rfl
theorem sz_lwho : ∀ w, (sizeOf 110).run Try.prog w = .ok 4 w := fun w => by kernel_rfl
end Go.Proofs.Ytafhjfkdlmijdaa
/- Contracts: slices.IndexFunc, ContainsFunc at inst.square's test; inst.square. -/
namespace Go.Proofs.Ytafhjfkdlmijdaa
open Go.RowKit

def idxOf {α : Type} (p : α → Bool) (l : List α) : Int := match l.findIdx? p with | some i => (i : Int) | none => -1
theorem idx_hit {α : Type} {p : α → Bool} {l : List α} {k : Nat} (hk : k < l.length) (h0 : ∀ j (h : j < k), p (l[j]'(Nat.lt_trans h hk)) = false) (h : p l[k] = true) : idxOf p l = k := by
  unfold idxOf
  have : l.findIdx? p = some k := List.findIdx?_eq_some_iff_getElem.2 ⟨hk, h, fun j hj => by simpa using h0 j hj⟩
  rw [this]
theorem idx_none {α : Type} {p : α → Bool} {l : List α} (h0 : ∀ j (h : j < l.length), p l[j] = false) : idxOf p l = -1 := by
  unfold idxOf
  have : l.findIdx? p = none := List.findIdx?_eq_none_iff.2 fun x hx => by
    obtain ⟨j, hj, rfl⟩ := List.getElem_of_mem hx
    exact h0 j hj
  rw [this]
theorem idx_ge {α : Type} (p : α → Bool) (l : List α) : decide (0 ≤ idxOf p l) = l.any p := by
  unfold idxOf
  cases h : l.findIdx? p with
  | none =>
    rw [List.findIdx?_eq_none_iff] at h
    have : l.any p = false := by
      rw [List.any_eq_false]; intro x hx; simp [h x hx]
    rw [this]; rfl
  | some i =>
    obtain ⟨hi, hp, _⟩ := List.findIdx?_eq_some_iff_getElem.1 h
    have : l.any p = true := List.any_eq_true.2 ⟨l[i], List.getElem_mem hi, hp⟩
    rw [this]; simp

set_option maxHeartbeats 400000 in
theorem indexRows_c {w : World} {F : Nat → Prop} {l : List (List Int)} {v : Value} (h : rowsS.rep w F l [v]) (q : Nat) (n : Int) (hq : w.cell? ⟨q, 0, none⟩ = some (.int .i64 n)) :
    Calls Try.prog 109 #[v, .func (.func 87) #[] #[.pointer (some ⟨q, 0, none⟩)]] w fun e w' => e = .returned (.int .i64 (idxOf (fun r : List Int => (r.length : Int) != n) l)) ∧ w' = w := by
  obtain ⟨a, b, off, c1, hs, hlc, hc, ha, hF, hcell⟩ := rows_open h
  obtain rfl := List.cons.inj hs |>.1
  clear hs h
  go_enter Try.func109, Try.ntmps109
  go_wp2
  go_loop [5, 8] (fun _ i => ∃ k : Nat, k ≤ l.length ∧ i = .int .i64 k ∧ ∀ j (h : j < l.length), j < k → ((l[j].length : Int) != n) = false) (fun _ i => l.length - (intOf i).toNat)
  case atStart => exact ⟨0, Nat.zero_le _, rfl, fun _ _ h => absurd h (Nat.not_lt_zero _)⟩
  case round =>
    obtain ⟨k, hk, rfl, hp⟩ := hrel
    by_cases hlt : k < l.length
    · have hx := idx_at1 (c := c1) Try.underlying31 sz_row (ha (by omega)) hlt
      obtain ⟨v, hv, hr⟩ := hcell k hlt
      have HP := hid hp
      clear hp hcell ha
      cases hpk : ((l[k].length : Int) != n)
      · go_wp2_with ((with_reducible refine (square1_c hr q n hq).mono ?_); rintro e w' ⟨rfl, rfl⟩)
        go_round
        case rel => exact ⟨k + 1, by omega, by go_num, fun j hj hjk => by
          by_cases hjk' : j = k
          · subst hjk'; exact hpk
          · exact HP.out j hj (by omega)⟩
        case measure => simp [intOf]; omega
      · go_wp2_with ((with_reducible refine (square1_c hr q n hq).mono ?_); rintro e w' ⟨rfl, rfl⟩)
        go_ret
        exact ⟨ret_int (idx_hit (p := fun r : List Int => (r.length : Int) != n) hlt (fun j hj => HP.out j (by omega) hj) hpk).symm, rfl⟩
    · have HP := hid hp
      clear hp hcell ha
      go_wp2
      go_ret
      exact ⟨ret_int (idx_none (p := fun r : List Int => (r.length : Int) != n) (fun j hj => HP.out j hj (by omega))).symm, rfl⟩

theorem containsRows_c {w : World} {F : Nat → Prop} {l : List (List Int)} {v : Value} (h : rowsS.rep w F l [v]) (q : Nat) (n : Int) (hq : w.cell? ⟨q, 0, none⟩ = some (.int .i64 n)) :
    Calls Try.prog 86 #[v, .func (.func 87) #[] #[.pointer (some ⟨q, 0, none⟩)]] w fun e w' => e = .returned (.bool (l.any (fun r : List Int => (r.length : Int) != n))) ∧ w' = w := by
  go_enter Try.func86, Try.ntmps86
  go_wp2_with ((with_reducible refine (indexRows_c h q n hq).mono ?_); rintro e w' ⟨rfl, rfl⟩)
  go_ret
  exact ⟨ret_bool (idx_ge _ _), rfl⟩

/-- inst.square: so many rows of as many numbers. -/
def squareB (l : List (List Int)) (n : Int) : Bool := ((l.length : Int) == n) && !(l.any (fun r : List Int => (r.length : Int) != n))
theorem square_c {w : World} {F : Nat → Prop} {l : List (List Int)} {v : Value} (h : rowsS.rep w F l [v]) (n : Int) :
    Calls Try.prog 52 #[v, .int .i64 n] w fun e w' => e = .returned (.bool (squareB l n)) ∧ Below w.heap.size w w' := by
  obtain ⟨a, b, off, c1, hs, -, -, -, -, -⟩ := rows_open h
  obtain rfl := List.cons.inj hs |>.1
  clear hs
  have hb : Below w.heap.size w (w.alloc (.cells #[.int .i64 n] 3)) := (Below.refl _ _).alloc (Nat.le_refl _) _
  have h' := rowsS.below h hb
  have hq : (w.alloc (.cells #[.int .i64 n] 3)).cell? ⟨w.heap.size, 0, none⟩ = some (.int .i64 n) := by simp
  cases hn : ((l.length : Int) == n)
  · go_enter Try.func52, Try.ntmps52
    go_wp2
    go_ret
    exact ⟨ret_bool (by simp [squareB, hn]), hb⟩
  · go_enter Try.func52, Try.ntmps52
    go_wp2_with ((with_reducible refine (containsRows_c h' w.heap.size n hq).mono ?_); rintro e w' ⟨rfl, rfl⟩)
    go_ret
    exact ⟨ret_bool (by simp [squareB, hn]), hb⟩
theorem square_b {w : World} {F : Nat → Prop} {l : List (List Int)} {v : Value} (h : rowsS.rep w F l [v]) {n : Int} {b : Bool} (hb : squareB l n = b) :
    Calls Try.prog 52 #[v, .int .i64 n] w fun e w' => e = .returned (.bool b) ∧ Below w.heap.size w w' := by
  subst hb; exact square_c h n
end Go.Proofs.Ytafhjfkdlmijdaa
/- Contract: inst.Instance.numbers. -/
namespace Go.Proofs.Ytafhjfkdlmijdaa
open Go.RowKit

def satB (s : SatD) : Bool := mayB s.room 0 && mayB s.hold 0
def custB (c : CustD) : Bool := mayB c.load 1 && mayB c.opn 0 && mayB c.cls c.opn && mayB c.stay 0
def cellB (i k : Nat) (n : Int) : Bool := mayB n 0 && (((i : Int) != (k : Int)) || n == 0)
def rowB (i : Nat) (r : List Int) (m : Nat) : Bool := (List.range m).all fun k => cellB i k (r.getD k 0)
def matB (l : List (List Int)) (m : Nat) : Bool := (List.range m).all fun i => rowB i (l.getD i []) (l.getD i []).length
def headB (x : InstD) : Bool := mayB x.fin 0 && mayB x.troom 0 && mayB x.broom 0
def numbersB (x : InstD) : Bool := headB x && x.sats.all satB && x.custs.all custB && matB x.cost x.cost.length && matB x.time x.time.length

theorem rowB_succ (i : Nat) (r : List Int) (k : Nat) (h : k < r.length) : rowB i r (k + 1) = (rowB i r k && cellB i k r[k]) := by
  unfold rowB; rw [List.range_succ, List.all_append]; simp [List.getD, List.getElem?_eq_getElem h]
theorem matB_succ (l : List (List Int)) (k : Nat) (h : k < l.length) : matB l (k + 1) = (matB l k && rowB k l[k] l[k].length) := by
  unfold matB; rw [List.range_succ, List.all_append]; simp [List.getD, List.getElem?_eq_getElem h]

/-- What the first two loops come to. -/
def okSats (x : InstD) (k : Nat) : Bool := headB x && (x.sats.take k).all satB
def okCusts (x : InstD) (k : Nat) : Bool := okSats x x.sats.length && (x.custs.take k).all custB
theorem okSats_succ (x : InstD) (k : Nat) (h : k < x.sats.length) : okSats x (k + 1) = (okSats x k && satB x.sats[k]) := by
  unfold okSats; rw [all_take_succ _ _ _ h, Bool.and_assoc]
theorem okCusts_succ (x : InstD) (k : Nat) (h : k < x.custs.length) : okCusts x (k + 1) = (okCusts x k && custB x.custs[k]) := by
  unfold okCusts; rw [all_take_succ _ _ _ h, Bool.and_assoc]
def matOf (x : InstD) (k : Nat) : List (List Int) := if k = 0 then x.cost else x.time
def okMats (x : InstD) (k : Nat) : Bool := okCusts x x.custs.length && (List.range k).all fun j => matB (matOf x j) (matOf x j).length
theorem okMats_succ (x : InstD) (k : Nat) : okMats x (k + 1) = (okMats x k && matB (matOf x k) (matOf x k).length) := by
  unfold okMats; rw [List.range_succ, List.all_append, ← Bool.and_assoc]; simp
theorem okMats_two (x : InstD) : okMats x 2 = numbersB x := by
  simp [okMats, okCusts, okSats, numbersB, matOf, List.range_succ, Bool.and_assoc]

theorem chainCell (p q r s : Bool) : p = false ∨ (p = true ∧ q = false) ∨ (p = true ∧ q = true ∧ r = true) ∨ (p = true ∧ q = true ∧ r = false ∧ s = false) ∨ (p = true ∧ q = true ∧ r = false ∧ s = true) := by
  cases p <;> cases q <;> cases r <;> cases s <;> simp
def okRow (x : InstD) (j i : Nat) (l : List (List Int)) : Bool := okMats x j && matB l i
def okCell (x : InstD) (j i k : Nat) (l : List (List Int)) (r : List Int) : Bool := okRow x j i l && rowB i r k
theorem okRow_succ (x : InstD) (j i : Nat) (l : List (List Int)) (h : i < l.length) : okRow x j (i + 1) l = okCell x j i l[i].length l l[i] := by
  unfold okCell okRow; rw [matB_succ _ _ h, Bool.and_assoc]
theorem okCell_succ (x : InstD) (j i k : Nat) (l : List (List Int)) (r : List Int) (h : k < r.length) : okCell x j i (k + 1) l r = (okCell x j i k l r && cellB i k r[k]) := by
  unfold okCell; rw [rowB_succ _ _ _ h, Bool.and_assoc]

set_option maxRecDepth 100000 in
set_option maxHeartbeats 1600000 in
theorem numbers_c {w : World} {F : Nat → Prop} {x : InstD} {cs : List Value} (h : instS.rep w F x cs) :
    Calls Try.prog 54 #[.agg cs.toArray] w fun e w' => e = .returned (.bool (numbersB x)) ∧ Below w.heap.size w w' := by
  obtain ⟨s, c, co, ti, rfl, -, h1, h2, h3, h4⟩ := h
  obtain ⟨a, b, off, c1, hs, hlc, hc, ha, -, hcell, -⟩ := sats_open h1
  obtain ⟨a', b', off', c1', hs', hlc', hc', ha', -, hcell', -⟩ := custs_open h2
  obtain rfl := List.cons.inj hs |>.1
  obtain rfl := List.cons.inj hs' |>.1
  obtain ⟨a3, b3, off3, c3, hs3, hlc3, hc3, ha3, -, hcell3⟩ := rows_open h3
  obtain ⟨a4, b4, off4, c4, hs4, hlc4, hc4, ha4, -, hcell4⟩ := rows_open h4
  obtain rfl := List.cons.inj hs3 |>.1
  obtain rfl := List.cons.inj hs4 |>.1
  clear hs hs' h1 h2 hs3 hs4 h3 h4
  have hst : okSats x 0 = headB x := by simp [okSats]
  have HST := hid hst
  clear hst
  go_enter Try.func54, Try.ntmps54
  go_upto_region 1 with fail
  go_cut [3] (fun s3 wx => s3 = .bool (okSats x 0) ∧ Below w.heap.size w wx ∧ w.heap.size < wx.heap.size ∧ wx.cell? ⟨w.heap.size, 5, none⟩ = some (.slice a x.sats.length c1) ∧
    wx.cell? ⟨w.heap.size, 6, none⟩ = some (.slice a' x.custs.length c1') ∧ wx.cell? ⟨w.heap.size, 7, none⟩ = some (.slice a3 x.cost.length c3) ∧ wx.cell? ⟨w.heap.size, 8, none⟩ = some (.slice a4 x.time.length c4))
  case first =>
    cases e1 : mayB x.fin 0 <;> cases e2 : mayB x.troom 0 <;> cases e3 : mayB x.broom 0
    all_goals
      have HH : Hid (headB x = (mayB x.fin 0 && mayB x.troom 0 && mayB x.broom 0)) := rfl
      go_wp2_with ((with_reducible refine (may_c _ _ _).mono ?_); rintro e w' ⟨rfl, rfl⟩)
      go_meet
      exact ⟨by rw [HST.out, HH.out, e1, e2, e3]; rfl, (Below.refl _ _).alloc (Nat.le_refl _) _, by simp, by simp, by simp, by simp, by simp⟩
  case rest =>
    obtain ⟨rfl, hb0, hz, q3, q4, q5, q6⟩ := hcut
    clear HST
    obtain ⟨w0, rfl⟩ : ∃ w0 : World, w0 = wc := ⟨_, rfl⟩
    go_wp2
    go_loopw [3, 32] (fun ok i wr => ∃ k : Nat, k ≤ x.sats.length ∧ i = .int .i64 k ∧ ok = .bool (okSats x k) ∧ Below w0.heap.size w0 wr) (fun _ i _ => x.sats.length - (intOf i).toNat)
    case atStart => exact ⟨0, Nat.zero_le _, rfl, rfl, Below.refl _ _⟩
    case round =>
      obtain ⟨k, hk, rfl, rfl, hb⟩ := hrel
      by_cases hlt : k < x.sats.length
      · have hx := idx_at (c := c1) Try.underlying29 sz_sat (ha (by omega)) hlt
        have g0 := below_cell (hb0.trans (hb.mono (by omega))) (hcell k hlt).1
        have g1 := below_cell (hb0.trans (hb.mono (by omega))) (hcell k hlt).2
        have HS := hid (okSats_succ x k hlt)
        have HB : Hid (satB x.sats[k] = (mayB x.sats[k].room 0 && mayB x.sats[k].hold 0)) := rfl
        clear hcell hcell' ha ha'
        cases e0 : okSats x k <;> cases e1 : mayB x.sats[k].room 0 <;> cases e2 : mayB x.sats[k].hold 0
        all_goals
          go_wp2_with ((with_reducible refine (may_c _ _ _).mono ?_); rintro e w' ⟨rfl, rfl⟩)
          go_roundw
          case rel => exact ⟨k + 1, by omega, by go_num, by rw [HS.out, HB.out, e0, e1, e2]; rfl, (hb.alloc hb.size _)⟩
          case measure => simp [intOf]; omega
      · have hks : k = x.sats.length := by omega
        subst hks
        clear hcell ha
        have hb1 := hb0.trans (hb.mono (by omega))
        have r4 := below_cell hb q4
        have r5 := below_cell hb q5
        have r6 := below_cell hb q6
        have hz1 : w.heap.size < wr.heap.size := Nat.lt_of_lt_of_le hz hb.size
        clear q3 q4 q5 q6 hz hb0 hb
        go_wp2
        obtain ⟨w1, rfl⟩ : ∃ w1 : World, w1 = wr := ⟨_, rfl⟩
        have HC0 : okSats x x.sats.length = okCusts x 0 := by simp [okCusts]
        rw [HC0]
        clear HC0
        go_loopw [3, 51] (fun ok i wr => ∃ k : Nat, k ≤ x.custs.length ∧ i = .int .i64 k ∧ ok = .bool (okCusts x k) ∧ Below w1.heap.size w1 wr) (fun _ i _ => x.custs.length - (intOf i).toNat)
        case atStart => exact ⟨0, Nat.zero_le _, rfl, rfl, Below.refl _ _⟩
        case round =>
          obtain ⟨k, hk, rfl, rfl, hb⟩ := hrel
          by_cases hlt : k < x.custs.length
          · have hx := idx_at (c := c1') Try.underlying30 sz_cust (ha' (by omega)) hlt
            have g0 := below_cell (hb1.trans (hb.mono (by omega))) (hcell' k hlt).1
            have g1 := below_cell (hb1.trans (hb.mono (by omega))) (hcell' k hlt).2.1
            have g2 := below_cell (hb1.trans (hb.mono (by omega))) (hcell' k hlt).2.2.1
            have g3 := below_cell (hb1.trans (hb.mono (by omega))) (hcell' k hlt).2.2.2
            have HS := hid (okCusts_succ x k hlt)
            have HB : Hid (custB x.custs[k] = (mayB x.custs[k].load 1 && mayB x.custs[k].opn 0 && mayB x.custs[k].cls x.custs[k].opn && mayB x.custs[k].stay 0)) := rfl
            clear hcell' ha' r4 r5 r6
            rcases chain5 (okCusts x k) (mayB x.custs[k].load 1) (mayB x.custs[k].opn 0) (mayB x.custs[k].cls x.custs[k].opn) (mayB x.custs[k].stay 0) with e0 | ⟨e0, e1⟩ | ⟨e0, e1, e2⟩ | ⟨e0, e1, e2, e3⟩ | ⟨e0, e1, e2, e3, e4⟩ | ⟨e0, e1, e2, e3, e4⟩
            all_goals
              go_wp2_with ((with_reducible refine (may_c _ _ _).mono ?_); rintro e w' ⟨rfl, rfl⟩)
              go_roundw
              case rel => exact ⟨k + 1, by omega, by go_num, by rw [HS.out, HB.out]; first | (rw [e0]; rfl) | (rw [e0, e1]; rfl) | (rw [e0, e1, e2]; rfl) | (rw [e0, e1, e2, e3]; rfl) | (rw [e0, e1, e2, e3, e4]; rfl), (hb.alloc hb.size _)⟩
              case measure => simp [intOf]; omega
          · have hks : k = x.custs.length := by omega
            subst hks
            clear hcell' ha' r4
            have hb2 := hb1.trans (hb.mono (by omega))
            have q5 := below_cell hb r5
            have q6 := below_cell hb r6
            have hz2 : w.heap.size < wr.heap.size := Nat.lt_of_lt_of_le hz1 hb.size
            clear r5 r6 hz1 hb1 hb
            go_wp2
            obtain ⟨w2, rfl⟩ : ∃ w2 : World, w2 = wr := ⟨_, rfl⟩
            have HM0 : okCusts x x.custs.length = okMats x 0 := by simp [okMats]
            rw [HM0]
            clear HM0
            go_loop [3, 84] (fun ok i => ∃ j : Nat, j ≤ 2 ∧ i = .int .i64 j ∧ ok = .bool (okMats x j)) (fun _ i => 2 - (intOf i).toNat)
            case atStart => exact ⟨0, by omega, rfl, rfl⟩
            case round =>
              obtain ⟨j, hj, rfl, rfl⟩ := hrel
              by_cases hlt : j < 2
              · have hm : ∃ (l : List (List Int)) (am : Option Addr) (bm offm cm : Nat), l = matOf x j ∧ (∀ w', (Instr.index 164 (.agg #[.slice a3 x.cost.length c3, .slice a4 x.time.length c4]) (.int .i64 (j : Int))).run Try.prog w' = .ok (.slice am l.length cm) w') ∧
                    l.length ≤ cm ∧ cm ≤ 9223372036854775807 ∧ (0 < l.length → am = some ⟨bm, offm, none⟩) ∧ ∀ k (h : k < l.length), ∃ v, w2.cell? ⟨bm, offm + k, none⟩ = some v ∧ (sliceS intS).rep w2 F l[k] [v] := by
                  have hj2 : j = 0 ∨ j = 1 := by omega
                  rcases hj2 with rfl | rfl
                  · exact ⟨x.cost, a3, b3, off3, c3, rfl, fun _ => by kernel_rfl, hlc3, hc3, ha3, fun k h => let ⟨v, h1, h2⟩ := hcell3 k h; ⟨v, below_cell hb2 h1, (sliceS intS).below h2 hb2⟩⟩
                  · exact ⟨x.time, a4, b4, off4, c4, rfl, fun _ => by kernel_rfl, hlc4, hc4, ha4, fun k h => let ⟨v, h1, h2⟩ := hcell4 k h; ⟨v, below_cell hb2 h1, (sliceS intS).below h2 hb2⟩⟩
                obtain ⟨l, am, bm, offm, cm, hl, hix, hlm, hcm, ham, hcm'⟩ := hm
                have HL := hid hl
                clear hl ha3 ha4 hcell3 hcell4
                have HR0 : okMats x j = okRow x j 0 l := by simp [okRow, matB]
                rw [HR0]
                go_wp2
                go_loop [3, 89] (fun ok i => ∃ k : Nat, k ≤ l.length ∧ i = .int .i64 k ∧ ok = .bool (okRow x j k l)) (fun _ i => l.length - (intOf i).toNat)
                case atStart => exact ⟨0, by omega, rfl, rfl⟩
                case round =>
                  obtain ⟨k, hk, rfl, rfl⟩ := hrel
                  by_cases hlt2 : k < l.length
                  · have hx := idx_at1 (c := cm) Try.underlying31 sz_row (ham (by omega)) hlt2
                    obtain ⟨v, hv, hr⟩ := hcm' k hlt2
                    have HS := hid (okRow_succ x j k l hlt2)
                    have HC0 : okRow x j k l = okCell x j k 0 l l[k] := by simp [okCell, rowB]
                    rw [HC0]
                    clear hcm' ham HC0
                    obtain ⟨r, hr'⟩ : ∃ r, r = l[k] := ⟨_, rfl⟩
                    rw [← hr'] at hr
                    rw [← hr']
                    obtain ⟨ar, br, offr, cr, hsr, hlr, hcr, har, -, hcr2, -⟩ := ints_open hr
                    obtain rfl := List.cons.inj hsr |>.1
                    have HR := hid hr'
                    clear hsr hr hr'
                    go_wp2
                    go_loop [3, 96] (fun ok i => ∃ m : Nat, m ≤ r.length ∧ i = .int .i64 m ∧ ok = .bool (okCell x j k m l r)) (fun _ i => r.length - (intOf i).toNat)
                    case atStart => exact ⟨0, by omega, rfl, rfl⟩
                    case round =>
                      obtain ⟨m, hm, rfl, rfl⟩ := hrel
                      by_cases hlt3 : m < r.length
                      · have hx3 := idx_at1 (c := cr) Try.underlying34 sz_i64 (har (by omega)) hlt3
                        have g := hcr2 m hlt3
                        have HS3 := hid (okCell_succ x j k m l r hlt3)
                        have HB3 : Hid (cellB k m r[m] = (mayB r[m] 0 && (((k : Int) != (m : Int)) || r[m] == 0))) := rfl
                        clear hcr2 har
                        rcases chainCell (okCell x j k m l r) (mayB r[m] 0) ((k : Int) != (m : Int)) (r[m] == 0) with e0 | ⟨e0, e1⟩ | ⟨e0, e1, e2⟩ | ⟨e0, e1, e2, e3⟩ | ⟨e0, e1, e2, e3⟩
                        all_goals
                          go_wp2_with ((with_reducible refine (may_c _ _ _).mono ?_); rintro e w' ⟨rfl, rfl⟩)
                          go_round
                          case rel => exact ⟨m + 1, by omega, by go_num, by rw [HS3.out, HB3.out]; first | (rw [e0]; rfl) | (rw [e0, e1]; rfl) | (rw [e0, e1, e2]; rfl) | (rw [e0, e1, e2, e3]; rfl)⟩
                          case measure => simp [intOf]; omega
                      · have hmr : m = r.length := by omega
                        subst hmr
                        clear hcr2 har
                        go_wp2
                        go_round
                        case rel => exact ⟨k + 1, by omega, by go_num, by rw [HS.out, ← HR.out]⟩
                        case measure => simp [intOf]; omega
                  · have hkl : k = l.length := by omega
                    subst hkl
                    have HN : Hid (okMats x (j + 1) = okRow x j l.length l) := by rw [okMats_succ]; unfold okRow; rw [HL.out]; rfl
                    clear hcm' ham
                    go_wp2
                    go_round
                    case rel => exact ⟨j + 1, by omega, by go_num, by rw [HN.out]⟩
                    case measure => simp [intOf]; omega
              · have hj2 : j = 2 := by omega
                subst hj2
                have HE := hid (okMats_two x)
                go_wp2
                go_ret
                exact ⟨ret_bool HE.out, hb2⟩
end Go.Proofs.Ytafhjfkdlmijdaa
/- A region that draws its order, whose callees lay memory of their own and hand back plain values: one walk in the text's order. -/
namespace Go.Proofs.Ytafhjfkdlmijdaa
open Go.RowKit

/-- A world behind W: nothing that was there has changed. -/
structure Ext (W : World) where
  val : World
  ok : Below W.heap.size W val

instance (W : World) : Nonempty (Ext W) := ⟨⟨W, Below.refl _ _⟩⟩

theorem wp_region_ext {P : Program} {id : Nat} {Q : Exit → Act → World → Prop} {a : Act} {w : World} {l : List Oper} (hm : P.follows .mixedOrders = true) (hB : Region.lexB .any l.toArray = true)
    (h : wpQuiet P l.toArray (fun w' => ∃ e : Ext w, w' = e.val) (fun a' => ∀ w', (∃ e : Ext w, w' = e.val) → Q .normal a' w') l a) : (Code.region id l.toArray true).wp P Q a w :=
  wp_region_quiet (C := fun w' => ∃ e : Ext w, w' = e.val) hm hB ⟨⟨{ w with drawn := w.drawn + 1 }, Below.drew (Below.refl _ _)⟩, rfl⟩ (by simpa only [List.toList_toArray] using h)
theorem Calls.ext {P : Program} {f : FuncId} {args : Array Value} {W : World} {x : Ext W} {v : Value}
    (h : Calls P f args x.val fun e w' => e = .returned v ∧ Below x.val.heap.size x.val w') : Calls P f args x.val fun e w'' => e = .returned v ∧ ∃ y : Ext W, w'' = y.val :=
  h.mono fun _ w' ⟨he, hb⟩ => ⟨he, ⟨w', x.ok.trans (hb.mono x.ok.size)⟩, rfl⟩
theorem Calls.ext_same {P : Program} {f : FuncId} {args : Array Value} {W : World} {x : Ext W} {v : Value}
    (h : Calls P f args x.val fun e w' => e = .returned v ∧ w' = x.val) : Calls P f args x.val fun e w'' => e = .returned v ∧ ∃ y : Ext W, w'' = y.val :=
  h.mono fun _ _ ⟨he, hb⟩ => ⟨he, x, hb⟩
theorem Ext.cell {W : World} (x : Ext W) {a : Addr} {v : Value} (h : W.cell? a = some v) : x.val.cell? a = some v := below_cell x.ok h
end Go.Proofs.Ytafhjfkdlmijdaa
/- Contract: inst.Instance.Check. -/
namespace Go.Proofs.Ytafhjfkdlmijdaa
open Go.RowKit

def countB (x : InstD) : Bool := manyB x.tmany 60 && manyB x.bmany 60 && manyB x.sats.length 12 && manyB x.custs.length 48
def sizeB (x : InstD) : Bool := squareB x.cost (nodes x) && squareB x.time (nodes x)
/-- inst.Instance.Check -/
def check (x : InstD) : Int := if countB x then (if sizeB x then (if numbersB x then 0 else 2) else 4) else 9

set_option maxRecDepth 100000 in
set_option maxHeartbeats 1600000 in
theorem check_c {w : World} {F : Nat → Prop} {x : InstD} {cs : List Value} (h : instS.rep w F x cs) :
    Calls Try.prog 18 #[.agg cs.toArray] w fun e w' => e = .returned (.int .i64 (check x)) ∧ Below w.heap.size w w' := by
  have hrep := h
  obtain ⟨s, c, co, ti, rfl, -, h1, h2, h3, h4⟩ := h
  obtain ⟨a, b, off, c1, hs, hlc, hc, -, -, -, -⟩ := sats_open h1
  obtain ⟨a', b', off', c1', hs', hlc', hc', -, -, -, -⟩ := custs_open h2
  obtain rfl := List.cons.inj hs |>.1
  obtain rfl := List.cons.inj hs' |>.1
  obtain ⟨a3, b3, off3, c3, hs3, hlc3, hc3, -, -, -⟩ := rows_open h3
  obtain ⟨a4, b4, off4, c4, hs4, hlc4, hc4, -, -, -⟩ := rows_open h4
  obtain rfl := List.cons.inj hs3 |>.1
  obtain rfl := List.cons.inj hs4 |>.1
  clear hs hs' h1 h2 hs3 hs4
  go_enter Try.func18, Try.ntmps18
  go_upto_region 2 with fail
  go_cut [4] (fun s4 wx => s4 = .bool (!countB x) ∧ Below w.heap.size w wx ∧ w.heap.size < wx.heap.size ∧
    wx.cell? ⟨w.heap.size, 0, none⟩ = some (.int .i64 x.fin) ∧ wx.cell? ⟨w.heap.size, 1, none⟩ = some (.int .i64 x.tmany) ∧ wx.cell? ⟨w.heap.size, 2, none⟩ = some (.int .i64 x.troom) ∧
    wx.cell? ⟨w.heap.size, 3, none⟩ = some (.int .i64 x.bmany) ∧ wx.cell? ⟨w.heap.size, 4, none⟩ = some (.int .i64 x.broom) ∧
    wx.cell? ⟨w.heap.size, 5, none⟩ = some (.slice a x.sats.length c1) ∧ wx.cell? ⟨w.heap.size, 6, none⟩ = some (.slice a' x.custs.length c1') ∧
    wx.cell? ⟨w.heap.size, 7, none⟩ = some (.slice a3 x.cost.length c3) ∧ wx.cell? ⟨w.heap.size, 8, none⟩ = some (.slice a4 x.time.length c4))
  case first =>
    have HH : Hid (countB x = (manyB x.tmany 60 && manyB x.bmany 60 && manyB x.sats.length 12 && manyB x.custs.length 48)) := rfl
    rcases chain4 (manyB x.tmany 60) (manyB x.bmany 60) (manyB x.sats.length 12) (manyB x.custs.length 48) with e0 | ⟨e0, e1⟩ | ⟨e0, e1, e2⟩ | ⟨e0, e1, e2, e3⟩ | ⟨e0, e1, e2, e3⟩
    all_goals
      go_wp2_with ((with_reducible refine (many_c _ _ _).mono ?_); rintro e w' ⟨rfl, rfl⟩)
      go_meet
      exact ⟨by rw [HH.out]; first | (rw [e0]; rfl) | (rw [e0, e1]; rfl) | (rw [e0, e1, e2]; rfl) | (rw [e0, e1, e2, e3]; rfl), (Below.refl _ _).alloc (Nat.le_refl _) _, by simp, by simp, by simp, by simp, by simp, by simp, by simp, by simp, by simp, by simp⟩
  case rest =>
    obtain ⟨rfl, hb0, hz, q0, q1, q2, q3, q4, q5, q6, q7, q8⟩ := hcut
    cases ec : countB x
    · have HE := hid (show check x = 9 by unfold check; simp [ec])
      go_wp2
      go_ret
      exact ⟨ret_int HE.out.symm, hb0⟩
    · have hl1 : x.sats.length ≤ 1000000 ∧ x.custs.length ≤ 1000000 := by
        simp [countB, manyB] at ec; omega
      go_upto_region 4 with fail
      have hrc := instS.below hrep hb0
      have hrc3 := rowsS.below h3 hb0
      have hrc4 := rowsS.below h4 hb0
      have q : ∀ e : Ext wc, e.val.cell? ⟨w.heap.size, 0, none⟩ = some (.int .i64 x.fin) ∧ e.val.cell? ⟨w.heap.size, 1, none⟩ = some (.int .i64 x.tmany) ∧ e.val.cell? ⟨w.heap.size, 2, none⟩ = some (.int .i64 x.troom) ∧
          e.val.cell? ⟨w.heap.size, 3, none⟩ = some (.int .i64 x.bmany) ∧ e.val.cell? ⟨w.heap.size, 4, none⟩ = some (.int .i64 x.broom) ∧ e.val.cell? ⟨w.heap.size, 5, none⟩ = some (.slice a x.sats.length c1) ∧
          e.val.cell? ⟨w.heap.size, 6, none⟩ = some (.slice a' x.custs.length c1') ∧ e.val.cell? ⟨w.heap.size, 7, none⟩ = some (.slice a3 x.cost.length c3) ∧ e.val.cell? ⟨w.heap.size, 8, none⟩ = some (.slice a4 x.time.length c4) :=
        fun e => ⟨e.cell q0, e.cell q1, e.cell q2, e.cell q3, e.cell q4, e.cell q5, e.cell q6, e.cell q7, e.cell q8⟩
      obtain ⟨p0, p1, p2, p3, p4, p5, p6, p7, p8⟩ : (∀ e : Ext wc, _) ∧ (∀ e : Ext wc, _) ∧ (∀ e : Ext wc, _) ∧ (∀ e : Ext wc, _) ∧ (∀ e : Ext wc, _) ∧ (∀ e : Ext wc, _) ∧ (∀ e : Ext wc, _) ∧ (∀ e : Ext wc, _) ∧ (∀ e : Ext wc, _) :=
        ⟨fun e => (q e).1, fun e => (q e).2.1, fun e => (q e).2.2.1, fun e => (q e).2.2.2.1, fun e => (q e).2.2.2.2.1, fun e => (q e).2.2.2.2.2.1, fun e => (q e).2.2.2.2.2.2.1, fun e => (q e).2.2.2.2.2.2.2.1, fun e => (q e).2.2.2.2.2.2.2.2⟩
      clear q
      go_cut [35] (fun s35 wx => s35 = .bool (!sizeB x) ∧ Below wc.heap.size wc wx)
      case first =>
        have HH := hid (show sizeB x = (squareB x.cost (nodes x) && squareB x.time (nodes x)) from rfl)
        rcases chain2 (squareB x.cost (nodes x)) (squareB x.time (nodes x)) with e0 | ⟨e0, e1⟩ | ⟨e0, e1⟩
        all_goals
          refine wp_region_ext (by kernel_rfl) (by kernel_rfl) ?_
          repeat (go_big_quiet_step (first | (go_at_call 53; exact Calls.ext (nodes_c (instS.below hrc (Ext.ok _)) hl1.1 hl1.2)) | (go_at_call 52; (with_reducible exact Calls.ext (square_b (rowsS.below hrc3 (Ext.ok _)) e0))) | (go_at_call 52; (with_reducible exact Calls.ext (square_b (rowsS.below hrc4 (Ext.ok _)) e1)))))
          refine wpQuiet_nil ?_
          rintro _ ⟨ex, rfl⟩
          go_wp2_with fail
          go_meet
          exact ⟨by rw [HH.out]; first | (rw [e0]; rfl) | (rw [e0, e1]; rfl), ex.ok⟩
      case rest =>
        clear p0 p1 p2 p3 p4 p5 p6 p7 p8
        obtain ⟨rfl, hb1⟩ := hcut
        cases es : sizeB x
        · have HE := hid (show check x = 4 by unfold check; simp [ec, es])
          go_wp2
          go_ret
          exact ⟨ret_int HE.out.symm, hb0.trans (hb1.mono hb0.size)⟩
        · have g0 := below_cell hb1 q0
          have g1 := below_cell hb1 q1
          have g2 := below_cell hb1 q2
          have g3 := below_cell hb1 q3
          have g4 := below_cell hb1 q4
          have g5 := below_cell hb1 q5
          have g6 := below_cell hb1 q6
          have g7 := below_cell hb1 q7
          have g8 := below_cell hb1 q8
          have hb2 := hb0.trans (hb1.mono hb0.size)
          have hr2 := instS.below hrep hb2
          clear q0 q1 q2 q3 q4 q5 q6 q7 q8 hb0 hb1 hrc hrc3 hrc4 h3 h4 hrep
          cases en : numbersB x
          · have HE := hid (show check x = 2 by unfold check; simp [ec, es, en])
            have HN := hid en
            clear en
            go_wp2_with ((with_reducible refine (numbers_c hr2).mono ?_); rintro e w' ⟨rfl, hb3⟩; rw [HN.out])
            go_ret
            exact ⟨ret_int HE.out.symm, hb2.trans (hb3.mono hb2.size)⟩
          · have HE := hid (show check x = 0 by unfold check; simp [ec, es, en])
            have HN := hid en
            clear en
            go_wp2_with ((with_reducible refine (numbers_c hr2).mono ?_); rintro e w' ⟨rfl, hb3⟩; rw [HN.out])
            go_ret
            exact ⟨ret_int HE.out.symm, hb2.trans (hb3.mono hb2.size)⟩
end Go.Proofs.Ytafhjfkdlmijdaa
/- Rows of cells that a call has laid itself: known block by block, so that they may be written. No program in sight. -/
namespace Go.Proofs.Ytafhjfkdlmijdaa
open Go.RowKit

/-- Block g is a row of cells of type e, unfrozen, that begins with cs. -/
def Row (w : World) (g : Nat) (e : TypeId) (cs : List Value) : Prop :=
  ∃ (cur : Array Value) (rest : List Value), w.heap[g]? = some (.cells cur e (0, 0)) ∧ cur.toList = cs ++ rest

theorem Row.lt {w : World} {g : Nat} {e : TypeId} {cs : List Value} (h : Row w g e cs) : g < w.heap.size := by
  obtain ⟨cur, rest, h1, _⟩ := h
  exact (Array.getElem?_eq_some_iff.1 h1).1
theorem Row.keep {w w' : World} {g : Nat} {e : TypeId} {cs : List Value} (h : Row w g e cs) (hk : w'.heap[g]? = w.heap[g]?) : Row w' g e cs := by
  obtain ⟨cur, rest, h1, h2⟩ := h
  exact ⟨cur, rest, hk.trans h1, h2⟩
theorem Row.below {w w' : World} {g : Nat} {e : TypeId} {cs : List Value} (h : Row w g e cs) (hb : Below w.heap.size w w') : Row w' g e cs := h.keep (hb.block g h.lt)
theorem Row.belowB {B : Nat} {w w' : World} {g : Nat} {e : TypeId} {cs : List Value} (h : Row w g e cs) (hb : Below B w w') (hg : g < B) : Row w' g e cs := h.keep (hb.block g hg)
theorem Row.alloc {w : World} {g : Nat} {e : TypeId} {cs : List Value} (h : Row w g e cs) (o : Obj) : Row (w.alloc o) g e cs := h.keep (Below.heap_alloc _ _ _ h.lt)
theorem Row.setOther {w : World} {g : Nat} {e : TypeId} {cs : List Value} (h : Row w g e cs) {a : Addr} (ha : g ≠ a.block) (u : Value) : Row (w.setCell a u) g e cs := h.keep (Below.heap_setCell _ _ _ _ ha)
theorem Row.drew {w : World} {g : Nat} {e : TypeId} {cs : List Value} (h : Row w g e cs) : Row w.drew g e cs := h
theorem Row.drewN {w : World} {g : Nat} {e : TypeId} {cs : List Value} (h : Row w g e cs) (n : Nat) : Row (w.drewN n) g e cs := h.keep rfl
theorem Row.ne {w : World} {g g' : Nat} {e e' : TypeId} {cs cs' : List Value} (h : Row w g e cs) (h' : Row w g' e' cs') (he : e ≠ e') : g ≠ g' := by
  rintro rfl
  obtain ⟨_, _, h1, _⟩ := h
  obtain ⟨_, _, h2, _⟩ := h'
  rw [h1] at h2
  simp only [Option.some.injEq, Obj.cells.injEq] at h2
  exact he h2.2.1
theorem Row.cell {w : World} {g : Nat} {e : TypeId} {cs : List Value} (h : Row w g e cs) {j : Nat} (hj : j < cs.length) : w.cell? ⟨g, j, none⟩ = some cs[j] := by
  obtain ⟨cur, rest, h1, h2⟩ := h
  have : cur[j]? = some cs[j] := by
    rw [← Array.getElem?_toList, h2, List.getElem?_append_left hj, List.getElem?_eq_getElem hj]
  simp [World.cell?, h1, this]
theorem Row.frozen {w : World} {g : Nat} {e : TypeId} {cs : List Value} (h : Row w g e cs) (j : Nat) : w.frozen? ⟨g, j, none⟩ = false := by
  obtain ⟨cur, rest, h1, h2⟩ := h
  simp [World.frozen?, h1]
theorem Row.set {w : World} {g : Nat} {e : TypeId} {cs : List Value} (h : Row w g e cs) {j : Nat} (hj : j < cs.length) (u : Value) : Row (w.setCell ⟨g, j, none⟩ u) g e (cs.set j u) := by
  obtain ⟨cur, rest, h1, h2⟩ := h
  have hg : g < w.heap.size := (Array.getElem?_eq_some_iff.1 h1).1
  refine ⟨cur.setIfInBounds j u, rest, ?_, ?_⟩
  · simp [World.setCell, Array.getElem?_modify, h1]
  · rw [Array.toList_setIfInBounds, h2, List.set_append_left _ _ hj]
theorem Row.new {w : World} {g : Nat} {e : TypeId} {cs : List Value} (hg : g = w.heap.size) : Row (w.alloc (.cells cs.toArray e)) g e cs := by
  subst hg
  refine ⟨cs.toArray, [], ?_, by simp⟩
  show (w.heap.push _)[w.heap.size]? = _
  simp
theorem Row.of_owns {w : World} {base : Nat} {e : TypeId} {size : Nat} {v : Value} {n : Nat} {xs : List Value} (h : w.ownsRow base e size v n xs) (hn : 0 < n) :
    ∃ g c, v = .slice (some ⟨g, 0, none⟩) n c ∧ n ≤ c ∧ c ≤ maxLen ∧ base ≤ g ∧ Row w g e xs := by
  obtain ⟨h1, h2⟩ := h
  rcases h2 with ⟨_, h2⟩ | h2
  · omega
  · obtain ⟨g, cap, cur, rfl, hg, hh, hn1, hc, hs, ht⟩ := h2
    exact ⟨g, cap, rfl, hn1, hc, hg, cur, cur.toList.drop (n * size), hh, by rw [← ht, List.take_append_drop]⟩

theorem cells_new {w : World} {g : Nat} (hg : g = w.heap.size) (cs : List Value) (e : TypeId) : ∀ j u, cs[j]? = some u → (w.alloc (.cells cs.toArray e)).cell? ((⟨g, 0, none⟩ : Addr).add j) = some u := by
  subst hg
  intro j u hj
  have : (⟨w.heap.size, 0, none⟩ : Addr).add j = ⟨w.heap.size, j, none⟩ := by
    unfold Addr.add; split
    · rename_i h; rw [h]
    · simp
  rw [this]
  simpa using hj
theorem owns_slice {w : World} {base : Nat} {e : TypeId} {size : Nat} {v : Value} {n : Nat} {xs : List Value} (h : w.ownsRow base e size v n xs) : ∃ ao cap, v = .slice ao n cap ∧ n ≤ cap ∧ cap ≤ maxLen := by
  obtain ⟨h1, h2⟩ := h
  rcases h2 with ⟨rfl, rfl⟩ | ⟨g, cap, cur, rfl, hg, hh, h3, h4, _⟩
  · exact ⟨none, 0, rfl, Nat.le_refl _, Nat.zero_le _⟩
  · exact ⟨_, cap, rfl, h3, h4⟩

theorem owns_below {w w' : World} {base : Nat} {e : TypeId} {size : Nat} {v : Value} {n : Nat} {xs : List Value} (h : w.ownsRow base e size v n xs) (hb : Below w.heap.size w w') : w'.ownsRow base e size v n xs := by
  obtain ⟨h1, h2⟩ := h
  refine ⟨h1, ?_⟩
  rcases h2 with h2 | ⟨g, cap, cur, hv, hg, hh, r⟩
  · exact .inl h2
  · exact .inr ⟨g, cap, cur, hv, hg, by rw [hb.block g (Array.getElem?_eq_some_iff.1 hh).1]; exact hh, r⟩
theorem row9 {w : World} {g : Nat} {e : TypeId} {v0 v1 v2 v3 v4 v5 v6 v7 v8 : Value} (h : Row w g e [v0, v1, v2, v3, v4, v5, v6, v7, v8]) :
    w.cell? ⟨g, 0, none⟩ = some v0 ∧ w.cell? ⟨g, 1, none⟩ = some v1 ∧ w.cell? ⟨g, 2, none⟩ = some v2 ∧ w.cell? ⟨g, 3, none⟩ = some v3 ∧ w.cell? ⟨g, 4, none⟩ = some v4 ∧ w.cell? ⟨g, 5, none⟩ = some v5 ∧
      w.cell? ⟨g, 6, none⟩ = some v6 ∧ w.cell? ⟨g, 7, none⟩ = some v7 ∧ w.cell? ⟨g, 8, none⟩ = some v8 :=
  ⟨h.cell (j := 0) (by simp), h.cell (j := 1) (by simp), h.cell (j := 2) (by simp), h.cell (j := 3) (by simp), h.cell (j := 4) (by simp), h.cell (j := 5) (by simp), h.cell (j := 6) (by simp), h.cell (j := 7) (by simp), h.cell (j := 8) (by simp)⟩
theorem frozen9 {w : World} {g : Nat} {e : TypeId} {cs : List Value} (h : Row w g e cs) :
    w.frozen? ⟨g, 0, none⟩ = false ∧ w.frozen? ⟨g, 1, none⟩ = false ∧ w.frozen? ⟨g, 2, none⟩ = false ∧ w.frozen? ⟨g, 3, none⟩ = false ∧ w.frozen? ⟨g, 4, none⟩ = false ∧ w.frozen? ⟨g, 5, none⟩ = false ∧
      w.frozen? ⟨g, 6, none⟩ = false ∧ w.frozen? ⟨g, 7, none⟩ = false ∧ w.frozen? ⟨g, 8, none⟩ = false :=
  ⟨h.frozen _, h.frozen _, h.frozen _, h.frozen _, h.frozen _, h.frozen _, h.frozen _, h.frozen _, h.frozen _⟩
theorem row2 {w : World} {g : Nat} {e : TypeId} {v0 v1 : Value} (h : Row w g e [v0, v1]) : w.cell? ⟨g, 0, none⟩ = some v0 ∧ w.cell? ⟨g, 1, none⟩ = some v1 :=
  ⟨h.cell (j := 0) (by simp), h.cell (j := 1) (by simp)⟩
def intV (x : Int) : Value := .int .i64 x
theorem Row.make {w : World} {n : Nat} {e : TypeId} : Row (w.alloc (.cells (Array.replicate n (intV 0)) e)) w.heap.size e ((List.replicate n 0).map intV) := by
  have := Row.new (w := w) (e := e) (cs := (List.replicate n 0).map intV) rfl
  simpa using this
def rowV (r : Nat) (row : List Int) : Value := .slice (some ⟨r, 0, none⟩) row.length row.length

/-- Rows of ints, each in a block of its own, gathered in a slice of the call's own. -/
def RowsInv (w : World) (B TR TI : Nat) (out : Value) (rows : List (List Int)) (rs : List Nat) : Prop :=
  w.ownsRow B TR 1 out rows.length (List.zipWith rowV rs rows) ∧ rs.length = rows.length ∧ (∀ i (h : i < rs.length) (h' : i < rows.length), Row w rs[i] TI (rows[i].map intV)) ∧ rs.Nodup ∧ ∀ b ∈ rs, B ≤ b ∧ b < w.heap.size

theorem RowsInv.nil (w : World) (B TR TI : Nat) : RowsInv w B TR TI (.slice none 0 0) [] [] :=
  ⟨World.ownsRow_nil _ _ _ _, rfl, fun _ h => absurd h (Nat.not_lt_zero _), List.nodup_nil, fun _ h => by cases h⟩

theorem ownBlock_row {w : World} {B T n k : Nat} {v : Value} {xs : List Value} (h : w.ownsRow B T k v n xs) {g : Nat} (hg : v.ownBlock = some g) : ∃ cs, Row w g T cs := by
  obtain ⟨h1, h2⟩ := h
  rcases h2 with ⟨rfl, _⟩ | ⟨g', cap, cur, rfl, hg', hh, _⟩
  · cases hg
  · simp only [Value.ownBlock, Option.some.injEq] at hg
    subst hg
    exact ⟨cur.toList, cur, [], hh, by simp⟩

theorem RowsInv.push {w w1 w2 : World} {B TR TI r : Nat} {out v' : Value} {rows : List (List Int)} {rs : List Nat} {row : List Int} {o : Obj} (h : RowsInv w B TR TI out rows rs) (hne : TR ≠ TI)
    (hb : Below w.heap.size w w1) (hr : Row w1 r TI (row.map intV)) (hrw : w.heap.size ≤ r) (hB : B ≤ w.heap.size)
    (hown : w2.ownsRow B TR 1 v' (rows.length + 1) (List.zipWith rowV rs rows ++ [rowV r row])) (hg : (w1.alloc o).grownBy w2 out.ownBlock) : RowsInv w2 B TR TI v' (rows ++ [row]) (rs ++ [r]) := by
  obtain ⟨h1, h2, h3, h4, h5⟩ := h
  have hob : ∀ {b : Nat} {cs : List Value}, Row w1 b TI cs → Row w2 b TI cs := fun {b cs} hR => by
    refine (hR.alloc o).keep (hg.block b (hR.alloc o).lt ?_)
    intro e
    obtain ⟨cs', hc'⟩ := ownBlock_row h1 e.symm
    exact (hc'.below hb).ne hR hne rfl
  refine ⟨?_, by simp [h2], ?_, ?_, ?_⟩
  · rw [List.length_append, List.length_singleton, List.zipWith_append h2]
    exact hown
  · intro i hi hi'
    by_cases hl : i < rows.length
    · rw [List.getElem_append_left (by omega), List.getElem_append_left hl]
      exact hob ((h3 i (by omega) hl).below hb)
    · have : i = rows.length := by simp at hi'; omega
      subst this
      rw [List.getElem_append_right (by omega), List.getElem_append_right (Nat.le_refl _)]
      simp only [h2, Nat.sub_self, List.getElem_cons_zero]
      exact hob hr
  · rw [List.nodup_append]
    refine ⟨h4, by simp, fun a ha b hb' => ?_⟩
    simp only [List.mem_singleton] at hb'
    have := (h5 a ha).2
    omega
  · intro b hb'
    have hs : w.heap.size ≤ w2.heap.size := Nat.le_trans hb.size (Nat.le_trans (by simp) hg.size)
    have hr2 : r < w2.heap.size := Nat.lt_of_lt_of_le hr.lt (Nat.le_trans (by simp) hg.size)
    rcases List.mem_append.1 hb' with hb' | hb'
    · have := h5 b hb'; omega
    · simp only [List.mem_singleton] at hb'; omega

/-- Rows of ints that may be written: the outer block, the rows' own blocks, all apart. -/
def RowsOwn (w : World) (B TR TI : Nat) (v : Value) (rows : List (List Int)) (g : Nat) (rs : List Nat) : Prop :=
  ∃ c, v = .slice (some ⟨g, 0, none⟩) rows.length c ∧ rows.length ≤ c ∧ c ≤ maxLen ∧ B ≤ g ∧ Row w g TR (List.zipWith rowV rs rows) ∧ rs.length = rows.length ∧
    (∀ i (h : i < rs.length) (h' : i < rows.length), Row w rs[i] TI (rows[i].map intV)) ∧ rs.Nodup ∧ ∀ b ∈ rs, B ≤ b
theorem RowsInv.own {w : World} {B TR TI : Nat} {out : Value} {rows : List (List Int)} {rs : List Nat} (h : RowsInv w B TR TI out rows rs) (hn : 0 < rows.length) : ∃ g, RowsOwn w B TR TI out rows g rs := by
  obtain ⟨h1, h2, h3, h4, h5⟩ := h
  obtain ⟨g, c, hv, hc, hm, hg, hr⟩ := Row.of_owns h1 hn
  exact ⟨g, c, hv, hc, hm, hg, hr, h2, h3, h4, fun b hb => (h5 b hb).1⟩
theorem RowsOwn.below {w w' : World} {B TR TI : Nat} {v : Value} {rows : List (List Int)} {g : Nat} {rs : List Nat} (h : RowsOwn w B TR TI v rows g rs) (hb : Below w.heap.size w w') : RowsOwn w' B TR TI v rows g rs := by
  obtain ⟨c, h0, h1, h2, h3, h4, h5, h6, h7, h8⟩ := h
  exact ⟨c, h0, h1, h2, h3, h4.below hb, h5, fun i h h' => (h6 i h h').below hb, h7, h8⟩
end Go.Proofs.Ytafhjfkdlmijdaa
