/- Plain words for Go's data in a world: shapes, readings, and what keeps them. No program in sight. -/
import Derived.WalkKit
import Derived.Deep.QuietTactic
import Derived.BigQuiet
import Derived.Outline
import Derived.WalkLawsBesides
import Derived.WalkSpells
namespace Go.Proofs.Ytafhjfkdlmijdaa
open Go.RowKit

theorem hid {p : Prop} (h : p) : Hid p := h

/-- Two worlds agree on the blocks of F. -/
def Agree (F : Nat → Prop) (w w' : World) : Prop := ∀ b, F b → w'.heap[b]? = w.heap[b]?

theorem cell_lt {w : World} {a : Addr} {v : Value} (h : w.cell? a = some v) : a.block < w.heap.size := by
  unfold World.cell? at h
  split at h
  · rename_i c _ _ hc
    exact (Array.getElem?_eq_some_iff.1 hc).1
  · cases h

theorem cell_agree {F : Nat → Prop} {w w' : World} (h : Agree F w w') {a : Addr} (ha : F a.block) : w'.cell? a = w.cell? a :=
  World.cell?_of_block (h _ ha)

theorem Agree.of_below {B : Nat} {w w' : World} (h : Below B w w') : Agree (fun b => b < B) w w' := fun b hb => h.block b hb

/-- Go's int64 and int. -/
def wf64 (x : Int) : Prop := -9223372036854775808 ≤ x ∧ x ≤ 9223372036854775807

/-- How data of a type lie in a world: so many cells; F: the blocks that a reading comes to. -/
structure Shape (α : Type) where
  sz : Nat
  rep : World → (Nat → Prop) → α → List Value → Prop
  len : ∀ {w F x cs}, rep w F x cs → cs.length = sz
  keep : ∀ {w w' F x cs}, rep w F x cs → Agree F w w' → rep w' F x cs
  weak : ∀ {w F G x cs}, rep w F x cs → (∀ b, F b → G b) → rep w G x cs
  lt : ∀ {w F x cs}, rep w F x cs → rep w (fun b => F b ∧ b < w.heap.size) x cs

theorem Shape.below {α : Type} (S : Shape α) {w w' : World} {F : Nat → Prop} {x : α} {cs : List Value} (h : S.rep w F x cs) (hb : Below w.heap.size w w') : S.rep w' F x cs :=
  S.weak (S.keep (S.lt h) fun b k => hb.block b k.2) fun _ k => k.1

/-- What reads below B goes on reading. -/
theorem Shape.belowB {α : Type} (S : Shape α) {B : Nat} {w w' : World} {x : α} {cs : List Value} (h : S.rep w (fun b => b < B) x cs) (hb : Below B w w') : S.rep w' (fun b => b < B) x cs :=
  S.keep h fun b k => hb.block b k

theorem Shape.any {α : Type} (S : Shape α) {w : World} {F : Nat → Prop} {x : α} {cs : List Value} (h : S.rep w F x cs) : S.rep w (fun _ => True) x cs := S.weak h fun _ _ => trivial

theorem Shape.old {α : Type} (S : Shape α) {w : World} {F : Nat → Prop} {x : α} {cs : List Value} (h : S.rep w F x cs) : S.rep w (fun b => b < w.heap.size) x cs := S.weak (S.lt h) fun _ k => k.2

/-- A shape whose cells name no memory. -/
def plainS {α : Type} (n : Nat) (P : α → List Value → Prop) (hl : ∀ {x cs}, P x cs → cs.length = n) : Shape α where
  sz := n
  rep := fun _ _ x cs => P x cs
  len := hl
  keep := fun h _ => h
  weak := fun h _ => h
  lt := fun h => h

def intS : Shape Int := plainS 1 (fun x cs => cs = [.int .i64 x] ∧ wf64 x) (by rintro x cs ⟨rfl, _⟩; rfl)
def u8S : Shape Int := plainS 1 (fun x cs => cs = [.int .u8 x] ∧ 0 ≤ x ∧ x ≤ 255) (by rintro x cs ⟨rfl, _⟩; rfl)

/-- A slice: its length, and element by element. -/
def sliceRep {α : Type} (S : Shape α) (w : World) (F : Nat → Prop) (xs : List α) (cs : List Value) : Prop :=
  ∃ (a : Option Addr) (b off c : Nat), cs = [.slice a xs.length c] ∧ xs.length ≤ c ∧ c ≤ maxLen ∧ (0 < xs.length → a = some ⟨b, off, none⟩ ∧ F b) ∧
    ∀ i (h : i < xs.length), ∃ es, S.rep w F xs[i] es ∧ ∀ j, j < S.sz → w.cell? ⟨b, off + i * S.sz + j, none⟩ = es[j]?

def sliceS {α : Type} (S : Shape α) (h0 : 0 < S.sz := by decide) : Shape (List α) where
  sz := 1
  rep := sliceRep S
  len := by rintro w F x cs ⟨a, b, off, c, rfl, _⟩; rfl
  keep := by
    rintro w w' F x cs ⟨a, b, off, c, rfl, h1, h2, h3, h4⟩ ha
    refine ⟨a, b, off, c, rfl, h1, h2, h3, fun i hi => ?_⟩
    obtain ⟨es, he, hc⟩ := h4 i hi
    refine ⟨es, S.keep he ha, fun j hj => ?_⟩
    rw [← hc j hj]
    exact cell_agree ha (h3 (by omega)).2
  weak := by
    rintro w F G x cs ⟨a, b, off, c, rfl, h1, h2, h3, h4⟩ ha
    refine ⟨a, b, off, c, rfl, h1, h2, fun h => ⟨(h3 h).1, ha _ (h3 h).2⟩, fun i hi => ?_⟩
    obtain ⟨es, he, hc⟩ := h4 i hi
    exact ⟨es, S.weak he ha, hc⟩
  lt := by
    rintro w F x cs ⟨a, b, off, c, rfl, h1, h2, h3, h4⟩
    refine ⟨a, b, off, c, rfl, h1, h2, fun h => ⟨(h3 h).1, (h3 h).2, ?_⟩, fun i hi => ?_⟩
    · obtain ⟨es, he, hc⟩ := h4 0 h
      have hl := S.len he
      have := hc 0 h0
      rw [List.getElem?_eq_getElem (by omega)] at this
      exact cell_lt this
    · obtain ⟨es, he, hc⟩ := h4 i hi
      exact ⟨es, S.lt he, hc⟩

/-- Opened: a slice of ints. -/
theorem ints_open {w : World} {F : Nat → Prop} {xs : List Int} {cs : List Value} (h : (sliceS intS).rep w F xs cs) :
    ∃ (a : Option Addr) (b off c : Nat), cs = [.slice a xs.length c] ∧ xs.length ≤ c ∧ c ≤ 9223372036854775807 ∧ (0 < xs.length → a = some ⟨b, off, none⟩) ∧ (0 < xs.length → F b) ∧
      (∀ k (h : k < xs.length), w.cell? ⟨b, off + k, none⟩ = some (.int .i64 xs[k])) ∧ ∀ x ∈ xs, wf64 x := by
  obtain ⟨a, b, off, c, rfl, h1, h2, h3, h4⟩ := h
  refine ⟨a, b, off, c, rfl, h1, h2, fun h => (h3 h).1, fun h => (h3 h).2, fun k hk => ?_, fun x hx => ?_⟩
  · obtain ⟨es, ⟨rfl, _⟩, hc⟩ := h4 k hk
    have := hc 0 (by decide)
    simpa [intS, plainS] using this
  · obtain ⟨k, hk, rfl⟩ := List.getElem_of_mem hx
    obtain ⟨es, he, _⟩ := h4 k hk
    exact he.2

theorem bytes_open {w : World} {F : Nat → Prop} {xs : List Int} {cs : List Value} (h : (sliceS u8S).rep w F xs cs) :
    ∃ (a : Option Addr) (b off c : Nat), cs = [.slice a xs.length c] ∧ xs.length ≤ c ∧ c ≤ 9223372036854775807 ∧ (0 < xs.length → a = some ⟨b, off, none⟩) ∧ (0 < xs.length → F b) ∧
      (∀ k (h : k < xs.length), w.cell? ⟨b, off + k, none⟩ = some (.int .u8 xs[k])) ∧ ∀ x ∈ xs, 0 ≤ x ∧ x ≤ 255 := by
  obtain ⟨a, b, off, c, rfl, h1, h2, h3, h4⟩ := h
  refine ⟨a, b, off, c, rfl, h1, h2, fun h => (h3 h).1, fun h => (h3 h).2, fun k hk => ?_, fun x hx => ?_⟩
  · obtain ⟨es, ⟨rfl, _⟩, hc⟩ := h4 k hk
    have := hc 0 (by decide)
    simpa [u8S, plainS] using this
  · obtain ⟨k, hk, rfl⟩ := List.getElem_of_mem hx
    obtain ⟨es, he, _⟩ := h4 k hk
    exact he.2

/-- A slice whose elements are slices (one cell each). -/
theorem rows_open {α : Type} {S : Shape α} {h0 : 0 < S.sz} {w : World} {F : Nat → Prop} {xs : List (List α)} {cs : List Value} (h : (sliceS (sliceS S h0) Nat.one_pos).rep w F xs cs) :
    ∃ (a : Option Addr) (b off c : Nat), cs = [.slice a xs.length c] ∧ xs.length ≤ c ∧ c ≤ 9223372036854775807 ∧ (0 < xs.length → a = some ⟨b, off, none⟩) ∧ (0 < xs.length → F b) ∧
      ∀ k (h : k < xs.length), ∃ v, w.cell? ⟨b, off + k, none⟩ = some v ∧ (sliceS S h0).rep w F xs[k] [v] := by
  obtain ⟨a, b, off, c, rfl, h1, h2, h3, h4⟩ := h
  refine ⟨a, b, off, c, rfl, h1, h2, fun h => (h3 h).1, fun h => (h3 h).2, fun k hk => ?_⟩
  obtain ⟨es, he, hc⟩ := h4 k hk
  have hl := (sliceS S h0).len he
  have := hc 0 Nat.one_pos
  match es, hl with
  | [v], _ => exact ⟨v, by simpa [sliceS] using this, he⟩

/-- A satellite, a customer, a stop, a bike, a plan, an instance. -/
structure SatD where
  room : Int
  hold : Int
  deriving DecidableEq
structure CustD where
  load : Int
  opn : Int
  cls : Int
  stay : Int
  deriving DecidableEq
structure StopD where
  sat : Int
  load : Int
  deriving DecidableEq
structure BikeD where
  sat : Int
  stops : List Int
  deriving DecidableEq
structure PlanD where
  trucks : List (List StopD)
  bikes : List BikeD
  deriving DecidableEq
structure InstD where
  fin : Int
  tmany : Int
  troom : Int
  bmany : Int
  broom : Int
  sats : List SatD
  custs : List CustD
  cost : List (List Int)
  time : List (List Int)
  deriving DecidableEq

def satS : Shape SatD := plainS 2 (fun x cs => cs = [.int .i64 x.room, .int .i64 x.hold] ∧ wf64 x.room ∧ wf64 x.hold) (by rintro x cs ⟨rfl, _⟩; rfl)
def custS : Shape CustD := plainS 4 (fun x cs => cs = [.int .i64 x.load, .int .i64 x.opn, .int .i64 x.cls, .int .i64 x.stay] ∧ wf64 x.load ∧ wf64 x.opn ∧ wf64 x.cls ∧ wf64 x.stay) (by rintro x cs ⟨rfl, _⟩; rfl)
def stopS : Shape StopD := plainS 2 (fun x cs => cs = [.int .i64 x.sat, .int .i64 x.load] ∧ wf64 x.sat ∧ wf64 x.load) (by rintro x cs ⟨rfl, _⟩; rfl)
def bikeS : Shape BikeD where
  sz := 2
  rep := fun w F x cs => ∃ v, cs = [.int .i64 x.sat, v] ∧ wf64 x.sat ∧ (sliceS intS).rep w F x.stops [v]
  len := by rintro w F x cs ⟨v, rfl, _⟩; rfl
  keep := by rintro w w' F x cs ⟨v, rfl, h1, h2⟩ ha; exact ⟨v, rfl, h1, (sliceS intS).keep h2 ha⟩
  weak := by rintro w F G x cs ⟨v, rfl, h1, h2⟩ ha; exact ⟨v, rfl, h1, (sliceS intS).weak h2 ha⟩
  lt := by rintro w F x cs ⟨v, rfl, h1, h2⟩; exact ⟨v, rfl, h1, (sliceS intS).lt h2⟩
def trucksS : Shape (List (List StopD)) := sliceS (sliceS stopS)
def bikesS : Shape (List BikeD) := sliceS bikeS
def planS : Shape PlanD where
  sz := 2
  rep := fun w F x cs => ∃ t b, cs = [t, b] ∧ trucksS.rep w F x.trucks [t] ∧ bikesS.rep w F x.bikes [b]
  len := by rintro w F x cs ⟨t, b, rfl, _⟩; rfl
  keep := by rintro w w' F x cs ⟨t, b, rfl, h1, h2⟩ ha; exact ⟨t, b, rfl, trucksS.keep h1 ha, bikesS.keep h2 ha⟩
  weak := by rintro w F G x cs ⟨t, b, rfl, h1, h2⟩ ha; exact ⟨t, b, rfl, trucksS.weak h1 ha, bikesS.weak h2 ha⟩
  lt := by rintro w F x cs ⟨t, b, rfl, h1, h2⟩; exact ⟨t, b, rfl, trucksS.lt h1, bikesS.lt h2⟩
def satsS : Shape (List SatD) := sliceS satS
def custsS : Shape (List CustD) := sliceS custS
def rowsS : Shape (List (List Int)) := sliceS (sliceS intS)
def instS : Shape InstD where
  sz := 9
  rep := fun w F x cs => ∃ s c co ti, cs = [.int .i64 x.fin, .int .i64 x.tmany, .int .i64 x.troom, .int .i64 x.bmany, .int .i64 x.broom, s, c, co, ti] ∧
    (wf64 x.fin ∧ wf64 x.tmany ∧ wf64 x.troom ∧ wf64 x.bmany ∧ wf64 x.broom) ∧ satsS.rep w F x.sats [s] ∧ custsS.rep w F x.custs [c] ∧ rowsS.rep w F x.cost [co] ∧ rowsS.rep w F x.time [ti]
  len := by rintro w F x cs ⟨_, _, _, _, rfl, _⟩; rfl
  keep := by rintro w w' F x cs ⟨_, _, _, _, rfl, h0, h1, h2, h3, h4⟩ ha; exact ⟨_, _, _, _, rfl, h0, satsS.keep h1 ha, custsS.keep h2 ha, rowsS.keep h3 ha, rowsS.keep h4 ha⟩
  weak := by rintro w F G x cs ⟨_, _, _, _, rfl, h0, h1, h2, h3, h4⟩ ha; exact ⟨_, _, _, _, rfl, h0, satsS.weak h1 ha, custsS.weak h2 ha, rowsS.weak h3 ha, rowsS.weak h4 ha⟩
  lt := by rintro w F x cs ⟨_, _, _, _, rfl, h0, h1, h2, h3, h4⟩; exact ⟨_, _, _, _, rfl, h0, satsS.lt h1, custsS.lt h2, rowsS.lt h3, rowsS.lt h4⟩

theorem sats_open {w : World} {F : Nat → Prop} {xs : List SatD} {cs : List Value} (h : satsS.rep w F xs cs) :
    ∃ (a : Option Addr) (b off c : Nat), cs = [.slice a xs.length c] ∧ xs.length ≤ c ∧ c ≤ 9223372036854775807 ∧ (0 < xs.length → a = some ⟨b, off, none⟩) ∧ (0 < xs.length → F b) ∧
      (∀ k (h : k < xs.length), w.cell? ⟨b, off + k * 2, none⟩ = some (.int .i64 xs[k].room) ∧ w.cell? ⟨b, off + k * 2 + 1, none⟩ = some (.int .i64 xs[k].hold)) ∧ ∀ x ∈ xs, wf64 x.room ∧ wf64 x.hold := by
  obtain ⟨a, b, off, c, rfl, h1, h2, h3, h4⟩ := h
  refine ⟨a, b, off, c, rfl, h1, h2, fun h => (h3 h).1, fun h => (h3 h).2, fun k hk => ?_, fun x hx => ?_⟩
  · obtain ⟨es, ⟨rfl, _⟩, hc⟩ := h4 k hk
    have e0 := hc 0 (by decide)
    have e1 := hc 1 (by decide)
    exact ⟨by simpa [satS, plainS] using e0, by simpa [satS, plainS] using e1⟩
  · obtain ⟨k, hk, rfl⟩ := List.getElem_of_mem hx
    obtain ⟨es, he, _⟩ := h4 k hk
    exact he.2

theorem stops_open {w : World} {F : Nat → Prop} {xs : List StopD} {cs : List Value} (h : (sliceS stopS).rep w F xs cs) :
    ∃ (a : Option Addr) (b off c : Nat), cs = [.slice a xs.length c] ∧ xs.length ≤ c ∧ c ≤ 9223372036854775807 ∧ (0 < xs.length → a = some ⟨b, off, none⟩) ∧ (0 < xs.length → F b) ∧
      (∀ k (h : k < xs.length), w.cell? ⟨b, off + k * 2, none⟩ = some (.int .i64 xs[k].sat) ∧ w.cell? ⟨b, off + k * 2 + 1, none⟩ = some (.int .i64 xs[k].load)) ∧ ∀ x ∈ xs, wf64 x.sat ∧ wf64 x.load := by
  obtain ⟨a, b, off, c, rfl, h1, h2, h3, h4⟩ := h
  refine ⟨a, b, off, c, rfl, h1, h2, fun h => (h3 h).1, fun h => (h3 h).2, fun k hk => ?_, fun x hx => ?_⟩
  · obtain ⟨es, ⟨rfl, _⟩, hc⟩ := h4 k hk
    have e0 := hc 0 (by decide)
    have e1 := hc 1 (by decide)
    exact ⟨by simpa [stopS, plainS] using e0, by simpa [stopS, plainS] using e1⟩
  · obtain ⟨k, hk, rfl⟩ := List.getElem_of_mem hx
    obtain ⟨es, he, _⟩ := h4 k hk
    exact he.2

theorem bikes_open {w : World} {F : Nat → Prop} {xs : List BikeD} {cs : List Value} (h : bikesS.rep w F xs cs) :
    ∃ (a : Option Addr) (b off c : Nat), cs = [.slice a xs.length c] ∧ xs.length ≤ c ∧ c ≤ 9223372036854775807 ∧ (0 < xs.length → a = some ⟨b, off, none⟩) ∧ (0 < xs.length → F b) ∧
      ∀ k (h : k < xs.length), ∃ v, w.cell? ⟨b, off + k * 2, none⟩ = some (.int .i64 xs[k].sat) ∧ w.cell? ⟨b, off + k * 2 + 1, none⟩ = some v ∧ wf64 xs[k].sat ∧ (sliceS intS).rep w F xs[k].stops [v] := by
  obtain ⟨a, b, off, c, rfl, h1, h2, h3, h4⟩ := h
  refine ⟨a, b, off, c, rfl, h1, h2, fun h => (h3 h).1, fun h => (h3 h).2, fun k hk => ?_⟩
  obtain ⟨es, ⟨v, rfl, hw, hr⟩, hc⟩ := h4 k hk
  have e0 := hc 0 (by decide)
  have e1 := hc 1 (by decide)
  exact ⟨v, by simpa [bikeS] using e0, by simpa [bikeS] using e1, hw, hr⟩

theorem custs_open {w : World} {F : Nat → Prop} {xs : List CustD} {cs : List Value} (h : custsS.rep w F xs cs) :
    ∃ (a : Option Addr) (b off c : Nat), cs = [.slice a xs.length c] ∧ xs.length ≤ c ∧ c ≤ 9223372036854775807 ∧ (0 < xs.length → a = some ⟨b, off, none⟩) ∧ (0 < xs.length → F b) ∧
      (∀ k (h : k < xs.length), w.cell? ⟨b, off + k * 4, none⟩ = some (.int .i64 xs[k].load) ∧ w.cell? ⟨b, off + k * 4 + 1, none⟩ = some (.int .i64 xs[k].opn) ∧
        w.cell? ⟨b, off + k * 4 + 2, none⟩ = some (.int .i64 xs[k].cls) ∧ w.cell? ⟨b, off + k * 4 + 3, none⟩ = some (.int .i64 xs[k].stay)) ∧
      ∀ x ∈ xs, wf64 x.load ∧ wf64 x.opn ∧ wf64 x.cls ∧ wf64 x.stay := by
  obtain ⟨a, b, off, c, rfl, h1, h2, h3, h4⟩ := h
  refine ⟨a, b, off, c, rfl, h1, h2, fun h => (h3 h).1, fun h => (h3 h).2, fun k hk => ?_, fun x hx => ?_⟩
  · obtain ⟨es, ⟨rfl, _⟩, hc⟩ := h4 k hk
    have e0 := hc 0 (by decide)
    have e1 := hc 1 (by decide)
    have e2 := hc 2 (by decide)
    have e3 := hc 3 (by decide)
    exact ⟨by simpa [custS, plainS] using e0, by simpa [custS, plainS] using e1, by simpa [custS, plainS] using e2, by simpa [custS, plainS] using e3⟩
  · obtain ⟨k, hk, rfl⟩ := List.getElem_of_mem hx
    obtain ⟨es, he, _⟩ := h4 k hk
    exact he.2

/-- A cell that is there stays there. -/
theorem below_cell {w w' : World} {a : Addr} {v : Value} (hb : Below w.heap.size w w') (h : w.cell? a = some v) : w'.cell? a = some v := by
  rw [hb.cell (cell_lt h)]; exact h

/-- An index within a slice, whatever the slice's address. -/
theorem idx_at {P : Program} {t e : TypeId} {sz : Nat} (ht : P.underlying t = some (.slice e)) (hsz : ∀ w, (sizeOf e).run P w = .ok sz w) {a : Option Addr} {b off n c k : Nat} (ha : a = some ⟨b, off, none⟩) (hk : k < n) :
    ∀ w, (Instr.indexAt t (.slice a n c) (.int .i64 (k : Int))).run P w = .ok (.pointer (some ⟨b, off + k * sz, none⟩)) w := by
  intro w
  subst ha
  have he : P.elem t = e := by simp [Program.elem, ht]
  have ht' : P.underlying t = some (.slice (P.elem t)) := by rw [he]; exact ht
  rw [run_indexAt_slice w t _ _ _ _ _ ht', if_pos ⟨by omega, by omega⟩, he, hsz]
  simp only [Result.andThen]
  congr 3
  simp [Addr.add]
theorem idx_at1 {P : Program} {t e : TypeId} (ht : P.underlying t = some (.slice e)) (hsz : ∀ w, (sizeOf e).run P w = .ok 1 w) {a : Option Addr} {b off n c k : Nat} (ha : a = some ⟨b, off, none⟩) (hk : k < n) :
    ∀ w, (Instr.indexAt t (.slice a n c) (.int .i64 (k : Int))).run P w = .ok (.pointer (some ⟨b, off + k, none⟩)) w := by
  have h := idx_at ht hsz (c := c) ha hk
  simpa only [Nat.mul_one] using h

/-- The ways through a chain of '&&'. -/
theorem chain2 (p q : Bool) : p = false ∨ (p = true ∧ q = false) ∨ (p = true ∧ q = true) := by cases p <;> cases q <;> simp
theorem chain3 (p q r : Bool) : p = false ∨ (p = true ∧ q = false) ∨ (p = true ∧ q = true ∧ r = false) ∨ (p = true ∧ q = true ∧ r = true) := by cases p <;> cases q <;> cases r <;> simp
theorem chain4 (p q r s : Bool) : p = false ∨ (p = true ∧ q = false) ∨ (p = true ∧ q = true ∧ r = false) ∨ (p = true ∧ q = true ∧ r = true ∧ s = false) ∨ (p = true ∧ q = true ∧ r = true ∧ s = true) := by
  cases p <;> cases q <;> cases r <;> cases s <;> simp
theorem chain5 (p q r s t : Bool) : p = false ∨ (p = true ∧ q = false) ∨ (p = true ∧ q = true ∧ r = false) ∨ (p = true ∧ q = true ∧ r = true ∧ s = false) ∨ (p = true ∧ q = true ∧ r = true ∧ s = true ∧ t = false) ∨
    (p = true ∧ q = true ∧ r = true ∧ s = true ∧ t = true) := by
  cases p <;> cases q <;> cases r <;> cases s <;> cases t <;> simp

theorem below_step {a w w' : World} (h : Below a.heap.size a w) (hb : Below w.heap.size w w') : Below a.heap.size a w' := h.trans (hb.mono h.size)

/-- A contract's value, named otherwise. -/
theorem Calls.val {P : Program} {f : FuncId} {args : Array Value} {w : World} {R : World → Prop} {v v' : Value} (h : Calls P f args w fun e w' => e = .returned v ∧ R w') (hv : v = v') :
    Calls P f args w fun e w' => e = .returned v' ∧ R w' := hv ▸ h
theorem Calls.bool {P : Program} {f : FuncId} {args : Array Value} {w : World} {R : World → Prop} {b b' : Bool} (h : Calls P f args w fun e w' => e = .returned (.bool b) ∧ R w') (hb : b = b') :
    Calls P f args w fun e w' => e = .returned (.bool b') ∧ R w' := hb ▸ h

theorem ret_bool {a b : Bool} (h : a = b) : Ending.returned (.bool a) = .returned (.bool b) := by rw [h]
theorem ret_int {k : IntKind} {a b : Int} (h : a = b) : Ending.returned (.int k a) = .returned (.int k b) := by rw [h]
theorem all_take_succ {α : Type} (p : α → Bool) (l : List α) (k : Nat) (h : k < l.length) : (l.take (k + 1)).all p = ((l.take k).all p && p l[k]) := by
  rw [List.take_succ_eq_append_getElem h, List.all_append]; simp
end Go.Proofs.Ytafhjfkdlmijdaa
