/- A region that draws its order, whose callees lay memory of their own and hand back plain values: one walk in the text's order. -/
import Derived.Test.YtafhjfkdlmijdaaLib
namespace Go.Proofs.Ytafhjfkdlmijdaa
open Go.RowKit

/-- A world behind W: nothing that was there has changed. -/
structure Ext (W : World) where
  val : World
  ok : Below W.heap.size W val

instance (W : World) : Nonempty (Ext W) := ⟨⟨W, Below.refl _ _⟩⟩

theorem wp_region_ext {P : Program} {id : Nat} {Q : Exit → Act → World → Prop} {a : Act} {w : World} {l : List Oper} (hm : P.follows .mixedOrders = true) (hB : Region.lexB .any l.toArray = true)
    (h : wpQuiet P l.toArray (fun w' => ∃ e : Ext w, w' = e.val) (fun a' => ∀ w', (∃ e : Ext w, w' = e.val) → Q .normal a' w') l a) : (Code.region id l.toArray true).wp P Q a w :=
  wp_region_quiet (C := fun w' => ∃ e : Ext w, w' = e.val) hm hB ⟨⟨{ w with drawn := w.drawn + 1 }, Below.drew (Below.refl _ _)⟩, rfl⟩ (by simpa only [List.toList_toArray] using h)
theorem Calls.ext {P : Program} {f : FuncId} {args : Array Value} {W : World} {x : Ext W} {v : Value}
    (h : Calls P f args x.val fun e w' => e = .returned v ∧ Below x.val.heap.size x.val w') : Calls P f args x.val fun e w'' => e = .returned v ∧ ∃ y : Ext W, w'' = y.val :=
  h.mono fun _ w' ⟨he, hb⟩ => ⟨he, ⟨w', x.ok.trans (hb.mono x.ok.size)⟩, rfl⟩
theorem Calls.ext_same {P : Program} {f : FuncId} {args : Array Value} {W : World} {x : Ext W} {v : Value}
    (h : Calls P f args x.val fun e w' => e = .returned v ∧ w' = x.val) : Calls P f args x.val fun e w'' => e = .returned v ∧ ∃ y : Ext W, w'' = y.val :=
  h.mono fun _ _ ⟨he, hb⟩ => ⟨he, x, hb⟩
theorem Ext.cell {W : World} (x : Ext W) {a : Addr} {v : Value} (h : W.cell? a = some v) : x.val.cell? a = some v := below_cell x.ok h
end Go.Proofs.Ytafhjfkdlmijdaa
