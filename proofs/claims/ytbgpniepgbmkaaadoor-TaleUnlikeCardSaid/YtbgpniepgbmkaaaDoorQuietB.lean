/- A region that draws its order, whose operations only read and whose callees lay nothing but blocks of their own, walked once, in the order of the text: the kit's theorem at the class of all worlds that keep what was there. No condition. -/
import Derived.Test.YtbgpniepgbmkaaaDoorBase
import Derived.Deep.QuietTactic
namespace Go.Proofs.YtbgpniepgbmkaaaDoor
open Go.RowKit

/-- A world that keeps what w holds. -/
structure BW (w : World) where
  at_ : World
  ok : Below w.heap.size w at_
instance (w : World) : Inhabited (BW w) := ⟨⟨w, Below.refl _ _⟩⟩
theorem wp_region_quiet_bw {P : Program} {id : Nat} {Q : Exit → Act → World → Prop} {a : Act} {w : World} {l : List Oper} (hm : P.follows .mixedOrders = true) (hB : Region.lexB .any l.toArray = true)
    (h : wpQuiet P l.toArray (fun w' => ∃ t : BW w, w' = t.at_) (fun a' => ∀ w', (∃ t : BW w, w' = t.at_) → Q .normal a' w') l a) : (Code.region id l.toArray true).wp P Q a w :=
  wp_region_quiet (C := fun w' => ∃ t : BW w, w' = t.at_) hm hB ⟨⟨w.drew, (Below.refl _ _).drew⟩, rfl⟩ (by simpa using h)
theorem Calls.bw {P : Program} {f : FuncId} {args : Array Value} {w : World} (t : BW w) {v : Value} (h : Calls P f args t.at_ fun e w' => e = .returned v ∧ Below t.at_.heap.size t.at_ w') : Calls P f args t.at_ fun e w'' => e = .returned v ∧ ∃ p : BW w, w'' = p.at_ :=
  h.mono fun _ w'' ⟨he, hb⟩ => ⟨he, ⟨w'', t.ok.trans (hb.mono t.ok.size)⟩, rfl⟩
theorem Calls.bw_same {P : Program} {f : FuncId} {args : Array Value} {w : World} (t : BW w) {v : Value} (h : Calls P f args t.at_ fun e w' => e = .returned v ∧ t.at_ = w') : Calls P f args t.at_ fun e w'' => e = .returned v ∧ ∃ p : BW w, w'' = p.at_ :=
  h.mono fun _ w'' ⟨he, hb⟩ => ⟨he, t, hb.symm⟩
theorem bw_cell {w : World} {b o : Nat} {v : Value} (hb : b < w.heap.size) (h : w.cell? ⟨b, o, none⟩ = some v) (t : BW w) : t.at_.cell? ⟨b, o, none⟩ = some v := (t.ok.cell (p := ⟨b, o, none⟩) hb).trans h
end Go.Proofs.YtbgpniepgbmkaaaDoor
