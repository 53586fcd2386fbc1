/- A part of the proof of the card of licitlaw37.ConclusionDiffers. -/
import Derived.Test.YtnpfemnclccbnaaGreatDoorCards
import Derived.Test.YtnpfemnclccbnaaGreatDoorTie
import Derived.WalkKit
import Derived.ProofKit
import Derived.OpenShut
import Derived.Carry
import Derived.Deep.DeepHandedRow
import Derived.Deep.DeepLaidRun
namespace Go.Proofs.YtnpfemnclccbnaaGreatDoor.Differs
open Go.ChangeShapes Go.WideShapes Go.ChangeAt Go.RowKit
set_option linter.unusedVariables false

def lv0 : DataW Unit → List Value
  | .lit (.int k n) => [.int k n]
  | _ => []
def lv1 : DataW Unit → List Value
  | .agg ds => ds.flatMap lv0
  | d => lv0 d
def lv2 : DataW Unit → List Value
  | .agg ds => ds.flatMap lv1
  | d => lv1 d
def put (cs : List Value) : Obj → Obj
  | .cells _ t frozen => .cells cs.toArray t frozen
  | o => o
def text : DataW Unit → Value
  | .iface _ (.ptr (.agg [.lit (.string s)])) => .string ⟨s.toArray⟩
  | _ => .nilIface
noncomputable def laidWorld (os : Os) : World :=
  { World.holding Tryz.prog os ⟨#[], #[], []⟩ with heap := ((((((((World.holding Tryz.prog os ⟨#[], #[], []⟩).heap.modify 6 (put (lv1 Rows.laid_math_bits_deBruijn32tab))).modify 7 (put (lv1 Rows.laid_math_bits_deBruijn64tab))).modify 3 (put (lv1 Rows.laid_internal_strconv_uint64pow10))).modify 2 (put (lv2 Rows.laid_unicode_utf8_acceptRanges))).modify 5 (put [.iface 403 (.pointer (some ⟨13, 0, none⟩))])).modify 4 (put [.iface 403 (.pointer (some ⟨14, 0, none⟩))])).modify 1 (put (lv1 Rows.laid_unicode_utf8_first))).push (.cells #[text Rows.laid_strconv_ErrRange] 405 (0, 0)) |>.push (.cells #[text Rows.laid_strconv_ErrSyntax] 405 (0, 0)) }
noncomputable def world0 (os : Os) : World := ((laidWorld os).forCall (fun _ _ => 0) ⟨#[], #[.slice none 0 0, .slice none 0 0], []⟩).memory

theorem laid_met (os : Os) : laidMet Tryz.prog Rows.conclusionDiffersRow.laid (world0 os) :=
  laidMet_of_run3 8 (by kernel_rfl) (by kernel_rfl) (by kernel_rfl)
theorem reads (os : Os) {H : Type} (enc : TypeId × Value → H) : ∃ places, DataW.whole enc Tryz.prog (world0 os) Tryz.f6.params.toList Rows.conclusionDiffersSpec.vars false #[Value.slice none 0 0, .slice none 0 0].toList 8 = some ([.nil, .nil], [], places) :=
  ⟨[], by kernel_rfl⟩
end Go.Proofs.YtnpfemnclccbnaaGreatDoor.Differs
