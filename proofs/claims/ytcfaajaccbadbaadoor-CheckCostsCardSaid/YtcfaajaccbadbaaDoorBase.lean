/- What all walks of this seat share: errors, primitives. -/
import Derived.Test.YtcfaajaccbadbaaDoorXa
set_option linter.unusedVariables false
set_option linter.unusedSimpArgs false
namespace Go.Proofs.YtcfaajaccbadbaaDoor
open Go Ahm

/-- The errors. -/
inductive Er where
  | shape | range | kind | many | fin | room | none | als | cost | jump | cycle | fuel | full | quota | cap | stale | tag | old | tenant | word | number
  deriving DecidableEq
def erG : Er → Nat
  | .shape => 4 | .range => 5 | .kind => 3 | .many => 0 | .fin => 10 | .room => 11 | .none => 1
  | .als => 9 | .cost => 6 | .jump => 8 | .cycle => 2 | .fuel => 12 | .full => 13 | .quota => 14
  | .cap => 15 | .stale => 16 | .tag => 17 | .old => 18 | .tenant => 19 | .word => 20 | .number => 21
/-- A bare error, or none. -/
def erA : Option Er → AV
  | .none => .sc .nilIface
  | some e => .ifc 153 (.sp (erG e))
theorem erA_none : erA .none = .sc .nilIface := rfl
theorem erA_some {e : Er} : erA (some e) = .ifc 153 (.sp (erG e)) := rfl

/-- An error around a place: the one primitive. -/
def primAround : List AV → Option AV
  | [.sc (.int .i64 p), .ifc 153 (.sp j)] => bif sentB j then some (.ifc 91 (.fp [.sc (.int .i64 p), .ifc 153 (.sp j)] 0)) else none
  | _ => none
def prims (g : Nat) : Option (List AV → Option AV) := bif Nat.beq g 36 then some primAround else none
noncomputable abbrev EE (tok : Nat → Value) (prot : Nat → Obj → Prop) : Env := envOf prims tok prot
variable {tok : Nat → Value} {prot : Nat → Obj → Prop}

theorem glob_er (e : Er) : (EE tok prot).glob (erG e) = some (.ifc 153 (.sp (erG e))) := by cases e <;> rfl
theorem globs : (EE tok prot).glob 4 = some (erA (some .shape)) ∧ (EE tok prot).glob 5 = some (erA (some .range)) ∧ (EE tok prot).glob 3 = some (erA (some .kind)) ∧ (EE tok prot).glob 0 = some (erA (some .many)) ∧
    (EE tok prot).glob 10 = some (erA (some .fin)) ∧ (EE tok prot).glob 1 = some (erA (some .none)) ∧ (EE tok prot).glob 9 = some (erA (some .als)) ∧ (EE tok prot).glob 6 = some (erA (some .cost)) ∧ (EE tok prot).glob 8 = some (erA (some .jump)) ∧ (EE tok prot).glob 2 = some (erA (some .cycle)) :=
  ⟨rfl, rfl, rfl, rfl, rfl, rfl, rfl, rfl, rfl, rfl⟩
theorem res_er (e : Option Er) (E : Env) (st : List AObj) (n : Nat) : res E st (n + 2) (erA e) = some (erA e) := by cases e <;> rfl
theorem lp_er (e : Option Er) : AV.isLp (erA e) = false := by cases e <;> rfl
theorem live_er (e : Option Er) (lb : Lb) (st : List AObj) : liveA lb st (erA e) = true := by cases e <;> rfl
theorem flat_er (e : Option Er) : flat (erA e) = true := by cases e <;> rfl
theorem slot_er (e : Option Er) (k : Nat) : AV.isSlot k (erA e) = false := by cases e <;> rfl
theorem cells_er (e : Option Er) : AV.cells (erA e) = [erA e] := by cases e <;> rfl
theorem cell_er (e : Option Er) : AV.isCell (erA e) = true := by cases e <;> rfl
theorem eql_er (e : Option Er) {E : Env} : xbin E .eql .iface true (erA e) (.sc .nilIface) = some (.sc (.bool e.isNone)) := by cases e <;> rfl
theorem neq_er (e : Option Er) {E : Env} : xbin E .neq .iface true (erA e) (.sc .nilIface) = some (.sc (.bool e.isSome)) := by cases e <;> rfl
attribute [go_sem] globs res_er lp_er live_er flat_er slot_er cells_er cell_er eql_er neq_er Option.map_some

theorem fr_around : ((EE tok prot).pure 36 || isPrim (EE tok prot) 36) = true ∧ ∀ args st, callL (EE tok prot) 36 args st = pureCall (EE tok prot) 36 (ansL (EE tok prot) 36) args st := ⟨rfl, fun _ _ => callL_frozen rfl _ _⟩
attribute [go_sem] fr_around
end Go.Proofs.YtcfaajaccbadbaaDoor
