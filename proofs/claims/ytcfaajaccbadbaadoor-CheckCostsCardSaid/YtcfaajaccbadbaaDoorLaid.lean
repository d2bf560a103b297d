/- What the listed variables hold when the law is called, and what follows of it. Printed by a program of mine. -/
import Derived.Test.YtcfaajaccbadbaaDoorTab
import Derived.Test.YtcfaajaccbadbaaDoorGlu
import Derived.Test.YtcfaajaccbadbaaDoorRows
import Derived.ProofKit
import Derived.LaidLaws
import Derived.LaidHandle
import Derived.Stop.LaidErr
set_option linter.unusedSimpArgs false
set_option linter.unusedVariables false
namespace Go.Proofs.YtcfaajaccbadbaaDoor
open Go Ahm

theorem own : ownKnob Tryd.prog.godebug = none := by kernel_rfl
theorem mixed : Tryd.prog.follows .mixedOrders = true := by kernel_rfl
def sents : List (String × List UInt8) := [("lodge/api.ErrShape", [110, 111, 116, 32, 116, 104, 101, 32, 115, 104, 97, 112, 101, 32, 116, 104, 97, 116, 32, 105, 116, 32, 104, 97, 115, 32, 116, 111, 32, 104, 97, 118, 101]), ("lodge/api.ErrRange", [97, 32, 110, 117, 109, 98, 101, 114, 32, 111, 117, 116, 32, 111, 102, 32, 105, 116, 115, 32, 114, 97, 110, 103, 101]), ("lodge/api.ErrKind", [110, 111, 32, 115, 117, 99, 104, 32, 107, 105, 110, 100]), ("lodge/api.ErrMany", [116, 111, 111, 32, 109, 97, 110, 121]), ("lodge/api.ErrEnd", [105, 116, 32, 101, 110, 100, 115, 32, 116, 111, 111, 32, 101, 97, 114, 108, 121]), ("lodge/api.ErrRoom", [116, 104, 101, 114, 101, 32, 105, 115, 32, 110, 111, 32, 114, 111, 111, 109]), ("lodge/api.ErrNone", [116, 104, 101, 114, 101, 32, 105, 115, 32, 110, 111, 110, 101]), ("lodge/api.ErrAlias", [105, 116, 32, 108, 105, 101, 115, 32, 111, 118, 101, 114, 32, 119, 104, 97, 116, 32, 105, 115, 32, 114, 101, 97, 100]), ("lodge/api.ErrCost", [105, 116, 32, 99, 111, 115, 116, 115, 32, 116, 111, 111, 32, 109, 117, 99, 104]), ("lodge/api.ErrJump", [105, 116, 32, 103, 111, 101, 115, 32, 119, 104, 101, 114, 101, 32, 116, 104, 101, 114, 101, 32, 105, 115, 32, 110, 111, 116, 104, 105, 110, 103]), ("lodge/api.ErrCycle", [105, 116, 32, 103, 111, 101, 115, 32, 114, 111, 117, 110, 100, 32, 105, 110, 32, 97, 32, 114, 105, 110, 103]), ("lodge/api.ErrFuel", [110, 111, 32, 102, 117, 101, 108, 32, 105, 115, 32, 108, 101, 102, 116]), ("lodge/api.ErrFull", [116, 104, 101, 32, 113, 117, 101, 117, 101, 32, 105, 115, 32, 102, 117, 108, 108]), ("lodge/api.ErrQuota", [98, 101, 121, 111, 110, 100, 32, 116, 104, 101, 32, 113, 117, 111, 116, 97]), ("lodge/api.ErrCap", [110, 111, 32, 115, 117, 99, 104, 32, 114, 105, 103, 104, 116]), ("lodge/api.ErrStale", [111, 102, 32, 97, 110, 32, 101, 108, 100, 101, 114, 32, 103, 101, 110, 101, 114, 97, 116, 105, 111, 110]), ("lodge/api.ErrTag", [116, 104, 101, 32, 116, 97, 103, 32, 105, 115, 32, 97, 110, 111, 116, 104, 101, 114, 32, 111, 110, 101]), ("lodge/api.ErrOld", [97, 32, 99, 111, 117, 110, 116, 101, 114, 32, 116, 104, 97, 116, 32, 105, 115, 32, 110, 111, 116, 32, 97, 98, 111, 118, 101, 32, 116, 104, 101, 32, 108, 97, 115, 116, 32, 111, 110, 101]), ("lodge/api.ErrTenant", [110, 111, 32, 115, 117, 99, 104, 32, 116, 101, 110, 97, 110, 116]), ("lodge/api.ErrWord", [110, 111, 32, 115, 117, 99, 104, 32, 119, 111, 114, 100]), ("lodge/api.ErrNumber", [110, 111, 32, 115, 117, 99, 104, 32, 110, 117, 109, 98, 101, 114])]
def sentNos : List Nat := [4, 5, 3, 0, 10, 11, 1, 9, 6, 8, 2, 12, 13, 14, 15, 16, 17, 18, 19, 20, 21]
theorem sentNames : sents.map (fun x => Tryd.prog.globalNamed x.1) = sentNos.map some := by kernel_rfl
theorem sentTypes : sentNos.map (fun g => (Tryd.prog.globals[g]?).map (·.type)) = sentNos.map (fun _ => some 38) := by kernel_rfl
theorem cellsTe : Tryd.prog.cellsOf 175 = 1 := by kernel_rfl
theorem cellsTs : Tryd.prog.cellsOf 9 = 1 := by kernel_rfl
theorem starName : "*" ++ "errors.errorString" = "*errors.errorString" := by decide
theorem rowTp (u : TypeId) (h : Tryd.prog.typeName? 3 u = some "*errors.errorString") : u = 153 :=
  typeName_ptr_named (nm := "errors.errorString") (by rw [starName]; kernel_rfl) (by kernel_rfl) (by decide) u (by rw [starName]; exact h)

/-- The listed sentinels, as a world has them. -/
def SentMet (W : World) : Prop := laidMet Tryd.prog (sents.map fun x => (x.1, .iface "*errors.errorString" (.ptr (.agg [.lit (.string x.2)])))) W

theorem sent_cells {W : World} (h : SentMet W) : ∀ x ∈ sents, ∀ g, Tryd.prog.globalNamed x.1 = some g → (Tryd.prog.globals[g]?).map (·.type) = some 38 →
    ∃ (a : Addr) (s : ByteArray) (c : Array Value) (t : TypeId), W.cell? ⟨g, 0, none⟩ = some (.iface 153 (.pointer (some a))) ∧ W.cell? a = some (.string s) ∧ s.data.toList = x.2 ∧ W.heap[a.block]? = some (.cells c t (0, 0)) :=
  laid_all Tryd.underlying38 rowTp Tryd.underlying153 Tryd.underlying175 rfl rfl Tryd.underlying9 cellsTe cellsTs sents h

theorem sent_at {W : World} (h : SentMet W) {i g : Nat} {x : String × List UInt8} (hx : sents[i]? = some x) (hg : sentNos[i]? = some g) :
    ∃ (a : Addr) (s : ByteArray) (c : Array Value) (t : TypeId), W.cell? ⟨g, 0, none⟩ = some (.iface 153 (.pointer (some a))) ∧ W.cell? a = some (.string s) ∧ s.data.toList = x.2 ∧ W.heap[a.block]? = some (.cells c t (0, 0)) := by
  refine sent_cells h x (List.mem_of_getElem? hx) g ?_ ?_
  · have := congrArg (·[i]?) sentNames
    simp only [List.getElem?_map, hx, hg, Option.map_some, Option.some.injEq] at this
    exact this
  · have := congrArg (·[i]?) sentTypes
    simp only [List.getElem?_map, hg, Option.map_some, Option.some.injEq] at this
    exact this

theorem sent_ix (g : Nat) (hg : sentB g = true) : ∃ (i : Nat) (x : String × List UInt8), sents[i]? = some x ∧ sentNos[i]? = some g := by
  have hm : g ∈ sentNos := by
    have := mem_of_memN hg
    simp only [List.mem_cons, List.not_mem_nil, or_false] at this
    simp only [sentNos, List.mem_cons, List.not_mem_nil, or_false]
    omega
  obtain ⟨i, hi⟩ := List.getElem?_of_mem hm
  have hl : sents.length = sentNos.length := by kernel_rfl
  have hlt : i < sents.length := by rw [hl]; exact (List.getElem?_eq_some_iff.1 hi).1
  exact ⟨i, sents[i], List.getElem?_eq_getElem hlt, hi⟩

theorem texts_apart : ∀ i j : Fin 21, (sents[i.1]?).map (·.2) = (sents[j.1]?).map (·.2) → i = j := by decide +kernel

theorem glob_sent : ∀ g v, globT.find g = some v → sentB g = true ∧ v = .ifc 153 (.sp g) := by
  intro g v h
  have := NT.find_all (p := fun g v => sentB g && AV.beq v (.ifc 153 (.sp g))) (by kernel_rfl) h
  simp only [Bool.and_eq_true] at this
  exact ⟨this.1, beq_eq _ _ this.2⟩

/-- What the abstract machine may know when the law is called. -/
theorem glob_start {W : World} (h : SentMet W) {prim : FuncId → Option (List AV → Option AV)} {tok : Nat → Value} (htok : ∀ g, sentB g = true → tok g = sentTok W g) :
    GlobOk (envOf prim tok fun b o => W.heap[b]? = some o) (FC.start W tok) where
  glob := fun g v hv => by
    obtain ⟨hs, rfl⟩ := glob_sent g v hv
    obtain ⟨i, x, hx, hg⟩ := sent_ix g hs
    obtain ⟨a, s, c, t, h1, h2, h3, h4⟩ := sent_at h hx hg
    refine ⟨fun hf => hf, _, h1, .ifc ?_⟩
    have e : tok g = .pointer (some a) := by rw [htok g hs]; simp [sentTok, h1]
    have := FRep.sp (F := FC.start W tok) (k := g) (by show (tok g).oneCell' = true; rw [e]; rfl)
    rw [show (FC.start W tok).ga g = .pointer (some a) from e] at this
    exact this
  prot := fun b o ho => ⟨fun hf => hf, ho⟩
  sent := fun g hs => by
    obtain ⟨i, x, hx, hg⟩ := sent_ix g hs
    obtain ⟨a, s, c, t, h1, h2, h3, h4⟩ := sent_at h hx hg
    exact ⟨a, c, t, by show tok g = _; rw [htok g hs]; simp [sentTok, h1], fun hf => hf, h4⟩
  inj := fun j k hj hk he => by
    obtain ⟨ij, xj, hxj, hgj⟩ := sent_ix j hj
    obtain ⟨ik, xk, hxk, hgk⟩ := sent_ix k hk
    obtain ⟨aj, sj, cj, tj, j1, j2, j3, j4⟩ := sent_at h hxj hgj
    obtain ⟨ak, sk, ck, tk, k1, k2, k3, k4⟩ := sent_at h hxk hgk
    have he : tok j = tok k := he
    rw [htok j hj, htok k hk] at he
    simp only [sentTok, j1, k1, Value.pointer.injEq, Option.some.injEq] at he
    subst he
    rw [j2] at k2
    simp only [Option.some.injEq, Value.string.injEq] at k2
    subst k2
    have hl : sents.length = 21 := by kernel_rfl
    have lj := (List.getElem?_eq_some_iff.1 hxj).1
    have lk := (List.getElem?_eq_some_iff.1 hxk).1
    have := texts_apart ⟨ij, by omega⟩ ⟨ik, by omega⟩ (by simp [hxj, hxk, ← j3, ← k3])
    simp only [Fin.mk.injEq] at this
    subst this
    rw [hgj] at hgk
    exact Option.some.inj hgk

/-! ### a world in which the listed variables hold what is listed -/
noncomputable def low : Nat := (World.holding Tryd.prog default ⟨#[], #[], []⟩).heap.size
noncomputable def laidWorld (os : Os) : World :=
  let w0 := World.holding Tryd.prog os ⟨(sents.map fun x => Obj.cells #[.string ⟨x.2.toArray⟩] 175).toArray, #[], []⟩
  let h := w0.heap.modify 7 fun | .cells _ t fr => .cells #[.iface 142 (.agg #[.pointer (some ⟨22, 38, none⟩)])] t fr | o => o
  { w0 with heap := (sentNos.zipIdx).foldl (fun h gi => h.modify gi.1 fun | .cells _ t fr => .cells #[.iface 153 (.pointer (some ⟨low + gi.2, 0, none⟩))] t fr | o => o) h }
end Go.Proofs.YtcfaajaccbadbaaDoor
