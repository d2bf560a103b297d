/- The one primitive, an error around a place, is what the program does; from answers to calls. -/
import Derived.Test.YtcfaajaccbadbaaDoorLaid
import Derived.Test.YtcfaajaccbadbaaDoorBase
import Derived.Test.YtcfaajaccbadbaaDoorAs
set_option linter.unusedVariables false
namespace Go.Proofs.YtcfaajaccbadbaaDoor
open Go Ahm

theorem grown_refl (w : World) : Ahm.Grown w w := ⟨rfl, rfl, rfl, Nat.le_refl _, fun _ _ => rfl⟩
theorem grown_trans {a b c : World} (h : Ahm.Grown a b) (k : Ahm.Grown b c) : Ahm.Grown a c :=
  ⟨k.os.trans h.os, k.tape.trans h.tape, k.output.trans h.output, Nat.le_trans h.size k.size, fun b hb => (k.keep b (Nat.lt_of_lt_of_le hb h.size)).trans (h.keep b hb)⟩
theorem grown_alloc (w : World) (o : Obj) : Ahm.Grown w (w.alloc o) :=
  ⟨rfl, rfl, rfl, by simp, fun b hb => push_old rfl hb⟩
theorem grown_left (t : Addr) (w : World) : Ahm.Grown w (asLeft t w) :=
  grown_trans (grown_trans (grown_alloc _ _) (grown_alloc _ _)) (grown_alloc _ _)

theorem callable : Callable Tryd.prog 36 := ⟨Tryd.f36, _, Tryd.func36, rfl, by kernel_rfl⟩

theorem around_spec {prim : FuncId → Option (List AV → Option AV)} {tok : Nat → Value} {W : World} (hh : W.cell? ⟨7, 0, none⟩ = some (.iface 142 (.agg #[.pointer (some ⟨22, 38, none⟩)]))) {p : Int} {j : Nat} (hj : sentB j = true) :
    PureSpec (envOf prim tok fun b o => W.heap[b]? = some o) 36 [.sc (.int .i64 p), .ifc 153 (.sp j)] (.ifc 91 (.fp [.sc (.int .i64 p), .ifc 153 (.sp j)] 0)) := by
  intro F hga hg hs cargs hargs
  refine ⟨callable, ?_⟩
  obtain ⟨hsz, har⟩ := hargs
  have h0 : cargs[0]? = some (.int .i64 p) := by
    have hl : 0 < cargs.size := by rw [hsz]; simp
    have hf := har 0 _ cargs[0] rfl (by simp [hl])
    have he : cargs[0] = .int .i64 p := by
      generalize cargs[0] = x at hf
      cases hf; rfl
    simp [hl, he]
  obtain ⟨a, c, t, e1, e2, e3⟩ := hg.sent j hj
  have h1 : cargs[1]? = some (.iface 153 (.pointer (some a))) := by
    have hl : 1 < cargs.size := by rw [hsz]; simp
    have hf := har 1 _ cargs[1] rfl (by simp [hl])
    have he : cargs[1] = .iface 153 (F.ga j) := by
      generalize cargs[1] = x at hf
      cases hf with
      | ifc h => cases h with | sp _ => rfl
    rw [e1] at he
    simp [hl, he]
  have hc : cargs = #[.int .i64 p, .iface 153 (.pointer (some a))] := by
    apply Array.ext'
    obtain ⟨l⟩ := cargs
    match l, hsz with
    | [x, y], _ => simp at h0 h1; simp [h0, h1]
  subst hc
  have hhF : F.w.cell? ⟨7, 0, none⟩ = some (.iface 142 (.agg #[.pointer (some ⟨22, 38, none⟩)])) := by
    have hlt := Ahm.World.cell_lt hh
    have hW7 : W.heap[7]? = some W.heap[7] := by simp [hlt]
    have := (hg.prot 7 _ hW7).2
    rw [World.cell?_of_block (w := W) (w' := F.w) (this.trans hW7.symm)]
    exact hh
  refine (around_miss p a F.w hhF).mono fun e w' he => ?_
  obtain ⟨rfl, rfl⟩ := he
  have hgr := grown_trans (grown_alloc F.w (.cells #[.pointer none] 91)) (grown_left ⟨F.w.heap.size, 0, none⟩ _)
  refine ⟨_, rfl, grown_trans hgr (grown_alloc _ _), ?_⟩
  generalize asLeft ⟨F.w.heap.size, 0, none⟩ (F.w.alloc (.cells #[.pointer none] 91)) = wl at hgr ⊢
  have hpt : FRep ⟨wl.alloc (.cells #[.int .i64 p, .iface 153 (.pointer (some a))] 93), F.Wr, F.ga⟩ (.sp j) (.pointer (some a)) := by
    have := FRep.sp (F := ⟨wl.alloc (.cells #[.int .i64 p, .iface 153 (.pointer (some a))] 93), F.Wr, F.ga⟩) (k := j) (by show (F.ga j).oneCell' = true; rw [e1]; rfl)
    have e : (FC.mk (wl.alloc (.cells #[.int .i64 p, .iface 153 (.pointer (some a))] 93)) F.Wr F.ga).ga j = .pointer (some a) := e1
    rw [e] at this
    exact this
  refine .ifc (.fp (off := 0) (b := wl.heap.size) (fun i => if i = 0 then .int .i64 p else .iface 153 (.pointer (some a))) (fun _ hw => ?_) (fun i hi => ?_) fun i x hx => ?_)
  · have := hs _ hw
    have := hgr.size
    omega
  · match i, hi with
    | 0, _ => simp
    | 1, _ => simp
  · match i with
    | 0 => simp at hx; subst hx; exact .sc rfl
    | 1 => simp at hx; subst hx; exact .ifc hpt
    | i + 2 => simp at hx

theorem prims_ok {tok : Nat → Value} {W : World} (hh : W.cell? ⟨7, 0, none⟩ = some (.iface 142 (.agg #[.pointer (some ⟨22, 38, none⟩)]))) : PrimOk (EE tok fun b o => W.heap[b]? = some o) := by
  intro g p hp args r hr
  have hp : prims g = some p := hp
  unfold prims at hp
  cases e : Nat.beq g 36
  · simp [e] at hp
  · simp only [e, cond_true, Option.some.injEq] at hp
    subst hp
    obtain rfl := Nat.eq_of_beq_eq_true e
    unfold primAround at hr
    split at hr
    · rename_i p j
      cases hj : sentB j
      · simp [hj] at hr
      · simp [hj] at hr; subst hr; exact around_spec hh hj
    · cases hr

/-- From an answer to the program: a law that answers true. -/
theorem law_calls {g : Nat} {args : List AV} {cargs : Array Value} {W : World} (hS : SentMet W) (hh : W.cell? ⟨7, 0, none⟩ = some (.iface 142 (.agg #[.pointer (some ⟨22, 38, none⟩)])))
    (h : ansL (EE (fun g => sentTok W g) fun b o => W.heap[b]? = some o) g args = some (B true)) (ha : FArgs (FC.start W fun g => sentTok W g) args cargs) :
    Calls Tryd.prog g cargs W fun e W' => e = .returned (.bool true) ∧ Ahm.Grown W W' := by
  have hspec := pure_of_ans (E := EE (fun g => sentTok W g) fun b o => W.heap[b]? = some o) mixed (prims_ok hh) h
  have hg := glob_start (prim := prims) (tok := fun g => sentTok W g) hS fun g hgs => rfl
  refine (hspec.top (W := W) hg ha).mono fun e W' he => ?_
  obtain ⟨c, rfl, hgr, hf⟩ := he
  cases hf with
  | sc _ => exact ⟨rfl, hgr⟩

theorem FArgs.cons {F : FC} {x : AV} {c : Value} {l : List AV} {cs : List Value} (h : FRep F x c) (hl : FArgs F l cs.toArray) : FArgs F (x :: l) (c :: cs).toArray := by
  obtain ⟨h1, h2⟩ := hl
  refine ⟨by simpa using h1, fun j y d hy hd => ?_⟩
  cases j with
  | zero => simp at hy hd; subst hy hd; exact h
  | succ j => exact h2 j y d (by simpa using hy) (by simpa using hd)
end Go.Proofs.YtcfaajaccbadbaaDoor
