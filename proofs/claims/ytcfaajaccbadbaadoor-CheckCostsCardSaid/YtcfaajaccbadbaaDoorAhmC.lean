/- The abstract machine's values against the model's: when a value of one is one of the other. -/
import Derived.Test.YtcfaajaccbadbaaDoorAhmB
set_option linter.unusedSimpArgs false
set_option linter.unusedVariables false
namespace Go.Proofs.YtcfaajaccbadbaaDoor.Ahm
open Go

/-- A world; blocks that are written; where static things lie. -/
structure FC where
  w : World
  Wr : Nat → Prop
  ga : Nat → Value

inductive FRep (F : FC) : AV → Value → Prop
  | sc {v : Value} (h : scal v = true) : FRep F (.sc v) v
  | sp {k : Nat} (h : (F.ga k).oneCell' = true) : FRep F (.sp k) (F.ga k)
  | gl {g : Nat} : FRep F (.gl g) (.pointer (some ⟨g, 0, none⟩))
  | fs {cells : List AV} {n b off cap : Nat} (vs : Nat → Value) (hn : n ≤ cap) (hw : cells ≠ [] → ¬ F.Wr b)
      (hc : ∀ (j : Nat), j < cells.length → F.w.cell? ⟨b, off + j, none⟩ = some (vs j)) (hr : ∀ (j : Nat) (c : AV), cells[j]? = some c → FRep F c (vs j)) :
      FRep F (.fs cells n) (.slice (some ⟨b, off, none⟩) n cap)
  | fs0 {a : Addr} {cap : Nat} : FRep F (.fs [] 0) (.slice (some a) 0 cap)
  | fp {cells : List AV} {o b off : Nat} (vs : Nat → Value) (hw : cells ≠ [] → ¬ F.Wr b)
      (hc : ∀ (j : Nat), j < cells.length → F.w.cell? ⟨b, off + j, none⟩ = some (vs j)) (hr : ∀ (j : Nat) (c : AV), cells[j]? = some c → FRep F c (vs j)) :
      FRep F (.fp cells o) (.pointer (some ⟨b, off + o, none⟩))
  | e0 {a : Addr} : FRep F .e0 (.slice (some a) 0 0)
  | ifc {t : TypeId} {v : AV} {c : Value} (h : FRep F v c) : FRep F (.ifc t v) (.iface t c)
  | agg {cs : List AV} {vs : Array Value} (hl : vs.size = cs.length) (hr : ∀ (j : Nat) (c : AV) (v : Value), cs[j]? = some c → vs[j]? = some v → FRep F c v) : FRep F (.agg cs) (.agg vs)
  | tup {cs : List AV} {vs : Array Value} (hl : vs.size = cs.length) (hr : ∀ (j : Nat) (c : AV) (v : Value), cs[j]? = some c → vs[j]? = some v → FRep F c v) : FRep F (.tup cs) (.tuple vs)
  | fn {f : FuncId} {as bs : List AV} {va vb : Array Value} (ha : va.size = as.length) (hb : vb.size = bs.length)
      (hra : ∀ (j : Nat) (c : AV) (v : Value), as[j]? = some c → va[j]? = some v → FRep F c v) (hrb : ∀ (j : Nat) (c : AV) (v : Value), bs[j]? = some c → vb[j]? = some v → FRep F c v) :
      FRep F (.fn f as bs) (.func (.func f) va vb)

theorem World.cell_lt {w : World} {a : Addr} {v : Value} (h : w.cell? a = some v) : a.block < w.heap.size := World.block_lt_of_cell? w a h

theorem FRep.mono {F F' : FC} (hg : F'.ga = F.ga) (hk : ∀ b, b < F.w.heap.size → ¬ F.Wr b → F'.w.heap[b]? = F.w.heap[b]? ∧ ¬ F'.Wr b) {v : AV} {c : Value} (h : FRep F v c) : FRep F' v c := by
  have key : ∀ (cells : List AV) (b off : Nat) (vs : Nat → Value), (cells ≠ [] → ¬ F.Wr b) → (∀ (j : Nat), j < cells.length → F.w.cell? ⟨b, off + j, none⟩ = some (vs j)) →
      (cells ≠ [] → ¬ F'.Wr b) ∧ (∀ (j : Nat), j < cells.length → F'.w.cell? ⟨b, off + j, none⟩ = some (vs j)) := by
    intro cells b off vs hw hc
    by_cases he : cells = []
    · subst he; exact ⟨fun h => absurd rfl h, fun j hj => by simp at hj⟩
    · have h0 := hc 0 (by cases cells <;> simp_all)
      have hlt := World.cell_lt h0
      obtain ⟨h1, h2⟩ := hk b hlt (hw he)
      refine ⟨fun _ => h2, fun j hj => ?_⟩
      rw [World.cell?_of_block (w := F.w) (w' := F'.w) h1]
      exact hc j hj
  induction h with
  | sc h => exact .sc h
  | sp h => rw [← hg] at h ⊢; exact .sp h
  | gl => exact .gl
  | fs vs hn hw hc hr ih => obtain ⟨h1, h2⟩ := key _ _ _ _ hw hc; exact .fs vs hn h1 h2 ih
  | fs0 => exact .fs0
  | fp vs hw hc hr ih => obtain ⟨h1, h2⟩ := key _ _ _ _ hw hc; exact .fp vs h1 h2 ih
  | e0 => exact .e0
  | ifc h ih => exact .ifc ih
  | agg hl hr ih => exact .agg hl ih
  | tup hl hr ih => exact .tup hl ih
  | fn ha hb hra hrb iha ihb => exact .fn ha hb iha ihb

/-- What nobody writes: static variables, and blocks that are known whole. -/
structure GlobOk (E : Env) (F : FC) : Prop where
  glob : ∀ g v, E.glob g = some v → ¬ F.Wr g ∧ ∃ c, F.w.cell? ⟨g, 0, none⟩ = some c ∧ FRep F v c
  prot : ∀ b o, E.prot b o → ¬ F.Wr b ∧ F.w.heap[b]? = some o
  sent : ∀ j, E.sent j = true → ∃ (a : Addr) (c : Array Value) (t : TypeId), F.ga j = .pointer (some a) ∧ ¬ F.Wr a.block ∧ F.w.heap[a.block]? = some (.cells c t (0, 0))
  inj : ∀ j k, E.sent j = true → E.sent k = true → F.ga j = F.ga k → j = k

theorem GlobOk.step {E : Env} {F F' : FC} (hg : F'.ga = F.ga) (h : GlobOk E F) (hk : ∀ b, b < F.w.heap.size → ¬ F.Wr b → F'.w.heap[b]? = F.w.heap[b]? ∧ ¬ F'.Wr b) : GlobOk E F' where
  glob := fun g v hv => by
    obtain ⟨h1, c, h2, h3⟩ := h.glob g v hv
    obtain ⟨k1, k2⟩ := hk g (World.cell_lt h2) h1
    exact ⟨k2, c, by rw [show F'.w.cell? ⟨g, 0, none⟩ = F.w.cell? ⟨g, 0, none⟩ from World.cell?_of_block k1]; exact h2, h3.mono hg hk⟩
  prot := fun b o hb => by
    obtain ⟨h1, h2⟩ := h.prot b o hb
    obtain ⟨k1, k2⟩ := hk b (Array.getElem?_eq_some_iff.1 h2).1 h1
    exact ⟨k2, k1.trans h2⟩
  sent := fun j hj => by
    obtain ⟨a, c, t, h0, h1, h2⟩ := h.sent j hj
    obtain ⟨k1, k2⟩ := hk a.block (Array.getElem?_eq_some_iff.1 h2).1 h1
    exact ⟨a, c, t, by rw [hg]; exact h0, k2, k1.trans h2⟩
  inj := fun j k hj hk he => h.inj j k hj hk (by rw [← hg]; exact he)

/-- What the machine knows of a world. -/
structure Ctx where
  E : Env
  w : World
  io : Nat → Nat
  il : Nat → Option Nat
  lb : Lb
  st : List AObj
  W0 : Nat → Prop

abbrev Ctx.ga (C : Ctx) : Nat → Value := C.E.tok

/-- Blocks that the call itself may write. -/
def Ctx.OW (C : Ctx) (b : Nat) : Prop :=
  (∃ o cells e, C.st[o]? = some (.arr cells e true) ∧ C.io o = b) ∨ (∃ o es, C.st[o]? = some (.map es) ∧ C.io o = b) ∨
  (∃ s g cs, lbGet C.lb s = some (g, cs) ∧ C.il s = some b)
def Ctx.Wr (C : Ctx) (b : Nat) : Prop := C.OW b ∨ C.W0 b
def Ctx.F (C : Ctx) : FC := ⟨C.w, C.Wr, C.ga⟩

inductive Rep (C : Ctx) : AV → Value → Prop
  | fz {v : AV} {c : Value} (h : FRep C.F v c) : Rep C v c
  | sl {o off n L cap s : Nat} {cells : List AV} {e : TypeId} {wr : Bool} {cur : Array Value} {fz : Nat × Nat} (ho : C.st[o]? = some (.arr cells e wr)) (hL : cells.length = L)
      (hs : sizeT C.E e = some s) (hb : C.w.heap[C.io o]? = some (.cells cur e fz)) (hn : n ≤ cap) (h1 : L ≤ off + cap * s) (h2 : off + cap * s ≤ cur.size) :
      Rep C (.sl o off n L) (.slice (some ⟨C.io o, off, none⟩) n cap)
  | slOld {o off n L : Nat} {cells : List AV} {e : TypeId} {wr : Bool} {v : Value} (ho : C.st[o]? = some (.arr cells e wr)) (hL : L < cells.length) (hv : v.oneCell' = true) : Rep C (.sl o off n L) v
  | rf {o off L : Nat} {cells : List AV} {e : TypeId} {wr : Bool} (ho : C.st[o]? = some (.arr cells e wr)) (hL : cells.length = L) :
      Rep C (.rf o off L) (.pointer (some ⟨C.io o, off, none⟩))
  | rfOld {o off L : Nat} {cells : List AV} {e : TypeId} {wr : Bool} {v : Value} (ho : C.st[o]? = some (.arr cells e wr)) (hL : L < cells.length) (hv : v.oneCell' = true) : Rep C (.rf o off L) v
  | ifc {t : TypeId} {v : AV} {c : Value} (h : Rep C v c) : Rep C (.ifc t v) (.iface t c)
  | agg {cs : List AV} {vs : Array Value} (hl : vs.size = cs.length) (hr : ∀ (j : Nat) (c : AV) (v : Value), cs[j]? = some c → vs[j]? = some v → Rep C c v) : Rep C (.agg cs) (.agg vs)
  | tup {cs : List AV} {vs : Array Value} (hl : vs.size = cs.length) (hr : ∀ (j : Nat) (c : AV) (v : Value), cs[j]? = some c → vs[j]? = some v → Rep C c v) : Rep C (.tup cs) (.tuple vs)
  | fn {f : FuncId} {as bs : List AV} {va vb : Array Value} (ha : va.size = as.length) (hb : vb.size = bs.length)
      (hra : ∀ (j : Nat) (c : AV) (v : Value), as[j]? = some c → va[j]? = some v → Rep C c v) (hrb : ∀ (j : Nat) (c : AV) (v : Value), bs[j]? = some c → vb[j]? = some v → Rep C c v) :
      Rep C (.fn f as bs) (.func (.func f) va vb)
  | mp {o : Nat} {es : List (Value × AV)} (ho : C.st[o]? = some (.map es)) : Rep C (.mp o) (.map (some (C.io o)))

/-- A temporary's value. -/
def RepT (C : Ctx) : AV → Value → Prop
  | .lp s g off, c => ∃ g' cs, lbGet C.lb s = some (g', cs) ∧ g ≤ g' ∧ (g' = g → ∃ b, C.il s = some b ∧ c = .pointer (some ⟨b, off, none⟩))
  | v, c => Rep C v c

theorem repT_of {C : Ctx} {v : AV} {c : Value} (h : Rep C v c) : RepT C v c := by
  cases v <;> first | exact h | (cases h; rename_i h; cases h)
theorem rep_of {C : Ctx} {v : AV} {c : Value} (h : RepT C v c) (hv : v.isLp = false) : Rep C v c := by
  cases v <;> first | exact h | simp [AV.isLp] at hv

def NoFz (cur : Array Value) (fz : Nat × Nat) : Prop := (∀ (j : Nat), j < cur.size → ¬ (fz.1 ≤ j ∧ j < fz.2)) ∧ fz.1 ≤ fz.2

/-- What lies in the world is what the machine has. -/
structure Mem (C : Ctx) : Prop where
  arr : ∀ (o : Nat) (cells : List AV) (e : TypeId) (wr : Bool), C.st[o]? = some (.arr cells e wr) → ∃ (cur : Array Value) (fz : Nat × Nat) (vs : Nat → Value), C.w.heap[C.io o]? = some (.cells cur e fz) ∧ cells.length ≤ cur.size ∧ NoFz cur fz ∧
    (∀ (j : Nat), j < cells.length → cur[j]? = some (vs j)) ∧ (∀ (j : Nat) (c : AV), cells[j]? = some c → Rep C c (vs j))
  map : ∀ (o : Nat) (es : List (Value × AV)), C.st[o]? = some (.map es) → ∃ (ents : Array MapEntry) (clock : Nat), C.w.heap[C.io o]? = some (.map ents clock) ∧ ents.size = es.length ∧
    (∀ (j : Nat) (k : Value) (v : AV), es[j]? = some (k, v) → ∃ me : MapEntry, ents[j]? = some me ∧ me.key = k ∧ Rep C v me.val)
  loc : ∀ (s g : Nat) (cs : List AV) (b : Nat), lbGet C.lb s = some (g, cs) → C.il s = some b → ∃ (cur : Array Value) (t : TypeId) (fz : Nat × Nat) (vs : Nat → Value), C.w.heap[b]? = some (.cells cur t fz) ∧ cur.size = cs.length ∧ NoFz cur fz ∧
    (∀ (j : Nat), j < cs.length → cur[j]? = some (vs j)) ∧ (∀ (j : Nat) (c : AV), cs[j]? = some c → Rep C c (vs j))
  inj : ∀ o o', o < C.st.length → o' < C.st.length → C.io o = C.io o' → o = o'
  injl : ∀ s s' b g cs g' cs', lbGet C.lb s = some (g, cs) → lbGet C.lb s' = some (g', cs') → C.il s = some b → C.il s' = some b → s = s'
  sep : ∀ o s b g cs, o < C.st.length → lbGet C.lb s = some (g, cs) → C.il s = some b → C.io o ≠ b
  w0 : ∀ o, o < C.st.length → ¬ C.W0 (C.io o)
  w0l : ∀ s b g cs, lbGet C.lb s = some (g, cs) → C.il s = some b → ¬ C.W0 b
  w0s : ∀ b, C.W0 b → b < C.w.heap.size
  glob : GlobOk C.E C.F

/-- What a step may do. -/
structure Ext (C C' : Ctx) : Prop where
  os : C'.w.os = C.w.os
  tape : C'.w.tape = C.w.tape
  output : C'.w.output = C.w.output
  size : C.w.heap.size ≤ C'.w.heap.size
  keep : ∀ b, b < C.w.heap.size → ¬ C.OW b → C'.w.heap[b]? = C.w.heap[b]?
  form : ∀ (b : Nat) (cur : Array Value) (e : TypeId) (fz : Nat × Nat), C.w.heap[b]? = some (.cells cur e fz) → ∃ (cur' : Array Value) (fz' : Nat × Nat), C'.w.heap[b]? = some (.cells cur' e fz') ∧ cur'.size = cur.size
  ow : ∀ b, C'.OW b → C.OW b ∨ C.w.heap.size ≤ b
  w0 : C'.W0 = C.W0
  ga : C'.ga = C.ga
  env : C'.E = C.E
  arr : ∀ (o : Nat) (cells : List AV) (e : TypeId) (wr : Bool), C.st[o]? = some (.arr cells e wr) → ∃ cells' wr', C'.st[o]? = some (.arr cells' e wr') ∧ cells.length ≤ cells'.length ∧ (cells'.length = cells.length → C'.io o = C.io o)
  map : ∀ (o : Nat) (es : List (Value × AV)), C.st[o]? = some (.map es) → ∃ es', C'.st[o]? = some (.map es') ∧ C'.io o = C.io o

theorem Ext.refl (C : Ctx) : Ext C C :=
  ⟨rfl, rfl, rfl, Nat.le_refl _, fun _ _ _ => rfl, fun _ cur _ fz h => ⟨cur, fz, h, rfl⟩, fun _ h => .inl h, rfl, rfl, rfl, fun _ cells _ wr h => ⟨cells, wr, h, Nat.le_refl _, fun _ => rfl⟩, fun _ es h => ⟨es, h, rfl⟩⟩

theorem Ext.trans {A B C : Ctx} (h : Ext A B) (k : Ext B C) : Ext A C where
  os := k.os.trans h.os
  tape := k.tape.trans h.tape
  output := k.output.trans h.output
  size := Nat.le_trans h.size k.size
  keep := fun b hb hn => (k.keep b (Nat.lt_of_lt_of_le hb h.size) (fun ho => (h.ow b ho).elim hn (fun hl => by omega))).trans (h.keep b hb hn)
  form := fun b cur e fz hb => by
    obtain ⟨c1, f1, h1, e1⟩ := h.form b cur e fz hb
    obtain ⟨c2, f2, h2, e2⟩ := k.form b c1 e f1 h1
    exact ⟨c2, f2, h2, e2.trans e1⟩
  ow := fun b hb => (k.ow b hb).elim (h.ow b) (fun hl => .inr (Nat.le_trans h.size hl))
  w0 := k.w0.trans h.w0
  ga := k.ga.trans h.ga
  env := k.env.trans h.env
  arr := fun o cells e wr ho => by
    obtain ⟨c1, w1, h1, l1, i1⟩ := h.arr o cells e wr ho
    obtain ⟨c2, w2, h2, l2, i2⟩ := k.arr o c1 e w1 h1
    exact ⟨c2, w2, h2, Nat.le_trans l1 l2, fun he => by rw [i2 (by omega), i1 (by omega)]⟩
  map := fun o es ho => by
    obtain ⟨e1, h1, i1⟩ := h.map o es ho
    obtain ⟨e2, h2, i2⟩ := k.map o e1 h1
    exact ⟨e2, h2, i2.trans i1⟩

theorem Ext.frep {C C' : Ctx} (h : Ext C C') {v : AV} {c : Value} (hr : FRep C.F v c) : FRep C'.F v c := by
  refine hr.mono h.ga fun b hb hn => ?_
  have hn' : ¬ C.OW b ∧ ¬ C.W0 b := ⟨fun h => hn (.inl h), fun h => hn (.inr h)⟩
  refine ⟨h.keep b hb hn'.1, fun hw => ?_⟩
  rcases hw with hw | hw
  · rcases h.ow b hw with h1 | h1
    · exact hn'.1 h1
    · have : b < C.w.heap.size := hb
      omega
  · rw [h.w0] at hw; exact hn'.2 hw

theorem Ext.glob {C C' : Ctx} (h : Ext C C') (hg : GlobOk C.E C.F) : GlobOk C'.E C'.F := by
  rw [h.env]
  refine hg.step (F := C.F) (F' := C'.F) h.ga fun b hb hn => ?_
  have hn' : ¬ C.OW b ∧ ¬ C.W0 b := ⟨fun h => hn (.inl h), fun h => hn (.inr h)⟩
  refine ⟨h.keep b hb hn'.1, fun hw => ?_⟩
  rcases hw with hw | hw
  · rcases h.ow b hw with h1 | h1
    · exact hn'.1 h1
    · have : b < C.w.heap.size := hb
      omega
  · rw [h.w0] at hw; exact hn'.2 hw

theorem Ext.rep {C C' : Ctx} (h : Ext C C') {v : AV} {c : Value} (hr : Rep C v c) : Rep C' v c := by
  induction hr with
  | fz hf => exact .fz (h.frep hf)
  | sl ho hL hs hb hn h1 h2 =>
    rename_i o off n L cap s cells e wr cur fz
    obtain ⟨cells', wr', ho', hl, hi⟩ := h.arr _ _ _ _ ho
    by_cases he : cells'.length = cells.length
    · obtain ⟨cur', fz', hb', hsz⟩ := h.form _ _ _ _ hb
      rw [← hi he] at hb' ⊢
      exact .sl ho' (he.trans hL) (by rw [h.env]; exact hs) hb' hn h1 (by omega)
    · exact .slOld ho' (by omega) rfl
  | slOld ho hL hv => obtain ⟨cells', wr', ho', hl, hi⟩ := h.arr _ _ _ _ ho; exact .slOld ho' (by omega) hv
  | rf ho hL =>
    obtain ⟨cells', wr', ho', hl, hi⟩ := h.arr _ _ _ _ ho
    rename_i cells _ _
    by_cases he : cells'.length = cells.length
    · rw [← hi he]; exact .rf ho' (he.trans hL)
    · exact .rfOld ho' (by omega) rfl
  | rfOld ho hL hv => obtain ⟨cells', wr', ho', hl, hi⟩ := h.arr _ _ _ _ ho; exact .rfOld ho' (by omega) hv
  | ifc _ ih => exact .ifc ih
  | agg hl _ ih => exact .agg hl ih
  | tup hl _ ih => exact .tup hl ih
  | fn ha hb _ _ iha ihb => exact .fn ha hb iha ihb
  | mp ho => obtain ⟨es', ho', hi⟩ := h.map _ _ ho; rw [← hi]; exact .mp ho'

/-- What a step may do with local variables. -/
def LExtW (C C' : Ctx) : Prop := ∀ (s g : Nat) (cs : List AV), lbGet C.lb s = some (g, cs) → ∃ g' cs', lbGet C'.lb s = some (g', cs') ∧ g ≤ g' ∧ (g' = g → ∀ b, C.il s = some b → C'.il s = some b)
def LExt (C C' : Ctx) : Prop := ∀ (s g : Nat) (cs : List AV), lbGet C.lb s = some (g, cs) → ∃ g' cs', lbGet C'.lb s = some (g', cs') ∧ g ≤ g' ∧ (g' = g → C'.il s = C.il s)
theorem LExt.refl (C : Ctx) : LExt C C := fun _ g cs h => ⟨g, cs, h, Nat.le_refl _, fun _ => rfl⟩
theorem LExt.weak {C C' : Ctx} (h : LExt C C') : LExtW C C' := fun s g cs hs => by
  obtain ⟨g', cs', h1, h2, h3⟩ := h s g cs hs
  exact ⟨g', cs', h1, h2, fun he b hb => by rw [h3 he]; exact hb⟩
theorem LExt.trans {A B C : Ctx} (h : LExt A B) (k : LExt B C) : LExt A C := fun s g cs hs => by
  obtain ⟨g1, c1, h1, l1, i1⟩ := h s g cs hs
  obtain ⟨g2, c2, h2, l2, i2⟩ := k s g1 c1 h1
  exact ⟨g2, c2, h2, Nat.le_trans l1 l2, fun he => (i2 (by omega)).trans (i1 (by omega))⟩

theorem Ext.repTW {C C' : Ctx} (h : Ext C C') (hl : LExtW C C') {v : AV} {c : Value} (hr : RepT C v c) : RepT C' v c := by
  cases v with
  | lp s g off =>
    obtain ⟨g', cs, h1, h2, h3⟩ := hr
    obtain ⟨g2, c2, k1, k2, k3⟩ := hl s g' cs h1
    refine ⟨g2, c2, k1, Nat.le_trans h2 k2, fun he => ?_⟩
    obtain ⟨b, hb, hc⟩ := h3 (by omega)
    exact ⟨b, k3 (by omega) b hb, hc⟩
  | _ => exact h.rep hr
theorem Ext.repT {C C' : Ctx} (h : Ext C C') (hl : LExt C C') {v : AV} {c : Value} (hr : RepT C v c) : RepT C' v c := h.repTW hl.weak hr

end Go.Proofs.YtcfaajaccbadbaaDoor.Ahm
