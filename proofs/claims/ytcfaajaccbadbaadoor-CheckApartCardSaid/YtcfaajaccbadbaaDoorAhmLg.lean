/- Slices of many elements, as frozen values. -/
import Derived.Test.YtcfaajaccbadbaaDoorAhmLf
set_option linter.unusedSimpArgs false
set_option linter.unusedVariables false
namespace Go.Proofs.YtcfaajaccbadbaaDoor.Ahm
open Go

/-- A frozen slice of elements. -/
def Sl {α : Type} (f : α → List AV) (v : AV) (l : List α) : Prop := (v = .sc (.slice none 0 0) ∧ l = []) ∨ (v = .e0 ∧ l = []) ∨ v = .fs (l.flatMap f) l.length

section
variable {α : Type} {f : α → List AV} {v : AV} {l : List α}
theorem Sl.fs : Sl f (.fs (l.flatMap f) l.length) l := .inr (.inr rfl)
theorem Sl.nil : Sl f (.sc (.slice none 0 0)) [] := .inl ⟨rfl, rfl⟩
theorem Sl.e0 : Sl f .e0 [] := .inr (.inl ⟨rfl, rfl⟩)
theorem Sl.len (h : Sl f v l) : xlenL v = some (.sc (.int .i64 l.length)) := by
  rcases h with ⟨rfl, rfl⟩ | ⟨rfl, rfl⟩ | rfl <;> rfl
theorem Sl.live (h : Sl f v l) (lb : Lb) (st : List AObj) : liveA lb st v = true := by
  rcases h with ⟨rfl, rfl⟩ | ⟨rfl, rfl⟩ | rfl <;> rfl
theorem Sl.isLp (h : Sl f v l) : AV.isLp v = false := by
  rcases h with ⟨rfl, rfl⟩ | ⟨rfl, rfl⟩ | rfl <;> rfl
theorem Sl.cells (h : Sl f v l) : AV.cells v = [v] := by
  rcases h with ⟨rfl, rfl⟩ | ⟨rfl, rfl⟩ | rfl <;> rfl
theorem Sl.cell (h : Sl f v l) : AV.isCell v = true := by
  rcases h with ⟨rfl, rfl⟩ | ⟨rfl, rfl⟩ | rfl <;> rfl
theorem Sl.slot (h : Sl f v l) (k : Nat) : AV.isSlot k v = false := by
  rcases h with ⟨rfl, rfl⟩ | ⟨rfl, rfl⟩ | rfl <;> rfl
theorem Sl.res (h : Sl f v l) (E : Env) (st : List AObj) (n : Nat) : Ahm.res E st (n + 1) v = some v := by
  rcases h with ⟨rfl, rfl⟩ | ⟨rfl, rfl⟩ | rfl <;> rfl
theorem Sl.frz (h : Sl f v l) (st : List AObj) (n : Nat) : Ahm.frz (n + 1) st v = st := by
  rcases h with ⟨rfl, rfl⟩ | ⟨rfl, rfl⟩ | rfl <;> rfl
theorem Sl.off (h : Sl f v l) (st : List AObj) (n : Nat) : resOff st (n + 1) v = true := by
  rcases h with ⟨rfl, rfl⟩ | ⟨rfl, rfl⟩ | rfl <;> rfl
theorem Sl.fz (h : Sl f v l) : isFz v = true := by
  rcases h with ⟨rfl, rfl⟩ | ⟨rfl, rfl⟩ | rfl <;> rfl

theorem Sl.all (h : Sl f v l) : xlenL v = some (.sc (.int .i64 l.length)) ∧ (∀ lb st, liveA lb st v = true) ∧ AV.isLp v = false ∧ AV.cells v = [v] ∧ AV.isCell v = true ∧ (∀ k, AV.isSlot k v = false) ∧ (∀ E st n, Ahm.res E st (n + 1) v = some v) ∧ (∀ st n, Ahm.frz (n + 1) st v = st) ∧ (∀ st n, resOff st (n + 1) v = true) ∧ isFz v = true :=
  ⟨h.len, h.live, h.isLp, h.cells, h.cell, h.slot, h.res, h.frz, h.off, h.fz⟩

theorem flat_len {s : Nat} (hs : ∀ a, (f a).length = s) : ∀ (l : List α), (l.flatMap f).length = l.length * s
  | [] => by simp
  | a :: r => by simp only [List.flatMap_cons, List.length_append, hs, flat_len hs r, List.length_cons]; rw [Nat.add_mul]; omega

theorem Sl.idx (h : Sl f v l) {s : Nat} (hs : ∀ a, (f a).length = s) (hs0 : 0 < s) {k : IntKind} {i : Int} (h0 : 0 ≤ i ∧ i < l.length) : xiaS s v (.sc (.int k i)) = some (.fp (l.flatMap f) (i.toNat * s)) := by
  rcases h with ⟨rfl, rfl⟩ | ⟨rfl, rfl⟩ | rfl
  · simp at h0; omega
  · simp at h0; omega
  · rw [xiaS_fs, inB_eq]
    have h1 : i.toNat < l.length := by omega
    have h2 : i.toNat * s < l.length * s := Nat.mul_lt_mul_of_pos_right h1 hs0
    simp only [h0, decide_true, Bool.and_self, ifB_true, flat_len hs, show ¬ (l.length * s ≤ i.toNat * s) from by omega, decide_false, ifB_false]

theorem cut_app {a b : List AV} {o n : Nat} : cut (a ++ b) (a.length + o) n = cut b o n := by
  simp only [cut, List.length_append]
  rw [show a.length + o + n = a.length + (o + n) by omega]
  have e : Nat.ble (a.length + (o + n)) (a.length + b.length) = Nat.ble (o + n) b.length := by
    rw [nble, nble]; congr 1; apply propext; omega
  rw [e, List.drop_append, List.drop_eq_nil_of_le (by omega : a.length ≤ a.length + o), List.nil_append, show a.length + o - a.length = o by omega]

theorem cut_pre {a b : List AV} {o n : Nat} (h : o + n ≤ a.length) : cut (a ++ b) o n = cut a o n := by
  simp only [cut, nble, List.length_append, h, decide_true, show o + n ≤ a.length + b.length from by omega, cond_true]
  congr 1
  rw [List.drop_append_of_le_length (by omega), List.take_append_of_le_length (by rw [List.length_drop]; omega)]

theorem cut_flat {s : Nat} (hs : ∀ a, (f a).length = s) : ∀ {l : List α} {i o n : Nat} {a : α}, l[i]? = some a → o + n ≤ s → cut (l.flatMap f) (i * s + o) n = cut (f a) o n
  | [], i, o, n, a, h, _ => by simp at h
  | b :: r, 0, o, n, a, h, hn => by
    simp at h; subst h
    simp only [Nat.zero_mul, Nat.zero_add, List.flatMap_cons]
    exact cut_pre (by rw [hs]; exact hn)
  | b :: r, i + 1, o, n, a, h, hn => by
    simp only [List.flatMap_cons]
    rw [show (i + 1) * s + o = (f b).length + (i * s + o) by rw [hs, Nat.add_mul]; omega, cut_app]
    exact cut_flat hs (by simpa using h) hn
theorem cut_flat0 {s : Nat} (hs : ∀ a, (f a).length = s) {l : List α} {i n : Nat} {a : α} (h : l[i]? = some a) (hn : n ≤ s) : cut (l.flatMap f) (i * s) n = cut (f a) 0 n := by
  have := cut_flat hs (o := 0) (n := n) h (by omega)
  simpa using this
end

/-- ints -/
abbrev fI (n : Int) : List AV := [I n]
abbrev Ints (v : AV) (l : List Int) : Prop := Sl fI v l
theorem fI_len (n : Int) : (fI n).length = 1 := rfl
theorem Sl.idxI {v : AV} {l : List Int} (h : Ints v l) {k : IntKind} {i : Int} (h0 : 0 ≤ i ∧ i < l.length) : xiaS 1 v (.sc (.int k i)) = some (.fp (l.flatMap fI) i.toNat) := by
  have := h.idx fI_len (by omega) (k := k) h0
  simpa using this
theorem cutI {l : List Int} {i : Nat} {a : Int} (h : l[i]? = some a) : cut (l.flatMap fI) i 1 = some [I a] := by
  have := cut_flat0 fI_len (n := 1) h (by omega)
  simp only [Nat.mul_one] at this
  rw [this]; rfl

end Go.Proofs.YtcfaajaccbadbaaDoor.Ahm
