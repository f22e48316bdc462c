/- Words for memory, plain data, and the plain laws. -/
import Derived.WalkKit
import Derived.WalkSpells
import Derived.Maps.AppendAt
import Derived.Maps.OwnSet
import Derived.Maps.OwnOps
import Derived.Deep.Draws
import Derived.Laws.BitsAllLaws
import Derived.Deep.Slices
import Derived.Deep.Fields
import Derived.ChangeSame
set_option linter.unusedVariables false
set_option linter.unusedSimpArgs false
/- Words for memory: blocks known whole, tags that tell whose a block is, what a call may change, rows that are owned and lists that are read. No program is named here. -/
namespace Sil
open Go Go.RowKit

def Blk (w : World) (g : Nat) (t : TypeId) (cs : Array Value) : Prop := w.heap[g]? = some (.cells cs t (0, 0))

structure Mod (T : List Nat) (tag tag' : Nat → Nat) (w w' : World) : Prop where
  os : w'.os = w.os
  tape : w'.tape = w.tape
  output : w'.output = w.output
  size : w.heap.size ≤ w'.heap.size
  tags : ∀ b, b < w.heap.size → tag' b = tag b
  keep : ∀ b, b < w.heap.size → tag b ∉ T → w'.heap[b]? = w.heap[b]?

def Fresh (tag : Nat → Nat) (w : World) : Prop := ∀ b, w.heap.size ≤ b → tag b = 0
def upd (tag : Nat → Nat) (g t : Nat) : Nat → Nat := fun b => if b = g then t else tag b

section
variable {w w' w'' : World} {g : Nat} {t : TypeId} {cs : Array Value} {T T' : List Nat} {tag tag' tag'' : Nat → Nat}
theorem Blk.lt (h : Blk w g t cs) : g < w.heap.size := by
  rcases Nat.lt_or_ge g w.heap.size with hlt | hge
  · exact hlt
  · unfold Blk at h; rw [Array.getElem?_eq_none hge] at h; cases h
theorem Blk.cell (h : Blk w g t cs) (i : Nat) : w.cell? ⟨g, i, none⟩ = cs[i]? := cell_of_row w g i cs t (0, 0) h
theorem Blk.cellv (h : Blk w g t cs) (i : Nat) {v : Value} (hv : cs[i]? = some v) : w.cell? ⟨g, i, none⟩ = some v := (h.cell i).trans hv
theorem Blk.frozen (h : Blk w g t cs) (i : Nat) : w.frozen? ⟨g, i, none⟩ = false := by
  unfold Blk at h; simp [World.frozen?, h]
theorem Blk.new (w : World) (t : TypeId) (cs : Array Value) : Blk (w.alloc (.cells cs t)) w.heap.size t cs := heap_alloc_new w _
theorem Blk.new2 (w : World) (o : Obj) (t : TypeId) (cs : Array Value) : Blk ((w.alloc o).alloc (.cells cs t)) (w.heap.size + 1) t cs := by
  have h := Blk.new (w.alloc o) t cs
  rw [World.size_alloc] at h
  exact h
theorem Blk.drew (h : Blk w g t cs) : Blk w.drew g t cs := h
theorem Blk.drewN (h : Blk w g t cs) (n : Nat) : Blk (w.drewN n) g t cs := h
theorem Blk.alloc (h : Blk w g t cs) (o : Obj) : Blk (w.alloc o) g t cs := (Below.heap_alloc w o g h.lt).trans h
theorem Blk.set_ (h : Blk w g t cs) (i : Nat) (u : Value) : Blk (w.setCell ⟨g, i, none⟩ u) g t (cs.setIfInBounds i u) := by
  unfold Blk at h ⊢
  simp [World.setCell, Array.getElem?_modify, h]
theorem Blk.far (h : Blk w g t cs) {p : Addr} (hp : g ≠ p.block) (u : Value) : Blk (w.setCell p u) g t cs := (Below.heap_setCell w p u g hp).trans h
theorem Blk.below {B : Nat} (h : Blk w g t cs) (hb : Below B w w') (hg : g < B) : Blk w' g t cs := (hb.block g hg).trans h
theorem Blk.grown {row : Option Nat} (h : Blk w g t cs) (hb : w.grownBy w' row) (hg : some g ≠ row) : Blk w' g t cs := (hb.block g h.lt hg).trans h
theorem Blk.mod (h : Blk w g t cs) (hm : Mod T tag tag' w w') (hg : tag g ∉ T) : Blk w' g t cs := (hm.keep g h.lt hg).trans h
theorem Blk.inj {t' : TypeId} {cs' : Array Value} (h : Blk w g t cs) (h' : Blk w g t' cs') : cs = cs' := by
  unfold Blk at h h'; rw [h] at h'; injection h' with h'; injection h'

theorem Blk.sb {i : Nat} {u : Value} {cs' : Array Value} (h : Blk w g t cs) (e : cs.setIfInBounds i u = cs') : Blk (w.setCell ⟨g, i, none⟩ u) g t cs' := e ▸ h.set_ i u
theorem Blk.fb {b i : Nat} {u : Value} (hb : g ≠ b) (h : Blk w g t cs) : Blk (w.setCell ⟨b, i, none⟩ u) g t cs := h.far (p := ⟨b, i, none⟩) hb u
theorem Mod.refl (T : List Nat) (tag : Nat → Nat) (w : World) : Mod T tag tag w w := ⟨rfl, rfl, rfl, Nat.le_refl _, fun _ _ => rfl, fun _ _ _ => rfl⟩
theorem Mod.trans (h : Mod T tag tag' w w') (k : Mod T tag' tag'' w' w'') : Mod T tag tag'' w w'' :=
  ⟨k.os.trans h.os, k.tape.trans h.tape, k.output.trans h.output, Nat.le_trans h.size k.size,
   fun b hb => (k.tags b (Nat.lt_of_lt_of_le hb h.size)).trans (h.tags b hb),
   fun b hb hn => (k.keep b (Nat.lt_of_lt_of_le hb h.size) (by rw [h.tags b hb]; exact hn)).trans (h.keep b hb hn)⟩
theorem Mod.mono (h : Mod T tag tag' w w') (hs : ∀ x ∈ T, x ∈ T') : Mod T' tag tag' w w' :=
  ⟨h.os, h.tape, h.output, h.size, h.tags, fun b hb hn => h.keep b hb (fun hx => hn (hs _ hx))⟩
theorem Mod.of_below (h : Below w.heap.size w w') : Mod T tag tag w w' := ⟨h.os, h.tape, h.output, h.size, fun _ _ => rfl, fun b hb _ => h.block b hb⟩
theorem Mod.drew (h : Mod T tag tag' w w') : Mod T tag tag' w w'.drew := ⟨h.os, h.tape, h.output, h.size, h.tags, h.keep⟩
theorem Mod.drewN (h : Mod T tag tag' w w') (n : Nat) : Mod T tag tag' w (w'.drewN n) := ⟨h.os, h.tape, h.output, h.size, h.tags, h.keep⟩
theorem Mod.alloc (h : Mod T tag tag' w w') (o : Obj) : Mod T tag tag' w (w'.alloc o) :=
  h.trans (Mod.of_below ((Below.refl _ _).alloc (Nat.le_refl _) o))
theorem Mod.setCell (h : Mod T tag tag' w w') {a : Addr} (ha : tag' a.block ∈ T) (u : Value) : Mod T tag tag' w (w'.setCell a u) := by
  refine h.trans ⟨rfl, rfl, rfl, by simp [World.setCell], fun _ _ => rfl, fun b hb hn => Below.heap_setCell _ _ _ _ ?_⟩
  rintro rfl; exact hn ha
/-- a store into a block that lay not yet when the call began -/
theorem Mod.setNew (h : Mod T tag tag' w w') {a : Addr} (ha : w.heap.size ≤ a.block) (u : Value) : Mod T tag tag' w (w'.setCell a u) :=
  ⟨h.os, h.tape, h.output, Nat.le_trans h.size (by simp [World.setCell]), h.tags, fun b hb hn => (Below.heap_setCell _ _ _ _ (by omega)).trans (h.keep b hb hn)⟩
theorem Mod.grown (h : Mod T tag tag' w w') {row : Option Nat} (hg : w'.grownBy w'' row) (hr : ∀ g, row = some g → tag' g ∈ T ∨ w.heap.size ≤ g) : Mod T tag tag' w w'' := by
  refine ⟨hg.os.trans h.os, hg.tape.trans h.tape, hg.output.trans h.output, Nat.le_trans h.size hg.size, h.tags, fun b hb hn => ?_⟩
  refine (hg.block b (Nat.lt_of_lt_of_le hb h.size) ?_).trans (h.keep b hb hn)
  rintro e
  rcases hr b e.symm with h1 | h1
  · exact hn (by rw [← h.tags b hb]; exact h1)
  · omega
theorem Mod.setRow (h : Mod T tag tag' w w') {g : Nat} (ha : tag' g ∈ T) (cs : Array Value) : Mod T tag tag' w (w'.setRow g cs) := by
  refine h.trans ⟨rfl, rfl, rfl, by simp [World.setRow], fun _ _ => rfl, fun b hb hn => setRow_other w' g b cs ?_⟩
  rintro rfl; exact hn ha
theorem Mod.retag (h : Mod T tag tag' w w') {g : Nat} (hg : w.heap.size ≤ g) (k : Nat) : Mod T tag (upd tag' g k) w w' :=
  ⟨h.os, h.tape, h.output, h.size, fun b hb => by unfold upd; rw [if_neg (by omega)]; exact h.tags b hb, h.keep⟩
theorem Mod.below (h : Mod [] tag tag' w w') : Below w.heap.size w w' := ⟨h.os, h.tape, h.output, h.size, fun b hb => h.keep b hb (by simp)⟩
/-- whatever is changed lay not below B -/
theorem Mod.belowB {B : Nat} (h : Mod T tag tag' w w') (hB : B ≤ w.heap.size) (hn : ∀ b, b < B → tag b ∉ T) : Below B w w' :=
  ⟨h.os, h.tape, h.output, h.size, fun b hb => h.keep b (by omega) (hn b hb)⟩
theorem Fresh.mono (h : Fresh tag w) (hs : w.heap.size ≤ w'.heap.size) : Fresh tag w' := fun b hb => h b (Nat.le_trans hs hb)
theorem Fresh.upd_ (h : Fresh tag w) {g k : Nat} (hg : g < w.heap.size) : Fresh (upd tag g k) w := fun b hb => by unfold upd; rw [if_neg (by omega)]; exact h b hb
theorem upd_same (tag : Nat → Nat) (g k : Nat) : upd tag g k g = k := by simp [upd]
theorem upd_other {tag : Nat → Nat} {g k b : Nat} (h : b ≠ g) : upd tag g k b = tag b := by simp [upd, h]
theorem Mod.tagOf (hm : Mod T tag tag' w w') (h : Blk w g t cs) {k : Nat} (hk : tag g = k) : tag' g = k := (hm.tags g h.lt).trans hk
end

/-- the slice value v owns a row of n elements (sz cells each), tagged k, that holds xs -/
def Row (k : Nat) (tag : Nat → Nat) (w : World) (e : TypeId) (sz : Nat) (v : Value) (n : Nat) (xs : List Value) : Prop :=
  w.ownsRow 0 e sz v n xs ∧ ∀ g, v.ownBlock = some g → tag g = k
section
variable {w w' : World} {k : Nat} {tag tag' : Nat → Nat} {e : TypeId} {sz : Nat} {v v' : Value} {n m : Nat} {xs ys : List Value} {T : List Nat}
theorem Row.nil (k : Nat) (tag : Nat → Nat) (w : World) (e : TypeId) (sz : Nat) : Row k tag w e sz (.slice none 0 0) 0 [] :=
  ⟨World.ownsRow_nil w 0 e sz, fun g h => by simp [Value.ownBlock] at h⟩
theorem Row.lt (h : Row k tag w e sz v n xs) {g : Nat} (hg : v.ownBlock = some g) : g < w.heap.size := (h.1.lt g hg).2
theorem Row.len (h : Row k tag w e sz v n xs) : xs.length = n * sz := h.1.1
theorem Row.mod (h : Row k tag w e sz v n xs) (hm : Mod T tag tag' w w') (hk : k ∉ T) : Row k tag' w' e sz v n xs := by
  obtain ⟨⟨hl, h1⟩, h2⟩ := h
  refine ⟨⟨hl, ?_⟩, fun g hg => ?_⟩
  · rcases h1 with h1 | ⟨g, cap, cur, hv, hb, hg, r⟩
    · exact .inl h1
    · refine .inr ⟨g, cap, cur, hv, hb, ?_, r⟩
      have hlt : g < w.heap.size := (Array.getElem?_eq_some_iff.1 hg).1
      rw [hm.keep g hlt (by rw [h2 g (by rw [hv]; rfl)]; exact hk)]; exact hg
  · rcases h1 with ⟨rfl, _⟩ | ⟨g', cap, cur, rfl, hb, hgg, r⟩
    · simp [Value.ownBlock] at hg
    · have e : g' = g := by simpa [Value.ownBlock] using hg
      subst e
      have hlt : g' < w.heap.size := (Array.getElem?_eq_some_iff.1 hgg).1
      exact (hm.tags g' hlt).trans (h2 g' hg)
/-- what the law of append (wpList_append_own_at) leaves, as a Row, under tags in which a new block is the row's -/
theorem Row.grew (h : Row k tag w e sz v n xs) (hown : w'.ownsRow 0 e sz v' m ys) (hat : v'.ownBlock = v.ownBlock ∨ v'.ownBlock = some w.heap.size) (hg : w.grownBy w' v.ownBlock) (hn : T = [k]) :
    ∃ tag', Row k tag' w' e sz v' m ys ∧ Mod T tag tag' w w' ∧ (Fresh tag w → Fresh tag' w') := by
  have hM : Mod T tag tag w w' := Mod.grown (Mod.refl T tag w) hg (fun g hg => .inl (by rw [hn, h.2 g hg]; simp))
  rcases hat with hat | hat
  · exact ⟨tag, ⟨hown, fun g hg' => h.2 g (by rw [← hat]; exact hg')⟩, hM, fun hf => hf.mono hM.size⟩
  · have hlt := (hown.lt _ hat).2
    exact ⟨upd tag w.heap.size k, ⟨hown, fun g hg' => by rw [hat] at hg'; cases hg'; exact upd_same _ _ _⟩, hM.retag (Nat.le_refl _) k, fun hf => (hf.mono hM.size).upd_ hlt⟩
/-- the form of a row's value -/
theorem Row.form (h : Row k tag w e sz v n xs) : (v = .slice none 0 0 ∧ n = 0 ∧ xs = []) ∨ ∃ g cap cur, v = .slice (some ⟨g, 0, none⟩) n cap ∧ tag g = k ∧ Blk w g e cur ∧ n ≤ cap ∧ cap ≤ maxLen ∧ cur.size = cap * sz ∧ cur.toList.take (n * sz) = xs := by
  obtain ⟨⟨hl, h1⟩, h2⟩ := h
  rcases h1 with ⟨rfl, rfl⟩ | ⟨g, cap, cur, rfl, _, hg, r1, r2, r3, r4⟩
  · exact .inl ⟨rfl, rfl, List.eq_nil_of_length_eq_zero (by simpa using hl)⟩
  · exact .inr ⟨g, cap, cur, rfl, h2 g rfl, hg, r1, r2, r3, r4⟩
theorem Row.val (h : Row k tag w e sz v n xs) : ∃ A c, v = .slice A n c := by
  rcases h.form with ⟨rfl, rfl, _⟩ | ⟨g, cap, _, rfl, _⟩
  · exact ⟨none, 0, rfl⟩
  · exact ⟨_, cap, rfl⟩
end

theorem Row.cut {k : Nat} {tag : Nat → Nat} {w : World} {e : TypeId} {sz n cap g : Nat} {xs : List Value} (h : Row k tag w e sz (.slice (some ⟨g, 0, none⟩) n cap) n xs) {m : Nat} (hm : m ≤ n) :
    Row k tag w e sz (.slice (some ⟨g, 0, none⟩) m cap) m (xs.take (m * sz)) := by
  obtain ⟨⟨hl, h1⟩, h2⟩ := h
  rcases h1 with ⟨h1, _⟩ | ⟨g', cap', cur, hv, hb, hg, h3, h4, h5, h6⟩
  · cases h1
  · injection hv with e1 e2 e3
    injection e1 with e1; injection e1 with e1; subst e1 e3
    have hms : m * sz ≤ n * sz := Nat.mul_le_mul_right _ hm
    refine ⟨⟨by rw [List.length_take, hl]; omega, .inr ⟨g, cap, cur, rfl, hb, hg, by omega, h4, h5, ?_⟩⟩, fun b hb' => h2 b (by simpa [Value.ownBlock] using hb')⟩
    rw [← h6, List.take_take]; congr 1; omega
/-- a row that the call made is nobody's .. or whose one will -/
theorem Row.of_new {w w' : World} {tag : Nat → Nat} {e : TypeId} {sz n : Nat} {v : Value} {xs : List Value} (h : w'.ownsRow w.heap.size e sz v n xs) (hf : Fresh tag w) : Row 0 tag w' e sz v n xs := by
  obtain ⟨hl, h1⟩ := h
  rcases h1 with h1 | ⟨g, cap, cur, hv, hb, r⟩
  · exact ⟨⟨hl, .inl h1⟩, fun g hg => by rw [h1.1] at hg; simp [Value.ownBlock] at hg⟩
  · exact ⟨⟨hl, .inr ⟨g, cap, cur, hv, Nat.zero_le _, r⟩⟩, fun b hg => by rw [hv] at hg; simp [Value.ownBlock] at hg; subst hg; exact hf _ hb⟩
theorem Row.claim {w w' : World} {tag : Nat → Nat} {e : TypeId} {sz n : Nat} {v : Value} {xs : List Value} (h : w'.ownsRow w.heap.size e sz v n xs) (hf : Fresh tag w) (hb : Below w.heap.size w w') (T : List Nat) (k : Nat) :
    ∃ tag', Row k tag' w' e sz v n xs ∧ Mod T tag tag' w w' ∧ Fresh tag' w' := by
  obtain ⟨hl, h1⟩ := h
  rcases h1 with h1 | ⟨g, cap, cur, hv, hg, hB, r⟩
  · exact ⟨tag, ⟨⟨hl, .inl h1⟩, fun g hg => by rw [h1.1] at hg; simp [Value.ownBlock] at hg⟩, Mod.of_below hb, hf.mono hb.size⟩
  · have hlt : g < w'.heap.size := (Array.getElem?_eq_some_iff.1 hB).1
    exact ⟨upd tag g k, ⟨⟨hl, .inr ⟨g, cap, cur, hv, Nat.zero_le _, hB, r⟩⟩, fun b hb' => by rw [hv] at hb'; simp [Value.ownBlock] at hb'; subst hb'; exact upd_same _ _ _⟩, (Mod.of_below hb).retag hg k, (hf.mono hb.size).upd_ hlt⟩
theorem ownsRow_below {w w' : World} {B : Nat} {e : TypeId} {sz n : Nat} {v : Value} {xs : List Value} (h : w.ownsRow B e sz v n xs) (hb : Below w.heap.size w w') : w'.ownsRow B e sz v n xs := by
  obtain ⟨hl, h1⟩ := h
  rcases h1 with h1 | ⟨g, cap, cur, hv, hg, hB, r⟩
  · exact ⟨hl, .inl h1⟩
  · exact ⟨hl, .inr ⟨g, cap, cur, hv, hg, (hb.block g (Array.getElem?_eq_some_iff.1 hB).1).trans hB, r⟩⟩
theorem ownsRow_mono {w : World} {B B' : Nat} {e : TypeId} {sz n : Nat} {v : Value} {xs : List Value} (h : w.ownsRow B e sz v n xs) (hB : B' ≤ B) : w.ownsRow B' e sz v n xs := by
  obtain ⟨hl, h1⟩ := h
  rcases h1 with h1 | ⟨g, cap, cur, hv, hg, r⟩
  · exact ⟨hl, .inl h1⟩
  · exact ⟨hl, .inr ⟨g, cap, cur, hv, by omega, r⟩⟩

/-- the slice value v is read: n elements of sz cells, that hold xs; its block is tagged k (0: it is nobody's) -/
def Rd (k : Nat) (tag : Nat → Nat) (w : World) (sz : Nat) (v : Value) (n : Nat) (xs : List Value) : Prop :=
  xs.length = n * sz ∧ ∃ A c, v = .slice A n c ∧ n ≤ c ∧ (0 < n → ∃ g off, A = some ⟨g, off, none⟩ ∧ tag g = k ∧ g < w.heap.size ∧ ∀ j u, xs[j]? = some u → w.cell? ⟨g, off + j, none⟩ = some u)
section
variable {w w' : World} {k : Nat} {tag tag' : Nat → Nat} {e : TypeId} {sz : Nat} {v : Value} {n : Nat} {xs : List Value} {T : List Nat}
theorem Rd.mod (h : Rd k tag w sz v n xs) (hm : Mod T tag tag' w w') (h0 : k ∉ T) : Rd k tag' w' sz v n xs := by
  obtain ⟨hl, A, c, hv, hc, h1⟩ := h
  refine ⟨hl, A, c, hv, hc, fun hn => ?_⟩
  obtain ⟨g, off, hA, ht, hg, hx⟩ := h1 hn
  refine ⟨g, off, hA, (hm.tags g hg).trans ht, Nat.lt_of_lt_of_le hg hm.size, fun j u hu => ?_⟩
  rw [← hx j u hu]
  exact World.cell?_of_block (w := w) (hm.keep g hg (by rw [ht]; exact h0))
theorem Rd.at_ {A : Option Addr} {c : Nat} (h : Rd k tag w sz (.slice A n c) n xs) {j : Nat} {u : Value} (hu : xs[j]? = some u) : ∃ g off, A = some ⟨g, off, none⟩ ∧ w.cell? ⟨g, off + j, none⟩ = some u ∧ g < w.heap.size := by
  obtain ⟨hl, A', c', hv, hc, h1⟩ := h
  cases hv
  have hn : 0 < n := by
    rcases Nat.eq_zero_or_pos n with h0 | h0
    · subst h0
      have : j < xs.length := (List.getElem?_eq_some_iff.1 hu).1
      omega
    · exact h0
  obtain ⟨g, off, hA, ht, hg, hx⟩ := h1 hn
  exact ⟨g, off, hA, hx j u hu, hg⟩
theorem Row.rd (h : Row k tag w e sz v n xs) : Rd k tag w sz v n xs := by
  refine ⟨h.len, ?_⟩
  rcases h.form with ⟨rfl, rfl, rfl⟩ | ⟨g, cap, cur, rfl, ht, hb, hc, _, hs, hx⟩
  · exact ⟨none, 0, rfl, Nat.le_refl _, fun h => absurd h (by omega)⟩
  · refine ⟨_, cap, rfl, hc, fun _ => ⟨g, 0, rfl, ht, hb.lt, fun j u hu => ?_⟩⟩
    rw [Nat.zero_add, hb.cell j]
    rw [← hx, List.getElem?_take] at hu
    split at hu
    · simpa using hu
    · cases hu
theorem Rd.val (h : Rd k tag w sz v n xs) : ∃ A c, v = .slice A n c := by
  obtain ⟨_, A, c, hv, _⟩ := h
  exact ⟨A, c, hv⟩
end

/-! ### a whole block read and written; results that lie in a variable -/
section
variable {P : Program} {w : World}
theorem blk_setRow {g : Nat} {t : TypeId} {cs cs' : Array Value} (h : Blk w g t cs) : Blk (w.setRow g cs') g t cs' := setRow_heap w g cs cs' t _ h
theorem below_setRow {B g : Nat} {w0 : World} (h : Below B w0 w) (hg : B ≤ g) (cs : Array Value) : Below B w0 (w.setRow g cs) :=
  h.trans ⟨rfl, rfl, rfl, by simp [World.setRow], fun k hk => setRow_other w g k cs (by omega)⟩
theorem ret_cell {fn : Func} {p : Tmp} {ty : TypeId} (h : fn.results = #[.cell p ty]) {tmps : Array Value} {g : Nat} {t : TypeId} {cs : Array Value} {d : TypeDesc} (hp : tmps.getD p undef = .pointer (some ⟨g, 0, none⟩))
    (hB : Blk w g t cs) (hu : P.underlying ty = some d) (hd : (match d with | .struct _ | .array _ _ => true | _ => false) = true) (hi : (P.info? ty).map (·.size) = some cs.size) :
    (results fn tmps).run P w = .ok (.agg cs) w := by
  have := run_loadVar_row w g t ty cs (0, 0) d hB hu hd hi
  have e : (results fn tmps) = (do let a ← asAddr (tmps.getD p undef); loadVar ty a) := by simp [results, h]
  rw [e, hp]
  simp [asAddr, this]
theorem ret_cell_tmp {fn : Func} {p u : Tmp} {ty : TypeId} (h : fn.results = #[.cell p ty, .tmp u]) {tmps : Array Value} {g : Nat} {t : TypeId} {cs : Array Value} {d : TypeDesc} (hp : tmps.getD p undef = .pointer (some ⟨g, 0, none⟩))
    (hB : Blk w g t cs) (hu : P.underlying ty = some d) (hd : (match d with | .struct _ | .array _ _ => true | _ => false) = true) (hi : (P.info? ty).map (·.size) = some cs.size) :
    (results fn tmps).run P w = .ok (.tuple #[.agg cs, tmps.getD u undef]) w := by
  rw [results_cell_tmp h, hp]
  have := run_loadVar_row w g t ty cs (0, 0) d hB hu hd hi
  simp [asAddr, Result.andThen, this]

theorem size_zeroCells' (z : Array Value) (n : Nat) : (Builtin.zeroCells z n).size = n * z.size := by simp [Builtin.zeroCells]
/-- 'clear(s)' on a slice that lies in a block known whole -/
theorem run_clear_row {t e ty E : TypeId} {z : Value} {sz : Nat} (ht : P.underlying t = some (.slice e)) (hv : ∀ w, (zeroValue e).run P w = .ok z w) (hsz : z.cells.size = sz) (h1 : ∀ u ∈ z.cells.toList, u.oneCell' = true)
    {g o n c : Nat} {C : Array Value} (hB : Blk w g E C) (hl : o + n * sz ≤ C.size) :
    (Builtin.clear_ #[t] ty #[.slice (some ⟨g, o, none⟩) n c]).run P w = .ok (.tuple #[]) (w.setRow g (C.toList.take o ++ (Builtin.zeroCells z.cells n).toList ++ C.toList.drop (o + n * sz)).toArray) := by
  rcases Nat.eq_zero_or_pos n with rfl | hn
  · have hz : (Builtin.zeroCells z.cells 0).toList = [] := by simp [Builtin.zeroCells]
    have hs : (C.toList.take o ++ [] ++ C.toList.drop (o + 0 * sz)).toArray = C := by simp
    rw [hz, hs, setRow_self w g C E (0, 0) hB]
    simp [Builtin.clear_, run_underlying ht]
  · obtain ⟨m, rfl⟩ : ∃ m, n = m + 1 := ⟨n - 1, by omega⟩
    have hlen : (Builtin.zeroCells z.cells (m + 1)).toList.length = (m + 1) * sz := by rw [Array.length_toList, size_zeroCells', hsz]
    have hall : ∀ u ∈ (Builtin.zeroCells z.cells (m + 1)).toList, u.oneCell' = true := by
      intro u hu
      simp only [Builtin.zeroCells, Array.toList_map, Array.toList_range, List.mem_map, List.mem_range] at hu
      obtain ⟨i, hi, rfl⟩ := hu
      have hp : 0 < z.cells.size := by
        rcases Nat.eq_zero_or_pos z.cells.size with h | h
        · rw [h] at hi; simp at hi
        · exact h
      have hlt := Nat.mod_lt i hp
      rw [getElem!_pos z.cells (i % z.cells.size) hlt]
      exact h1 _ (by simp)
    have hst := run_storeCells_at (P := P) g o E (Builtin.zeroCells z.cells (m + 1)).toList 0 C w hB (by rw [hlen]; exact hl) hall
    rw [hlen] at hst
    simp only [Nat.add_zero] at hst
    simp [Builtin.clear_, run_underlying ht, hv, hst]
/-- the cells of a slice while it is written in place: those up to i are F, those from j on are as they were -/
def Mid (C : Array Value) (i j N : Nat) (F xs : List Value) : Prop := C.toList.take i = F ∧ F.length = i ∧ ∀ l, j ≤ l → l < N → C[l]? = xs[l]?
theorem Mid.keep {C : Array Value} {i j N : Nat} {F xs : List Value} (h : Mid C i j N F xs) : Mid C i (j + 1) N F xs := ⟨h.1, h.2.1, fun l h1 h2 => h.2.2 l (by omega) h2⟩
theorem Mid.put {C : Array Value} {i j N : Nat} {F xs : List Value} (h : Mid C i j N F xs) (hi : i < j) (hs : i < C.size) (u : Value) : Mid (C.setIfInBounds i u) (i + 1) (j + 1) N (F ++ [u]) xs := by
  refine ⟨?_, by simp [h.2.1], fun l h1 h2 => ?_⟩
  · rw [Array.toList_setIfInBounds, List.take_add_one, List.take_set_of_le (Nat.le_refl _), h.1]
    simp [hs]
  · rw [Array.getElem?_setIfInBounds_ne (by omega)]; exact h.2.2 l (by omega) h2

/-- an append whose run is known -/
theorem wpList_append_run {ops : Array Oper} {rest : List Oper} {o : Oper} {a : Act} {Q : Exit → Act → World → Prop} (hgd : o.guard = none) (s x : Operand) (t : TypeId)
    (ho : o.op = .call { callee := .builtin .append, args := #[s, x], argTypes := #[t, t] }) (v1 v2 v' : Value) (w' : World) (hs : a.eval s = v1) (hx : a.eval x = v2)
    (hrun : (Builtin.append_ #[t, t] o.type #[v1, v2]).run P w = .ok v' w') (h : wpList P ops Q rest (a.put o.dst v') w') : wpList P ops Q (o :: rest) a w := by
  refine wpList_plain hgd fun K hK => ?_
  unfold Oper.wp
  simp only [execOp, ho]
  simp [resolve, invoke, builtin, hs, hx, hrun, Result.andThen]
  exact hK _ _ h
end
end Sil

/- A region that makes a variable beside a call: what stands behind it, in either order. -/
namespace Sil
open Go Go.RowKit

theorem below_drew {w w' : World} (h : Below w.drew.heap.size w.drew w') : Below w.heap.size w w' := ⟨h.os, h.tape, h.output, h.size, h.block⟩
/-- the call first, the variable behind it -/
theorem held_new {W0 w2 : World} {t : TypeId} {C : Array Value} (h : Below W0.drew.heap.size W0.drew w2) : Blk (w2.alloc (.cells C t)) w2.heap.size t C ∧ Below W0.heap.size W0 (w2.alloc (.cells C t)) :=
  ⟨Blk.new _ _ _, (below_drew h).alloc (below_drew h).size _⟩
/-- the variable first -/
theorem held_set {W0 w2 : World} {t : TypeId} {Z : Array Value} (h : Below (W0.alloc (.cells Z t)).drew.heap.size (W0.alloc (.cells Z t)).drew w2) : Blk w2 W0.heap.size t Z ∧ Below W0.heap.size W0 w2 := by
  have h1 := below_drew h
  exact ⟨(Blk.new W0 t Z).below h1 (by simp), ((Below.refl _ W0).alloc (Nat.le_refl _) _).trans (h1.mono (by simp))⟩
theorem held_set5 {W0 w2 : World} {t : TypeId} {z0 z1 z2 z3 z4 : Value} (u0 u1 u2 u3 u4 : Value) {H : Nat} (hH : W0.heap.size = H) (h : Below (W0.alloc (.cells #[z0, z1, z2, z3, z4] t)).drew.heap.size (W0.alloc (.cells #[z0, z1, z2, z3, z4] t)).drew w2) :
    Blk (((((w2.setCell ⟨H, 0, none⟩ u0).setCell ⟨H, 1, none⟩ u1).setCell ⟨H, 2, none⟩ u2).setCell ⟨H, 3, none⟩ u3).setCell ⟨H, 4, none⟩ u4) H t #[u0, u1, u2, u3, u4] ∧
      Below W0.heap.size W0 (((((w2.setCell ⟨H, 0, none⟩ u0).setCell ⟨H, 1, none⟩ u1).setCell ⟨H, 2, none⟩ u2).setCell ⟨H, 3, none⟩ u3).setCell ⟨H, 4, none⟩ u4) := by
  subst hH
  obtain ⟨h1, h2⟩ := held_set h
  exact ⟨((((h1.set_ 0 u0).set_ 1 u1).set_ 2 u2).set_ 3 u3).set_ 4 u4, ((((h2.setCell (Nat.le_refl _) _).setCell (Nat.le_refl _) _).setCell (Nat.le_refl _) _).setCell (Nat.le_refl _) _).setCell (Nat.le_refl _) _⟩
theorem held_set3 {W0 w2 : World} {t : TypeId} {z0 z1 z2 : Value} (u0 u1 u2 : Value) {H : Nat} (hH : W0.heap.size = H) (h : Below (W0.alloc (.cells #[z0, z1, z2] t)).drew.heap.size (W0.alloc (.cells #[z0, z1, z2] t)).drew w2) :
    Blk (((w2.setCell ⟨H, 0, none⟩ u0).setCell ⟨H, 1, none⟩ u1).setCell ⟨H, 2, none⟩ u2) H t #[u0, u1, u2] ∧ Below W0.heap.size W0 (((w2.setCell ⟨H, 0, none⟩ u0).setCell ⟨H, 1, none⟩ u1).setCell ⟨H, 2, none⟩ u2) := by
  subst hH
  obtain ⟨h1, h2⟩ := held_set h
  exact ⟨((h1.set_ 0 u0).set_ 1 u1).set_ 2 u2, ((h2.setCell (Nat.le_refl _) _).setCell (Nat.le_refl _) _).setCell (Nat.le_refl _) _⟩
end Sil

/- The data of the program as plain values, and what its functions compute, without Go and memory. -/
namespace Sil
open Go

structure Rt where
  w : Bool
  u : Bool
  x : Bool
structure Key where
  g : Int
  lev : Int
  role : Int
structure Slot where
  kind : Int
  to : Int
  r : Rt
structure Hit where
  asid : Int
  page : Int
  frame : Int
  r : Rt
  dirty : Bool
structure Page where
  f : Int
  key : Key
  slots : List Slot
structure Pte where
  p : Bool
  w : Bool
  u : Bool
  a : Bool
  d : Bool
  ps : Bool
  nx : Bool
  bad : Bool
  frame : Int

instance : DecidableEq Rt := fun a b => decidable_of_iff (a.w = b.w ∧ a.u = b.u ∧ a.x = b.x) (by cases a; cases b; simp)
instance : DecidableEq Key := fun a b => decidable_of_iff (a.g = b.g ∧ a.lev = b.lev ∧ a.role = b.role) (by cases a; cases b; simp)
instance : DecidableEq Slot := fun a b => decidable_of_iff (a.kind = b.kind ∧ a.to = b.to ∧ a.r = b.r) (by cases a; cases b; simp)
instance : DecidableEq Hit := fun a b => decidable_of_iff (a.asid = b.asid ∧ a.page = b.page ∧ a.frame = b.frame ∧ a.r = b.r ∧ a.dirty = b.dirty) (by cases a; cases b; simp)

def Rt.none : Rt := ⟨false, false, false⟩
def Slot.empty : Slot := ⟨0, 0, Rt.none⟩
def Key.zero : Key := ⟨0, 0, 0⟩
def Hit.zero : Hit := ⟨0, 0, 0, Rt.none, false⟩

/-- their cells -/
def Rt.cs (r : Rt) : List Value := [.bool r.w, .bool r.u, .bool r.x]
def Key.cs (k : Key) : List Value := [.int .i64 k.g, .int .i64 k.lev, .int .i64 k.role]
def Slot.cs (s : Slot) : List Value := [.int .i64 s.kind, .int .i64 s.to, .bool s.r.w, .bool s.r.u, .bool s.r.x]
def Hit.cs (h : Hit) : List Value := [.int .i64 h.asid, .int .i64 h.page, .int .i64 h.frame, .bool h.r.w, .bool h.r.u, .bool h.r.x, .bool h.dirty]
def Page.cs (p : Page) : List Value := .int .i64 p.f :: .int .i64 p.key.g :: .int .i64 p.key.lev :: .int .i64 p.key.role :: p.slots.flatMap Slot.cs
def Pte.cs (e : Pte) : List Value := [.bool e.p, .bool e.w, .bool e.u, .bool e.a, .bool e.d, .bool e.ps, .bool e.nx, .bool e.bad, .int .i64 e.frame]

def U64 (x : Int) : Prop := 0 ≤ x ∧ x < 18446744073709551616
def I64 (x : Int) : Prop := -9223372036854775808 ≤ x ∧ x ≤ 9223372036854775807

/-! ### memory -/
def hok (n : Nat) (f i : Int) : Bool := decide (0 ≤ f) && decide (f < n) && decide (0 ≤ i) && decide (i < 8)
def hget (n : Nat) (ws : List Int) (f i : Int) : Int := if hok n f i then ws.getD (f.toNat * 8 + i.toNat) 0 else 0
def hset (n : Nat) (ws : List Int) (f i v : Int) : List Int := if hok n f i then ws.set (f.toNat * 8 + i.toNat) v else ws

/-! ### entries -/
def big63 : Int := 9223372036854775808
def bitOf : Nat → Int
  | 0 => 1
  | 1 => 2
  | 2 => 4
  | 3 => 32
  | 4 => 64
  | 5 => 128
  | _ => big63
def pteBit (v : Int) (k : Nat) : Bool := bits .and .u64 v (bitOf k) != 0
def pteRest (v : Int) : Nat → Int
  | 0 => bits .andNot .u64 v 4294963200
  | k + 1 => bits .andNot .u64 (pteRest v k) (bitOf k)
def pteFrame (v : Int) : Int := Go.RowKit.wrap64 (bits .and .u64 (v / 4096) 1048575)
def pteGet (v : Int) : Pte := ⟨pteBit v 0, pteBit v 1, pteBit v 2, pteBit v 3, pteBit v 4, pteBit v 5, pteBit v 6, pteRest v 7 != 0, pteFrame v⟩
def pteFlag (e : Pte) : Nat → Bool
  | 0 => e.p
  | 1 => e.w
  | 2 => e.u
  | 3 => e.a
  | 4 => e.d
  | 5 => e.ps
  | _ => e.nx
def putTo (e : Pte) : Nat → Int
  | 0 => e.frame * 4096
  | k + 1 => if pteFlag e k then bits .or .u64 (putTo e k) (bitOf k) else putTo e k
def pteOk (e : Pte) : Bool := !e.bad && decide (0 ≤ e.frame) && decide (e.frame < 1048576)
def ptePut (e : Pte) : Int := if pteOk e then putTo e 7 else 0
/-- the cells of the entry while its flags are laid -/
def pteC (v : Int) : Nat → Array Value
  | 0 => #[.bool false, .bool false, .bool false, .bool false, .bool false, .bool false, .bool false, .bool false, .int .i64 0]
  | k + 1 => (pteC v k).setIfInBounds k (.bool (pteBit v k))

/-- the host's frame of a guest's -/
def gok (hs : List Int) (g : Int) : Bool := decide (0 ≤ g) && decide (g < hs.length)
def ghost (hs : List Int) (g : Int) : Int := if gok hs g then hs.getD g.toNat 0 else 0
def guok (n : Nat) (hs : List Int) (g i : Int) : Bool := gok hs g && hok n (ghost hs g) i
def guget (n : Nat) (hs : List Int) (ws : List Int) (g i : Int) : Int := if gok hs g then hget n ws (ghost hs g) i else 0
def guset (n : Nat) (hs : List Int) (ws : List Int) (g i v : Int) : List Int := if gok hs g then hset n ws (ghost hs g) i v else ws

theorem hset_len (n : Nat) (ws : List Int) (f i v : Int) : (hset n ws f i v).length = ws.length := by unfold hset; split <;> simp
theorem guset_len (n : Nat) (hs ws : List Int) (g i v : Int) : (guset n hs ws g i v).length = ws.length := by unfold guset; split <;> simp [hset_len]

/-! ### free frames -/
structure Free where
  first : Int
  many : Int
  fresh : Int
  back : List Int
  taken : List Int
def addT (l : List Int) (x : Int) : List Int := if x ∈ l then l else x :: l
/-- the frame that is taken; none: there is none -/
def Free.next (f : Free) : Option Int := if f.back ≠ [] then some (f.back.getLastD 0) else if f.fresh < f.many then some (f.first + f.fresh) else none
def Free.took (f : Free) : Free :=
  if f.back ≠ [] then { f with back := f.back.dropLast, taken := addT f.taken (f.back.getLastD 0) }
  else if f.fresh < f.many then { f with fresh := f.fresh + 1, taken := addT f.taken (f.first + f.fresh) } else f
def Free.given (f : Free) (x : Int) : Free := if x ∈ f.taken then { f with back := f.back ++ [x], taken := f.taken.erase x } else f

/-! ### shadow pages -/
def sPage (ps : List Page) (f : Int) : Option Page := ps.find? (fun p => p.f == f)
def sFind (ps : List Page) (k : Key) : Option Int := (ps.find? (fun p => decide (p.key = k))).map (·.f)
def sKey (ps : List Page) (f : Int) : Key := match sPage ps f with
  | some p => p.key
  | none => Key.zero
def sAll (ps : List Page) : List Int := ps.map (·.f)
def sOf (ps : List Page) (g : Int) : List Int := (ps.filter (fun p => p.key.role == 0 && p.key.g == g)).map (·.f)
def sSlot? (ps : List Page) (f i : Int) : Option Slot := match sPage ps f with
  | some p => if 0 ≤ i ∧ i < 8 then p.slots[i.toNat]? else none
  | none => none
def sSlot (ps : List Page) (f i : Int) : Slot := (sSlot? ps f i).getD Slot.empty
def keyRight (k : Key) : Bool := decide (1 ≤ k.lev) && decide (k.lev ≤ 3) && decide (0 ≤ k.role) && decide (k.role ≤ 2) && (k.role == 0 || k.lev == 1)

/-! ### what is known of pages -/
def hitIs (ax pg : Int) (h : Hit) : Bool := h.asid == ax && h.page == pg
def tPut (most : Int) (hs : List Hit) (h : Hit) : List Hit :=
  let l := hs.eraseP (hitIs h.asid h.page)
  (if (l.length : Int) = most then l.eraseIdx 0 else l) ++ [h]
end Sil

/- More plain functions of the program: what writes to shadow pages. -/
namespace Sil
open Go

/-- the word of a slot -/
def slotWord (x : Slot) (to : Int) : Int := if x.kind == 0 then 0 else ptePut ⟨true, x.r.w, x.r.u, false, false, false, !x.r.x, false, to⟩
/-- a page's slot is another one -/
def setAt (ps : List Page) (f : Int) (n : Nat) (x : Slot) : List Page := match ps.findIdx? (fun p => p.f == f) with
  | some j => ps.modify j (fun p => { p with slots := p.slots.set n x })
  | none => ps
def sClearIs (ps : List Page) (f i : Int) : Bool := match sSlot? ps f i with
  | some x => x.kind != 0
  | none => false
def sClear (ps : List Page) (f i : Int) : List Page := if sClearIs ps f i then setAt ps f i.toNat Slot.empty else ps
def wClear (n : Nat) (ps : List Page) (ws : List Int) (f i : Int) : List Int := if sClearIs ps f i then hset n ws f i 0 else ws
def sChildIs (ps : List Page) (f i c : Int) : Bool := (sSlot? ps f i).isSome && (sPage ps c).isSome && (sKey ps c).lev == (sKey ps f).lev - 1
def sChild (ps : List Page) (f i c : Int) (r : Rt) : List Page := if sChildIs ps f i c then setAt ps f i.toNat ⟨1, c, r⟩ else ps
def wChild (n : Nat) (ps : List Page) (ws : List Int) (f i c : Int) (r : Rt) : List Int := if sChildIs ps f i c then hset n ws f i (slotWord ⟨1, c, r⟩ c) else ws
def sLeafIs (n : Nat) (ps : List Page) (f i h : Int) : Bool := (sSlot? ps f i).isSome && (sKey ps f).lev == 1 && decide (0 ≤ h) && decide (h < n)
def sLeaf (n : Nat) (ps : List Page) (f i g h : Int) (r : Rt) : List Page := if sLeafIs n ps f i h then setAt ps f i.toNat ⟨2, g, r⟩ else ps
def wLeaf (n : Nat) (ps : List Page) (ws : List Int) (f i g h : Int) (r : Rt) : List Int := if sLeafIs n ps f i h then hset n ws f i (slotWord ⟨2, g, r⟩ h) else ws

theorem setAt_len (ps : List Page) (f : Int) (n : Nat) (x : Slot) : (setAt ps f n x).length = ps.length := by unfold setAt; split <;> simp
theorem slots_set (l : List Slot) (n : Nat) (x : Slot) (h : n < l.length) :
    (l.set n x).flatMap Slot.cs = (((((l.flatMap Slot.cs).set (n * 5) (.int .i64 x.kind)).set (n * 5 + 1) (.int .i64 x.to)).set (n * 5 + 2) (.bool x.r.w)).set (n * 5 + 3) (.bool x.r.u)).set (n * 5 + 4) (.bool x.r.x) := by
  induction l generalizing n with
  | nil => simp at h
  | cons y ys ih =>
    cases n with
    | zero => simp [Slot.cs]
    | succ n =>
      rw [List.set_cons_succ, List.flatMap_cons, ih n (by simpa using h), List.flatMap_cons]
      have e : ∀ j, (n + 1) * 5 + j = (n * 5 + j) + 1 + 1 + 1 + 1 + 1 := by intro j; omega
      rw [show (n + 1) * 5 = (n * 5) + 1 + 1 + 1 + 1 + 1 by omega]
      simp only [Slot.cs, List.cons_append, List.nil_append, List.set_cons_succ, show ∀ j, n * 5 + 1 + 1 + 1 + 1 + 1 + j = (n * 5 + j) + 1 + 1 + 1 + 1 + 1 from fun j => by omega]
theorem page_setcs (p : Page) (n : Nat) (x : Slot) (h : p.slots.length = 8) (hn : n < 8) :
    (((((p.cs.toArray.setIfInBounds (4 + n * 5) (.int .i64 x.kind)).setIfInBounds (4 + n * 5 + 1) (.int .i64 x.to)).setIfInBounds (4 + n * 5 + 2) (.bool x.r.w)).setIfInBounds (4 + n * 5 + 3) (.bool x.r.u)).setIfInBounds (4 + n * 5 + 4) (.bool x.r.x)) =
    ({ p with slots := p.slots.set n x } : Page).cs.toArray := by
  apply Array.toList_inj.1
  simp only [Array.toList_setIfInBounds, Page.cs]
  rw [slots_set _ _ _ (by omega)]
  rw [show 4 + n * 5 = (n * 5) + 1 + 1 + 1 + 1 by omega]
  simp only [List.set_cons_succ, show ∀ j, n * 5 + 1 + 1 + 1 + 1 + j = (n * 5 + j) + 1 + 1 + 1 + 1 from fun j => by omega]

def zero8 : List Int := [0, 0, 0, 0, 0, 0, 0, 0]
def hfill (n : Nat) (ws : List Int) (f : Int) (xs : List Int) : List Int := if hok n f 0 then ws.take (f.toNat * 8) ++ xs ++ ws.drop (f.toNat * 8 + 8) else ws
def slots0 : List Slot := [Slot.empty, Slot.empty, Slot.empty, Slot.empty, Slot.empty, Slot.empty, Slot.empty, Slot.empty]
def pageNew (f : Int) (k : Key) : Page := ⟨f, k, slots0⟩
def sMakeIs (ps : List Page) (fr : Free) (k : Key) : Bool := (sFind ps k).isNone && keyRight k && fr.next.isSome
end Sil

/- Where slots stand: what an iterator over all of a store's slots tells. -/
namespace Sil
open Go
structure At where
  g : Int
  i : Int
def At.cs (a : At) : List Value := [.int .i64 a.g, .int .i64 a.i]
/-- the first i slots of a page, and where they are -/
def pgAts (p : Page) (i : Nat) : List (At × Slot) := (List.range i).map (fun n : Nat => (⟨p.f, (n : Int)⟩, p.slots.getD n Slot.empty))
def stAts (ps : List Page) : List (At × Slot) := ps.flatMap (fun p => pgAts p 8)
def sTold (ps : List Page) (kind to : Int) : List At := ((stAts ps).filter (fun x => x.2.kind == kind && x.2.to == to)).map (·.1)
theorem pgAts_succ (p : Page) (i : Nat) : pgAts p (i + 1) = pgAts p i ++ [(⟨p.f, i⟩, p.slots.getD i Slot.empty)] := by simp [pgAts, List.range_succ]
theorem stAts_take {ps : List Page} {j : Nat} (h : j < ps.length) : stAts (ps.take (j + 1)) = stAts (ps.take j) ++ pgAts ps[j] 8 := by
  unfold stAts
  rw [List.take_succ_eq_append_getElem h, List.flatMap_append]; simp
theorem stAts_len (ps : List Page) : (stAts ps).length = 8 * ps.length := by
  unfold stAts
  induction ps with
  | nil => rfl
  | cons p ps ih => rw [List.flatMap_cons, List.length_append, ih]; simp [pgAts]; omega
theorem pgAts_pre (p : Page) {i : Nat} (h : i ≤ 8) : ∃ r, pgAts p 8 = pgAts p i ++ r := by
  refine ⟨((List.range 8).drop i).map (fun n : Nat => (⟨p.f, (n : Int)⟩, p.slots.getD n Slot.empty)), ?_⟩
  have : List.range i = (List.range 8).take i := by rw [List.take_range]; congr 1; omega
  unfold pgAts
  rw [this, ← List.map_append, List.take_append_drop]
end Sil

/- A page is given back, as plain data. -/
namespace Sil
open Go
def clr (n : Nat) (s : List Page × List Int) (a : At) : List Page × List Int := (sClear s.1 a.g a.i, wClear n s.1 s.2 a.g a.i)
def clrs (n : Nat) (s : List Page × List Int) (l : List At) : List Page × List Int := l.foldl (clr n) s
def rowAts (f : Int) (m : Nat) : List At := (List.range m).map (fun i : Nat => ⟨f, (i : Int)⟩)
def dropState (n : Nat) (ps : List Page) (ws : List Int) (f : Int) : List Page × List Int := clrs n (clrs n (ps, ws) (sTold ps 1 f)) (rowAts f 8)
def sDrop (n : Nat) (ps : List Page) (ws : List Int) (f : Int) : List Page := (dropState n ps ws f).1.filter (fun p => !(p.f == f))
def wDrop (n : Nat) (ps : List Page) (ws : List Int) (f : Int) : List Int := (dropState n ps ws f).2
theorem clrs_snoc (n : Nat) (s : List Page × List Int) (l : List At) (a : At) : clrs n s (l ++ [a]) = clr n (clrs n s l) a := by simp [clrs]
theorem rowAts_succ (f : Int) (m : Nat) : rowAts f (m + 1) = rowAts f m ++ [⟨f, m⟩] := by simp [rowAts, List.range_succ]
theorem sClear_len (ps : List Page) (f i : Int) : (sClear ps f i).length = ps.length := by unfold sClear; split <;> simp [setAt_len]
theorem clrs_len (n : Nat) (l : List At) : ∀ s : List Page × List Int, (clrs n s l).1.length = s.1.length := by
  induction l with
  | nil => intro s; rfl
  | cons a l ih => intro s; unfold clrs at *; rw [List.foldl_cons, ih]; simp [clr, sClear_len]
theorem ats_cell {l : List At} {i : Nat} {x : At} (hi : l[i]? = some x) (j : Nat) (hj : j < 2) : (l.flatMap At.cs)[i * 2 + j]? = x.cs[j]? := by
  induction l generalizing i with
  | nil => simp at hi
  | cons y ys ih =>
    cases i with
    | zero =>
      have e : y = x := by simpa using hi
      subst e
      rw [List.flatMap_cons, List.getElem?_append_left (by simp [At.cs]; omega)]
      simp
    | succ i =>
      have hi' : ys[i]? = some x := by simpa using hi
      rw [List.flatMap_cons, List.getElem?_append_right (by simp [At.cs]; omega)]
      have e : (i + 1) * 2 + j - y.cs.length = i * 2 + j := by simp [At.cs]; omega
      rw [e]; exact ih hi'
end Sil

/- The guard's state as plain data. -/
namespace Sil
open Go
structure St where
  ws : List Int
  fr : Free
  ps : List Page
  hits : List Hit
  loose : List Int
/-- where the guard and what it holds lie; n: how many frames the host has -/
structure Pt where
  d : Nat
  bG : Nat
  bM : Nat
  a : Nat
  bF : Nat
  bL : Nat
  bT : Nat
  n : Nat
def St.isLoose (s : St) (g : Int) : Bool := s.loose.contains g
def St.prot (s : St) (g : Int) : Bool := !(sOf s.ps g).isEmpty && !s.isLoose g
def St.zap (n : Nat) (s : St) (p i : Int) : St := { s with ws := wClear n s.ps s.ws p i, ps := sClear s.ps p i, hits := if sClearIs s.ps p i && hok n p i then [] else s.hits }
def St.word (n : Nat) (s : St) (g i : Int) : St := (sOf s.ps g).foldl (fun s p => s.zap n p i) s
def agr (x : Slot) (e : Pte) : Bool := if !e.p || !e.a || e.bad || e.ps || e.frame != x.to then false else if e.u != x.r.u || e.nx == x.r.x then false else !x.r.w || e.w && e.d
def St.tight (s : St) (g : Int) : St := { s with loose := s.loose.filter (fun l => !(l == g)) }
end Sil

/- The guard's forbid, as plain data. -/
namespace Sil
open Go
/-- one leaf is forbidden to be written -/
def St.forbid1 (n : Nat) (g h : Int) (s : St) (a : At) : St :=
  let x := sSlot s.ps a.g a.i
  if x.r.w then { s with ps := sLeaf n s.ps a.g a.i g h ⟨false, x.r.u, x.r.x⟩, ws := wLeaf n s.ps s.ws a.g a.i g h ⟨false, x.r.u, x.r.x⟩, hits := [] } else s
def St.forbids (n : Nat) (g h : Int) (s : St) (l : List At) : St := l.foldl (St.forbid1 n g h) s
def St.forbid (n : Nat) (hs : List Int) (s : St) (g : Int) : St := s.forbids n g (ghost hs g) (sTold s.ps 2 g)
theorem St.forbids_snoc (n : Nat) (g h : Int) (s : St) (l : List At) (a : At) : s.forbids n g h (l ++ [a]) = (s.forbids n g h l).forbid1 n g h a := by simp [St.forbids]
theorem sLeaf_len (n : Nat) (ps : List Page) (f i g h : Int) (r : Rt) : (sLeaf n ps f i g h r).length = ps.length := by unfold sLeaf; split <;> simp [setAt_len]
end Sil

/- The guard's calls as plain data: Make, Drop, Loosen, Look, All, and the calls of a list of operations. -/
namespace Sil
open Go

def St.smake (n : Nat) (s : St) (k : Key) : St := if sMakeIs s.ps s.fr k then { s with ps := s.ps ++ [pageNew (s.fr.next.getD 0) k], fr := s.fr.took, ws := hfill n s.ws (s.fr.next.getD 0) zero8 } else s
def smakeF (s : St) (k : Key) : Int := if sMakeIs s.ps s.fr k then s.fr.next.getD 0 else 0
/-- one slot of a loose table's page is looked at -/
def St.look1 (n : Nat) (hs : List Int) (g p : Int) (s : St) (i : Int) : St :=
  if (sSlot s.ps p i).kind == 2 && !agr (sSlot s.ps p i) (pteGet (guget n hs s.ws g i)) then { s with ps := sClear s.ps p i, ws := wClear n s.ps s.ws p i } else s
def St.lookI (n : Nat) (hs : List Int) (g p : Int) (s : St) (m : Nat) : St := (List.range m).foldl (fun s (i : Nat) => s.look1 n hs g p (i : Int)) s
def St.lookP (n : Nat) (hs : List Int) (g : Int) (s : St) (l : List Int) : St := l.foldl (fun s p => s.lookI n hs g p 8) s
def St.look (n : Nat) (hs : List Int) (s : St) (g : Int) : St :=
  if s.isLoose g then { ((s.tight g).forbid n hs g).lookP n hs g (sOf ((s.tight g).forbid n hs g).ps g) with hits := [] } else s
def St.looks (n : Nat) (hs : List Int) (s : St) (l : List Int) : St := l.foldl (St.look n hs) s
def St.all (n : Nat) (hs : List Int) (s : St) : St := s.looks n hs s.loose
def St.loosenIs (s : St) (g : Int) : Bool :=
  if s.isLoose g || (sOf s.ps g).length != 1 then false else
  if (sKey s.ps ((sOf s.ps g).getD 0 0)).lev != 1 || (sTold s.ps 1 ((sOf s.ps g).getD 0 0)).length != 1 then false else
  (sTold s.ps 1 ((sTold s.ps 1 ((sOf s.ps g).getD 0 0)).getD 0 ⟨0, 0⟩).g).length == 1
def St.loosen (s : St) (g : Int) : St := if s.loosenIs g then { s with loose := s.loose ++ [g] } else s
/-- ahead of a Make a table's page is looked through -/
def St.pre (n : Nat) (hs : List Int) (s : St) (k : Key) : St := if k.role == 0 then s.look n hs k.g else s
def St.make (n : Nat) (hs : List Int) (s : St) (k : Key) : St :=
  if (sFind s.ps k).isSome then s else
  if sMakeIs (s.pre n hs k).ps (s.pre n hs k).fr k && k.role == 0 then ((s.pre n hs k).smake n k).forbid n hs k.g else (s.pre n hs k).smake n k
def St.makeF (n : Nat) (hs : List Int) (s : St) (k : Key) : Int := match sFind s.ps k with
  | some p => p
  | none => smakeF (s.pre n hs k) k
def St.makeIs (n : Nat) (hs : List Int) (s : St) (k : Key) : Bool := (sFind s.ps k).isSome || sMakeIs (s.pre n hs k).ps (s.pre n hs k).fr k
def St.preD (s : St) (p : Int) : St := if (sKey s.ps p).role == 0 then s.tight (sKey s.ps p).g else s
def St.sdrop (n : Nat) (s : St) (p : Int) : St := { s with ps := sDrop n s.ps s.ws p, ws := wDrop n s.ps s.ws p, fr := s.fr.given p }
def St.drop (n : Nat) (s : St) (p : Int) : St := if (sPage s.ps p).isSome then { (s.preD p).sdrop n p with hits := [] } else s

theorem lookI_succ (n : Nat) (hs : List Int) (g p : Int) (s : St) (m : Nat) : s.lookI n hs g p (m + 1) = (s.lookI n hs g p m).look1 n hs g p m := by simp [St.lookI, List.range_succ]
theorem lookP_snoc (n : Nat) (hs : List Int) (g : Int) (s : St) (l : List Int) (p : Int) : s.lookP n hs g (l ++ [p]) = (s.lookP n hs g l).lookI n hs g p 8 := by simp [St.lookP]
theorem looks_snoc (n : Nat) (hs : List Int) (s : St) (l : List Int) (g : Int) : s.looks n hs (l ++ [g]) = (s.looks n hs l).look n hs g := by simp [St.looks]

/-- an operation of the laws' scripts -/
structure GOp where
  what : Int
  k : Key
  p : Int
  i : Int
  to : Int
  r : Rt
  v : Int
def GOp.cs (o : GOp) : List Value := [.int .i64 o.what, .int .i64 o.k.g, .int .i64 o.k.lev, .int .i64 o.k.role, .int .i64 o.p, .int .i64 o.i, .int .i64 o.to, .bool o.r.w, .bool o.r.u, .bool o.r.x, .int .u64 o.v]
structure WPut where
  g : Int
  i : Int
  v : Int
def WPut.cs (o : WPut) : List Value := [.int .i64 o.g, .int .i64 o.i, .int .u64 o.v]
/-- the host's frames and the guest's: the law's world -/
def lawHs : List Int := [24, 25, 26, 27, 28, 29, 30, 31, 32, 33, 34, 35, 36, 37, 38, 39]
def leafTo (to : Int) : Int := 24 + to % 16
def St.put (most : Int) (s : St) (h : Hit) : St := { s with hits := tPut most s.hits h }
def St.op (s : St) (o : GOp) : St :=
  if o.what == 0 || o.what == 1 then s.make 40 lawHs o.k else
  if o.what == 2 || o.what == 3 then { s with ps := sChild s.ps o.p o.i o.to o.r, ws := wChild 40 s.ps s.ws o.p o.i o.to o.r } else
  if o.what == 4 || o.what == 5 then { s with ps := sLeaf 40 s.ps o.p o.i o.to (leafTo o.to) o.r, ws := wLeaf 40 s.ps s.ws o.p o.i o.to (leafTo o.to) o.r } else
  if o.what == 6 then s.zap 40 o.p o.i else
  if o.what == 7 then s.word 40 o.to o.i else
  if o.what == 8 then s.loosen o.to else
  if o.what == 9 then s.look 40 lawHs o.to else
  if o.what == 10 then s.all 40 lawHs else
  if o.what == 11 then s.drop 40 o.p else
  if o.what == 12 then { s with ws := guset 40 lawHs s.ws o.to o.i o.v } else
  if o.what == 13 then s.put 8 ⟨0, o.i, o.p, Rt.none, false⟩ else s
def St.opF (s : St) (o : GOp) : Int := if o.what == 0 || o.what == 1 then s.makeF 40 lawHs o.k else 0
def St.opIs (s : St) (o : GOp) : Bool :=
  if o.what == 0 || o.what == 1 then s.makeIs 40 lawHs o.k else
  if o.what == 2 || o.what == 3 then sChildIs s.ps o.p o.i o.to && hok 40 o.p o.i else
  if o.what == 4 || o.what == 5 then sLeafIs 40 s.ps o.p o.i (leafTo o.to) && hok 40 o.p o.i else
  if o.what == 6 then sClearIs s.ps o.p o.i && hok 40 o.p o.i else
  if o.what == 8 then s.loosenIs o.to else
  if o.what == 9 then s.isLoose o.to else
  if o.what == 11 then (sPage s.ps o.p).isSome else
  if o.what == 12 then guok 40 lawHs o.to o.i else true
def St.ops (s : St) (l : List GOp) : St := l.foldl St.op s
theorem St.ops_snoc (s : St) (l : List GOp) (o : GOp) : s.ops (l ++ [o]) = (s.ops l).op o := by simp [St.ops]
def setWs (ws : List Int) (l : List WPut) : List Int := l.foldl (fun ws x => guset 40 lawHs ws x.g x.i x.v) ws
theorem setWs_snoc (ws : List Int) (l : List WPut) (x : WPut) : setWs ws (l ++ [x]) = guset 40 lawHs (setWs ws l) x.g x.i x.v := by simp [setWs]
def St.set0 (s : St) (l : List WPut) : St := { s with ws := setWs s.ws l }
def St.start : St := ⟨List.replicate 320 0, ⟨4, 8, 0, [], []⟩, [], [], []⟩
def St.made (l : List WPut) : St := St.start.set0 l
end Sil

/- Plain facts on shadow pages: what a slot is behind each call. -/
namespace Sil
open Go

def heads (ps : List Page) : List (Int × Key) := ps.map (fun p => (p.f, p.key))
structure Wfp (ps : List Page) : Prop where
  nd : (ps.map (·.f)).Nodup
  sl : ∀ p ∈ ps, p.slots.length = 8

def upSlot (f : Int) (n : Nat) (x : Slot) (p : Page) : Page := if p.f = f then { p with slots := p.slots.set n x } else p
theorem upSlot_f (f : Int) (n : Nat) (x : Slot) (p : Page) : (upSlot f n x p).f = p.f := by unfold upSlot; split <;> rfl
theorem upSlot_key (f : Int) (n : Nat) (x : Slot) (p : Page) : (upSlot f n x p).key = p.key := by unfold upSlot; split <;> rfl

theorem setAt_map : ∀ (ps : List Page), (ps.map (·.f)).Nodup → ∀ (f : Int) (n : Nat) (x : Slot), setAt ps f n x = ps.map (upSlot f n x) := by
  intro ps
  induction ps with
  | nil => intro _ f n x; rfl
  | cons p ps ih =>
    intro hnd f n x
    rw [List.map_cons, List.nodup_cons] at hnd
    obtain ⟨h1, h2⟩ := hnd
    have ih := ih h2 f n x
    unfold setAt at ih ⊢
    rw [List.findIdx?_cons]
    by_cases e : p.f = f
    · have e' : (p.f == f) = true := by simp [e]
      rw [e']
      simp only [if_true, List.modify_zero_cons, List.map_cons]
      have hrest : ps.map (upSlot f n x) = ps := by
        conv => rhs; rw [← List.map_id ps]
        apply List.map_congr_left
        intro q hq
        unfold upSlot
        rw [if_neg]; rfl
        rintro rfl
        exact h1 (by rw [e]; exact List.mem_map_of_mem hq)
      rw [hrest]
      unfold upSlot; rw [if_pos e]
    · have e' : (p.f == f) = false := by simp [e]
      rw [e']
      simp only [Bool.false_eq_true, if_false, List.map_cons]
      have hu : upSlot f n x p = p := by unfold upSlot; rw [if_neg e]
      rw [hu]
      cases hfi : ps.findIdx? (fun p => p.f == f) with
      | none => rw [hfi] at ih; simp only [Option.map_none]; rw [← ih]
      | some j => rw [hfi] at ih; simp only [Option.map_some]; rw [← ih]; rfl

theorem heads_map {g : Page → Page} (hf : ∀ p, (g p).f = p.f) (hk : ∀ p, (g p).key = p.key) (ps : List Page) : heads (ps.map g) = heads ps := by
  unfold heads; rw [List.map_map]; apply List.map_congr_left; intro p _; simp [hf, hk]
theorem heads_setAt {ps : List Page} (h : Wfp ps) (f : Int) (n : Nat) (x : Slot) : heads (setAt ps f n x) = heads ps := by
  rw [setAt_map ps h.nd]; exact heads_map (upSlot_f f n x) (upSlot_key f n x) ps
theorem fs_heads (ps : List Page) : ps.map (·.f) = (heads ps).map (·.1) := by unfold heads; rw [List.map_map]; rfl
theorem Wfp.setAt {ps : List Page} (h : Wfp ps) (f : Int) (n : Nat) (x : Slot) : Wfp (setAt ps f n x) := by
  refine ⟨?_, ?_⟩
  · rw [fs_heads, heads_setAt h, ← fs_heads]; exact h.nd
  · rw [setAt_map ps h.nd]
    intro p hp
    obtain ⟨q, hq, rfl⟩ := List.mem_map.1 hp
    unfold upSlot; split
    · simp [h.sl q hq]
    · exact h.sl q hq
theorem sPage_mem {ps : List Page} (hnd : (ps.map (·.f)).Nodup) {p : Page} (hp : p ∈ ps) : sPage ps p.f = some p := by
  unfold sPage
  induction ps with
  | nil => cases hp
  | cons q ps ih =>
    rw [List.map_cons, List.nodup_cons] at hnd
    rw [List.find?_cons]
    rcases List.mem_cons.1 hp with rfl | hp'
    · simp
    · have : (q.f == p.f) = false := by
        simp only [beq_eq_false_iff_ne]
        intro e
        exact hnd.1 (by rw [e]; exact List.mem_map_of_mem hp')
      rw [this]; exact ih hnd.2 hp'
theorem sPage_some {ps : List Page} {f : Int} {p : Page} (h : sPage ps f = some p) : p ∈ ps ∧ p.f = f := by
  unfold sPage at h
  exact ⟨List.mem_of_find?_eq_some h, by simpa using List.find?_some h⟩
theorem sPage_map {g : Page → Page} (hf : ∀ p, (g p).f = p.f) (ps : List Page) (f : Int) : sPage (ps.map g) f = (sPage ps f).map g := by
  unfold sPage; rw [List.find?_map]; congr 1
  congr 1; funext p; simp [hf]
theorem sSlot?_iff {ps : List Page} {f i : Int} {x : Slot} : sSlot? ps f i = some x ↔ ∃ p, sPage ps f = some p ∧ 0 ≤ i ∧ i < 8 ∧ p.slots[i.toNat]? = some x := by
  unfold sSlot?
  cases h : sPage ps f with
  | none => simp
  | some p =>
    simp only []
    by_cases hi : 0 ≤ i ∧ i < 8
    · rw [if_pos hi]; simp [hi]
    · rw [if_neg hi]; constructor
      · intro h; cases h
      · rintro ⟨q, _, h1, h2, _⟩; exact absurd ⟨h1, h2⟩ hi
theorem sSlot?_setAt {ps : List Page} (h : Wfp ps) {f i : Int} (hs : (sSlot? ps f i).isSome = true) (x : Slot) (f' i' : Int) :
    sSlot? (setAt ps f i.toNat x) f' i' = if f' = f ∧ i' = i then some x else sSlot? ps f' i' := by
  obtain ⟨y, hy⟩ := Option.isSome_iff_exists.1 hs
  obtain ⟨p, hp, h0, h8, hpi⟩ := sSlot?_iff.1 hy
  rw [setAt_map ps h.nd]
  have hlt := (List.getElem?_eq_some_iff.1 hpi).1
  unfold sSlot?
  rw [sPage_map (upSlot_f f i.toNat x)]
  cases hq : sPage ps f' with
  | none =>
    rw [if_neg]; rfl
    rintro ⟨rfl, _⟩; rw [hp] at hq; cases hq
  | some q =>
    simp only [Option.map_some]
    obtain ⟨hqm, hqf⟩ := sPage_some hq
    by_cases hi : 0 ≤ i' ∧ i' < 8
    · rw [if_pos hi, if_pos hi]
      by_cases ef : f' = f
      · subst ef
        rw [hp] at hq; cases hq
        have hu : (upSlot f' i.toNat x p).slots = p.slots.set i.toNat x := by unfold upSlot; rw [if_pos hqf]
        rw [hu, List.getElem?_set]
        by_cases ei : i' = i
        · subst ei; simp [hlt]
        · rw [if_neg (by omega), if_neg (by simp [ei])]
      · have hu : upSlot f i.toNat x q = q := by unfold upSlot; rw [if_neg (by rw [hqf]; exact ef)]
        rw [hu, if_neg (by simp [ef])]
    · rw [if_neg hi, if_neg hi, if_neg]
      rintro ⟨_, rfl⟩; exact hi ⟨h0, h8⟩

/-! what heads alone tell -/
theorem sAll_heads (ps : List Page) : sAll ps = (heads ps).map (·.1) := fs_heads ps
theorem sOf_heads (ps : List Page) (g : Int) : sOf ps g = ((heads ps).filter (fun x => x.2.role == 0 && x.2.g == g)).map (·.1) := by
  unfold sOf heads; rw [List.filter_map, List.map_map]; rfl
theorem sKeyO_heads (ps : List Page) (f : Int) : (sPage ps f).map (·.key) = ((heads ps).find? (fun x => x.1 == f)).map (·.2) := by
  unfold sPage heads; rw [List.find?_map, Option.map_map]; rfl
theorem sKey_heads {ps ps' : List Page} (h : heads ps' = heads ps) (f : Int) : sKey ps' f = sKey ps f := by
  have e : (sPage ps' f).map (·.key) = (sPage ps f).map (·.key) := by rw [sKeyO_heads, sKeyO_heads, h]
  unfold sKey
  cases h1 : sPage ps' f <;> cases h2 : sPage ps f <;> rw [h1, h2] at e <;> simp_all
theorem sPage_heads {ps ps' : List Page} (h : heads ps' = heads ps) (f : Int) : (sPage ps' f).isSome = (sPage ps f).isSome := by
  have e : (sPage ps' f).map (·.key) = (sPage ps f).map (·.key) := by rw [sKeyO_heads, sKeyO_heads, h]
  cases h1 : sPage ps' f <;> cases h2 : sPage ps f <;> rw [h1, h2] at e <;> simp_all
theorem sFind_heads (ps : List Page) (k : Key) : sFind ps k = ((heads ps).find? (fun x => decide (x.2 = k))).map (·.1) := by
  unfold sFind heads; rw [List.find?_map, Option.map_map]; rfl
theorem sOf_congr {ps ps' : List Page} (h : heads ps' = heads ps) (g : Int) : sOf ps' g = sOf ps g := by rw [sOf_heads, sOf_heads, h]
theorem sAll_congr {ps ps' : List Page} (h : heads ps' = heads ps) : sAll ps' = sAll ps := by rw [sAll_heads, sAll_heads, h]
theorem sFind_congr {ps ps' : List Page} (h : heads ps' = heads ps) (k : Key) : sFind ps' k = sFind ps k := by rw [sFind_heads, sFind_heads, h]
theorem sSlot?_isSome {ps : List Page} (h : Wfp ps) (f i : Int) : (sSlot? ps f i).isSome = ((sPage ps f).isSome && decide (0 ≤ i) && decide (i < 8)) := by
  unfold sSlot?
  cases hp : sPage ps f with
  | none => rfl
  | some p =>
    have hl := h.sl p (sPage_some hp).1
    by_cases hi : 0 ≤ i ∧ i < 8
    · simp [hi, hl]
    · have : ¬ (0 ≤ i) ∨ ¬ (i < 8) := by omega
      simp only [if_neg hi]
      rcases this with h | h <;> simp [h]
theorem of_mem {ps : List Page} {g f : Int} : f ∈ sOf ps g ↔ ∃ p ∈ ps, p.f = f ∧ p.key.role = 0 ∧ p.key.g = g := by
  unfold sOf; simp only [List.mem_map, List.mem_filter, Bool.and_eq_true, beq_iff_eq]
  constructor
  · rintro ⟨p, ⟨h1, h2, h3⟩, h4⟩; exact ⟨p, h1, h4, h2, h3⟩
  · rintro ⟨p, h1, h4, h2, h3⟩; exact ⟨p, ⟨h1, h2, h3⟩, h4⟩

/-! the slots that tell something -/
theorem stAts_mem {ps : List Page} (h : Wfp ps) (a : At) (x : Slot) : (a, x) ∈ stAts ps ↔ sSlot? ps a.g a.i = some x := by
  unfold stAts pgAts
  rw [sSlot?_iff]
  simp only [List.mem_flatMap, List.mem_map, List.mem_range]
  constructor
  · rintro ⟨p, hp, n, hn, he⟩
    injection he with e1 e2
    subst e1
    have hl := h.sl p hp
    refine ⟨p, sPage_mem h.nd hp, by simp, by simp; omega, ?_⟩
    rw [← e2]; simp [List.getD, hl, hn]
  · rintro ⟨p, hp, h0, h8, hx⟩
    obtain ⟨hm, hf⟩ := sPage_some hp
    refine ⟨p, hm, a.i.toNat, by omega, ?_⟩
    obtain ⟨ag, ai⟩ := a
    simp only at *
    rw [List.getD, hx, hf]
    simp; omega
theorem told_mem {ps : List Page} (h : Wfp ps) (k t : Int) (a : At) : a ∈ sTold ps k t ↔ ∃ x, sSlot? ps a.g a.i = some x ∧ x.kind = k ∧ x.to = t := by
  unfold sTold
  simp only [List.mem_map, List.mem_filter, Bool.and_eq_true, beq_iff_eq]
  constructor
  · rintro ⟨⟨b, x⟩, ⟨h1, h2, h3⟩, rfl⟩; exact ⟨x, (stAts_mem h b x).1 h1, h2, h3⟩
  · rintro ⟨x, h1, h2, h3⟩; exact ⟨(a, x), ⟨(stAts_mem h a x).2 h1, h2, h3⟩, rfl⟩

/-! what the calls do to a slot -/
theorem sClearIs_iff {ps : List Page} {f i : Int} : sClearIs ps f i = true ↔ ∃ x, sSlot? ps f i = some x ∧ x.kind ≠ 0 := by
  unfold sClearIs
  cases h : sSlot? ps f i <;> simp
theorem heads_sClear {ps : List Page} (h : Wfp ps) (f i : Int) : heads (sClear ps f i) = heads ps := by unfold sClear; split <;> simp [heads_setAt h]
theorem Wfp.sClear {ps : List Page} (h : Wfp ps) (f i : Int) : Wfp (sClear ps f i) := by unfold Sil.sClear; split <;> simp [h, h.setAt]
theorem sSlot?_sClear {ps : List Page} (h : Wfp ps) (hz : ∀ f i x, sSlot? ps f i = some x → x.kind = 0 → x = Slot.empty) (f i f' i' : Int) :
    sSlot? (sClear ps f i) f' i' = if f' = f ∧ i' = i then (sSlot? ps f' i').map (fun _ => Slot.empty) else sSlot? ps f' i' := by
  unfold Sil.sClear
  cases hc : sClearIs ps f i with
  | true =>
    obtain ⟨x, hx, _⟩ := sClearIs_iff.1 hc
    rw [if_pos rfl, sSlot?_setAt h (by rw [hx]; rfl)]
    by_cases e : f' = f ∧ i' = i
    · obtain ⟨rfl, rfl⟩ := e; simp [hx]
    · rw [if_neg e, if_neg e]
  | false =>
    rw [if_neg (by simp)]
    by_cases e : f' = f ∧ i' = i
    · obtain ⟨rfl, rfl⟩ := e
      rw [if_pos ⟨rfl, rfl⟩]
      cases hx : sSlot? ps f' i' with
      | none => rfl
      | some x =>
        have : x.kind = 0 := by
          rcases Decidable.em (x.kind = 0) with h0 | h0
          · exact h0
          · rw [sClearIs_iff.2 ⟨x, hx, h0⟩] at hc; cases hc
        rw [hz _ _ _ hx this]; rfl
    · rw [if_neg e]
end Sil

/- What holds of the guard's state behind any calls, and that each call keeps it. -/
namespace Sil
open Go

/-- a slot is empty, tells a page of the level below, or is a leaf of a page of level 1 -/
def SlotOk (ps : List Page) (f : Int) (x : Slot) : Prop :=
  x = Slot.empty ∨ (x.kind = 1 ∧ (sPage ps x.to).isSome = true ∧ (sKey ps x.to).lev = (sKey ps f).lev - 1) ∨ (x.kind = 2 ∧ (sKey ps f).lev = 1)
structure PInv (first many : Int) (s : St) : Prop where
  wf : Wfp s.ps
  key : ∀ p ∈ s.ps, keyRight p.key = true
  kd : ∀ f i x, sSlot? s.ps f i = some x → SlotOk s.ps f x
  ff : s.fr.first = first
  fm : s.fr.many = many
  f0 : 0 ≤ s.fr.fresh
  f1 : s.fr.fresh ≤ many
  tk : s.fr.taken.Nodup
  tm : ∀ x, x ∈ s.fr.taken ↔ x ∈ s.ps.map (·.f)
  nb : (s.fr.back ++ s.ps.map (·.f)).Nodup
  rg : ∀ x, x ∈ s.fr.back ++ s.ps.map (·.f) → first ≤ x ∧ x < first + s.fr.fresh
  lo : ∀ g ∈ s.loose, (sOf s.ps g).length = 1 ∧ ∀ f ∈ sOf s.ps g, (sKey s.ps f).lev = 1
  ln : s.loose.Nodup

theorem heads_mem {ps : List Page} {p : Page} (h : p ∈ ps) : (p.f, p.key) ∈ heads ps := List.mem_map.2 ⟨p, h, rfl⟩
theorem heads_mem' {ps : List Page} {x : Int × Key} (h : x ∈ heads ps) : ∃ p ∈ ps, p.f = x.1 ∧ p.key = x.2 := by
  obtain ⟨p, hp, rfl⟩ := List.mem_map.1 h; exact ⟨p, hp, rfl, rfl⟩
instance : DecidableEq At := fun a b => decidable_of_iff (a.g = b.g ∧ a.i = b.i) (by cases a; cases b; simp)
theorem SlotOk.zero {ps : List Page} {f : Int} {x : Slot} (h : SlotOk ps f x) (hk : x.kind = 0) : x = Slot.empty := by
  rcases h with h | h | h
  · exact h
  · omega
  · omega
theorem SlotOk.heads {ps ps' : List Page} {f : Int} {x : Slot} (h : SlotOk ps f x) (e : heads ps' = heads ps) : SlotOk ps' f x := by
  unfold SlotOk at *
  rw [sKey_heads e, sKey_heads e, sPage_heads e]; exact h
def Kd (ps : List Page) : Prop := ∀ f i x, sSlot? ps f i = some x → SlotOk ps f x
theorem Kd.z {ps : List Page} (h : Kd ps) : ∀ f i x, sSlot? ps f i = some x → x.kind = 0 → x = Slot.empty := fun f i x hx h0 => (h f i x hx).zero h0

/-- pages that were made, and whose slots alone are others -/
structure Like (ps ps' : List Page) : Prop where
  hd : heads ps' = heads ps
  wf : Wfp ps'
  kd : Kd ps'
theorem Like.trans {a b c : List Page} (h : Like a b) (k : Like b c) : Like a c := ⟨k.hd.trans h.hd, k.wf, k.kd⟩
theorem Like.refl {a : List Page} (h : Wfp a) (k : Kd a) : Like a a := ⟨rfl, h, k⟩

theorem PInv.like {first many : Int} {s s' : St} (h : PInv first many s) (hl : Like s.ps s'.ps) (hf : s'.fr = s.fr) (ho : s'.loose = s.loose) : PInv first many s' := by
  have e1 : s'.ps.map (·.f) = s.ps.map (·.f) := by rw [fs_heads, hl.hd, ← fs_heads]
  refine ⟨hl.wf, ?_, hl.kd, by rw [hf]; exact h.ff, by rw [hf]; exact h.fm, by rw [hf]; exact h.f0, by rw [hf]; exact h.f1, by rw [hf]; exact h.tk, by rw [hf, e1]; exact h.tm, by rw [hf, e1]; exact h.nb, by rw [hf, e1]; exact h.rg, ?_, by rw [ho]; exact h.ln⟩
  · intro p hp
    have : (p.f, p.key) ∈ heads s.ps := by rw [← hl.hd]; exact heads_mem hp
    obtain ⟨q, hq, _, e⟩ := heads_mem' this
    simp only at e; rw [← e]; exact h.key q hq
  · rw [ho]
    intro g hg
    obtain ⟨h1, h2⟩ := h.lo g hg
    rw [sOf_congr hl.hd]
    exact ⟨h1, fun f hf => by rw [sKey_heads hl.hd]; exact h2 f hf⟩

theorem setAt_like {ps : List Page} (h : Wfp ps) (k : Kd ps) {f i : Int} {x : Slot} (hs : (sSlot? ps f i).isSome = true) (hx : SlotOk ps f x) : Like ps (setAt ps f i.toNat x) := by
  have hh := heads_setAt h f i.toNat x
  refine ⟨hh, h.setAt f _ x, fun f' i' y hy => ?_⟩
  rw [sSlot?_setAt h hs] at hy
  split at hy
  · rename_i e; cases hy; rw [e.1]; exact hx.heads hh
  · exact (k f' i' y hy).heads hh
theorem sClear_like {ps : List Page} (h : Wfp ps) (k : Kd ps) (f i : Int) : Like ps (sClear ps f i) := by
  unfold Sil.sClear
  split
  · rename_i hc
    obtain ⟨x, hx, _⟩ := sClearIs_iff.1 hc
    exact setAt_like h k (by rw [hx]; rfl) (.inl rfl)
  · exact Like.refl h k
theorem sChild_like {ps : List Page} (h : Wfp ps) (k : Kd ps) (f i c : Int) (r : Rt) : Like ps (sChild ps f i c r) := by
  unfold Sil.sChild
  split
  · rename_i hc
    unfold sChildIs at hc
    simp only [Bool.and_eq_true, beq_iff_eq] at hc
    exact setAt_like h k hc.1.1 (.inr (.inl ⟨rfl, hc.1.2, hc.2⟩))
  · exact Like.refl h k
theorem sLeaf_like {ps : List Page} (h : Wfp ps) (k : Kd ps) (n : Nat) (f i g t : Int) (r : Rt) : Like ps (sLeaf n ps f i g t r) := by
  unfold Sil.sLeaf
  split
  · rename_i hc
    unfold sLeafIs at hc
    simp only [Bool.and_eq_true, beq_iff_eq] at hc
    exact setAt_like h k hc.1.1.1 (.inr (.inr ⟨rfl, hc.1.1.2⟩))
  · exact Like.refl h k

/-! ### calls that change slots alone -/
structure Quiet (s s' : St) : Prop where
  like : Like s.ps s'.ps
  fr : s'.fr = s.fr
  loose : s'.loose = s.loose
theorem Quiet.refl {s : St} (h : Wfp s.ps) (k : Kd s.ps) : Quiet s s := ⟨Like.refl h k, rfl, rfl⟩
theorem Quiet.trans {a b c : St} (h : Quiet a b) (k : Quiet b c) : Quiet a c := ⟨h.like.trans k.like, k.fr.trans h.fr, k.loose.trans h.loose⟩
theorem PInv.quiet {first many : Int} {s s' : St} (h : PInv first many s) (q : Quiet s s') : PInv first many s' := h.like q.like q.fr q.loose
theorem quiet_fold {α : Type} {f : St → α → St} (hf : ∀ s x, Wfp s.ps → Kd s.ps → Quiet s (f s x)) : ∀ (l : List α) (s : St), Wfp s.ps → Kd s.ps → Quiet s (l.foldl f s) := by
  intro l
  induction l with
  | nil => intro s h k; exact Quiet.refl h k
  | cons x l ih =>
    intro s h k
    have q := hf s x h k
    rw [List.foldl_cons]
    exact q.trans (ih _ q.like.wf q.like.kd)
theorem quiet_zap (n : Nat) (f i : Int) (s : St) (h : Wfp s.ps) (k : Kd s.ps) : Quiet s (s.zap n f i) := ⟨sClear_like h k f i, rfl, rfl⟩
theorem quiet_word (n : Nat) (g i : Int) (s : St) (h : Wfp s.ps) (k : Kd s.ps) : Quiet s (s.word n g i) := quiet_fold (fun s p h k => quiet_zap n p i s h k) _ s h k
theorem quiet_forbid1 (n : Nat) (g t : Int) (s : St) (a : At) (h : Wfp s.ps) (k : Kd s.ps) : Quiet s (s.forbid1 n g t a) := by
  unfold St.forbid1
  simp only []
  split
  · exact ⟨sLeaf_like h k _ _ _ _ _ _, rfl, rfl⟩
  · exact Quiet.refl h k
theorem quiet_forbid (n : Nat) (hs : List Int) (g : Int) (s : St) (h : Wfp s.ps) (k : Kd s.ps) : Quiet s (s.forbid n hs g) := quiet_fold (fun s a h k => quiet_forbid1 n g _ s a h k) _ s h k
theorem quiet_look1 (n : Nat) (hs : List Int) (g p i : Int) (s : St) (h : Wfp s.ps) (k : Kd s.ps) : Quiet s (s.look1 n hs g p i) := by
  unfold St.look1
  split
  · exact ⟨sClear_like h k _ _, rfl, rfl⟩
  · exact Quiet.refl h k
theorem quiet_lookI (n : Nat) (hs : List Int) (g p : Int) (m : Nat) (s : St) (h : Wfp s.ps) (k : Kd s.ps) : Quiet s (s.lookI n hs g p m) := quiet_fold (fun s i h k => quiet_look1 n hs g p _ s h k) _ s h k
theorem quiet_lookP (n : Nat) (hs : List Int) (g : Int) (l : List Int) (s : St) (h : Wfp s.ps) (k : Kd s.ps) : Quiet s (s.lookP n hs g l) := quiet_fold (fun s p h k => quiet_lookI n hs g p 8 s h k) _ s h k

theorem PInv.tight {first many : Int} {s : St} (h : PInv first many s) (g : Int) : PInv first many (s.tight g) :=
  ⟨h.wf, h.key, h.kd, h.ff, h.fm, h.f0, h.f1, h.tk, h.tm, h.nb, h.rg, fun x hx => h.lo x (List.mem_filter.1 hx).1, h.ln.filter _⟩
theorem tight_not (s : St) (g : Int) : g ∉ (s.tight g).loose := by unfold St.tight; simp
theorem tight_mem (s : St) (g x : Int) : x ∈ (s.tight g).loose ↔ x ∈ s.loose ∧ x ≠ g := by unfold St.tight; simp
theorem PInv.hits {first many : Int} {s : St} (h : PInv first many s) (l : List Hit) : PInv first many { s with hits := l } :=
  ⟨h.wf, h.key, h.kd, h.ff, h.fm, h.f0, h.f1, h.tk, h.tm, h.nb, h.rg, h.lo, h.ln⟩
theorem PInv.words {first many : Int} {s : St} (h : PInv first many s) (l : List Int) : PInv first many { s with ws := l } :=
  ⟨h.wf, h.key, h.kd, h.ff, h.fm, h.f0, h.f1, h.tk, h.tm, h.nb, h.rg, h.lo, h.ln⟩
theorem look_no {n : Nat} {hs : List Int} {s : St} {g : Int} (h : g ∉ s.loose) : s.look n hs g = s := by
  unfold St.look St.isLoose; rw [if_neg (by simpa using h)]
theorem look_yes {n : Nat} {hs : List Int} {s : St} {g : Int} (h : g ∈ s.loose) : s.look n hs g = { ((s.tight g).forbid n hs g).lookP n hs g (sOf ((s.tight g).forbid n hs g).ps g) with hits := [] } := by
  unfold St.look St.isLoose; rw [if_pos (by simpa using h)]
theorem quiet_lookRest (n : Nat) (hs : List Int) (s : St) (g : Int) (h : Wfp s.ps) (k : Kd s.ps) : Quiet s ((s.forbid n hs g).lookP n hs g (sOf (s.forbid n hs g).ps g)) := by
  have q := quiet_forbid n hs g s h k
  exact q.trans (quiet_lookP n hs g _ _ q.like.wf q.like.kd)
theorem PInv.look {first many : Int} {s : St} (h : PInv first many s) (n : Nat) (hs : List Int) (g : Int) : PInv first many (s.look n hs g) := by
  by_cases hg : g ∈ s.loose
  · rw [look_yes hg]
    have ht := h.tight g
    exact (ht.quiet (quiet_lookRest n hs _ g ht.wf ht.kd)).hits []
  · rw [look_no hg]; exact h
theorem look_loose {s : St} (hw : Wfp s.ps) (hk : Kd s.ps) (n : Nat) (hs : List Int) (g x : Int) : x ∈ (s.look n hs g).loose ↔ x ∈ s.loose ∧ x ≠ g := by
  by_cases hg : g ∈ s.loose
  · rw [look_yes hg]
    have q := quiet_lookRest n hs (s.tight g) g hw hk
    show x ∈ (St.lookP _ _ _ _ _).loose ↔ _
    rw [q.loose, tight_mem]
  · rw [look_no hg]
    constructor
    · intro h; exact ⟨h, by rintro rfl; exact hg h⟩
    · intro h; exact h.1
theorem look_heads {s : St} (hw : Wfp s.ps) (hk : Kd s.ps) (n : Nat) (hs : List Int) (g : Int) : heads (s.look n hs g).ps = heads s.ps ∧ (s.look n hs g).fr = s.fr := by
  by_cases hg : g ∈ s.loose
  · rw [look_yes hg]
    have q := quiet_lookRest n hs (s.tight g) g hw hk
    exact ⟨q.like.hd, q.fr⟩
  · rw [look_no hg]; exact ⟨rfl, rfl⟩
theorem PInv.looks {first many : Int} (n : Nat) (hs : List Int) (l : List Int) : ∀ {s : St}, PInv first many s → PInv first many (s.looks n hs l) := by
  induction l with
  | nil => intro s h; exact h
  | cons g l ih => intro s h; exact ih (h.look n hs g)

theorem one_of {l : List Int} (h : l.length = 1) : ∃ x, l = [x] := by
  match l, h with
  | [x], _ => exact ⟨x, rfl⟩
theorem PInv.loosen {first many : Int} {s : St} (h : PInv first many s) (g : Int) : PInv first many (s.loosen g) := by
  unfold St.loosen
  split
  · rename_i hc
    unfold St.loosenIs at hc
    split at hc
    · cases hc
    rename_i h1
    split at hc
    · cases hc
    rename_i h2
    simp only [Bool.or_eq_true, bne_iff_ne, ne_eq, not_or, Decidable.not_not] at h1 h2
    obtain ⟨f, hf⟩ := one_of h1.2
    refine ⟨h.wf, h.key, h.kd, h.ff, h.fm, h.f0, h.f1, h.tk, h.tm, h.nb, h.rg, fun x hx => ?_, ?_⟩
    · rcases List.mem_append.1 hx with hx | hx
      · exact h.lo x hx
      · have : x = g := by simpa using hx
        subst this
        refine ⟨h1.2, fun f' hf' => ?_⟩
        rw [hf] at hf' h2
        have : f' = f := by simpa using hf'
        subst this
        exact h2.1
    · rw [List.nodup_append]
      refine ⟨h.ln, by simp, fun a ha b hb => ?_⟩
      have : b = g := by simpa using hb
      subst this
      rintro rfl
      exact h1.1 (by unfold St.isLoose; simpa using ha)
  · exact h

/-! ### a page is made -/
theorem sPage_append (ps : List Page) (q : Page) (f : Int) : sPage (ps ++ [q]) f = if (sPage ps f).isSome then sPage ps f else if q.f = f then some q else none := by
  unfold sPage
  rw [List.find?_append]
  cases h : ps.find? (fun p => p.f == f) with
  | none => by_cases e : q.f = f <;> simp [e]
  | some p => simp
theorem sPage_none {ps : List Page} {f : Int} (h : f ∉ ps.map (·.f)) : sPage ps f = none := by
  cases e : sPage ps f with
  | none => rfl
  | some p => exact absurd (List.mem_map.2 ⟨p, (sPage_some e).1, (sPage_some e).2⟩) h
theorem sPage_isSome {ps : List Page} {f : Int} : (sPage ps f).isSome = true ↔ f ∈ ps.map (·.f) := by
  constructor
  · intro h
    obtain ⟨p, hp⟩ := Option.isSome_iff_exists.1 h
    exact List.mem_map.2 ⟨p, (sPage_some hp).1, (sPage_some hp).2⟩
  · intro h
    cases e : sPage ps f with
    | some p => rfl
    | none =>
      obtain ⟨p, hp, hf⟩ := List.mem_map.1 h
      unfold sPage at e
      have := List.find?_eq_none.1 e p hp
      simp [hf] at this
theorem PInv.nextNew {first many : Int} {s : St} (h : PInv first many s) {x : Int} (hx : s.fr.next = some x) :
    x ∉ s.ps.map (·.f) ∧ first ≤ x ∧ x < first + many ∧ x ∉ s.fr.took.back ∧ s.fr.took.taken = x :: s.fr.taken ∧ s.fr.took.first = first ∧ s.fr.took.many = many ∧ 0 ≤ s.fr.took.fresh ∧ s.fr.took.fresh ≤ many ∧ x < first + s.fr.took.fresh ∧
      s.fr.fresh ≤ s.fr.took.fresh ∧ (∀ y, y ∈ s.fr.took.back → y ∈ s.fr.back) ∧ s.fr.took.back.Nodup := by
  have h0 := h.f0
  have h1 := h.f1
  have hff := h.ff
  have hfm := h.fm
  have hnb := List.nodup_append.1 h.nb
  have hnt : x ∉ s.ps.map (·.f) → addT s.fr.taken x = x :: s.fr.taken := fun hx => by unfold addT; rw [if_neg (by rw [h.tm]; exact hx)]
  unfold Free.next at hx
  unfold Free.took
  by_cases hb : s.fr.back ≠ []
  · rw [if_pos hb] at hx
    simp only [if_pos hb]
    have hxe : s.fr.back.getLastD 0 = x := Option.some.inj hx
    have hlast : s.fr.back.getLast hb = x := by
      rw [← hxe, List.getLastD_eq_getLast?, List.getLast?_eq_some_getLast hb]; rfl
    have hsplit := List.dropLast_concat_getLast hb
    rw [hlast] at hsplit
    have hxm : x ∈ s.fr.back := by rw [← hsplit]; simp
    have hxp : x ∉ s.ps.map (·.f) := fun hm => hnb.2.2 x hxm x hm rfl
    have hr := h.rg x (List.mem_append_left _ hxm)
    have hnd : (s.fr.back.dropLast ++ [x]).Nodup := by rw [hsplit]; exact hnb.1
    have hnd' := List.nodup_append.1 hnd
    rw [hxe, hnt hxp]
    refine ⟨hxp, hr.1, by omega, fun hm => hnd'.2.2 x hm x (by simp) rfl, rfl, hff, hfm, h0, h1, hr.2, Int.le_refl _, fun y hy => by rw [← hsplit]; exact List.mem_append_left _ hy, hnd'.1⟩
  · rw [if_neg hb] at hx
    by_cases hfr : s.fr.fresh < s.fr.many
    · rw [if_pos hfr] at hx
      simp only [if_neg hb, if_pos hfr]
      have hxe : s.fr.first + s.fr.fresh = x := Option.some.inj hx
      have hxp : x ∉ s.ps.map (·.f) := fun hm => by have := h.rg x (List.mem_append_right _ hm); omega
      have hb' : s.fr.back = [] := by simpa using hb
      rw [hxe, hnt hxp]
      refine ⟨hxp, by omega, by omega, by rw [hb']; simp, rfl, hff, hfm, by omega, by omega, by omega, by omega, fun y hy => hy, hnb.1⟩
    · rw [if_neg hfr] at hx; cases hx
theorem slots0_get {n : Nat} {x : Slot} (h : slots0[n]? = some x) : x = Slot.empty := by
  have := List.mem_of_getElem? h
  unfold slots0 at this
  simpa using this
theorem PInv.smake {first many : Int} {s : St} (h : PInv first many s) (n : Nat) (k : Key) (hk : k.role = 0 → k.g ∉ s.loose) : PInv first many (s.smake n k) := by
  unfold St.smake
  split
  · rename_i hc
    unfold sMakeIs at hc
    simp only [Bool.and_eq_true] at hc
    obtain ⟨⟨_, hkr⟩, hnx⟩ := hc
    obtain ⟨x, hx⟩ := Option.isSome_iff_exists.1 hnx
    obtain ⟨a1, a2, a3, a4, a5, a6, a7, a8, a9, a10, a11, a12, a13⟩ := h.nextNew hx
    rw [hx]
    simp only [Option.getD_some]
    have hsp : ∀ f, (sPage s.ps f).isSome = true → sPage (s.ps ++ [pageNew x k]) f = sPage s.ps f := fun f hf => by rw [sPage_append, if_pos hf]
    have hsk : ∀ f, (sPage s.ps f).isSome = true → sKey (s.ps ++ [pageNew x k]) f = sKey s.ps f := fun f hf => by unfold sKey; rw [hsp f hf]
    refine ⟨⟨?_, ?_⟩, ?_, ?_, a6, a7, a8, a9, ?_, ?_, ?_, ?_, ?_, h.ln⟩
    · simp only [List.map_append, List.map_cons, List.map_nil]
      rw [List.nodup_append]
      exact ⟨h.wf.nd, by simp, fun a ha b hb => by have : b = x := by simpa [pageNew] using hb
                                                   subst this; rintro rfl; exact a1 ha⟩
    · intro p hp
      rcases List.mem_append.1 hp with hp | hp
      · exact h.wf.sl p hp
      · have : p = pageNew x k := by simpa using hp
        subst this; rfl
    · intro p hp
      rcases List.mem_append.1 hp with hp | hp
      · exact h.key p hp
      · have : p = pageNew x k := by simpa using hp
        subst this; exact hkr
    · intro f i y hy
      obtain ⟨p, hp, i0, i8, hy'⟩ := sSlot?_iff.1 hy
      rw [sPage_append] at hp
      split at hp
      · rename_i hs
        have := h.kd f i y (sSlot?_iff.2 ⟨p, hp, i0, i8, hy'⟩)
        rcases this with e | ⟨e1, e2, e3⟩ | ⟨e1, e2⟩
        · exact .inl e
        · exact .inr (.inl ⟨e1, by rw [hsp _ e2]; exact e2, by rw [hsk _ e2, hsk _ hs]; exact e3⟩)
        · exact .inr (.inr ⟨e1, by rw [hsk _ hs]; exact e2⟩)
      · split at hp
        · cases hp; exact .inl (slots0_get hy')
        · cases hp
    · show (s.fr.took.taken).Nodup
      rw [a5, List.nodup_cons]
      exact ⟨by rw [h.tm]; exact a1, h.tk⟩
    · intro y
      show y ∈ s.fr.took.taken ↔ _
      rw [a5]
      simp only [List.mem_cons, List.map_append, List.map_cons, List.map_nil, List.mem_append, pageNew]
      rw [h.tm]
      constructor
      · rintro (e | e)
        · exact .inr (.inl e)
        · exact .inl e
      · rintro (e | e)
        · exact .inr e
        · exact .inl (by simpa using e)
    · show (s.fr.took.back ++ _).Nodup
      have hnb := List.nodup_append.1 h.nb
      rw [List.nodup_append]
      refine ⟨a13, ?_, ?_⟩
      · simp only [List.map_append, List.map_cons, List.map_nil]
        rw [List.nodup_append]
        exact ⟨h.wf.nd, by simp, fun a ha b hb => by have : b = x := by simpa [pageNew] using hb
                                                     subst this; rintro rfl; exact a1 ha⟩
      · intro a ha b hb
        simp only [List.map_append, List.map_cons, List.map_nil] at hb
        rcases List.mem_append.1 hb with hb | hb
        · exact hnb.2.2 a (a12 a ha) b hb
        · have : b = x := by simpa [pageNew] using hb
          subst this; rintro rfl; exact a4 ha
    · intro y hy
      have hy : y ∈ s.fr.took.back ++ (s.ps ++ [pageNew x k]).map (·.f) := hy
      simp only [List.map_append, List.map_cons, List.map_nil, List.mem_append] at hy
      show first ≤ y ∧ y < first + s.fr.took.fresh
      rcases hy with hy | hy | hy
      · have := h.rg y (List.mem_append_left _ (a12 y hy)); omega
      · have := h.rg y (List.mem_append_right _ hy); omega
      · have : y = x := by simpa [pageNew] using hy
        subst this; exact ⟨a2, a10⟩
    · intro g hg
      obtain ⟨b1, b2⟩ := h.lo g hg
      have hof : sOf (s.ps ++ [pageNew x k]) g = sOf s.ps g := by
        unfold sOf
        rw [List.filter_append, List.map_append]
        have : (List.filter (fun p : Page => p.key.role == 0 && p.key.g == g) [pageNew x k]) = [] := by
          rw [List.filter_eq_nil_iff]
          intro p hp
          have : p = pageNew x k := by simpa using hp
          subst this
          simp only [pageNew, Bool.and_eq_true, beq_iff_eq, not_and]
          intro h1 h2
          exact hk h1 (by rw [h2]; exact hg)
        rw [this]; simp
      rw [hof]
      refine ⟨b1, fun f hf => ?_⟩
      obtain ⟨p, hp, hpf, _⟩ := of_mem.1 hf
      rw [hsk f (sPage_isSome.2 (List.mem_map.2 ⟨p, hp, hpf⟩))]
      exact b2 f hf
  · exact h
theorem PInv.pre {first many : Int} {s : St} (h : PInv first many s) (n : Nat) (hs : List Int) (k : Key) : PInv first many (s.pre n hs k) := by
  unfold St.pre; split
  · exact h.look n hs k.g
  · exact h
theorem pre_not {first many : Int} {s : St} (h : PInv first many s) (n : Nat) (hs : List Int) (k : Key) : k.role = 0 → k.g ∉ (s.pre n hs k).loose := by
  intro hk hm
  unfold St.pre at hm
  rw [if_pos (by simpa using hk)] at hm
  exact ((look_loose h.wf h.kd n hs k.g k.g).1 hm).2 rfl
theorem PInv.make {first many : Int} {s : St} (h : PInv first many s) (n : Nat) (hs : List Int) (k : Key) : PInv first many (s.make n hs k) := by
  unfold St.make
  have h1 := h.pre n hs k
  have h2 := h1.smake n k (pre_not h n hs k)
  split
  · exact h
  · split
    · exact h2.quiet (quiet_forbid n hs k.g _ h2.wf h2.kd)
    · exact h2

/-! ### a page is given back -/
theorem clr_like (n : Nat) (s : List Page × List Int) (a : At) (h : Wfp s.1) (k : Kd s.1) : Like s.1 (clr n s a).1 := sClear_like h k a.g a.i
theorem clrs_like (n : Nat) (l : List At) : ∀ (s : List Page × List Int), Wfp s.1 → Kd s.1 → Like s.1 (clrs n s l).1 := by
  induction l with
  | nil => intro s h k; exact Like.refl h k
  | cons a l ih =>
    intro s h k
    have q := clr_like n s a h k
    exact q.trans (ih _ q.wf q.kd)
theorem clrs_slot (n : Nat) (l : List At) : ∀ (s : List Page × List Int), Wfp s.1 → Kd s.1 → ∀ f i, sSlot? (clrs n s l).1 f i = if (⟨f, i⟩ : At) ∈ l then (sSlot? s.1 f i).map (fun _ => Slot.empty) else sSlot? s.1 f i := by
  induction l with
  | nil => intro s h k f i; simp [clrs]
  | cons a l ih =>
    intro s h k f i
    have q := clr_like n s a h k
    show sSlot? (clrs n (clr n s a) l).1 f i = _
    rw [ih _ q.wf q.kd]
    have e : sSlot? (clr n s a).1 f i = if f = a.g ∧ i = a.i then (sSlot? s.1 f i).map (fun _ => Slot.empty) else sSlot? s.1 f i := sSlot?_sClear h k.z a.g a.i f i
    rw [e]
    have ea : (⟨f, i⟩ : At) = a ↔ f = a.g ∧ i = a.i := by obtain ⟨g, j⟩ := a; simp
    by_cases h1 : f = a.g ∧ i = a.i
    · rw [if_pos h1, if_pos (List.mem_cons.2 (.inl (ea.2 h1)))]
      split
      · cases sSlot? s.1 f i <;> rfl
      · rfl
    · rw [if_neg h1]
      have : ((⟨f, i⟩ : At) ∈ a :: l) ↔ (⟨f, i⟩ : At) ∈ l := by rw [List.mem_cons, ea]; simp [h1]
      simp only [this]
theorem sPage_filter (ps : List Page) (f f' : Int) : sPage (ps.filter (fun p => !(p.f == f))) f' = if f' = f then none else sPage ps f' := by
  unfold sPage
  rw [List.find?_filter]
  by_cases e : f' = f
  · subst e; rw [if_pos rfl, List.find?_eq_none]; intro p _; cases h : (p.f == f') <;> simp
  · rw [if_neg e]; congr 1; funext p
    by_cases h : p.f = f'
    · subst h; simp [e]
    · simp [h]
theorem rowAts_mem (f : Int) (a : At) : a ∈ rowAts f 8 ↔ a.g = f ∧ 0 ≤ a.i ∧ a.i < 8 := by
  unfold rowAts
  simp only [List.mem_map, List.mem_range]
  constructor
  · rintro ⟨i, hi, rfl⟩; simp; omega
  · rintro ⟨h1, h2, h3⟩
    refine ⟨a.i.toNat, by omega, ?_⟩
    obtain ⟨g, i⟩ := a
    simp only [At.mk.injEq] at *
    exact ⟨h1.symm, by omega⟩
theorem dropState_like (n : Nat) {ps : List Page} (ws : List Int) (f : Int) (h : Wfp ps) (k : Kd ps) : Like ps (dropState n ps ws f).1 := by
  unfold dropState
  have q := clrs_like n (sTold ps 1 f) (ps, ws) h k
  exact q.trans (clrs_like n (rowAts f 8) _ q.wf q.kd)
theorem dropState_slot (n : Nat) {ps : List Page} (ws : List Int) (f : Int) (h : Wfp ps) (k : Kd ps) (f' i' : Int) (hf : f' ≠ f) :
    sSlot? (dropState n ps ws f).1 f' i' = (sSlot? ps f' i').map (fun x => if x.kind = 1 ∧ x.to = f then Slot.empty else x) := by
  unfold dropState
  have q := clrs_like n (sTold ps 1 f) (ps, ws) h k
  rw [clrs_slot n _ _ q.wf q.kd, if_neg (by rw [rowAts_mem]; simp [hf]), clrs_slot n _ _ h k]
  have hm := told_mem h 1 f ⟨f', i'⟩
  simp only at hm
  cases hx : sSlot? ps f' i' with
  | none => simp
  | some x =>
    rw [hx] at hm
    simp only [Option.map_some]
    by_cases e : x.kind = 1 ∧ x.to = f
    · rw [if_pos (hm.2 ⟨x, rfl, e.1, e.2⟩), if_pos e]
    · rw [if_neg, if_neg e]
      intro hh
      obtain ⟨y, hy, h1, h2⟩ := hm.1 hh
      cases hy; exact e ⟨h1, h2⟩
theorem sDrop_heads (n : Nat) {ps : List Page} (ws : List Int) (f : Int) (h : Wfp ps) (k : Kd ps) : heads (sDrop n ps ws f) = (heads ps).filter (fun x => !(x.1 == f)) := by
  have q := dropState_like n ws f h k
  unfold sDrop
  rw [← q.hd]
  unfold heads
  rw [List.filter_map]; rfl
theorem sDrop_slot (n : Nat) {ps : List Page} (ws : List Int) (f : Int) (h : Wfp ps) (k : Kd ps) (f' i' : Int) :
    sSlot? (sDrop n ps ws f) f' i' = if f' = f then none else (sSlot? ps f' i').map (fun x => if x.kind = 1 ∧ x.to = f then Slot.empty else x) := by
  by_cases e : f' = f
  · subst e
    unfold sSlot? sDrop
    rw [sPage_filter, if_pos rfl, if_pos rfl]
  · rw [if_neg e, ← dropState_slot n ws f h k f' i' e]
    unfold sSlot? sDrop
    rw [sPage_filter, if_neg e]
theorem sDrop_sPage (n : Nat) {ps : List Page} (ws : List Int) (f : Int) (h : Wfp ps) (k : Kd ps) (f' : Int) : (sPage (sDrop n ps ws f) f').isSome = (!(decide (f' = f)) && (sPage ps f').isSome) := by
  unfold sDrop
  rw [sPage_filter]
  by_cases e : f' = f
  · simp [e]
  · rw [if_neg e, sPage_heads (dropState_like n ws f h k).hd]; simp [e]
theorem sDrop_sKey (n : Nat) {ps : List Page} (ws : List Int) (f : Int) (h : Wfp ps) (k : Kd ps) (f' : Int) (e : f' ≠ f) : sKey (sDrop n ps ws f) f' = sKey ps f' := by
  rw [← sKey_heads (dropState_like n ws f h k).hd]
  unfold sKey sDrop
  rw [sPage_filter, if_neg e]
theorem sDrop_fs (n : Nat) {ps : List Page} (ws : List Int) (f : Int) (h : Wfp ps) (k : Kd ps) : (sDrop n ps ws f).map (·.f) = (ps.map (·.f)).filter (fun x => !(x == f)) := by
  rw [fs_heads, sDrop_heads n ws f h k, fs_heads, List.filter_map]; rfl
theorem sDrop_of (n : Nat) {ps : List Page} (ws : List Int) (f : Int) (h : Wfp ps) (k : Kd ps) (g : Int) : sOf (sDrop n ps ws f) g = (sOf ps g).filter (fun x => !(x == f)) := by
  rw [sOf_heads, sOf_heads, sDrop_heads n ws f h k, List.filter_filter, List.filter_map, List.filter_filter]
  congr 1
  apply List.filter_congr
  intro x _
  simp only [Function.comp]
  cases (x.2.role == 0 && x.2.g == g) <;> simp
theorem PInv.sdrop {first many : Int} {s : St} (h : PInv first many s) (n : Nat) (f : Int) (hf : f ∈ s.ps.map (·.f)) (hl : ∀ g ∈ s.loose, f ∉ sOf s.ps g) : PInv first many (s.sdrop n f) := by
  have hfs := sDrop_fs n s.ws f h.wf h.kd
  have hhd := sDrop_heads n s.ws f h.wf h.kd
  have hsl := sDrop_slot n s.ws f h.wf h.kd
  have hpg := sDrop_sPage n s.ws f h.wf h.kd
  have hky := sDrop_sKey n s.ws f h.wf h.kd
  have hof := sDrop_of n s.ws f h.wf h.kd
  have hl8 : ∀ p ∈ sDrop n s.ps s.ws f, p.slots.length = 8 := by
    intro p hp
    unfold sDrop at hp
    exact (dropState_like n s.ws f h.wf h.kd).wf.sl p (List.mem_filter.1 hp).1
  have hnb := List.nodup_append.1 h.nb
  have hin : f ∈ s.fr.taken := (h.tm f).2 hf
  have hfn : ((s.ps.map (·.f)).filter (fun x => !(x == f))).Nodup := List.Pairwise.filter _ h.wf.nd
  have hgv : s.fr.given f = { s.fr with back := s.fr.back ++ [f], taken := s.fr.taken.erase f } := by unfold Free.given; rw [if_pos hin]
  unfold St.sdrop
  rw [hgv]
  generalize sDrop n s.ps s.ws f = ps' at *
  generalize wDrop n s.ps s.ws f = ws'
  constructor
  case wf => exact ⟨by rw [hfs]; exact hfn, hl8⟩
  case ff => exact h.ff
  case fm => exact h.fm
  case f0 => exact h.f0
  case f1 => exact h.f1
  case ln => exact h.ln
  case tk => exact h.tk.erase f
  case key =>
    intro p hp
    have h1 := heads_mem hp
    rw [hhd] at h1
    obtain ⟨q, hq, _, e⟩ := heads_mem' (List.mem_filter.1 h1).1
    simp only at e; rw [← e]; exact h.key q hq
  case kd =>
    intro f' i' x hx
    rw [hsl] at hx
    split at hx
    · cases hx
    rename_i hne
    obtain ⟨y, hy, rfl⟩ := Option.map_eq_some_iff.1 hx
    split
    · exact .inl rfl
    · rename_i hn
      rcases h.kd f' i' y hy with e | ⟨e1, e2, e3⟩ | ⟨e1, e2⟩
      · exact .inl e
      · have hto : y.to ≠ f := fun e => hn ⟨e1, e⟩
        exact .inr (.inl ⟨e1, by rw [hpg]; simp [hto, e2], by rw [hky _ hto, hky _ hne]; exact e3⟩)
      · exact .inr (.inr ⟨e1, by rw [hky _ hne]; exact e2⟩)
  case tm =>
    intro x
    simp only []
    rw [hfs, List.mem_filter, h.tk.mem_erase_iff, h.tm]
    simp [and_comm]
  case nb =>
    simp only []
    rw [hfs]
    rw [List.append_assoc, List.nodup_append]
    refine ⟨hnb.1, ?_, ?_⟩
    · rw [List.singleton_append, List.nodup_cons]
      exact ⟨by simp, hfn⟩
    · intro a ha b hb
      rw [List.singleton_append, List.mem_cons] at hb
      rcases hb with rfl | hb
      · exact hnb.2.2 a ha b hf
      · exact hnb.2.2 a ha b (List.mem_filter.1 hb).1
  case rg =>
    intro x hx
    simp only [] at hx
    rw [hfs] at hx
    rcases List.mem_append.1 hx with hx | hx
    · rcases List.mem_append.1 hx with hx | hx
      · exact h.rg x (List.mem_append_left _ hx)
      · have : x = f := by simpa using hx
        subst this
        exact h.rg x (List.mem_append_right _ hf)
    · exact h.rg x (List.mem_append_right _ (List.mem_filter.1 hx).1)
  case lo =>
    intro g hg
    obtain ⟨b1, b2⟩ := h.lo g hg
    have hnf := hl g hg
    have hofe : sOf ps' g = sOf s.ps g := by
      rw [hof, List.filter_eq_self]
      intro x hx
      simp only [Bool.not_eq_true', beq_eq_false_iff_ne]
      rintro rfl; exact hnf hx
    simp only []
    rw [hofe]
    refine ⟨b1, fun f' hf' => ?_⟩
    rw [hky _ (by rintro rfl; exact hnf hf')]
    exact b2 f' hf'
theorem preD_ps (s : St) (p : Int) : (s.preD p).ps = s.ps ∧ (s.preD p).ws = s.ws ∧ (s.preD p).fr = s.fr ∧ (s.preD p).hits = s.hits := by unfold St.preD; split <;> exact ⟨rfl, rfl, rfl, rfl⟩
theorem PInv.preD {first many : Int} {s : St} (h : PInv first many s) (p : Int) : PInv first many (s.preD p) := by
  unfold St.preD; split
  · exact h.tight _
  · exact h
theorem preD_not {s : St} (hw : Wfp s.ps) (p g : Int) (hg : g ∈ (s.preD p).loose) : p ∉ sOf s.ps g := by
  intro hp
  obtain ⟨q, hq, hf, hr, hgg⟩ := of_mem.1 hp
  have hk : sKey s.ps p = q.key := by unfold sKey; rw [← hf, sPage_mem hw.nd hq]
  unfold St.preD at hg
  rw [hk, if_pos (by simpa using hr), hgg] at hg
  exact tight_not s g hg
theorem PInv.drop {first many : Int} {s : St} (h : PInv first many s) (n : Nat) (p : Int) : PInv first many (s.drop n p) := by
  unfold St.drop
  split
  · rename_i hs
    have h1 := h.preD p
    refine (h1.sdrop n p ?_ ?_).hits []
    · rw [(preD_ps s p).1]; exact sPage_isSome.1 hs
    · intro g hg; rw [(preD_ps s p).1]; exact preD_not h.wf p g hg
  · exact h

theorem PInv.op {s : St} (h : PInv 4 8 s) (o : GOp) : PInv 4 8 (s.op o) := by
  unfold St.op
  split; · exact h.make _ _ _
  split; · exact h.quiet (s' := { s with ps := _, ws := _ }) ⟨sChild_like h.wf h.kd _ _ _ _, rfl, rfl⟩
  split; · exact h.quiet (s' := { s with ps := _, ws := _ }) ⟨sLeaf_like h.wf h.kd _ _ _ _ _ _, rfl, rfl⟩
  split; · exact h.quiet (quiet_zap _ _ _ _ h.wf h.kd)
  split; · exact h.quiet (quiet_word _ _ _ _ h.wf h.kd)
  split; · exact h.loosen _
  split; · exact h.look _ _ _
  split; · exact h.looks _ _ _
  split; · exact h.drop _ _
  split; · exact h.words _
  split; · exact h.hits _
  exact h
theorem PInv.ops (l : List GOp) : ∀ {s : St}, PInv 4 8 s → PInv 4 8 (s.ops l) := by
  induction l with
  | nil => intro s h; exact h
  | cons o l ih => intro s h; exact ih (h.op o)
theorem PInv.start : PInv 4 8 St.start := by
  have e1 : St.start.ps = [] := rfl
  have e2 : St.start.loose = [] := rfl
  have e3 : St.start.fr = ⟨4, 8, 0, [], []⟩ := rfl
  generalize St.start = s at *
  obtain ⟨ws, fr, ps, hits, loose⟩ := s
  simp only at e1 e2 e3
  subst e1 e2 e3
  exact ⟨⟨List.nodup_nil, by simp⟩, by simp, by intro f i x h; simp [sSlot?, sPage] at h, rfl, rfl, Int.le_refl 0, (by omega : (0 : Int) ≤ 8), List.nodup_nil, by simp, by simp, by simp, by simp, List.nodup_nil⟩
theorem PInv.made (l : List WPut) : PInv 4 8 (St.made l) := PInv.start.words _
end Sil

/- What forbid, Look and Word do to slots, to words and to what is known. -/
namespace Sil
open Go

def noW (x : Slot) : Slot := ⟨x.kind, x.to, ⟨false, x.r.u, x.r.x⟩⟩
theorem noW_id {x : Slot} (h : x.r.w = false) : noW x = x := by
  obtain ⟨k, t, ⟨w, u, x⟩⟩ := x
  simp only at h; subst h; rfl
/-- a leaf of g, without W -/
def bar (g : Int) (x : Slot) : Slot := if x.kind = 2 ∧ x.to = g then noW x else x
theorem bar_bar (g : Int) (x : Slot) : bar g (bar g x) = bar g x := by
  unfold bar
  by_cases h : x.kind = 2 ∧ x.to = g
  · rw [if_pos h, if_pos (show (noW x).kind = 2 ∧ (noW x).to = g from h)]; rfl
  · rw [if_neg h, if_neg h]
def writes (s : St) (l : List At) : Bool := l.any (fun a => (sSlot s.ps a.g a.i).r.w)
def St.writable (s : St) (g : Int) : Bool := writes s (sTold s.ps 2 g)

/-! ### words -/
structure Wkeep (P : Int → Prop) (ws ws' : List Int) : Prop where
  len : ws'.length = ws.length
  at_ : ∀ (f : Int) (i : Nat), 0 ≤ f → i < 8 → ¬ P f → ws'[f.toNat * 8 + i]? = ws[f.toNat * 8 + i]?
theorem Wkeep.refl (P : Int → Prop) (ws : List Int) : Wkeep P ws ws := ⟨rfl, fun _ _ _ _ _ => rfl⟩
theorem Wkeep.trans {P : Int → Prop} {a b c : List Int} (h : Wkeep P a b) (k : Wkeep P b c) : Wkeep P a c := ⟨k.len.trans h.len, fun f i h0 h8 hn => (k.at_ f i h0 h8 hn).trans (h.at_ f i h0 h8 hn)⟩
theorem Wkeep.hset {P : Int → Prop} {ws : List Int} (n : Nat) (f i v : Int) (hP : P f) : Wkeep P ws (hset n ws f i v) := by
  refine ⟨hset_len _ _ _ _ _, fun f' j h0 h8 hn => ?_⟩
  unfold Sil.hset
  split
  · rename_i hk
    simp only [hok, Bool.and_eq_true, decide_eq_true_eq] at hk
    have hne : f' ≠ f := by rintro rfl; exact hn hP
    rw [List.getElem?_set_ne (by omega)]
  · rfl
theorem Wkeep.hfill {P : Int → Prop} {ws : List Int} (n : Nat) (f : Int) (hP : P f) (hl : ws.length = 8 * n) : Wkeep P ws (hfill n ws f zero8) := by
  unfold Sil.hfill
  split
  · rename_i hk
    simp only [hok, Bool.and_eq_true, decide_eq_true_eq] at hk
    have hz : zero8.length = 8 := rfl
    have ht : (ws.take (f.toNat * 8)).length = f.toNat * 8 := by rw [List.length_take]; omega
    refine ⟨by simp only [List.length_append, List.length_drop, ht, hz]; omega, fun f' j h0 h8 hn => ?_⟩
    have hne : f' ≠ f := by rintro rfl; exact hn hP
    by_cases hlt : f' < f
    · rw [List.append_assoc, List.getElem?_append_left (by omega), List.getElem?_take, if_pos (by omega)]
    · rw [List.getElem?_append_right (by rw [List.length_append, ht, hz]; omega), List.getElem?_drop]
      congr 1
      rw [List.length_append, ht, hz]; omega
  · exact Wkeep.refl _ _
theorem Wkeep.hget {P : Int → Prop} {ws ws' : List Int} (h : Wkeep P ws ws') (n : Nat) (f i : Int) (hn : ¬ P f) : hget n ws' f i = hget n ws f i := by
  unfold Sil.hget
  split
  · rename_i hk
    simp only [hok, Bool.and_eq_true, decide_eq_true_eq] at hk
    have := h.at_ f i.toNat hk.1.1.1 (by omega) hn
    simp only [List.getD, this]
  · rfl
theorem Wkeep.guget {P : Int → Prop} {ws ws' : List Int} (h : Wkeep P ws ws') (n : Nat) (hs : List Int) (g i : Int) (hn : ∀ x ∈ hs, ¬ P x) : guget n hs ws' g i = guget n hs ws g i := by
  unfold Sil.guget
  split
  · rename_i hg
    refine h.hget n _ i ?_
    unfold ghost; rw [if_pos hg]
    unfold gok at hg
    simp only [Bool.and_eq_true, decide_eq_true_eq] at hg
    apply hn
    have hlt : g.toNat < hs.length := by omega
    simp [List.getD, hlt]
  · rfl
/-- the frames that pages may have -/
def InP (first many : Int) (f : Int) : Prop := first ≤ f ∧ f < first + many
theorem PInv.inP {first many : Int} {s : St} (h : PInv first many s) {f i : Int} (hs : (sSlot? s.ps f i).isSome = true) : InP first many f := by
  rw [sSlot?_isSome h.wf] at hs
  simp only [Bool.and_eq_true] at hs
  have := h.rg f (List.mem_append_right _ (sPage_isSome.1 hs.1.1))
  have := h.f1
  exact ⟨by omega, by omega⟩
def Fin (ps : List Page) (P : Int → Prop) : Prop := ∀ f, (sPage ps f).isSome = true → P f
theorem Fin.like {ps ps' : List Page} {P : Int → Prop} (h : Fin ps P) (l : Like ps ps') : Fin ps' P := fun f hf => h f (by rw [← sPage_heads l.hd]; exact hf)
theorem Fin.slot {ps : List Page} {P : Int → Prop} (h : Fin ps P) {f i : Int} {x : Slot} (hx : sSlot? ps f i = some x) : P f := by
  obtain ⟨p, hp, _⟩ := sSlot?_iff.1 hx
  exact h f (by rw [hp]; rfl)
theorem PInv.fin {first many : Int} {s : St} (h : PInv first many s) : Fin s.ps (InP first many) := by
  intro f hf
  have := h.rg f (List.mem_append_right _ (sPage_isSome.1 hf))
  have := h.f1
  exact ⟨by omega, by omega⟩
theorem wClear_keep {ps : List Page} {P : Int → Prop} (hF : Fin ps P) (n : Nat) (ws : List Int) (f i : Int) : Wkeep P ws (wClear n ps ws f i) := by
  unfold Sil.wClear
  split
  · rename_i hc
    obtain ⟨x, hx, _⟩ := sClearIs_iff.1 hc
    exact Wkeep.hset n f i 0 (hF.slot hx)
  · exact Wkeep.refl _ _
theorem wChild_keep {ps : List Page} {P : Int → Prop} (hF : Fin ps P) (n : Nat) (ws : List Int) (f i c : Int) (r : Rt) : Wkeep P ws (wChild n ps ws f i c r) := by
  unfold Sil.wChild
  split
  · rename_i hc
    unfold sChildIs at hc
    simp only [Bool.and_eq_true, beq_iff_eq] at hc
    obtain ⟨x, hx⟩ := Option.isSome_iff_exists.1 hc.1.1
    exact Wkeep.hset n f i _ (hF.slot hx)
  · exact Wkeep.refl _ _
theorem wLeaf_keep {ps : List Page} {P : Int → Prop} (hF : Fin ps P) (n : Nat) (ws : List Int) (f i g t : Int) (r : Rt) : Wkeep P ws (wLeaf n ps ws f i g t r) := by
  unfold Sil.wLeaf
  split
  · rename_i hc
    unfold sLeafIs at hc
    simp only [Bool.and_eq_true, beq_iff_eq] at hc
    obtain ⟨x, hx⟩ := Option.isSome_iff_exists.1 hc.1.1.1
    exact Wkeep.hset n f i _ (hF.slot hx)
  · exact Wkeep.refl _ _

/-! ### forbid -/
structure Upd (P : Int → Prop) (s s' : St) (f : Int → Int → Slot → Slot) : Prop where
  q : Quiet s s'
  sl : ∀ a b, sSlot? s'.ps a b = (sSlot? s.ps a b).map (f a b)
  ws : Wkeep P s.ws s'.ws
theorem Upd.refl {P : Int → Prop} {s : St} (h : Wfp s.ps) (k : Kd s.ps) {f : Int → Int → Slot → Slot} (hf : ∀ a b x, sSlot? s.ps a b = some x → f a b x = x) : Upd P s s f :=
  ⟨Quiet.refl h k, fun a b => by cases e : sSlot? s.ps a b with
                                 | none => rfl
                                 | some x => simp [hf a b x e], Wkeep.refl _ _⟩
theorem Upd.trans {P : Int → Prop} {a b c : St} {f g h : Int → Int → Slot → Slot} (u : Upd P a b f) (v : Upd P b c g) (e : ∀ p i x, sSlot? a.ps p i = some x → g p i (f p i x) = h p i x) : Upd P a c h :=
  ⟨u.q.trans v.q, fun p i => by rw [v.sl, u.sl]; cases hx : sSlot? a.ps p i with
                                                | none => rfl
                                                | some x => simp [e p i x hx], u.ws.trans v.ws⟩
theorem upd_forbid1 {P : Int → Prop} (n : Nat) (g t : Int) (ht : 0 ≤ t ∧ t < n) (s : St) (a : At) (h : Wfp s.ps) (k : Kd s.ps) (hF : Fin s.ps P)
    (ha : ∃ x, sSlot? s.ps a.g a.i = some x ∧ x.kind = 2 ∧ x.to = g) :
    Upd P s (s.forbid1 n g t a) (fun p i x => if p = a.g ∧ i = a.i then bar g x else x) ∧ (s.forbid1 n g t a).hits = if (sSlot s.ps a.g a.i).r.w then [] else s.hits := by
  obtain ⟨x, hx, hk, hto⟩ := ha
  have hsl : sSlot s.ps a.g a.i = x := by unfold sSlot; rw [hx]; rfl
  have hbx : bar g x = noW x := by unfold bar; rw [if_pos ⟨hk, hto⟩]
  have hlev : (sKey s.ps a.g).lev = 1 := by
    rcases k _ _ _ hx with e | ⟨e, _⟩ | ⟨_, e⟩
    · rw [e] at hk; simp [Slot.empty] at hk
    · omega
    · exact e
  unfold St.forbid1
  simp only [hsl]
  cases hw : x.r.w with
  | false =>
    rw [if_neg (by simp), if_neg (by simp)]
    refine ⟨Upd.refl h k (fun p i y hy => ?_), rfl⟩
    split
    · rename_i e
      rw [e.1, e.2, hx] at hy; cases hy
      rw [hbx, noW_id hw]
    · rfl
  | true =>
    rw [if_pos rfl, if_pos rfl]
    have his : sLeafIs n s.ps a.g a.i t = true := by
      unfold sLeafIs
      simp [hx, hlev, ht.1, ht.2]
    refine ⟨⟨⟨sLeaf_like h k _ _ _ _ _ _, rfl, rfl⟩, fun p i => ?_, wLeaf_keep hF _ _ _ _ _ _ _⟩, rfl⟩
    show sSlot? (sLeaf n s.ps a.g a.i g t ⟨false, x.r.u, x.r.x⟩) p i = _
    unfold sLeaf
    rw [if_pos his, sSlot?_setAt h (by rw [hx]; rfl)]
    by_cases e : p = a.g ∧ i = a.i
    · rw [if_pos e, e.1, e.2, hx]
      simp only [Option.map_some, and_self, if_true]
      rw [hbx]; unfold noW; rw [hk, hto]
    · rw [if_neg e]
      cases sSlot? s.ps p i with
      | none => rfl
      | some y => simp [e]
theorem upd_forbids {P : Int → Prop} (n : Nat) (g t : Int) (ht : 0 ≤ t ∧ t < n) (l : List At) : ∀ (s : St), Wfp s.ps → Kd s.ps → Fin s.ps P → (∀ a ∈ l, ∃ x, sSlot? s.ps a.g a.i = some x ∧ x.kind = 2 ∧ x.to = g) →
    Upd P s (s.forbids n g t l) (fun p i x => if (⟨p, i⟩ : At) ∈ l then bar g x else x) ∧ ((s.forbids n g t l).hits = if writes s l then [] else s.hits) := by
  induction l with
  | nil => intro s h k hF _; exact ⟨Upd.refl h k (fun p i x _ => by simp), by simp [writes, St.forbids]⟩
  | cons a l ih =>
    intro s h k hF ha
    obtain ⟨u1, e1⟩ := upd_forbid1 n g t ht s a h k hF (ha a (by simp))
    have hl1 := u1.q.like
    have hF1 := hF.like hl1
    have ha1 : ∀ b ∈ l, ∃ x, sSlot? (s.forbid1 n g t a).ps b.g b.i = some x ∧ x.kind = 2 ∧ x.to = g := by
      intro b hb
      obtain ⟨x, hx, hk, hto⟩ := ha b (by simp [hb])
      rw [u1.sl, hx]
      refine ⟨_, rfl, ?_⟩
      simp only
      split
      · unfold bar; rw [if_pos ⟨hk, hto⟩]; exact ⟨hk, hto⟩
      · exact ⟨hk, hto⟩
    obtain ⟨u2, e2⟩ := ih _ hl1.wf hl1.kd hF1 ha1
    show Upd P s ((s.forbid1 n g t a).forbids n g t l) _ ∧ ((s.forbid1 n g t a).forbids n g t l).hits = _
    refine ⟨u1.trans u2 (fun p i x hx => ?_), ?_⟩
    · have ea : (⟨p, i⟩ : At) = a ↔ p = a.g ∧ i = a.i := by obtain ⟨g, j⟩ := a; simp
      by_cases h1 : p = a.g ∧ i = a.i
      · rw [if_pos h1, if_pos (List.mem_cons.2 (.inl (ea.2 h1)))]
        split
        · exact bar_bar g x
        · rfl
      · rw [if_neg h1]
        have : ((⟨p, i⟩ : At) ∈ a :: l) ↔ (⟨p, i⟩ : At) ∈ l := by rw [List.mem_cons, ea]; simp [h1]
        simp only [this]
    · rw [e2, e1]
      have ew : writes s (a :: l) = ((sSlot s.ps a.g a.i).r.w || writes s l) := rfl
      rw [ew]
      by_cases hw : (sSlot s.ps a.g a.i).r.w = true
      · rw [hw]; simp
      · have hw' : (sSlot s.ps a.g a.i).r.w = false := by simpa using hw
        rw [hw']
        simp only [Bool.false_eq_true, if_false, Bool.false_or]
        have hsame : writes (s.forbid1 n g t a) l = writes s l := by
          have : s.forbid1 n g t a = s := by unfold St.forbid1; simp only []; rw [if_neg hw]
          rw [this]
        rw [hsame]
theorem upd_forbid {P : Int → Prop} (n : Nat) (hs : List Int) (g : Int) (ht : 0 ≤ ghost hs g ∧ ghost hs g < n) (s : St) (h : Wfp s.ps) (k : Kd s.ps) (hF : Fin s.ps P) :
    Upd P s (s.forbid n hs g) (fun _ _ x => bar g x) ∧ ((s.forbid n hs g).hits = if s.writable g then [] else s.hits) := by
  obtain ⟨u, e⟩ := upd_forbids n g (ghost hs g) ht (sTold s.ps 2 g) s h k hF (fun a ha => (told_mem h 2 g a).1 ha)
  refine ⟨⟨u.q, fun p i => ?_, u.ws⟩, e⟩
  show sSlot? (s.forbids n g (ghost hs g) (sTold s.ps 2 g)).ps p i = _
  rw [u.sl]
  cases hx : sSlot? s.ps p i with
  | none => rfl
  | some x =>
    simp only [Option.map_some]
    congr 1
    split
    · rfl
    · rename_i hn
      unfold bar; rw [if_neg]
      intro hh
      exact hn ((told_mem h 2 g ⟨p, i⟩).2 ⟨x, hx, hh⟩)
theorem writable_false {s : St} (h : Wfp s.ps) {g : Int} (hw : ∀ a b x, sSlot? s.ps a b = some x → x.kind = 2 → x.to = g → x.r.w = false) : s.writable g = false := by
  unfold St.writable writes
  rw [List.any_eq_false]
  intro a ha
  obtain ⟨x, hx, hk, hto⟩ := (told_mem h 2 g a).1 ha
  have : sSlot s.ps a.g a.i = x := by unfold sSlot; rw [hx]; rfl
  rw [this, hw _ _ _ hx hk hto]; simp
theorem bar_w {g : Int} {x : Slot} (hk : (bar g x).kind = 2) (ht : (bar g x).to = g) : (bar g x).r.w = false := by
  by_cases h : x.kind = 2 ∧ x.to = g
  · unfold bar; rw [if_pos h]; rfl
  · unfold bar at hk ht; rw [if_neg h] at hk ht; exact absurd ⟨hk, ht⟩ h
theorem not_writable {P : Int → Prop} {s s' : St} {g : Int} (u : Upd P s s' (fun _ _ x => bar g x)) : s'.writable g = false := by
  refine writable_false u.q.like.wf (fun a b x hx hk ht => ?_)
  rw [u.sl] at hx
  obtain ⟨y, _, rfl⟩ := Option.map_eq_some_iff.1 hx
  exact bar_w hk ht

/-! ### Look -/
def lookS (n : Nat) (hs : List Int) (ws : List Int) (g i : Int) (x : Slot) : Slot := if x.kind = 2 ∧ agr x (pteGet (guget n hs ws g i)) = false then Slot.empty else x
theorem lookS_idem (n : Nat) (hs ws : List Int) (g i : Int) (x : Slot) : lookS n hs ws g i (lookS n hs ws g i x) = lookS n hs ws g i x := by
  unfold lookS
  by_cases h : x.kind = 2 ∧ agr x (pteGet (guget n hs ws g i)) = false
  · rw [if_pos h, if_neg (by simp [Slot.empty])]
  · rw [if_neg h, if_neg h]
theorem upd_look1 {P : Int → Prop} (n : Nat) (hs : List Int) (g p i : Int) (s : St) (h : Wfp s.ps) (k : Kd s.ps) (hF : Fin s.ps P) :
    Upd P s (s.look1 n hs g p i) (fun a b x => if a = p ∧ b = i then lookS n hs s.ws g i x else x) := by
  unfold St.look1
  split
  · rename_i hc
    simp only [Bool.and_eq_true, beq_iff_eq, Bool.not_eq_true'] at hc
    refine ⟨⟨sClear_like h k _ _, rfl, rfl⟩, fun a b => ?_, wClear_keep hF _ _ _ _⟩
    show sSlot? (sClear s.ps p i) a b = _
    rw [sSlot?_sClear h k.z]
    by_cases e : a = p ∧ b = i
    · rw [if_pos e, e.1, e.2]
      cases hx : sSlot? s.ps p i with
      | none => rfl
      | some x =>
        have hsl : sSlot s.ps p i = x := by unfold sSlot; rw [hx]; rfl
        rw [hsl] at hc
        simp only [Option.map_some, and_self, if_true]
        unfold lookS; rw [if_pos hc]
    · rw [if_neg e]
      cases sSlot? s.ps a b with
      | none => rfl
      | some x => simp [e]
  · rename_i hc
    simp only [Bool.and_eq_true, beq_iff_eq, Bool.not_eq_true'] at hc
    refine Upd.refl h k (fun a b x hx => ?_)
    split
    · rename_i e
      rw [e.1, e.2] at hx
      have hsl : sSlot s.ps p i = x := by unfold sSlot; rw [hx]; rfl
      rw [hsl] at hc
      unfold lookS; rw [if_neg hc]
    · rfl
theorem upd_lookI {P : Int → Prop} (n : Nat) (hs : List Int) (hd : ∀ x ∈ hs, ¬ P x) (g p : Int) (m : Nat) (s : St) (h : Wfp s.ps) (k : Kd s.ps) (hF : Fin s.ps P) :
    Upd P s (s.lookI n hs g p m) (fun a b x => if a = p ∧ 0 ≤ b ∧ b < m then lookS n hs s.ws g b x else x) := by
  induction m with
  | zero => exact Upd.refl h k (fun a b x _ => by rw [if_neg (by omega)])
  | succ m ih =>
    rw [lookI_succ]
    have hl := ih.q.like
    have u := upd_look1 n hs g p m (s.lookI n hs g p m) hl.wf hl.kd (hF.like hl)
    refine ih.trans u (fun a b x _ => ?_)
    have hw : ∀ b, guget n hs (s.lookI n hs g p m).ws g b = guget n hs s.ws g b := fun b => ih.ws.guget n hs g b hd
    have hlk : ∀ b y, lookS n hs (s.lookI n hs g p m).ws g b y = lookS n hs s.ws g b y := fun b y => by unfold lookS; rw [hw]
    simp only [hlk]
    by_cases e : a = p ∧ b = m
    · rw [if_pos e, if_neg (by omega), if_pos (by omega), e.2]
    · rw [if_neg e]
      by_cases e2 : a = p ∧ 0 ≤ b ∧ b < m
      · rw [if_pos e2, if_pos (by omega)]
      · rw [if_neg e2, if_neg (by omega)]
theorem upd_lookP {P : Int → Prop} (n : Nat) (hs : List Int) (hd : ∀ x ∈ hs, ¬ P x) (g : Int) (l : List Int) : ∀ (s : St), Wfp s.ps → Kd s.ps → Fin s.ps P →
    Upd P s (s.lookP n hs g l) (fun a b x => if a ∈ l then lookS n hs s.ws g b x else x) := by
  induction l with
  | nil => intro s h k hF; exact Upd.refl h k (fun a b x _ => by simp)
  | cons p l ih =>
    intro s h k hF
    have u1 := upd_lookI n hs hd g p 8 s h k hF
    have hl := u1.q.like
    have u2 := ih _ hl.wf hl.kd (hF.like hl)
    refine u1.trans u2 (fun a b x hx => ?_)
    have hlk : ∀ b y, lookS n hs (s.lookI n hs g p 8).ws g b y = lookS n hs s.ws g b y := fun b y => by unfold lookS; rw [u1.ws.guget n hs g b hd]
    simp only [hlk]
    obtain ⟨_, _, h0, h8, _⟩ := sSlot?_iff.1 hx
    by_cases e : a = p
    · have e1 : a = p ∧ 0 ≤ b ∧ b < (8 : Nat) := ⟨e, h0, h8⟩
      rw [if_pos e1, if_pos (List.mem_cons.2 (.inl e))]
      split
      · exact lookS_idem _ _ _ _ _ _
      · rfl
    · have e1 : ¬ (a = p ∧ 0 ≤ b ∧ b < (8 : Nat)) := fun h => e h.1
      rw [if_neg e1]
      have : (a ∈ p :: l) ↔ a ∈ l := by rw [List.mem_cons]; simp [e]
      simp only [this]
/-- what Look does to a slot: g is looked through, l are its pages -/
def lookF (n : Nat) (hs ws : List Int) (g : Int) (l : List Int) (a b : Int) (x : Slot) : Slot := if a ∈ l then lookS n hs ws g b (bar g x) else bar g x
theorem look_all {P : Int → Prop} (n : Nat) (hs : List Int) (hd : ∀ x ∈ hs, ¬ P x) (g : Int) (ht : 0 ≤ ghost hs g ∧ ghost hs g < n) (s : St) (h : Wfp s.ps) (k : Kd s.ps) (hF : Fin s.ps P) (hg : g ∈ s.loose) :
    (∀ a b, sSlot? (s.look n hs g).ps a b = (sSlot? s.ps a b).map (lookF n hs s.ws g (sOf s.ps g) a b)) ∧ Wkeep P s.ws (s.look n hs g).ws ∧ (s.look n hs g).hits = [] ∧ Like s.ps (s.look n hs g).ps := by
  rw [look_yes hg]
  obtain ⟨u1, _⟩ := upd_forbid (P := P) n hs g ht (s.tight g) h k hF
  have hl := u1.q.like
  have u2 := upd_lookP n hs hd g (sOf ((s.tight g).forbid n hs g).ps g) _ hl.wf hl.kd (hF.like hl)
  have e1 : sOf ((s.tight g).forbid n hs g).ps g = sOf s.ps g := sOf_congr hl.hd g
  refine ⟨fun a b => ?_, u1.ws.trans u2.ws, rfl, hl.trans u2.q.like⟩
  show sSlot? (((s.tight g).forbid n hs g).lookP n hs g (sOf ((s.tight g).forbid n hs g).ps g)).ps a b = _
  rw [u2.sl, u1.sl, e1]
  show Option.map _ (Option.map _ (sSlot? s.ps a b)) = _
  cases sSlot? s.ps a b with
  | none => rfl
  | some x =>
    simp only [Option.map_some]
    congr 1
    unfold lookF
    have hlk : ∀ b y, lookS n hs ((s.tight g).forbid n hs g).ws g b y = lookS n hs s.ws g b y := fun b y => by unfold lookS; rw [u1.ws.guget n hs g b hd]; rfl
    rw [hlk]
theorem look_writable {P : Int → Prop} (n : Nat) (hs : List Int) (hd : ∀ x ∈ hs, ¬ P x) (g : Int) (ht : 0 ≤ ghost hs g ∧ ghost hs g < n) (s : St) (h : Wfp s.ps) (k : Kd s.ps) (hF : Fin s.ps P) (hg : g ∈ s.loose) : (s.look n hs g).writable g = false := by
  obtain ⟨h1, _, _, hl⟩ := look_all n hs hd g ht s h k hF hg
  refine writable_false hl.wf (fun a b x hx hk ht => ?_)
  rw [h1] at hx
  obtain ⟨y, _, rfl⟩ := Option.map_eq_some_iff.1 hx
  unfold lookF lookS at hk ht ⊢
  split
  · rename_i hal
    rw [if_pos hal] at hk ht
    split
    · rfl
    · rename_i hn
      rw [if_neg hn] at hk ht
      exact bar_w hk ht
  · rename_i hal
    rw [if_neg hal] at hk ht
    exact bar_w hk ht

/-! ### Word -/
theorem zap_slot (n : Nat) (s : St) (p i : Int) (h : Wfp s.ps) (k : Kd s.ps) (a b : Int) : sSlot? (s.zap n p i).ps a b = (sSlot? s.ps a b).map (fun x => if a = p ∧ b = i then Slot.empty else x) := by
  show sSlot? (sClear s.ps p i) a b = _
  rw [sSlot?_sClear h k.z]
  split
  · rfl
  · cases sSlot? s.ps a b <;> rfl
theorem upd_zap {P : Int → Prop} (n : Nat) (s : St) (p i : Int) (h : Wfp s.ps) (k : Kd s.ps) (hF : Fin s.ps P) : Upd P s (s.zap n p i) (fun a b x => if a = p ∧ b = i then Slot.empty else x) :=
  ⟨quiet_zap n p i s h k, zap_slot n s p i h k, wClear_keep hF n s.ws p i⟩
def clears (ps : List Page) (l : List Int) (i : Int) : Bool := l.any (fun p => sClearIs ps p i)
theorem upd_word {P : Int → Prop} (n : Nat) (i : Int) (l : List Int) : ∀ (s : St), Wfp s.ps → Kd s.ps → Fin s.ps P → (∀ f, P f → 0 ≤ f ∧ f < n) →
    Upd P s (l.foldl (fun s p => s.zap n p i) s) (fun a b x => if a ∈ l ∧ b = i then Slot.empty else x) ∧ (l.foldl (fun s p => s.zap n p i) s).hits = if clears s.ps l i then [] else s.hits := by
  induction l with
  | nil => intro s h k hF _; exact ⟨Upd.refl h k (fun a b x _ => by simp), by simp [clears]⟩
  | cons p l ih =>
    intro s h k hF hP
    have u1 := upd_zap n s p i h k hF
    have hl := u1.q.like
    obtain ⟨u2, e2⟩ := ih _ hl.wf hl.kd (hF.like hl) hP
    rw [List.foldl_cons]
    refine ⟨u1.trans u2 (fun a b x _ => ?_), ?_⟩
    · by_cases e : a = p ∧ b = i
      · rw [if_pos e, if_pos (show a ∈ p :: l ∧ b = i from ⟨by simp [e.1], e.2⟩)]
        split <;> rfl
      · rw [if_neg e]
        by_cases e2 : a ∈ l ∧ b = i
        · rw [if_pos e2, if_pos (show a ∈ p :: l ∧ b = i from ⟨by simp [e2.1], e2.2⟩)]
        · rw [if_neg e2, if_neg]
          rintro ⟨h1, h2⟩
          rcases List.mem_cons.1 h1 with h1 | h1
          · exact e ⟨h1, h2⟩
          · exact e2 ⟨h1, h2⟩
    · rw [e2]
      have eh : (s.zap n p i).hits = if sClearIs s.ps p i && hok n p i then [] else s.hits := rfl
      have hok' : sClearIs s.ps p i = true → hok n p i = true := by
        intro hc
        obtain ⟨x, hx, _⟩ := sClearIs_iff.1 hc
        obtain ⟨_, _, h0, h8, _⟩ := sSlot?_iff.1 hx
        have := hP p (hF.slot hx)
        simp [hok, this.1, this.2, h0, h8]
      have ec : clears s.ps (p :: l) i = (sClearIs s.ps p i || clears s.ps l i) := rfl
      rw [ec, eh]
      cases hc : sClearIs s.ps p i with
      | true => rw [hok' hc]; simp
      | false =>
        have hps : (s.zap n p i).ps = s.ps := by show sClear s.ps p i = s.ps; unfold sClear; rw [hc]; rfl
        rw [hps]; simp
end Sil

/- Words that calls keep; which pages an entry tells. -/
namespace Sil
open Go

theorem law_ghost (g : Int) : 0 ≤ ghost lawHs g ∧ ghost lawHs g < (40 : Nat) := by
  unfold ghost
  split
  · rename_i h
    have h : gok lawHs g = true := h
    unfold gok at h
    simp only [Bool.and_eq_true, decide_eq_true_eq] at h
    have hl : lawHs.length = 16 := rfl
    have hlt : g.toNat < lawHs.length := by omega
    have hm : lawHs.getD g.toNat 0 ∈ lawHs := by simp [List.getD, hlt]
    generalize lawHs.getD g.toNat 0 = x at hm
    unfold lawHs at hm
    simp at hm
    omega
  · simp
theorem law_apart : ∀ x ∈ lawHs, ¬ InP 4 8 x := by
  intro x hx
  unfold InP lawHs at *
  simp at hx
  omega
theorem clrs_keep {P : Int → Prop} (n : Nat) (l : List At) : ∀ (s : List Page × List Int), Wfp s.1 → Kd s.1 → Fin s.1 P → Wkeep P s.2 (clrs n s l).2 := by
  induction l with
  | nil => intro s h k hF; exact Wkeep.refl _ _
  | cons a l ih =>
    intro s h k hF
    have q := clr_like n s a h k
    have h1 : Wkeep P s.2 (clr n s a).2 := wClear_keep hF n s.2 a.g a.i
    exact h1.trans (ih (clr n s a) q.wf q.kd (hF.like q))
theorem drop_keep {P : Int → Prop} (n : Nat) {ps : List Page} (ws : List Int) (f : Int) (h : Wfp ps) (k : Kd ps) (hF : Fin ps P) : Wkeep P ws (wDrop n ps ws f) := by
  unfold wDrop dropState
  have q := clrs_like n (sTold ps 1 f) (ps, ws) h k
  exact (clrs_keep n (sTold ps 1 f) (ps, ws) h k hF).trans (clrs_keep n (rowAts f 8) _ q.wf q.kd (hF.like q))
theorem look_keep {s : St} (h : PInv 4 8 s) (g : Int) : Wkeep (InP 4 8) s.ws (s.look 40 lawHs g).ws := by
  by_cases hg : g ∈ s.loose
  · exact (look_all 40 lawHs law_apart g (law_ghost g) s h.wf h.kd h.fin hg).2.1
  · rw [look_no hg]; exact Wkeep.refl _ _
theorem looks_keep (l : List Int) : ∀ {s : St}, PInv 4 8 s → Wkeep (InP 4 8) s.ws (s.looks 40 lawHs l).ws := by
  induction l with
  | nil => intro s h; exact Wkeep.refl _ _
  | cons g l ih => intro s h; exact (look_keep h g).trans (ih (h.look 40 lawHs g))
theorem pre_keep {s : St} (h : PInv 4 8 s) (k : Key) : Wkeep (InP 4 8) s.ws (s.pre 40 lawHs k).ws := by
  unfold St.pre; split
  · exact look_keep h k.g
  · exact Wkeep.refl _ _
theorem smake_keep {s : St} (h : PInv 4 8 s) (hl : s.ws.length = 8 * 40) (k : Key) : Wkeep (InP 4 8) s.ws (s.smake 40 k).ws := by
  unfold St.smake; split
  · rename_i hc
    unfold sMakeIs at hc
    simp only [Bool.and_eq_true] at hc
    obtain ⟨x, hx⟩ := Option.isSome_iff_exists.1 hc.2
    obtain ⟨_, a2, a3, _⟩ := h.nextNew hx
    rw [hx]
    exact Wkeep.hfill 40 x ⟨a2, a3⟩ hl
  · exact Wkeep.refl _ _
theorem forbid_keep {s : St} (h : PInv 4 8 s) (g : Int) : Wkeep (InP 4 8) s.ws (s.forbid 40 lawHs g).ws := (upd_forbid 40 lawHs g (law_ghost g) s h.wf h.kd h.fin).1.ws
theorem make_keep {s : St} (h : PInv 4 8 s) (hl : s.ws.length = 8 * 40) (k : Key) : Wkeep (InP 4 8) s.ws (s.make 40 lawHs k).ws := by
  unfold St.make
  have h0 := pre_keep h k
  have h1 := h.pre 40 lawHs k
  have h2 := smake_keep h1 (h0.len.trans hl) k
  have h3 := h1.smake 40 k (pre_not h 40 lawHs k)
  split
  · exact Wkeep.refl _ _
  · split
    · exact (h0.trans h2).trans (forbid_keep h3 k.g)
    · exact h0.trans h2
theorem word_keep {s : St} (h : PInv 4 8 s) (g i : Int) : Wkeep (InP 4 8) s.ws (s.word 40 g i).ws :=
  (upd_word 40 i (sOf s.ps g) s h.wf h.kd h.fin (fun f hf => by unfold InP at hf; omega)).1.ws
theorem sdrop_parts (n : Nat) (s : St) (p : Int) : (s.sdrop n p).ps = sDrop n s.ps s.ws p ∧ (s.sdrop n p).ws = wDrop n s.ps s.ws p ∧ (s.sdrop n p).loose = s.loose := by
  unfold St.sdrop
  generalize sDrop n s.ps s.ws p = a
  generalize wDrop n s.ps s.ws p = b
  exact ⟨rfl, rfl, rfl⟩
theorem drop_parts (n : Nat) {s : St} {p : Int} (h : (sPage s.ps p).isSome = true) : (s.drop n p).ps = sDrop n s.ps s.ws p ∧ (s.drop n p).ws = wDrop n s.ps s.ws p ∧ (s.drop n p).loose = (s.preD p).loose ∧ (s.drop n p).hits = [] := by
  unfold St.drop
  rw [if_pos h]
  obtain ⟨e1, e2, e3⟩ := sdrop_parts n (s.preD p) p
  rw [(preD_ps s p).1, (preD_ps s p).2.1] at e1 e2
  generalize (s.preD p).sdrop n p = t at *
  exact ⟨e1, e2, e3, rfl⟩
theorem drop_ws (n : Nat) (s : St) (p : Int) : (s.drop n p).ws = if (sPage s.ps p).isSome then wDrop n s.ps s.ws p else s.ws := by
  split
  · rename_i h; exact (drop_parts n h).2.1
  · rename_i h; unfold St.drop; rw [if_neg h]
theorem op_keep {s : St} (h : PInv 4 8 s) (hl : s.ws.length = 8 * 40) (o : GOp) (ho : o.what ≠ 12) : Wkeep (InP 4 8) s.ws (s.op o).ws := by
  unfold St.op
  split; · exact make_keep h hl _
  split; · exact wChild_keep h.fin _ _ _ _ _ _
  split; · exact wLeaf_keep h.fin _ _ _ _ _ _ _
  split; · exact wClear_keep h.fin _ _ _ _
  split; · exact word_keep h _ _
  split
  · unfold St.loosen; split <;> exact Wkeep.refl _ _
  split; · exact look_keep h _
  split; · exact looks_keep _ h
  split
  · rw [drop_ws]; split
    · exact drop_keep 40 s.ws o.p h.wf h.kd h.fin
    · exact Wkeep.refl _ _
  split
  · rename_i h12; simp only [beq_iff_eq] at h12; exact absurd h12 ho
  split; · exact Wkeep.refl _ _
  exact Wkeep.refl _ _
theorem op_len {s : St} (h : PInv 4 8 s) (hl : s.ws.length = 8 * 40) (o : GOp) : (s.op o).ws.length = 8 * 40 := by
  by_cases ho : o.what = 12
  · have e : s.op o = { s with ws := guset 40 lawHs s.ws o.to o.i o.v } := by unfold St.op; rw [ho]; rfl
    rw [e]; show (guset _ _ _ _ _ _).length = _; rw [guset_len]; exact hl
  · exact (op_keep h hl o ho).len.trans hl
theorem setWs_len (l : List WPut) : ∀ (ws : List Int), (setWs ws l).length = ws.length := by
  unfold setWs
  induction l with
  | nil => intro ws; rfl
  | cons x l ih => intro ws; rw [List.foldl_cons, ih, guset_len]
theorem made_len (l : List WPut) : (St.made l).ws.length = 8 * 40 := by
  show (setWs _ l).length = _; rw [setWs_len]; exact List.length_replicate
theorem ops_len (l : List GOp) : ∀ {s : St}, PInv 4 8 s → s.ws.length = 8 * 40 → (s.ops l).ws.length = 8 * 40 := by
  induction l with
  | nil => intro s _ h; exact h
  | cons o l ih => intro s h hl; exact ih (h.op o) (op_len h hl o)

/-! ### sizes -/
theorem nodup_range {l : List Int} (h : l.Nodup) (a : Int) : ∀ (m : Nat), (∀ x ∈ l, a ≤ x ∧ x < a + m) → l.length ≤ m := by
  intro m
  induction m generalizing l with
  | zero => intro hr; match l with
    | [] => simp
    | x :: _ => have := hr x (by simp); omega
  | succ m ih =>
    intro hr
    by_cases hm : (a + m) ∈ l
    · have h1 : (l.erase (a + m)).length ≤ m := ih (h.erase _) (fun x hx => by
        have := (h.mem_erase_iff).1 hx
        have h2 := hr x this.2
        have h3 := this.1
        omega)
      rw [List.length_erase_of_mem hm] at h1; omega
    · have := ih h (fun x hx => by
        have h2 := hr x hx
        have h3 : x ≠ a + m := by rintro rfl; exact hm hx
        omega)
      omega
theorem PInv.sizes {first many : Int} {s : St} (h : PInv first many s) : s.fr.back.length + s.ps.length ≤ many.toNat := by
  have := nodup_range h.nb first many.toNat (fun x hx => by have := h.rg x hx; have := h.f1; have := h.f0; omega)
  simpa using this
theorem nodup_le : ∀ (l m : List Int), l.Nodup → (∀ x ∈ l, x ∈ m) → l.length ≤ m.length := by
  intro l
  induction l with
  | nil => intro m _ _; simp
  | cons x l ih =>
    intro m hn hs
    rw [List.nodup_cons] at hn
    have hx := hs x (by simp)
    have := ih (m.erase x) hn.2 (fun y hy => by
      have : y ≠ x := by rintro rfl; exact hn.1 hy
      exact (List.mem_erase_of_ne this).2 (hs y (by simp [hy])))
    rw [List.length_erase_of_mem hx] at this
    have := List.length_pos_of_mem hx
    simp only [List.length_cons]; omega
theorem PInv.looseLen {first many : Int} {s : St} (h : PInv first many s) : s.loose.length ≤ s.ps.length := by
  have := nodup_le s.loose (s.ps.map (fun p => p.key.g)) h.ln (fun g hg => by
    obtain ⟨h1, _⟩ := h.lo g hg
    obtain ⟨f, hf⟩ := one_of h1
    obtain ⟨p, hp, _, _, hg⟩ := of_mem.1 (show f ∈ sOf s.ps g by rw [hf]; simp)
    exact List.mem_map.2 ⟨p, hp, hg⟩)
  simpa using this

/-! ### which pages an entry tells -/
def kidsOf (ps : List Page) (p : Int) (m : Nat) : List (Int × Int) := (List.range m).filterMap (fun i : Nat => if (sSlot ps p i).kind == 1 then some ((i : Int), (sSlot ps p i).to) else none)
def run (a : Int) (m : Nat) : List Int := (List.range m).map (fun n : Nat => a + (n : Int))
def reachLow (p i a : Int) (l : List (Int × Int)) : List Int := l.flatMap (fun bl => if bl.2 == p then run ((a * 8 + bl.1) * 8 + i) 1 else [])
def reachMid (ps : List Page) (p i : Int) (am : Int × Int) : List Int := (if am.2 == p then run ((am.1 * 8 + i) * 8) 8 else []) ++ reachLow p i am.1 (kidsOf ps am.2 8)
def reachTop (ps : List Page) (p i top : Int) : List Int := (if p == top then run (i * 64) 64 else []) ++ (kidsOf ps top 8).flatMap (reachMid ps p i)
def reach (ps : List Page) (root p i : Int) : List Int := match sFind ps ⟨root, 3, 0⟩ with
  | none => []
  | some top => if decide (0 ≤ i) && decide (i < 8) then reachTop ps p i top else []
theorem kidsOf_succ (ps : List Page) (p : Int) (m : Nat) : kidsOf ps p (m + 1) = kidsOf ps p m ++ (if (sSlot ps p m).kind == 1 then [((m : Int), (sSlot ps p m).to)] else []) := by
  unfold kidsOf
  rw [List.range_succ, List.filterMap_append]
  congr 1
  by_cases h : (sSlot ps p m).kind = 1 <;> simp [h]
theorem kids_mem {ps : List Page} {p : Int} {m : Nat} {a k : Int} : (a, k) ∈ kidsOf ps p m ↔ 0 ≤ a ∧ a < m ∧ (sSlot ps p a).kind = 1 ∧ (sSlot ps p a).to = k := by
  unfold kidsOf
  simp only [List.mem_filterMap, List.mem_range]
  constructor
  · rintro ⟨n, hn, h⟩
    by_cases hk : (sSlot ps p n).kind = 1
    · rw [if_pos (by simpa using hk)] at h
      injection h with h; injection h with h1 h2
      subst h1
      exact ⟨by omega, by omega, hk, h2⟩
    · rw [if_neg (by simpa using hk)] at h; cases h
  · rintro ⟨h0, h1, hk, ht⟩
    refine ⟨a.toNat, by omega, ?_⟩
    have : ((a.toNat : Nat) : Int) = a := by omega
    rw [this, if_pos (by simpa using hk), ht]
theorem kids_sorted (ps : List Page) (p : Int) (m : Nat) : (kidsOf ps p m).Pairwise (fun x y => x.1 < y.1) := by
  induction m with
  | zero => exact List.Pairwise.nil
  | succ m ih =>
    rw [kidsOf_succ, List.pairwise_append]
    refine ⟨ih, by split <;> simp, fun x hx y hy => ?_⟩
    have h1 := (kids_mem (a := x.1) (k := x.2)).1 hx
    split at hy
    · have : y = ((m : Int), (sSlot ps p m).to) := by simpa using hy
      subst this; exact h1.2.1
    · cases hy
theorem run_mem {a x : Int} {m : Nat} : x ∈ run a m ↔ a ≤ x ∧ x < a + m := by
  unfold run
  simp only [List.mem_map, List.mem_range]
  constructor
  · rintro ⟨n, hn, rfl⟩; omega
  · rintro ⟨h1, h2⟩; exact ⟨(x - a).toNat, by omega, by omega⟩
theorem run_sorted (a : Int) (m : Nat) : (run a m).Pairwise (· < ·) := by
  unfold run
  rw [List.pairwise_map]
  refine List.Pairwise.imp ?_ List.pairwise_lt_range
  intro x y h; omega
theorem kid_lev {ps : List Page} (k : Kd ps) {p a : Int} (hk : (sSlot ps p a).kind = 1) : (sKey ps (sSlot ps p a).to).lev = (sKey ps p).lev - 1 := by
  unfold sSlot at *
  cases h : sSlot? ps p a with
  | none => rw [h] at hk; simp [Slot.empty] at hk
  | some x =>
    rw [h] at hk
    rcases k p a x h with e | ⟨_, _, e⟩ | ⟨e, _⟩
    · rw [e] at hk; simp [Slot.empty] at hk
    · exact e
    · simp only [Option.getD_some] at hk; omega
theorem low_mem {ps : List Page} {p i a mid n : Int} : n ∈ reachLow p i a (kidsOf ps mid 8) ↔ ∃ b, 0 ≤ b ∧ b < 8 ∧ (sSlot ps mid b).kind = 1 ∧ (sSlot ps mid b).to = p ∧ n = (a * 8 + b) * 8 + i := by
  unfold reachLow
  simp only [List.mem_flatMap]
  constructor
  · rintro ⟨⟨b, l⟩, hb, hn⟩
    obtain ⟨h1, h2, h3, h4⟩ := kids_mem.1 hb
    split at hn
    · rename_i e
      have := run_mem.1 hn
      simp only [beq_iff_eq] at e
      exact ⟨b, h1, h2, h3, h4.trans e, by simp only at this; omega⟩
    · cases hn
  · rintro ⟨b, h1, h2, h3, h4, rfl⟩
    refine ⟨(b, p), kids_mem.2 ⟨h1, h2, h3, h4⟩, ?_⟩
    rw [if_pos (by simp)]
    exact run_mem.2 (by omega)
theorem mid_mem {ps : List Page} {p i n : Int} {am : Int × Int} : n ∈ reachMid ps p i am ↔ (am.2 = p ∧ (am.1 * 8 + i) * 8 ≤ n ∧ n < (am.1 * 8 + i) * 8 + 8) ∨ ∃ b, 0 ≤ b ∧ b < 8 ∧ (sSlot ps am.2 b).kind = 1 ∧ (sSlot ps am.2 b).to = p ∧ n = (am.1 * 8 + b) * 8 + i := by
  unfold reachMid
  rw [List.mem_append, low_mem]
  refine or_congr ?_ Iff.rfl
  by_cases e : am.2 = p
  · rw [if_pos (by simpa using e), run_mem]; simp [e]
  · rw [if_neg (by simpa using e)]; simp [e]
theorem mid_range {ps : List Page} {p i n : Int} {am : Int × Int} (hi : 0 ≤ i) (hi8 : i < 8) (h : n ∈ reachMid ps p i am) : am.1 * 64 ≤ n ∧ n < am.1 * 64 + 64 := by
  rcases mid_mem.1 h with ⟨_, h1, h2⟩ | ⟨b, h1, h2, _, _, rfl⟩ <;> omega
theorem mid_sorted {ps : List Page} (k : Kd ps) (p i : Int) (am : Int × Int) : (reachMid ps p i am).Pairwise (· < ·) := by
  unfold reachMid
  by_cases e : am.2 = p
  · have hnil : reachLow p i am.1 (kidsOf ps am.2 8) = [] := by
      rw [List.eq_nil_iff_forall_not_mem]
      intro n hn
      obtain ⟨b, _, _, hk, ht, _⟩ := low_mem.1 hn
      have := kid_lev k hk
      rw [ht, ← e] at this
      omega
    rw [hnil, List.append_nil]
    split
    · exact run_sorted _ _
    · exact List.Pairwise.nil
  · rw [if_neg (by simpa using e), List.nil_append]
    unfold reachLow
    rw [List.pairwise_flatMap]
    refine ⟨fun b _ => by split; exact run_sorted _ _; exact List.Pairwise.nil, ?_⟩
    refine List.Pairwise.imp ?_ (kids_sorted ps am.2 8)
    intro x y hxy u hu v hv
    split at hu
    · split at hv
      · have h1 := run_mem.1 hu
        have h2 := run_mem.1 hv
        omega
      · cases hv
    · cases hu
theorem top_sorted {ps : List Page} (k : Kd ps) {p i top : Int} (hi : 0 ≤ i) (hi8 : i < 8) : (reachTop ps p i top).Pairwise (· < ·) := by
  unfold reachTop
  have hmid : ((kidsOf ps top 8).flatMap (reachMid ps p i)).Pairwise (· < ·) := by
    rw [List.pairwise_flatMap]
    refine ⟨fun am _ => mid_sorted k p i am, ?_⟩
    refine List.Pairwise.imp ?_ (kids_sorted ps top 8)
    intro x y hxy u hu v hv
    have h1 := mid_range hi hi8 hu
    have h2 := mid_range hi hi8 hv
    omega
  by_cases e : p = top
  · have hnil : (kidsOf ps top 8).flatMap (reachMid ps p i) = [] := by
      rw [List.eq_nil_iff_forall_not_mem]
      intro n hn
      obtain ⟨⟨a, m⟩, ha, hn⟩ := List.mem_flatMap.1 hn
      obtain ⟨_, _, hk, ht⟩ := kids_mem.1 ha
      have h1 := kid_lev k hk
      rw [ht] at h1
      rcases mid_mem.1 hn with ⟨hm, _⟩ | ⟨b, _, _, hk2, ht2, _⟩
      · simp only at hm; rw [hm, e] at h1; omega
      · simp only at hk2 ht2
        have h2 := kid_lev k hk2
        rw [ht2, e] at h2; omega
    rw [hnil, List.append_nil]
    split
    · exact run_sorted _ _
    · exact List.Pairwise.nil
  · rw [if_neg (by simpa using e), List.nil_append]; exact hmid
theorem reach_sorted {ps : List Page} (k : Kd ps) (root p i : Int) : (reach ps root p i).Pairwise (· < ·) := by
  unfold reach
  split
  · exact List.Pairwise.nil
  · split
    · rename_i h
      simp only [Bool.and_eq_true, decide_eq_true_eq] at h
      exact top_sorted k h.1 h.2
    · exact List.Pairwise.nil

/-- the way of page n from a table's page of a level on: is the entry i of p passed? -/
def passes (ps : List Page) (p i n : Int) : Nat → Int → Bool
  | 0, _ => false
  | l + 1, f => (f == p && n / 8 ^ l % 8 == i) || ((sSlot ps f (n / 8 ^ l % 8)).kind == 1 && passes ps p i n l (sSlot ps f (n / 8 ^ l % 8)).to)
theorem reach_passes {ps : List Page} {p i n top : Int} (hi : 0 ≤ i) (hi8 : i < 8) (h0 : 0 ≤ n) (hn : n < 512) : n ∈ reachTop ps p i top ↔ passes ps p i n 3 top = true := by
  unfold reachTop
  rw [List.mem_append, List.mem_flatMap]
  simp only [passes, Bool.or_eq_true, Bool.and_eq_true, beq_iff_eq, Bool.false_eq_true, and_false, or_false]
  have ea : n / ((8 : Int) ^ 2) % 8 = n / 64 := by omega
  have eb : n / ((8 : Int) ^ 1) % 8 = n / 8 % 8 := by omega
  have ec : n / ((8 : Int) ^ 0) % 8 = n % 8 := by omega
  rw [ea, eb, ec]
  refine or_congr ?_ ?_
  · by_cases e : p = top
    · rw [if_pos (by simpa using e), run_mem]; constructor
      · intro h; exact ⟨e.symm, by omega⟩
      · intro h; omega
    · rw [if_neg (by simpa using e)]; constructor
      · intro h; cases h
      · intro h; exact absurd h.1.symm e
  · constructor
    · rintro ⟨⟨a, m⟩, ha, hm⟩
      obtain ⟨h1, h2, h3, h4⟩ := kids_mem.1 ha
      have hr := mid_range hi hi8 hm
      simp only at hr
      have hae : n / 64 = a := by omega
      rw [hae, h4]
      refine ⟨h3, ?_⟩
      rcases mid_mem.1 hm with ⟨e1, e2, e3⟩ | ⟨b, b1, b2, b3, b4, b5⟩
      · simp only at e1 e2 e3
        exact .inl ⟨e1, by omega⟩
      · simp only at b3 b4 b5
        have hbe : n / 8 % 8 = b := by omega
        rw [hbe]
        exact .inr ⟨b3, b4, by omega⟩
    · rintro ⟨hk, h⟩
      refine ⟨(n / 64, (sSlot ps top (n / 64)).to), kids_mem.2 ⟨by omega, by omega, hk, rfl⟩, mid_mem.2 ?_⟩
      rcases h with ⟨e1, e2⟩ | ⟨e1, e2, e3⟩
      · exact .inl ⟨e1, by simp only; omega, by simp only; omega⟩
      · exact .inr ⟨n / 8 % 8, by omega, by omega, e1, e2, by simp only; omega⟩
end Sil

/- What the guard's laws ask, of plain data. -/
namespace Sil
open Go

theorem isLoose_iff (s : St) (g : Int) : s.isLoose g = true ↔ g ∈ s.loose := by unfold St.isLoose; simp
theorem isLoose_no (s : St) (g : Int) : s.isLoose g = false ↔ g ∉ s.loose := by unfold St.isLoose; simp
theorem loose_one {s : St} (h : PInv 4 8 s) {g : Int} (hg : s.isLoose g = true) : ∃ f, sOf s.ps g = [f] ∧ (sKey s.ps f).lev = 1 := by
  obtain ⟨h1, h2⟩ := h.lo g ((isLoose_iff s g).1 hg)
  obtain ⟨f, hf⟩ := one_of h1
  exact ⟨f, hf, h2 f (by rw [hf]; simp)⟩
/-- P16.1: what Loosen answers -/
theorem loosen_says (s : St) (o : GOp) (ho : o.what = 8) : (s.opIs o && s.isLoose o.to) = false ∧ s.opIs o = ((s.op o).isLoose o.to && !s.isLoose o.to) := by
  have e1 : s.opIs o = s.loosenIs o.to := by unfold St.opIs; rw [ho]; rfl
  have e2 : s.op o = s.loosen o.to := by unfold St.op; rw [ho]; rfl
  rw [e1, e2]
  cases hl : s.isLoose o.to with
  | true =>
    have : s.loosenIs o.to = false := by unfold St.loosenIs; rw [hl]; rfl
    rw [this]; simp
  | false =>
    unfold St.loosen
    cases hc : s.loosenIs o.to with
    | true => rw [if_pos rfl]; simp [St.isLoose]
    | false => rw [if_neg (by simp), hl]; simp

/-! ### GuardForbids -/
theorem writable_iff {s : St} (h : Wfp s.ps) {g : Int} : s.writable g = true ↔ ∃ a b x, sSlot? s.ps a b = some x ∧ x.kind = 2 ∧ x.to = g ∧ x.r.w = true := by
  unfold St.writable writes
  rw [List.any_eq_true]
  constructor
  · rintro ⟨a, ha, hw⟩
    obtain ⟨x, hx, hk, hto⟩ := (told_mem h 2 g a).1 ha
    have : sSlot s.ps a.g a.i = x := by unfold sSlot; rw [hx]; rfl
    rw [this] at hw
    exact ⟨_, _, x, hx, hk, hto, hw⟩
  · rintro ⟨a, b, x, hx, hk, hto, hw⟩
    refine ⟨⟨a, b⟩, (told_mem h 2 g ⟨a, b⟩).2 ⟨x, hx, hk, hto⟩, ?_⟩
    have : sSlot s.ps a b = x := by unfold sSlot; rw [hx]; rfl
    rw [this]; exact hw
theorem smake_slot {first many : Int} {s : St} (h : PInv first many s) (n : Nat) (k : Key) {a b : Int} {x : Slot} (hx : sSlot? s.ps a b = some x) : sSlot? (s.smake n k).ps a b = some x := by
  unfold St.smake; split
  · obtain ⟨p, hp, h0, h8, hs⟩ := sSlot?_iff.1 hx
    exact sSlot?_iff.2 ⟨p, by show sPage (s.ps ++ _) a = _; rw [sPage_append, hp]; rfl, h0, h8, hs⟩
  · exact hx
theorem smake_hits (n : Nat) (s : St) (k : Key) : (s.smake n k).hits = s.hits := by unfold St.smake; split <;> rfl
theorem forbids_make {s : St} (h : PInv 4 8 s) {k : Key} (hno : (sFind s.ps k).isSome = false) (his : s.makeIs 40 lawHs k = true) (hr : k.role = 0) :
    (s.make 40 lawHs k).writable k.g = false ∧ ((s.writable k.g || s.isLoose k.g) = true → (s.make 40 lawHs k).hits = []) := by
  have hm : sMakeIs (s.pre 40 lawHs k).ps (s.pre 40 lawHs k).fr k = true := by unfold St.makeIs at his; rw [hno] at his; simpa using his
  have e : s.make 40 lawHs k = ((s.pre 40 lawHs k).smake 40 k).forbid 40 lawHs k.g := by
    unfold St.make; rw [hno, hm]; simp [hr]
  have h1 := h.pre 40 lawHs k
  have h2 := h1.smake 40 k (pre_not h 40 lawHs k)
  obtain ⟨u, eh⟩ := upd_forbid 40 lawHs k.g (law_ghost k.g) ((s.pre 40 lawHs k).smake 40 k) h2.wf h2.kd h2.fin
  rw [e]
  refine ⟨not_writable u, fun hw => ?_⟩
  rw [eh]
  have ep : s.pre 40 lawHs k = s.look 40 lawHs k.g := by unfold St.pre; rw [if_pos (by simpa using hr)]
  by_cases hl : k.g ∈ s.loose
  · have : ((s.pre 40 lawHs k).smake 40 k).hits = [] := by
      rw [smake_hits, ep]; exact (look_all 40 lawHs law_apart k.g (law_ghost k.g) s h.wf h.kd h.fin hl).2.2.1
    rw [this]; split <;> rfl
  · have ep' : s.pre 40 lawHs k = s := ep.trans (look_no hl)
    have hw' : s.writable k.g = true := by
      have := (isLoose_no s k.g).2 hl
      rw [this] at hw; simpa using hw
    obtain ⟨a, b, x, hx, hk, hto, hxw⟩ := (writable_iff h.wf).1 hw'
    rw [if_pos ((writable_iff h2.wf).2 ⟨a, b, x, smake_slot h1 40 k (by rw [ep']; exact hx), hk, hto, hxw⟩)]
theorem forbids_look {s : St} (h : PInv 4 8 s) {g : Int} (hg : g ∈ s.loose) :
    (s.look 40 lawHs g).writable g = false ∧ (s.look 40 lawHs g).hits = [] ∧ (s.look 40 lawHs g).isLoose g = false :=
  ⟨look_writable 40 lawHs law_apart g (law_ghost g) s h.wf h.kd h.fin hg, (look_all 40 lawHs law_apart g (law_ghost g) s h.wf h.kd h.fin hg).2.2.1,
   (isLoose_no _ g).2 (fun hm => ((look_loose h.wf h.kd 40 lawHs g g).1 hm).2 rfl)⟩
theorem look_list {first many : Int} {s : St} (h : PInv first many s) (n : Nat) (hs : List Int) (g : Int) : (s.look n hs g).loose = s.loose.filter (fun l => !(l == g)) := by
  by_cases hg : g ∈ s.loose
  · rw [look_yes hg]
    exact (quiet_lookRest n hs (s.tight g) g h.wf h.kd).loose
  · rw [look_no hg, List.filter_eq_self.2]
    intro x hx
    simp only [Bool.not_eq_true', beq_eq_false_iff_ne]
    rintro rfl; exact hg hx
theorem filter_head {l : List Int} (h : l.Nodup) {n : Nat} (hn : n < l.length) : (l.drop n).filter (fun x => !(x == l[n])) = l.drop (n + 1) := by
  have e : l.drop n = l[n] :: l.drop (n + 1) := List.drop_eq_getElem_cons hn
  have hd : (l.drop n).Nodup := h.sublist (List.drop_sublist n l)
  rw [e] at hd ⊢
  rw [List.nodup_cons] at hd
  rw [List.filter_cons]
  simp only [BEq.rfl, Bool.not_true, Bool.false_eq_true, if_false]
  rw [List.filter_eq_self]
  intro x hx
  simp only [Bool.not_eq_true', beq_eq_false_iff_ne]
  rintro rfl; exact hd.1 hx
/-- what stands behind n rounds of GuardForbids' second loop -/
def fbRound (s : St) (g : Int) : St := (s.put 8 ⟨0, 5, 0, Rt.none, false⟩).look 40 lawHs g
def fbAt (s : St) (n : Nat) : St := (s.loose.take n).foldl fbRound s
theorem fbAt_succ (s : St) {n : Nat} (hn : n < s.loose.length) : fbAt s (n + 1) = fbRound (fbAt s n) s.loose[n] := by
  unfold fbAt
  rw [List.take_succ_eq_append_getElem hn, List.foldl_append]; rfl
theorem fbAt_ok {s : St} (h : PInv 4 8 s) : ∀ n, n ≤ s.loose.length → PInv 4 8 (fbAt s n) ∧ (fbAt s n).loose = s.loose.drop n ∧ (fbAt s n).ws.length = s.ws.length := by
  intro n
  induction n with
  | zero => intro _; exact ⟨h, by simp [fbAt], rfl⟩
  | succ n ih =>
    intro hn
    obtain ⟨h1, h2, h3⟩ := ih (by omega)
    rw [fbAt_succ s (by omega)]
    have hp : PInv 4 8 ((fbAt s n).put 8 ⟨0, 5, 0, Rt.none, false⟩) := h1.hits _
    refine ⟨hp.look _ _ _, ?_, ?_⟩
    · unfold fbRound
      rw [look_list hp]
      show (fbAt s n).loose.filter _ = _
      rw [h2, filter_head h.ln (by omega)]
    · exact (look_keep hp _).len.trans h3

/-! ### GuardWords -/
theorem words_told {s : St} (h : PInv 4 8 s) (g i : Int) :
    (∀ a b, sSlot? (s.word 40 g i).ps a b = (sSlot? s.ps a b).map (fun x => if a ∈ sOf s.ps g ∧ b = i then Slot.empty else x)) ∧ heads (s.word 40 g i).ps = heads s.ps ∧
      (s.word 40 g i).hits = if clears s.ps (sOf s.ps g) i then [] else s.hits := by
  obtain ⟨u, e⟩ := upd_word (P := InP 4 8) 40 i (sOf s.ps g) s h.wf h.kd h.fin (fun f hf => by unfold InP at hf; omega)
  exact ⟨u.sl, u.q.like.hd, e⟩

/-! ### GuardDrops -/
theorem erase_filter {l : List Int} (h : l.Nodup) (x : Int) : (l.filter (fun y => !(y == x))).length = if x ∈ l then l.length - 1 else l.length := by
  induction l with
  | nil => rfl
  | cons y l ih =>
    rw [List.nodup_cons] at h
    have ih := ih h.2
    rw [List.filter_cons]
    by_cases e : y = x
    · subst e
      rw [if_neg h.1] at ih
      simp [ih]
    · have : (!(y == x)) = true := by simp [e]
      rw [this]
      simp only [if_true, List.length_cons, ih, List.mem_cons]
      have e' : ¬ x = y := fun h => e h.symm
      simp only [e', false_or]
      split
      · rename_i hm
        have := List.length_pos_of_mem hm
        omega
      · rfl
theorem of_nodup {ps : List Page} (h : Wfp ps) (g : Int) : (sOf ps g).Nodup := by
  unfold sOf
  exact List.Nodup.sublist (List.Sublist.map _ List.filter_sublist) h.nd
theorem drops_says {s : St} (h : PInv 4 8 s) {p : Int} (hp : (sPage s.ps p).isSome = true) :
    (s.drop 40 p).hits = [] ∧ (sPage (s.drop 40 p).ps p).isSome = false ∧ (sAll (s.drop 40 p).ps).length = (sAll s.ps).length - 1 ∧
    ((sKey s.ps p).role = 0 → (sOf (s.drop 40 p).ps (sKey s.ps p).g).length = (sOf s.ps (sKey s.ps p).g).length - 1 ∧ 0 < (sOf s.ps (sKey s.ps p).g).length ∧ (s.drop 40 p).isLoose (sKey s.ps p).g = false ∧
      (s.drop 40 p).prot (sKey s.ps p).g = decide (1 < (sOf s.ps (sKey s.ps p).g).length)) := by
  obtain ⟨e1, e2, e3, e4⟩ := drop_parts 40 hp
  obtain ⟨q, hq⟩ := Option.isSome_iff_exists.1 hp
  obtain ⟨hqm, hqf⟩ := sPage_some hq
  have hkey : sKey s.ps p = q.key := by unfold sKey; rw [hq]
  refine ⟨e4, ?_, ?_, fun hr => ?_⟩
  · rw [e1, sDrop_sPage 40 s.ws p h.wf h.kd]; simp
  · rw [e1]
    unfold sAll
    rw [sDrop_fs 40 s.ws p h.wf h.kd, erase_filter h.wf.nd, if_pos (sPage_isSome.1 hp)]
  · have hmem : p ∈ sOf s.ps (sKey s.ps p).g := of_mem.2 ⟨q, hqm, hqf, by rw [← hkey]; exact hr, by rw [hkey]⟩
    have hlen : (sOf (s.drop 40 p).ps (sKey s.ps p).g).length = (sOf s.ps (sKey s.ps p).g).length - 1 := by
      rw [e1, sDrop_of 40 s.ws p h.wf h.kd, erase_filter (of_nodup h.wf _), if_pos hmem]
    have hpos := List.length_pos_of_mem hmem
    have hnl : (s.drop 40 p).isLoose (sKey s.ps p).g = false := by
      rw [isLoose_no, e3]
      unfold St.preD
      rw [if_pos (by simpa using hr)]
      exact tight_not s _
    refine ⟨hlen, hpos, hnl, ?_⟩
    unfold St.prot
    rw [hnl]
    generalize (sOf (s.drop 40 p).ps (sKey s.ps p).g) = l at *
    match l with
    | [] => simp at hlen ⊢; omega
    | x :: l => simp at hlen ⊢; omega
end Sil

/- An entry read as the document reads it, bit by bit, is the program's entry. -/
namespace Sil
open Go

def rbit (v : Int) (n : Nat) : Bool := v / 2 ^ n % 2 == 1
def badBit (n : Nat) : Bool := n == 3 || n == 4 || (decide (8 ≤ n) && decide (n ≤ 11)) || (decide (32 ≤ n) && decide (n ≤ 62))
def refBad (v : Int) : Nat → Bool
  | 0 => false
  | m + 1 => refBad v m || (rbit v m && badBit m)
def refPte (v : Int) : Pte := ⟨rbit v 0, rbit v 1, rbit v 2, rbit v 5, rbit v 6, rbit v 7, rbit v 63, refBad v 64, v / 4096 % 1048576⟩

theorem rbit_nat (v n : Nat) : rbit (v : Int) n = v.testBit n := by
  unfold rbit
  rw [Nat.testBit_eq_decide_div_mod_eq]
  have : ((v : Int) / 2 ^ n % 2) = ((v / 2 ^ n % 2 : Nat) : Int) := by push_cast; rfl
  rw [this]
  by_cases h : v / 2 ^ n % 2 = 1
  · rw [h]; simp
  · simp [h]; omega
theorem and_bit (v n : Nat) (hv : v < 18446744073709551616) (hn : n < 64) : (bits .and .u64 (v : Int) ((2 ^ n : Nat) : Int) != 0) = v.testBit n := by
  have h2 : 2 ^ n < 18446744073709551616 := Nat.pow_lt_pow_right (by omega) hn
  rw [u64_and_nat v (2 ^ n) hv h2, nat_bit, Nat.testBit_eq_decide_div_mod_eq]
  have hp : 0 < 2 ^ n := Nat.pow_pos (by omega)
  have hm : v / 2 ^ n % 2 < 2 := Nat.mod_lt _ (by omega)
  by_cases h : v / 2 ^ n % 2 = 1
  · rw [h, Nat.one_mul]
    have hne : ((2 ^ n : Nat) : Int) ≠ 0 := fun h0 => by have := Int.ofNat_eq_zero.1 h0; omega
    generalize ((2 ^ n : Nat) : Int) = x at *
    simpa using hne
  · have h0 : v / 2 ^ n % 2 = 0 := by omega
    rw [h0]; simp
def badMask : Nat := 9223372032559812376
theorem badMask_bits : ∀ n, n < 64 → badMask.testBit n = badBit n := by decide
theorem pteRest_mask (v : Nat) (hv : v < 18446744073709551616) : pteRest (v : Int) 7 = ((v &&& badMask : Nat) : Int) := by
  have step : ∀ (a b : Nat), a < 18446744073709551616 → b < 18446744073709551616 → bits .andNot .u64 (a : Int) (b : Int) = ((a &&& (18446744073709551615 - b) : Nat) : Int) := u64_andNot_nat
  have lt : ∀ (a b : Nat), a < 18446744073709551616 → a &&& b < 18446744073709551616 := fun a b h => Nat.lt_of_le_of_lt Nat.and_le_left h
  have r0 : pteRest (v : Int) 0 = ((v &&& 18446744069414588415 : Nat) : Int) := step v 4294963200 hv (by omega)
  have one : ∀ (k b m : Nat), pteRest (v : Int) k = ((v &&& m : Nat) : Int) → bitOf k = ((b : Nat) : Int) → b < 18446744073709551616 → pteRest (v : Int) (k + 1) = ((v &&& (m &&& (18446744073709551615 - b)) : Nat) : Int) := by
    intro k b m h1 h2 h3
    show bits .andNot .u64 (pteRest v k) (bitOf k) = _
    rw [h1, h2, step _ _ (lt v m hv) h3, Nat.and_assoc]
  have r1 := one 0 1 _ r0 rfl (by omega)
  have r2 := one 1 2 _ r1 rfl (by omega)
  have r3 := one 2 4 _ r2 rfl (by omega)
  have r4 := one 3 32 _ r3 rfl (by omega)
  have r5 := one 4 64 _ r4 rfl (by omega)
  have r6 := one 5 128 _ r5 rfl (by omega)
  have r7 := one 6 9223372036854775808 _ r6 rfl (by omega)
  rw [r7]
  congr 2
theorem refBad_some (v : Nat) : ∀ m, refBad (v : Int) m = true ↔ ∃ n, n < m ∧ v.testBit n = true ∧ badBit n = true := by
  intro m
  induction m with
  | zero => simp [refBad]
  | succ m ih =>
    unfold refBad
    rw [Bool.or_eq_true, ih, Bool.and_eq_true, rbit_nat]
    constructor
    · rintro (⟨n, h1, h2⟩ | h)
      · exact ⟨n, by omega, h2⟩
      · exact ⟨m, by omega, h⟩
    · rintro ⟨n, h1, h2⟩
      by_cases e : n = m
      · subst e; exact .inr h2
      · exact .inl ⟨n, by omega, h2⟩
theorem pteRest_bad (v : Nat) (hv : v < 18446744073709551616) : (pteRest (v : Int) 7 != 0) = refBad (v : Int) 64 := by
  rw [pteRest_mask v hv, Bool.eq_iff_iff, refBad_some]
  simp only [bne_iff_ne, ne_eq]
  constructor
  · intro h
    have h' : v &&& badMask ≠ 0 := fun e => h (by rw [e]; rfl)
    obtain ⟨n, hn⟩ := Nat.exists_testBit_of_ne_zero h'
    rw [Nat.testBit_and, Bool.and_eq_true] at hn
    have hlt : n < 64 := by
      rcases Nat.lt_or_ge n 64 with h | h
      · exact h
      · have : v.testBit n = false := Nat.testBit_lt_two_pow (Nat.lt_of_lt_of_le hv (Nat.pow_le_pow_right (n := 2) (by omega) h))
        rw [this] at hn; simp at hn
    exact ⟨n, hlt, hn.1, by rw [← badMask_bits n hlt]; exact hn.2⟩
  · rintro ⟨n, hlt, h1, h2⟩ h
    have h' : v &&& badMask = 0 := Int.ofNat_eq_zero.1 h
    have : (v &&& badMask).testBit n = true := by rw [Nat.testBit_and, h1, badMask_bits n hlt, h2]; rfl
    rw [h', Nat.zero_testBit] at this; cases this
theorem refPte_eq (v : Int) (h : U64 v) : refPte v = pteGet v := by
  obtain ⟨m, rfl⟩ := Int.eq_ofNat_of_zero_le h.1
  have hv : m < 18446744073709551616 := by have := h.2; omega
  have b : ∀ k n, n < 64 → bitOf k = ((2 ^ n : Nat) : Int) → rbit (m : Int) n = pteBit (m : Int) k := fun k n hn hk => by
    rw [rbit_nat, ← and_bit m n hv hn, ← hk]; rfl
  have hf : (m : Int) / 4096 % 1048576 = pteFrame (m : Int) := by
    unfold pteFrame
    have e1 : (m : Int) / 4096 = ((m / 4096 : Nat) : Int) := by omega
    rw [e1, show (1048575 : Int) = ((1048575 : Nat) : Int) from rfl, u64_and_nat _ _ (by omega) (by omega), show (1048575 : Nat) = 2 ^ 20 - 1 from rfl, Nat.and_two_pow_sub_one_eq_mod]
    unfold Go.RowKit.wrap64
    have : m / 4096 % 2 ^ 20 < 2 ^ 20 := Nat.mod_lt _ (by omega)
    omega
  unfold refPte pteGet
  rw [b 0 0 (by omega) rfl, b 1 1 (by omega) rfl, b 2 2 (by omega) rfl, b 3 5 (by omega) rfl, b 4 6 (by omega) rfl, b 5 7 (by omega) rfl, b 6 63 (by omega) rfl, ← pteRest_bad m hv, hf]
end Sil

/- The live question of the guard's laws, as plain data. -/
namespace Sil
open Go

def hdPuts : List WPut := [⟨3, 0, 36903⟩, ⟨3, 1, 40999⟩]
def hd0 : St := St.made hdPuts
def hd1 : St := hd0.make 40 lawHs ⟨1, 3, 0⟩
def hd2 : St := hd1.make 40 lawHs ⟨2, 2, 0⟩
def hd3 : St := hd2.make 40 lawHs ⟨3, 1, 0⟩
def St.child (n : Nat) (s : St) (f i c : Int) (r : Rt) : St := { s with ps := sChild s.ps f i c r, ws := wChild n s.ps s.ws f i c r }
def St.leaf (n : Nat) (s : St) (f i g h : Int) (r : Rt) : St := { s with ps := sLeaf n s.ps f i g h r, ws := wLeaf n s.ps s.ws f i g h r }
def hd4 : St := hd3.child 40 4 0 5 ⟨true, true, true⟩
def hd5 : St := hd4.child 40 5 2 6 ⟨true, true, true⟩
def hd6 : St := hd5.leaf 40 6 0 9 33 ⟨false, true, true⟩
def hd7 : St := hd6.leaf 40 6 1 9 33 ⟨false, true, true⟩
def hd8 : St := hd7.leaf 40 6 2 3 27 ⟨true, false, false⟩
def hd9 : St := hd8.loosen 3
def hd10 : St := hd9.loosen 1
def hd11 : St := hd10.look 40 lawHs 3
def hd12 : St := hd11.drop 40 6
theorem hd_made : hd0.makeF 40 lawHs ⟨1, 3, 0⟩ = 4 ∧ hd0.makeIs 40 lawHs ⟨1, 3, 0⟩ = true ∧ hd1.makeF 40 lawHs ⟨2, 2, 0⟩ = 5 ∧ hd1.makeIs 40 lawHs ⟨2, 2, 0⟩ = true ∧ hd2.makeF 40 lawHs ⟨3, 1, 0⟩ = 6 ∧ hd2.makeIs 40 lawHs ⟨3, 1, 0⟩ = true := by decide +kernel
theorem hd_reach : reach hd8.ps 1 6 1 = [17] := by decide +kernel
theorem hd_prot : hd8.prot 3 = true ∧ hd8.loosenIs 3 = true ∧ hd9.loosenIs 1 = false ∧ hd10.prot 3 = false ∧ hd10.isLoose 3 = true := by decide +kernel
theorem hd_slots : (sSlot hd11.ps 6 0).kind = 2 ∧ (sSlot hd11.ps 6 1).kind = 0 ∧ (sSlot hd11.ps 6 2).kind = 0 ∧ hd11.prot 3 = true ∧ hd11.loose = [] := by decide +kernel
theorem hd_end : (reach hd11.ps 1 4 1).length = 64 ∧ (sPage hd11.ps 6).isSome = true ∧ hd12.prot 3 = false := by decide +kernel
end Sil

/- The states of the laws' live question; how much is known. -/
namespace Sil
open Go

theorem PInv.child {s : St} (h : PInv 4 8 s) (n : Nat) (f i c : Int) (r : Rt) : PInv 4 8 (s.child n f i c r) := h.quiet (s' := s.child n f i c r) ⟨sChild_like h.wf h.kd _ _ _ _, rfl, rfl⟩
theorem PInv.leaf {s : St} (h : PInv 4 8 s) (n : Nat) (f i g t : Int) (r : Rt) : PInv 4 8 (s.leaf n f i g t r) := h.quiet (s' := s.leaf n f i g t r) ⟨sLeaf_like h.wf h.kd _ _ _ _ _ _, rfl, rfl⟩
theorem hI0 : PInv 4 8 hd0 := PInv.made hdPuts
theorem hI1 : PInv 4 8 hd1 := hI0.make _ _ _
theorem hI2 : PInv 4 8 hd2 := hI1.make _ _ _
theorem hI3 : PInv 4 8 hd3 := hI2.make _ _ _
theorem hI4 : PInv 4 8 hd4 := hI3.child _ _ _ _ _
theorem hI5 : PInv 4 8 hd5 := hI4.child _ _ _ _ _
theorem hI6 : PInv 4 8 hd6 := hI5.leaf _ _ _ _ _ _
theorem hI7 : PInv 4 8 hd7 := hI6.leaf _ _ _ _ _ _
theorem hI8 : PInv 4 8 hd8 := hI7.leaf _ _ _ _ _ _
theorem hI9 : PInv 4 8 hd9 := hI8.loosen _
theorem hI10 : PInv 4 8 hd10 := hI9.loosen _
theorem hI11 : PInv 4 8 hd11 := hI10.look _ _ _

theorem forbid_hits {s : St} (h : PInv 4 8 s) (g : Int) : (s.forbid 40 lawHs g).hits = [] ∨ (s.forbid 40 lawHs g).hits = s.hits := by
  rw [(upd_forbid 40 lawHs g (law_ghost g) s h.wf h.kd h.fin).2]; split
  · exact .inl rfl
  · exact .inr rfl
theorem look_hits (s : St) (g : Int) : (s.look 40 lawHs g).hits = [] ∨ (s.look 40 lawHs g).hits = s.hits := by
  by_cases hg : g ∈ s.loose
  · rw [look_yes hg]; exact .inl rfl
  · rw [look_no hg]; exact .inr rfl
theorem looks_hits (l : List Int) : ∀ s : St, (s.looks 40 lawHs l).hits = [] ∨ (s.looks 40 lawHs l).hits = s.hits := by
  induction l with
  | nil => intro s; exact .inr rfl
  | cons g l ih =>
    intro s
    show ((s.look 40 lawHs g).looks 40 lawHs l).hits = [] ∨ ((s.look 40 lawHs g).looks 40 lawHs l).hits = s.hits
    rcases ih (s.look 40 lawHs g) with e | e
    · exact .inl e
    · rw [e]; exact look_hits s g
theorem make_hits {s : St} (h : PInv 4 8 s) (k : Key) : (s.make 40 lawHs k).hits = [] ∨ (s.make 40 lawHs k).hits = s.hits := by
  unfold St.make
  have h1 := h.pre 40 lawHs k
  have h2 := h1.smake 40 k (pre_not h 40 lawHs k)
  have hp : (s.pre 40 lawHs k).hits = [] ∨ (s.pre 40 lawHs k).hits = s.hits := by
    unfold St.pre; split
    · exact look_hits s k.g
    · exact .inr rfl
  split
  · exact .inr rfl
  · split
    · rcases forbid_hits h2 k.g with e | e
      · exact .inl e
      · rw [e, smake_hits]; exact hp
    · rw [smake_hits]; exact hp
theorem op_cases (s : St) (o : GOp) (P : St → Prop) (h0 : P (s.make 40 lawHs o.k)) (h2 : P { s with ps := sChild s.ps o.p o.i o.to o.r, ws := wChild 40 s.ps s.ws o.p o.i o.to o.r }) (h4 : P { s with ps := sLeaf 40 s.ps o.p o.i o.to (leafTo o.to) o.r, ws := wLeaf 40 s.ps s.ws o.p o.i o.to (leafTo o.to) o.r })
    (h6 : P (s.zap 40 o.p o.i)) (h7 : P (s.word 40 o.to o.i)) (h8 : P (s.loosen o.to)) (h9 : P (s.look 40 lawHs o.to)) (h10 : P (s.all 40 lawHs)) (h11 : P (s.drop 40 o.p)) (h12 : P { s with ws := guset 40 lawHs s.ws o.to o.i o.v }) (h13 : P (s.put 8 ⟨0, o.i, o.p, Rt.none, false⟩)) (h : P s) : P (s.op o) := by
  unfold St.op
  by_cases c0 : (o.what == 0 || o.what == 1) = true
  · rw [if_pos c0]; exact h0
  rw [if_neg c0]
  by_cases c1 : (o.what == 2 || o.what == 3) = true
  · rw [if_pos c1]; exact h2
  rw [if_neg c1]
  by_cases c2 : (o.what == 4 || o.what == 5) = true
  · rw [if_pos c2]; exact h4
  rw [if_neg c2]
  by_cases c3 : (o.what == 6) = true
  · rw [if_pos c3]; exact h6
  rw [if_neg c3]
  by_cases c4 : (o.what == 7) = true
  · rw [if_pos c4]; exact h7
  rw [if_neg c4]
  by_cases c5 : (o.what == 8) = true
  · rw [if_pos c5]; exact h8
  rw [if_neg c5]
  by_cases c6 : (o.what == 9) = true
  · rw [if_pos c6]; exact h9
  rw [if_neg c6]
  by_cases c7 : (o.what == 10) = true
  · rw [if_pos c7]; exact h10
  rw [if_neg c7]
  by_cases c8 : (o.what == 11) = true
  · rw [if_pos c8]; exact h11
  rw [if_neg c8]
  by_cases c9 : (o.what == 12) = true
  · rw [if_pos c9]; exact h12
  rw [if_neg c9]
  by_cases c10 : (o.what == 13) = true
  · rw [if_pos c10]; exact h13
  rw [if_neg c10]
  exact h
theorem op_hits {s : St} (h : PInv 4 8 s) (o : GOp) : (s.op o).hits = [] ∨ (s.op o).hits = s.hits ∨ ∃ x, (s.op o).hits = tPut 8 s.hits x := by
  refine op_cases s o (fun t => t.hits = [] ∨ t.hits = s.hits ∨ ∃ x, t.hits = tPut 8 s.hits x) ?_ (.inr (.inl rfl)) (.inr (.inl rfl)) ?_ ?_ ?_ ?_ ?_ ?_ (.inr (.inl rfl)) (.inr (.inr ⟨_, rfl⟩)) (.inr (.inl rfl))
  · rcases make_hits h o.k with e | e
    · exact .inl e
    · exact .inr (.inl e)
  · have e : (s.zap 40 o.p o.i).hits = if sClearIs s.ps o.p o.i && hok 40 o.p o.i then [] else s.hits := rfl
    rw [e]
    by_cases hc : (sClearIs s.ps o.p o.i && hok 40 o.p o.i) = true
    · rw [if_pos hc]; exact .inl rfl
    · rw [if_neg hc]; exact .inr (.inl rfl)
  · rw [(words_told h o.to o.i).2.2]
    by_cases hc : clears s.ps (sOf s.ps o.to) o.i = true
    · rw [if_pos hc]; exact .inl rfl
    · rw [if_neg hc]; exact .inr (.inl rfl)
  · have e : (s.loosen o.to).hits = s.hits := by unfold St.loosen; split <;> rfl
    exact .inr (.inl e)
  · rcases look_hits s o.to with e | e
    · exact .inl e
    · exact .inr (.inl e)
  · unfold St.all
    rcases looks_hits s.loose s with e | e
    · exact .inl e
    · exact .inr (.inl e)
  · by_cases hp : (sPage s.ps o.p).isSome = true
    · exact .inl (drop_parts 40 hp).2.2.2
    · have e : s.drop 40 o.p = s := by unfold St.drop; rw [if_neg hp]
      rw [e]; exact .inr (.inl rfl)
theorem tPut_len8 {hs : List Hit} (h : Hit) (hl : hs.length ≤ 8) : (tPut 8 hs h).length ≤ 8 := by
  unfold tPut
  simp only []
  have h1 := List.length_eraseP_le (p := hitIs h.asid h.page) (l := hs)
  generalize hs.eraseP (hitIs h.asid h.page) = l at *
  split
  · rename_i e
    rw [List.length_append, List.length_singleton, List.length_eraseIdx_of_lt (by omega)]; omega
  · rw [List.length_append, List.length_singleton]; omega
/-- what holds of the state behind any calls -/
structure LInv (s : St) : Prop where
  inv : PInv 4 8 s
  wl : s.ws.length = 8 * 40
  hl : s.hits.length ≤ 8
theorem LInv.op {s : St} (h : LInv s) (o : GOp) : LInv (s.op o) := by
  refine ⟨h.inv.op o, op_len h.inv h.wl o, ?_⟩
  rcases op_hits h.inv o with e | e | ⟨x, e⟩
  · rw [e]; simp
  · rw [e]; exact h.hl
  · rw [e]; exact tPut_len8 x h.hl
theorem LInv.made (l : List WPut) : LInv (St.made l) := ⟨PInv.made l, made_len l, by show (St.start.hits).length ≤ 8; exact Nat.zero_le _⟩
theorem LInv.ops (l : List GOp) : ∀ {s : St}, LInv s → LInv (s.ops l) := by
  induction l with
  | nil => intro s h; exact h
  | cons o l ih => intro s h; exact ih (h.op o)
theorem LInv.put {s : St} (h : LInv s) (x : Hit) : LInv (s.put 8 x) := ⟨h.inv.hits _, h.wl, tPut_len8 x h.hl⟩
theorem LInv.look {s : St} (h : LInv s) (g : Int) : LInv (s.look 40 lawHs g) := by
  refine ⟨h.inv.look _ _ _, (look_keep h.inv g).len.trans h.wl, ?_⟩
  rcases look_hits s g with e | e <;> rw [e]
  · simp
  · exact h.hl
theorem LInv.make {s : St} (h : LInv s) (k : Key) : LInv (s.make 40 lawHs k) := by
  refine ⟨h.inv.make _ _ _, (make_keep h.inv h.wl k).len.trans h.wl, ?_⟩
  rcases make_hits h.inv k with e | e <;> rw [e]
  · simp
  · exact h.hl
theorem LInv.set {s : St} (h : LInv s) (g i v : Int) : LInv { s with ws := guset 40 lawHs s.ws g i v } := ⟨h.inv.words _, by show (guset _ _ _ _ _ _).length = _; rw [guset_len]; exact h.wl, h.hl⟩
end Sil

/- A slice of structs that came in, as a list of plain data. No program is named here. -/
namespace Sil
open Go Go.RowKit Go.ChangeShapes Go.WideShapes Go.Deep

theorem flatMap_at {α : Type} (en : α → List Value) {sz : Nat} (hlen : ∀ y, (en y).length = sz) : ∀ (l : List α) (i j : Nat), j < sz → i < l.length → (l.flatMap en)[i * sz + j]? = (l[i]?).bind (fun y => (en y)[j]?) := by
  intro l
  induction l with
  | nil => intro i j _ h; simp at h
  | cons y l ih =>
    intro i j hj hi
    rw [List.flatMap_cons]
    cases i with
    | zero => rw [List.getElem?_append_left (by rw [hlen]; omega)]; simp
    | succ i =>
      have hs : (i + 1) * sz = i * sz + sz := Nat.succ_mul i sz
      rw [List.getElem?_append_right (by rw [hlen]; omega), hlen, show (i + 1) * sz + j - sz = i * sz + j by omega, ih i j hj (by simpa using hi)]
      simp
theorem flatMap_len {α : Type} (en : α → List Value) {sz : Nat} (hlen : ∀ y, (en y).length = sz) (l : List α) : (l.flatMap en).length = l.length * sz := by
  induction l with
  | nil => simp
  | cons y l ih => rw [List.flatMap_cons, List.length_append, hlen, ih, List.length_cons, Nat.succ_mul]; omega

theorem open_rd {H : Type} {enc : TypeId × Value → H} {P : Program} {w : World} {base : Nat} {spare : Nat → Bool} {held : Bool} {α : Type} [Inhabited α] (en : α → List Value) (Ok : α → Prop) {t e : TypeId} {fuel : Nat} {cs : List Value}
    {x : DataW H × List MemPlace} (ht : P.underlying t = some (.slice e)) {sz : Nat} (hC : P.cellsOf e = sz) (hlen : ∀ y, (en y).length = sz) (hsz : 0 < sz)
    (hread : ∀ n cs' z, DataW.trod enc P w base spare held n e cs' = some z → cs'.length = sz → ∃ y, cs' = en y ∧ Ok y) (h : DataW.trod enc P w base spare held fuel t cs = some x) :
    ∃ (v : Value) (ys : List α), cs = [v] ∧ Rd 0 (fun _ => 0) w sz v ys.length (ys.flatMap en) ∧ (∀ y ∈ ys, Ok y) ∧ ys.length ≤ maxLen := by
  rcases open_slice ht h with ⟨rfl, _⟩ | ⟨a, len, cap, m, n, D, Pl, rfl, hb, hl, hm, hmm, hx, hi⟩
  · exact ⟨_, [], rfl, ⟨by simp, none, 0, rfl, Nat.le_refl _, fun h => absurd h (by simp)⟩, by simp, by simp⟩
  · rw [hC] at hi
    have hlm : len ≤ m := by rw [hmm]; split <;> omega
    obtain ⟨f, hf⟩ := choose_lt (α := α) (n := len) (p := fun i y => (∀ j, j < sz → w.cell? ((a.add (i * sz)).add j) = (en y)[j]?) ∧ Ok y) (fun i hil => by
      obtain ⟨cs', h1, h2⟩ := hi i (by omega)
      obtain ⟨_, hcl, hat⟩ := World.cells?_some h1
      obtain ⟨y, rfl, hy⟩ := hread _ _ _ h2 hcl
      exact ⟨y, hat, hy⟩)
    have hyl : ((List.range len).map f).length = len := by simp
    refine ⟨_, (List.range len).map f, rfl, ?_, ?_, by rw [hyl]; omega⟩
    · rw [hyl]
      refine ⟨by rw [flatMap_len en hlen, hyl], some a, cap, rfl, hl, fun hpos => ?_⟩
      have hc0 := (hf 0 hpos).1 0 hsz
      have he0 : (en (f 0))[0]? = some ((en (f 0))[0]'(by rw [hlen]; exact hsz)) := List.getElem?_eq_getElem _
      rw [he0, Nat.zero_mul] at hc0
      have hadd0 : (a.add 0).add 0 = a := by unfold Addr.add; simp
      rw [hadd0] at hc0
      obtain ⟨g, off, spot⟩ := a
      have hspot : spot = none := by simpa using World.cell?_spot hc0
      subst hspot
      refine ⟨g, off, rfl, rfl, ?_, fun j u hu => ?_⟩
      · unfold World.cell? at hc0
        rcases Nat.lt_or_ge g w.heap.size with h | h
        · exact h
        · simp [Array.getElem?_eq_none h] at hc0
      · have hjl : j < len * sz := by
          have := (List.getElem?_eq_some_iff.1 hu).1
          rwa [flatMap_len en hlen, hyl] at this
        have hil : j / sz < len := Nat.div_lt_of_lt_mul (by rw [Nat.mul_comm]; exact hjl)
        have hr : j % sz < sz := Nat.mod_lt _ hsz
        have hj : j / sz * sz + j % sz = j := by rw [Nat.mul_comm]; exact Nat.div_add_mod j sz
        have hat := (hf (j / sz) hil).1 (j % sz) hr
        rw [← hj, flatMap_at en hlen _ _ _ hr (by rw [hyl]; exact hil)] at hu
        rw [List.getElem?_map, List.getElem?_range hil] at hu
        simp only [Option.map_some, Option.bind_some] at hu
        rw [hu] at hat
        have hadd : ((⟨g, off, none⟩ : Addr).add (j / sz * sz)).add (j % sz) = ⟨g, off + j, none⟩ := by
          unfold Addr.add
          split <;> split <;> simp_all <;> omega
        rw [hadd] at hat
        exact hat
    · intro y hy
      obtain ⟨i, hi', rfl⟩ := List.mem_map.1 hy
      exact (hf i (List.mem_range.1 hi')).2
end Sil
