/- The walks of shadow pages: reading and writing slots. -/
import Derived.Test.YtbmbgicdnegkfaaM2
set_option linter.unusedVariables false
set_option linter.unusedSimpArgs false
/- The walks of layer 14 that only read: pages, keys, slots. -/
namespace Go.Proofs.Ytbmbgicdnegkfaa
open Go Go.RowKit Sil

/-- pages: the row of pointers (k + 1), the pages' blocks bs (k + 2) -/
structure PagesX (k : Nat) (tag : Nat → Nat) (w : World) (v : Value) (ps : List Page) (bs : List Nat) : Prop where
  len : bs.length = ps.length
  nd : bs.Nodup
  row : Row (k + 1) tag w 99 1 v ps.length (bs.map (fun b => Value.pointer (some ⟨b, 0, none⟩)))
  pg : ∀ (j b : Nat) (p : Page), bs[j]? = some b → ps[j]? = some p → tag b = k + 2 ∧ Blk w b 103 p.cs.toArray ∧ p.slots.length = 8

theorem PagesX.mod {k : Nat} {tag tag' : Nat → Nat} {w w' : World} {v : Value} {ps : List Page} {bs : List Nat} {T : List Nat} (h : PagesX k tag w v ps bs) (hm : Mod T tag tag' w w') (h1 : k + 1 ∉ T) (h2 : k + 2 ∉ T) : PagesX k tag' w' v ps bs :=
  ⟨h.len, h.nd, h.row.mod hm h1, fun j b p hb hp => by
    obtain ⟨a1, a2, a3⟩ := h.pg j b p hb hp
    exact ⟨hm.tagOf a2 a1, a2.mod hm (by rw [a1]; exact h2), a3⟩⟩

/-- a store: the struct's block a (tag k); bF, bL: its memory, its free frames -/
structure StoreX (k : Nat) (tag : Nat → Nat) (w : World) (a bF bL : Nat) (v : Value) (ps : List Page) (bs : List Nat) : Prop where
  ta : tag a = k
  blk : Blk w a 115 #[.pointer (some ⟨bF, 0, none⟩), .pointer (some ⟨bL, 0, none⟩), v]
  pgs : PagesX k tag w v ps bs

theorem StoreX.mod {k : Nat} {tag tag' : Nat → Nat} {w w' : World} {a bF bL : Nat} {v : Value} {ps : List Page} {bs : List Nat} {T : List Nat} (h : StoreX k tag w a bF bL v ps bs) (hm : Mod T tag tag' w w') (h0 : k ∉ T) (h1 : k + 1 ∉ T) (h2 : k + 2 ∉ T) :
    StoreX k tag' w' a bF bL v ps bs := ⟨hm.tagOf h.blk h.ta, h.blk.mod hm (by rw [h.ta]; exact h0), h.pgs.mod hm h1 h2⟩
theorem StoreX.below {k : Nat} {tag : Nat → Nat} {w w' : World} {a bF bL : Nat} {v : Value} {ps : List Page} {bs : List Nat} (h : StoreX k tag w a bF bL v ps bs) (hb : Below w.heap.size w w') : StoreX k tag w' a bF bL v ps bs :=
  h.mod (T := []) (Mod.of_below hb) (by simp) (by simp) (by simp)

def pgAt (ps : List Page) (bs : List Nat) (f : Int) : Option Addr := match ps.findIdx? (fun p => p.f == f) with
  | some j => some ⟨bs.getD j 0, 0, none⟩
  | none => none

theorem page_cs (p : Page) (h : p.slots.length = 8) : p.cs.length = 44 := by
  obtain ⟨f, key, slots⟩ := p
  match slots, h with
  | [a0, a1, a2, a3, a4, a5, a6, a7], _ => rfl

theorem slots_cell {l : List Slot} {i : Nat} {x : Slot} (hi : l[i]? = some x) (j : Nat) (hj : j < 5) : (l.flatMap Slot.cs)[i * 5 + j]? = x.cs[j]? := by
  induction l generalizing i with
  | nil => simp at hi
  | cons y ys ih =>
    cases i with
    | zero =>
      have e : y = x := by simpa using hi
      subst e
      rw [List.flatMap_cons, List.getElem?_append_left (by simp [Slot.cs]; omega)]
      simp
    | succ i =>
      have hi' : ys[i]? = some x := by simpa using hi
      rw [List.flatMap_cons, List.getElem?_append_right (by simp [Slot.cs]; omega)]
      have e : (i + 1) * 5 + j - y.cs.length = i * 5 + j := by simp [Slot.cs]; omega
      rw [e]; exact ih hi'
theorem page_slot {p : Page} {i : Nat} {x : Slot} (hi : p.slots[i]? = some x) (j : Nat) (hj : j < 5) : p.cs[4 + i * 5 + j]? = x.cs[j]? := by
  have := slots_cell hi j hj
  rw [← this, show 4 + i * 5 + j = (i * 5 + j) + 1 + 1 + 1 + 1 by omega]
  simp only [Page.cs, List.getElem?_cons_succ]

theorem store_page (k a bF bL : Nat) (tag : Nat → Nat) (v : Value) (ps : List Page) (bs : List Nat) (f : Int) (w : World) (H : StoreX k tag w a bF bL v ps bs) (hn : ps.length ≤ 1000000) :
    Calls Try.prog 53 #[.pointer (some ⟨a, 0, none⟩), .int .i64 f] w fun e w' => e = .returned (.pointer (pgAt ps bs f)) ∧ Below w.heap.size w w' := by
  obtain ⟨A, c, rfl⟩ := H.pgs.row.val
  have H1 := H.below ((Below.refl _ w).alloc (Nat.le_refl _) (.cells #[.int .i64 f] 3))
  have c2 := H.blk.cellv 2 rfl
  have hlt := H.blk.lt
  have hcall : ∀ (W : World), Below (w.alloc (.cells #[.int .i64 f] 3)).heap.size (w.alloc (.cells #[.int .i64 f] 3)) W → ∀ (j : Nat) (v : Value) (hj : j < ps.length) , (bs.map (fun b => Value.pointer (some ⟨b, 0, none⟩)))[j]? = some v →
      Calls Try.prog 84 #[v, .pointer (some ⟨w.heap.size, 0, none⟩)] W fun e W' => e = .returned (.bool ((fun p : Page => p.f == f) ps[j])) ∧ Below W.heap.size W W' := by
    intro W hB j v hj hv
    rw [List.getElem?_map] at hv
    obtain ⟨b, hb, rfl⟩ := Option.map_eq_some_iff.1 hv
    obtain ⟨_, hblk, _⟩ := H1.pgs.pg j b ps[j] hb (by simp [hj])
    refine page_is b w.heap.size ps[j].f f W ?_ ?_
    · exact (hB.cell (p := ⟨b, 0, none⟩) hblk.lt).trans (hblk.cellv 0 rfl)
    · exact (hB.cell (p := ⟨w.heap.size, 0, none⟩) (by simp)).trans ((Blk.new w 3 #[.int .i64 f]).cellv 0 rfl)
  have HC := Lib.hid hcall
  clear hcall
  cases hfi : ps.findIdx? (fun p => p.f == f) with
  | none =>
    have e1 : fidx (fun p : Page => p.f == f) ps = -1 := by unfold fidx; rw [hfi]
    have e2 : pgAt ps bs f = none := by unfold pgAt; rw [hfi]
    rw [e2]
    have E1 := Lib.hid e1
    clear e1 e2 hfi
    go_enter Try.func53, Try.ntmps53
    go_wp2_with fail
    refine (indexFunc_pageAt ps _ rfl (fun p => p.f == f) _ (k + 1) A c _ _ tag H1.pgs.row.rd hn (fun j v hj W hv hB => HC.out W hB j v hj hv)).mono ?_
    rintro e W ⟨rfl, hB⟩
    rw [E1.out]
    go_wp2
    go_ret
    exact ⟨rfl, ((Below.refl _ _).alloc (Nat.le_refl _) _).trans (hB.mono (by simp))⟩
  | some j =>
    obtain ⟨hj, _, _⟩ := List.findIdx?_eq_some_iff_getElem.1 hfi
    obtain ⟨b, hb⟩ : ∃ b, bs[j]? = some b := ⟨bs[j]'(by rw [H.pgs.len]; exact hj), by simp [H.pgs.len, hj]⟩
    have e1 : fidx (fun p : Page => p.f == f) ps = j := by unfold fidx; rw [hfi]
    have e2 : pgAt ps bs f = some ⟨b, 0, none⟩ := by unfold pgAt; rw [hfi]; simp [List.getD, hb]
    rw [e2]
    have E1 := Lib.hid e1
    obtain ⟨g, off, rfl, hcell, hg⟩ := H.pgs.row.rd.at_ (j := j) (u := .pointer (some ⟨b, 0, none⟩)) (by simp [hb])
    have HB := Lib.hid hb
    clear e1 e2 hfi hb
    go_enter Try.func53, Try.ntmps53
    go_wp2_with fail
    refine (indexFunc_pageAt ps _ rfl (fun p => p.f == f) _ (k + 1) _ c _ _ tag H1.pgs.row.rd hn (fun j v hj W hv hB => HC.out W hB j v hj hv)).mono ?_
    rintro e W ⟨rfl, hB⟩
    rw [E1.out]
    have hBw : Below w.heap.size w W := ((Below.refl _ _).alloc (Nat.le_refl _) _).trans (hB.mono (by simp))
    have c2' := (hBw.cell (p := ⟨a, 2, none⟩) hlt).trans c2
    have hcell' := (hBw.cell (p := ⟨g, off + j, none⟩) hg).trans hcell
    clear hB c2 hcell
    go_wp2
    go_ret
    exact ⟨rfl, hBw⟩
end Go.Proofs.Ytbmbgicdnegkfaa

/- The walks of store.Key, slot, Slot, Find. -/
namespace Go.Proofs.Ytbmbgicdnegkfaa
open Go Go.RowKit Sil

theorem find_of_idx {α : Type} {p : α → Bool} {l : List α} {j : Nat} (h : l.findIdx? p = some j) : ∃ hj : j < l.length, l.find? p = some l[j] := by
  obtain ⟨hj, hp, hb⟩ := List.findIdx?_eq_some_iff_getElem.1 h
  refine ⟨hj, ?_⟩
  rw [List.find?_eq_some_iff_getElem]
  exact ⟨hp, j, hj, rfl, fun k hk => by simpa using hb k hk⟩
theorem find_of_no {α : Type} {p : α → Bool} {l : List α} (h : l.findIdx? p = none) : l.find? p = none := by
  rw [List.find?_eq_none]; intro x hx; simpa using List.findIdx?_eq_none_iff.1 h x hx

/-- the page of a frame: there is none, or it lies at a block that is known -/
theorem pgAt_case {k : Nat} {tag : Nat → Nat} {w : World} {v : Value} {ps : List Page} {bs : List Nat} (H : PagesX k tag w v ps bs) (f : Int) :
    (pgAt ps bs f = none ∧ sPage ps f = none) ∨ ∃ (j b : Nat) (p : Page), pgAt ps bs f = some ⟨b, 0, none⟩ ∧ sPage ps f = some p ∧ bs[j]? = some b ∧ ps[j]? = some p ∧ p.f = f ∧ tag b = k + 2 ∧ Blk w b 103 p.cs.toArray ∧ p.slots.length = 8 ∧ ps.findIdx? (fun p => p.f == f) = some j := by
  unfold pgAt sPage
  cases h : ps.findIdx? (fun p => p.f == f) with
  | none => exact .inl ⟨rfl, find_of_no h⟩
  | some j =>
    obtain ⟨hj, hf⟩ := find_of_idx h
    obtain ⟨b, hb⟩ : ∃ b, bs[j]? = some b := ⟨bs[j]'(by rw [H.len]; exact hj), by simp [H.len, hj]⟩
    have hp : ps[j]? = some ps[j] := by simp [hj]
    obtain ⟨a1, a2, a3⟩ := H.pg j b _ hb hp
    have hpf := (List.findIdx?_eq_some_iff_getElem.1 h).2.1
    refine .inr ⟨j, b, ps[j], by simp [List.getD, hb], hf, hb, hp, by simpa using hpf, a1, a2, a3, rfl⟩

theorem store_key (k a bF bL : Nat) (tag : Nat → Nat) (v : Value) (ps : List Page) (bs : List Nat) (f : Int) (w : World) (H : StoreX k tag w a bF bL v ps bs) (hn : ps.length ≤ 1000000) :
    Calls Try.prog 16 #[.pointer (some ⟨a, 0, none⟩), .int .i64 f] w fun e w' => e = .returned (.tuple #[.agg (sKey ps f).cs.toArray, .bool (sPage ps f).isSome]) ∧ Below w.heap.size w w' := by
  have H1 := H.below ((Below.refl _ w).alloc (Nat.le_refl _) (.cells #[.int .i64 0, .int .i64 0, .int .i64 0] 37))
  have hb0 : Below w.heap.size w (w.alloc (.cells #[.int .i64 0, .int .i64 0, .int .i64 0] 37)) := (Below.refl _ w).alloc (Nat.le_refl _) _
  rcases pgAt_case H.pgs f with ⟨e1, e2⟩ | ⟨j, b, p, e1, e2, _, _, _, htb, hB, _, _⟩
  · have e3 : sKey ps f = Key.zero := by unfold sKey; rw [e2]
    rw [e3, e2]
    have E1 := Lib.hid e1
    clear e1 e2 e3
    go_enter Try.func16, Try.ntmps16
    go_wp2_with fail
    refine (store_page k a bF bL tag v ps bs f _ H1 hn).mono ?_
    rintro e W ⟨rfl, hb⟩
    rw [E1.out]
    have z := (Blk.new w 37 #[.int .i64 0, .int .i64 0, .int .i64 0]).below hb (by simp)
    have hbw := hb0.trans (hb.mono (by simp))
    have z0 := z.cellv 0 rfl
    have z1 := z.cellv 1 rfl
    have z2 := z.cellv 2 rfl
    have g0 := z.frozen 0
    have g1 := z.frozen 1
    have g2 := z.frozen 2
    clear hb
    go_wp2
    exact bodyPost_ret (ret_cell_tmp rfl rfl (((z.set_ 0 _).set_ 1 _).set_ 2 _) Try.underlying37 rfl (by kernel_rfl)) rfl ⟨rfl, ((hbw.setCell (by simp) _).setCell (by simp) _).setCell (by simp) _⟩
  · have e3 : sKey ps f = p.key := by unfold sKey; rw [e2]
    rw [e3, e2]
    have E1 := Lib.hid e1
    clear e1 e2 e3
    have hlt := hB.lt
    obtain ⟨pf, ⟨kg, kl, kr⟩, sl⟩ := p
    go_enter Try.func16, Try.ntmps16
    go_wp2_with fail
    refine (store_page k a bF bL tag v ps bs f _ H1 hn).mono ?_
    rintro e W ⟨rfl, hb⟩
    rw [E1.out]
    have z := (Blk.new w 37 #[.int .i64 0, .int .i64 0, .int .i64 0]).below hb (by simp)
    have hbw := hb0.trans (hb.mono (by simp))
    have hB2 := hB.below hbw hlt
    have z0 := z.cellv 0 rfl
    have z1 := z.cellv 1 rfl
    have z2 := z.cellv 2 rfl
    have g0 := z.frozen 0
    have g1 := z.frozen 1
    have g2 := z.frozen 2
    have p1 : W.cell? ⟨b, 1, none⟩ = some (.int .i64 kg) := hB2.cellv 1 rfl
    have p2 : W.cell? ⟨b, 2, none⟩ = some (.int .i64 kl) := hB2.cellv 2 rfl
    have p3 : W.cell? ⟨b, 3, none⟩ = some (.int .i64 kr) := hB2.cellv 3 rfl
    clear hb
    go_wp2
    exact bodyPost_ret (ret_cell_tmp rfl rfl (((z.set_ 0 _).set_ 1 _).set_ 2 _) Try.underlying37 rfl (by kernel_rfl)) rfl ⟨rfl, ((hbw.setCell (by simp) _).setCell (by simp) _).setCell (by simp) _⟩

/-- where a slot lies -/
def slAt (ps : List Page) (bs : List Nat) (f i : Int) : Option Addr := if 0 ≤ i ∧ i < 8 then (pgAt ps bs f).map (fun a => ⟨a.block, 4 + i.toNat * 5, none⟩) else none

theorem store_slot (k a bF bL : Nat) (tag : Nat → Nat) (v : Value) (ps : List Page) (bs : List Nat) (f i : Int) (w : World) (H : StoreX k tag w a bF bL v ps bs) (hn : ps.length ≤ 1000000) :
    Calls Try.prog 68 #[.pointer (some ⟨a, 0, none⟩), .int .i64 f, .int .i64 i] w fun e w' => e = .returned (.pointer (slAt ps bs f i)) ∧ Below w.heap.size w w' := by
  rcases pgAt_case H.pgs f with ⟨e1, e2⟩ | ⟨j, b, p, e1, e2, _, _, _, htb, hB, _, _⟩
  · have e3 : slAt ps bs f i = none := by unfold slAt; rw [e1]; simp
    rw [e3]
    have E1 := Lib.hid e1
    clear e1 e2 e3
    go_enter Try.func68, Try.ntmps68
    go_wp2_with fail
    refine (store_page k a bF bL tag v ps bs f _ H hn).mono ?_
    rintro e W ⟨rfl, hb⟩
    rw [E1.out]
    go_wp2
    go_ret
    exact ⟨rfl, hb⟩
  · have E1 := Lib.hid e1
    by_cases h1 : i < 0
    · have e3 : slAt ps bs f i = none := by unfold slAt; rw [if_neg (by omega)]
      rw [e3]
      clear e1 e2 e3
      go_enter Try.func68, Try.ntmps68
      go_wp2_with fail
      refine (store_page k a bF bL tag v ps bs f _ H hn).mono ?_
      rintro e W ⟨rfl, hb⟩
      rw [E1.out]
      go_wp2
      go_ret
      exact ⟨rfl, hb⟩
    by_cases h2 : 8 ≤ i
    · have e3 : slAt ps bs f i = none := by unfold slAt; rw [if_neg (by omega)]
      rw [e3]
      clear e1 e2 e3
      go_enter Try.func68, Try.ntmps68
      go_wp2_with fail
      refine (store_page k a bF bL tag v ps bs f _ H hn).mono ?_
      rintro e W ⟨rfl, hb⟩
      rw [E1.out]
      go_wp2
      go_ret
      exact ⟨rfl, hb⟩
    · have e3 : slAt ps bs f i = some ⟨b, 4 + i.toNat * 5, none⟩ := by unfold slAt; rw [if_pos (by omega), e1]; rfl
      have h3 : 0 ≤ i := by omega
      have h4 : i < 8 := by omega
      rw [e3]
      clear e1 e2 e3 h1 h2
      go_enter Try.func68, Try.ntmps68
      go_wp2_with fail
      refine (store_page k a bF bL tag v ps bs f _ H hn).mono ?_
      rintro e W ⟨rfl, hb⟩
      rw [E1.out]
      go_wp2
      go_ret
      exact ⟨rfl, hb⟩

theorem slAt_case {k : Nat} {tag : Nat → Nat} {w : World} {v : Value} {ps : List Page} {bs : List Nat} (H : PagesX k tag w v ps bs) (f i : Int) :
    (slAt ps bs f i = none ∧ sSlot? ps f i = none) ∨ ∃ (j b n : Nat) (p : Page) (x : Slot), slAt ps bs f i = some ⟨b, 4 + n * 5, none⟩ ∧ sSlot? ps f i = some x ∧ i = n ∧ n < 8 ∧ bs[j]? = some b ∧ ps[j]? = some p ∧ p.f = f ∧ tag b = k + 2 ∧ Blk w b 103 p.cs.toArray ∧ p.slots.length = 8 ∧ p.slots[n]? = some x ∧ ps.findIdx? (fun p => p.f == f) = some j := by
  rcases pgAt_case H f with ⟨e1, e2⟩ | ⟨j, b, p, e1, e2, a1, a2, a3, a4, a5, a6, a7⟩
  · exact .inl ⟨by unfold slAt; rw [e1]; simp, by unfold sSlot?; rw [e2]⟩
  · by_cases h : 0 ≤ i ∧ i < 8
    · obtain ⟨n, rfl⟩ := Int.eq_ofNat_of_zero_le h.1
      have hn : n < 8 := by omega
      refine .inr ⟨j, b, n, p, p.slots[n]'(by omega), by unfold slAt; rw [if_pos h, e1]; rfl, by unfold sSlot?; rw [e2]; simp [h, a6, hn], rfl, hn, a1, a2, a3, a4, a5, a6, by simp [a6, hn], a7⟩
    · exact .inl ⟨by unfold slAt; rw [if_neg h], by unfold sSlot?; rw [e2]; simp only []; rw [if_neg h]⟩

theorem store_Slot (k a bF bL : Nat) (tag : Nat → Nat) (v : Value) (ps : List Page) (bs : List Nat) (f i : Int) (w : World) (H : StoreX k tag w a bF bL v ps bs) (hn : ps.length ≤ 1000000) :
    Calls Try.prog 27 #[.pointer (some ⟨a, 0, none⟩), .int .i64 f, .int .i64 i] w fun e w' => e = .returned (.tuple #[.agg (sSlot ps f i).cs.toArray, .bool (sSlot? ps f i).isSome]) ∧ Below w.heap.size w w' := by
  have hb0 : Below w.heap.size w (w.alloc (.cells #[.int .i64 0, .int .i64 0, .bool false, .bool false, .bool false] 62)) := (Below.refl _ w).alloc (Nat.le_refl _) _
  have H1 := H.below hb0
  unfold sSlot
  rcases slAt_case H.pgs f i with ⟨e1, e2⟩ | ⟨j, b, n, p, x, e1, e2, rfl, hn8, _, _, _, htb, hB, hsl, hx, _⟩
  · rw [e2]
    have E1 := Lib.hid e1
    clear e1 e2
    go_enter Try.func27, Try.ntmps27
    go_wp2_with fail
    refine (store_slot k a bF bL tag v ps bs f i _ H1 hn).mono ?_
    rintro e W ⟨rfl, hb⟩
    rw [E1.out]
    have z := (Blk.new w 62 #[.int .i64 0, .int .i64 0, .bool false, .bool false, .bool false]).below hb (by simp)
    have hbw := hb0.trans (hb.mono (by simp))
    have z0 := z.cellv 0 rfl
    have z1 := z.cellv 1 rfl
    have z2 := z.cellv 2 rfl
    have z3 := z.cellv 3 rfl
    have z4 := z.cellv 4 rfl
    have g0 := z.frozen 0
    have g1 := z.frozen 1
    have g2 := z.frozen 2
    have g3 := z.frozen 3
    have g4 := z.frozen 4
    clear hb
    go_wp2
    exact bodyPost_ret (ret_cell_tmp rfl rfl (((((z.set_ 0 _).set_ 1 _).set_ 2 _).set_ 3 _).set_ 4 _) Try.underlying62 rfl (by kernel_rfl)) rfl ⟨rfl, ((((hbw.setCell (by simp) _).setCell (by simp) _).setCell (by simp) _).setCell (by simp) _).setCell (by simp) _⟩
  · rw [e2]
    have E1 := Lib.hid e1
    clear e1 e2
    have hlt := hB.lt
    have q0 := page_slot hx 0 (by omega)
    have q1 := page_slot hx 1 (by omega)
    have q2 := page_slot hx 2 (by omega)
    have q3 := page_slot hx 3 (by omega)
    have q4 := page_slot hx 4 (by omega)
    obtain ⟨xk, xt, ⟨xw, xu, xx⟩⟩ := x
    go_enter Try.func27, Try.ntmps27
    go_wp2_with fail
    refine (store_slot k a bF bL tag v ps bs f n _ H1 hn).mono ?_
    rintro e W ⟨rfl, hb⟩
    rw [E1.out]
    have z := (Blk.new w 62 #[.int .i64 0, .int .i64 0, .bool false, .bool false, .bool false]).below hb (by simp)
    have hbw := hb0.trans (hb.mono (by simp))
    have hB2 := hB.below hbw hlt
    have z0 := z.cellv 0 rfl
    have z1 := z.cellv 1 rfl
    have z2 := z.cellv 2 rfl
    have z3 := z.cellv 3 rfl
    have z4 := z.cellv 4 rfl
    have g0 := z.frozen 0
    have g1 := z.frozen 1
    have g2 := z.frozen 2
    have g3 := z.frozen 3
    have g4 := z.frozen 4
    have p0 : W.cell? ⟨b, 4 + n * 5, none⟩ = some (.int .i64 xk) := hB2.cellv (4 + n * 5) (by simpa [Slot.cs] using q0)
    have p1 : W.cell? ⟨b, 4 + n * 5 + 1, none⟩ = some (.int .i64 xt) := hB2.cellv (4 + n * 5 + 1) (by simpa [Slot.cs] using q1)
    have p2 : W.cell? ⟨b, 4 + n * 5 + 2, none⟩ = some (.bool xw) := hB2.cellv (4 + n * 5 + 2) (by simpa [Slot.cs] using q2)
    have p3 : W.cell? ⟨b, 4 + n * 5 + 3, none⟩ = some (.bool xu) := hB2.cellv (4 + n * 5 + 3) (by simpa [Slot.cs] using q3)
    have p4 : W.cell? ⟨b, 4 + n * 5 + 4, none⟩ = some (.bool xx) := hB2.cellv (4 + n * 5 + 4) (by simpa [Slot.cs] using q4)
    clear hb q0 q1 q2 q3 q4
    go_wp2
    exact bodyPost_ret (ret_cell_tmp rfl rfl (((((z.set_ 0 _).set_ 1 _).set_ 2 _).set_ 3 _).set_ 4 _) Try.underlying62 rfl (by kernel_rfl)) rfl ⟨rfl, ((((hbw.setCell (by simp) _).setCell (by simp) _).setCell (by simp) _).setCell (by simp) _).setCell (by simp) _⟩
end Go.Proofs.Ytbmbgicdnegkfaa

/- The walks of store.Find, Of, All and right. -/
namespace Go.Proofs.Ytbmbgicdnegkfaa
open Go Go.RowKit Sil

theorem sFind_some {ps : List Page} {k : Key} {j : Nat} (hj : j < ps.length) (h : ps[j].key = k) (hq : ∀ (i : Nat) (hi : i < ps.length), i < j → ps[i].key ≠ k) : sFind ps k = some ps[j].f := by
  unfold sFind
  have : ps.find? (fun p => decide (p.key = k)) = some ps[j] := by
    rw [List.find?_eq_some_iff_getElem]
    exact ⟨by simpa using h, j, hj, rfl, fun i hi => by simpa using hq i (by omega) hi⟩
  rw [this]; rfl
theorem sFind_none {ps : List Page} {k : Key} (hq : ∀ (i : Nat) (hi : i < ps.length), ps[i].key ≠ k) : sFind ps k = none := by
  unfold sFind
  have : ps.find? (fun p => decide (p.key = k)) = none := by
    rw [List.find?_eq_none]; intro x hx
    obtain ⟨i, hi, rfl⟩ := List.getElem_of_mem hx
    simpa using hq i hi
  rw [this]; rfl

theorem store_find (k a bF bL : Nat) (tag : Nat → Nat) (v : Value) (ps : List Page) (bs : List Nat) (key : Key) (w : World) (H : StoreX k tag w a bF bL v ps bs) (hn : ps.length ≤ 1000000) :
    Calls Try.prog 20 #[.pointer (some ⟨a, 0, none⟩), .agg key.cs.toArray] w fun e w' => e = .returned (.tuple #[.int .i64 ((sFind ps key).getD 0), .bool (sFind ps key).isSome]) ∧ Below w.heap.size w w' := by
  obtain ⟨kg, kl, kr⟩ := key
  simp only [Key.cs]
  obtain ⟨A, c, rfl⟩ := H.pgs.row.val
  have c2 := H.blk.cellv 2 rfl
  have hlta := H.blk.lt
  have hb0 : Below w.heap.size w (w.alloc (.cells #[.int .i64 kg, .int .i64 kl, .int .i64 kr] 37)) := (Below.refl _ w).alloc (Nat.le_refl _) _
  generalize hR : sFind ps ⟨kg, kl, kr⟩ = R
  have HR := Lib.hid hR
  clear hR
  go_enter Try.func20, Try.ntmps20
  go_wp2
  go_loopw [13] (fun i wr => ∃ j : Nat, j ≤ ps.length ∧ i = .int .i64 j ∧ Hid (∀ (i : Nat) (hi : i < ps.length), i < j → ps[i].key ≠ ⟨kg, kl, kr⟩) ∧ Below w.heap.size w wr ∧ Blk wr w.heap.size 37 #[.int .i64 kg, .int .i64 kl, .int .i64 kr]) (fun i _ => ps.length - (intOf i).toNat)
  case atStart => exact ⟨0, by omega, rfl, Lib.hid (fun i _ h => by omega), hb0, Blk.new w _ _⟩
  case round =>
    clear hb0 c2
    obtain ⟨j, hj, rfl, HQ, hB, hK⟩ := hrel
    by_cases hlt : j < ps.length
    · obtain ⟨p, hp⟩ : ∃ p, p = ps[j]'hlt := ⟨_, rfl⟩
      have hp? : ps[j]? = some p := by rw [hp]; simp [hlt]
      obtain ⟨b, hb⟩ : ∃ b, bs[j]? = some b := ⟨bs[j]'(by rw [H.pgs.len]; exact hlt), by simp [H.pgs.len, hlt]⟩
      obtain ⟨_, hblk, _⟩ := H.pgs.pg j b p hb hp?
      obtain ⟨g, off, rfl, hcell, hg⟩ := H.pgs.row.rd.at_ (j := j) (u := .pointer (some ⟨b, 0, none⟩)) (by simp [hb])
      have hcell' := (hB.cell (p := ⟨g, off + j, none⟩) hg).trans hcell
      have hblk' := hblk.below hB hblk.lt
      have HP : Hid (p = ps[j]'hlt) := Lib.hid hp
      obtain ⟨pf, ⟨pg, pl, pr⟩, sl⟩ := p
      have p0 : wr.cell? ⟨b, 0, none⟩ = some (.int .i64 pf) := hblk'.cellv 0 rfl
      have p1 : wr.cell? ⟨b, 1, none⟩ = some (.int .i64 pg) := hblk'.cellv 1 rfl
      have p2 : wr.cell? ⟨b, 2, none⟩ = some (.int .i64 pl) := hblk'.cellv 2 rfl
      have p3 : wr.cell? ⟨b, 3, none⟩ = some (.int .i64 pr) := hblk'.cellv 3 rfl
      have k0 := hK.cellv 0 rfl
      have k1 := hK.cellv 1 rfl
      have k2 := hK.cellv 2 rfl
      clear hp hp? hb hcell hblk hblk'
      cases e1 : (pg == kg) <;> cases e2 : (pl == kl) <;> cases e3 : (pr == kr)
      case true.true.true =>
        go_wp2
        go_quiet (fail)
        go_wp2
        go_ret2
        refine ⟨?_, belowDN hB _⟩
        have hk : (ps[j]'hlt).key = ⟨kg, kl, kr⟩ := by
          rw [← HP.out]
          simp at e1 e2 e3
          simp [e1, e2, e3]
        rw [← HR.out, sFind_some hlt hk (fun i hi h => HQ.out i hi h), ← HP.out]
        rfl
      all_goals
        go_wp2
        go_quiet (fail)
        go_wp2
        go_roundw
        case rel =>
          refine ⟨j + 1, by omega, by go_num, Lib.hid (fun i hi h => ?_), belowDN hB _, hK.drewN _⟩
          by_cases e : i = j
          · subst e
            rw [← HP.out]
            intro h; injection h with h1 h2 h3
            simp [h1, h2, h3] at e1 e2 e3
          · exact HQ.out i hi (by omega)
        case measure => simp [intOf]; omega
    · go_wp2
      go_ret2
      refine ⟨?_, hB⟩
      rw [← HR.out, sFind_none (fun i hi => HQ.out i hi (by omega))]
      rfl

theorem store_right (key : Key) (w : World) :
    Calls Try.prog 87 #[.agg key.cs.toArray] w fun e w' => e = .returned (.bool (keyRight key)) ∧ Below w.heap.size w w' := by
  obtain ⟨kg, kl, kr⟩ := key
  simp only [Key.cs]
  have hb0 : Below w.heap.size w (w.alloc (.cells #[.int .i64 kg, .int .i64 kl, .int .i64 kr] 37)) := (Below.refl _ w).alloc (Nat.le_refl _) _
  generalize hR : keyRight ⟨kg, kl, kr⟩ = R
  have HR := Lib.hid hR
  clear hR
  go_enter Try.func87, Try.ntmps87
  go_wp2
  all_goals
    go_ret
    refine ⟨?_, (Below.refl _ w).alloc (Nat.le_refl _) _⟩
    rw [← HR.out]
    clear HR hb0
    simp [keyRight] <;> omega

theorem of_is (key : Key) (g : Int) (b : Nat) (w : World) (h : w.cell? ⟨b, 0, none⟩ = some (.int .i64 g)) :
    Calls Try.prog 52 #[.agg key.cs.toArray, .pointer (some ⟨b, 0, none⟩)] w fun e w' => e = .returned (.bool (key.role == 0 && key.g == g)) ∧ Below w.heap.size w w' := by
  obtain ⟨kg, kl, kr⟩ := key
  simp only [Key.cs]
  have hb0 : Below w.heap.size w (w.alloc (.cells #[.int .i64 kg, .int .i64 kl, .int .i64 kr] 37)) := (Below.refl _ w).alloc (Nat.le_refl _) _
  have h1 : (w.alloc (.cells #[.int .i64 kg, .int .i64 kl, .int .i64 kr] 37)).cell? ⟨b, 0, none⟩ = some (.int .i64 g) := cell_later hb0 h
  cases e1 : (kr == 0)
  all_goals
    go_enter Try.func52, Try.ntmps52
    go_wp2
    go_ret
    exact ⟨by simp, (Below.refl _ w).alloc (Nat.le_refl _) _⟩

theorem all_is (key : Key) (w : World) :
    Calls Try.prog 67 #[.agg key.cs.toArray] w fun e w' => e = .returned (.bool true) ∧ Below w.heap.size w w' := by
  obtain ⟨kg, kl, kr⟩ := key
  simp only [Key.cs]
  go_enter Try.func67, Try.ntmps67
  go_wp2
  go_ret
  exact ⟨rfl, (Below.refl _ w).alloc (Nat.le_refl _) _⟩
end Go.Proofs.Ytbmbgicdnegkfaa

/- The walks of store.frames, Of and All. -/
namespace Go.Proofs.Ytbmbgicdnegkfaa
open Go Go.RowKit Sil

def framesOf (q : Key → Bool) (ps : List Page) : List Int := (ps.filter (fun p => q p.key)).map (·.f)

theorem frames_of (q : Key → Bool) (capt : Nat) (k a bF bL : Nat) (tag : Nat → Nat) (v : Value) (ps : List Page) (bs : List Nat) (w : World) (H : StoreX k tag w a bF bL v ps bs) (hn : ps.length ≤ 1000000)
    (hf : ∀ (key : Key) (W : World), Below w.heap.size w W → Calls Try.prog 52 (#[.agg key.cs.toArray] ++ #[.pointer (some ⟨capt, 0, none⟩)]) W fun e W' => e = .returned (.bool (q key)) ∧ Below W.heap.size W W') :
    Calls Try.prog 51 #[.pointer (some ⟨a, 0, none⟩), .func (.func 52) #[] (#[] ++ #[.pointer (some ⟨capt, 0, none⟩)])] w fun e w' =>
      ∃ v', e = .returned v' ∧ w'.ownsRow w.heap.size 3 1 v' (framesOf q ps).length ((framesOf q ps).map (Value.int .i64)) ∧ Below w.heap.size w w' := by
  obtain ⟨i0, hi, hz0, hz1, hz2⟩ := info_parts info_int
  obtain ⟨A, c, rfl⟩ := H.pgs.row.val
  have c2 := H.blk.cellv 2 rfl
  have hlta := H.blk.lt
  have HF := Lib.hid hf
  clear hf
  go_enter Try.func51, Try.ntmps51
  go_wp2
  go_loopw [5, 13] (fun o i wr => ∃ j : Nat, j ≤ ps.length ∧ i = .int .i64 j ∧ (framesOf q (ps.take j)).length ≤ j ∧ wr.ownsRow w.heap.size 3 1 o (framesOf q (ps.take j)).length ((framesOf q (ps.take j)).map (Value.int .i64)) ∧ Below w.heap.size w wr) (fun _ i _ => ps.length - (intOf i).toNat)
  case atStart => exact ⟨0, by omega, rfl, by simp [framesOf], by simpa [framesOf] using World.ownsRow_nil w w.heap.size 3 1, Below.refl _ _⟩
  case round =>
    clear c2 hlta
    obtain ⟨j, hj, rfl, hfl, hown, hB⟩ := hrel
    by_cases hlt : j < ps.length
    · obtain ⟨p, hp⟩ : ∃ p, p = ps[j]'hlt := ⟨_, rfl⟩
      have hp? : ps[j]? = some p := by rw [hp]; simp [hlt]
      obtain ⟨b, hb⟩ : ∃ b, bs[j]? = some b := ⟨bs[j]'(by rw [H.pgs.len]; exact hlt), by simp [H.pgs.len, hlt]⟩
      obtain ⟨_, hblk, _⟩ := H.pgs.pg j b p hb hp?
      obtain ⟨g, off, rfl, hcell, hg⟩ := H.pgs.row.rd.at_ (j := j) (u := .pointer (some ⟨b, 0, none⟩)) (by simp [hb])
      have hcell' := (hB.cell (p := ⟨g, off + j, none⟩) hg).trans hcell
      have hblk' := hblk.below hB hblk.lt
      have hstep : Hid (framesOf q (ps.take (j + 1)) = framesOf q (ps.take j) ++ (if q p.key then [p.f] else [])) := by
        refine Lib.hid ?_
        rw [List.take_succ_eq_append_getElem hlt, ← hp]
        unfold framesOf
        rw [List.filter_append, List.map_append]
        cases h : q p.key <;> simp [h]
      have HCALL := Lib.hid (HF.out p.key wr hB)
      have hltb := hblk.lt
      obtain ⟨pf, ⟨pg, pl, pr⟩, sl⟩ := p
      have p0 : wr.cell? ⟨b, 0, none⟩ = some (.int .i64 pf) := hblk'.cellv 0 rfl
      have p1 : wr.cell? ⟨b, 1, none⟩ = some (.int .i64 pg) := hblk'.cellv 1 rfl
      have p2 : wr.cell? ⟨b, 2, none⟩ = some (.int .i64 pl) := hblk'.cellv 2 rfl
      have p3 : wr.cell? ⟨b, 3, none⟩ = some (.int .i64 pr) := hblk'.cellv 3 rfl
      simp only [Key.cs] at HCALL
      clear hp hp? hb hcell hblk hblk'
      cases hq : q ⟨pg, pl, pr⟩
      · rw [hq] at HCALL hstep
        clear hq
        go_wp2_with fail
        refine HCALL.out.mono ?_
        rintro e W ⟨rfl, hb2⟩
        have hB2 := hB.trans (hb2.mono hB.size)
        have hown2 := ownsRow_below hown hb2
        clear hb2 p0 p1 p2 p3 hcell'
        go_wp2
        go_roundw
        case rel =>
          exact ⟨j + 1, by omega, by go_num, by rw [hstep.out]; simp; omega, by rw [hstep.out]; simpa using hown2, hB2⟩
        case measure => simp [intOf]; omega
      · rw [hq] at HCALL hstep
        clear hq
        go_wp2_with fail
        refine HCALL.out.mono ?_
        rintro e W ⟨rfl, hb2⟩
        have hB2 := hB.trans (hb2.mono hB.size)
        have hown2 := ownsRow_below hown hb2
        have hlb : b < wr.heap.size := World.block_lt_of_cell? wr _ p0
        have p0' := (hb2.cell (p := ⟨b, 0, none⟩) hlb).trans p0
        clear hb2 p0 p1 p2 p3 hcell'
        go_wp2_with (at_builtin; refine wpList_append_own _ rfl _ _ 45 rfl w.heap.size 3 i0 _ 1 8 Try.underlying45 hi hz0 hz1 hz2 rfl (by decide) _ _ _ rfl (hown2.alloc _) ⟨W.heap.size, 0, none⟩ 1 1 [.int .i64 pf] rfl rfl (cell_one_new _ _ _) (by simp [Value.oneCell']) (by unfold maxLen; omega) (by omega) (by have := hB2.size; simp; omega) ?_; intro v1 w1 hown1 hgrow1 _)
        have hB3 : Below w.heap.size w w1 := (hB2.alloc hB2.size _).grown hgrow1 (by have := hB2.size; simp; omega) (fun g hg => (hown2.lt g hg).1)
        go_roundw
        case rel =>
          exact ⟨j + 1, by omega, by go_num, by rw [hstep.out]; simp; omega, by rw [hstep.out]; simpa using hown1, hB3⟩
        case measure => simp [intOf]; omega
    · go_wp2
      go_ret
      have hj' : j = ps.length := by omega
      subst hj'
      rw [List.take_length] at hown
      exact ⟨_, rfl, hown, hB⟩
theorem frames_all (q : Key → Bool) (capt : Unit) (k a bF bL : Nat) (tag : Nat → Nat) (v : Value) (ps : List Page) (bs : List Nat) (w : World) (H : StoreX k tag w a bF bL v ps bs) (hn : ps.length ≤ 1000000)
    (hf : ∀ (key : Key) (W : World), Below w.heap.size w W → Calls Try.prog 67 (#[.agg key.cs.toArray]) W fun e W' => e = .returned (.bool (q key)) ∧ Below W.heap.size W W') :
    Calls Try.prog 51 #[.pointer (some ⟨a, 0, none⟩), .func (.func 67) #[] (#[])] w fun e w' =>
      ∃ v', e = .returned v' ∧ w'.ownsRow w.heap.size 3 1 v' (framesOf q ps).length ((framesOf q ps).map (Value.int .i64)) ∧ Below w.heap.size w w' := by
  obtain ⟨i0, hi, hz0, hz1, hz2⟩ := info_parts info_int
  obtain ⟨A, c, rfl⟩ := H.pgs.row.val
  have c2 := H.blk.cellv 2 rfl
  have hlta := H.blk.lt
  have HF := Lib.hid hf
  clear hf
  go_enter Try.func51, Try.ntmps51
  go_wp2
  go_loopw [5, 13] (fun o i wr => ∃ j : Nat, j ≤ ps.length ∧ i = .int .i64 j ∧ (framesOf q (ps.take j)).length ≤ j ∧ wr.ownsRow w.heap.size 3 1 o (framesOf q (ps.take j)).length ((framesOf q (ps.take j)).map (Value.int .i64)) ∧ Below w.heap.size w wr) (fun _ i _ => ps.length - (intOf i).toNat)
  case atStart => exact ⟨0, by omega, rfl, by simp [framesOf], by simpa [framesOf] using World.ownsRow_nil w w.heap.size 3 1, Below.refl _ _⟩
  case round =>
    clear c2 hlta
    obtain ⟨j, hj, rfl, hfl, hown, hB⟩ := hrel
    by_cases hlt : j < ps.length
    · obtain ⟨p, hp⟩ : ∃ p, p = ps[j]'hlt := ⟨_, rfl⟩
      have hp? : ps[j]? = some p := by rw [hp]; simp [hlt]
      obtain ⟨b, hb⟩ : ∃ b, bs[j]? = some b := ⟨bs[j]'(by rw [H.pgs.len]; exact hlt), by simp [H.pgs.len, hlt]⟩
      obtain ⟨_, hblk, _⟩ := H.pgs.pg j b p hb hp?
      obtain ⟨g, off, rfl, hcell, hg⟩ := H.pgs.row.rd.at_ (j := j) (u := .pointer (some ⟨b, 0, none⟩)) (by simp [hb])
      have hcell' := (hB.cell (p := ⟨g, off + j, none⟩) hg).trans hcell
      have hblk' := hblk.below hB hblk.lt
      have hstep : Hid (framesOf q (ps.take (j + 1)) = framesOf q (ps.take j) ++ (if q p.key then [p.f] else [])) := by
        refine Lib.hid ?_
        rw [List.take_succ_eq_append_getElem hlt, ← hp]
        unfold framesOf
        rw [List.filter_append, List.map_append]
        cases h : q p.key <;> simp [h]
      have HCALL := Lib.hid (HF.out p.key wr hB)
      have hltb := hblk.lt
      obtain ⟨pf, ⟨pg, pl, pr⟩, sl⟩ := p
      have p0 : wr.cell? ⟨b, 0, none⟩ = some (.int .i64 pf) := hblk'.cellv 0 rfl
      have p1 : wr.cell? ⟨b, 1, none⟩ = some (.int .i64 pg) := hblk'.cellv 1 rfl
      have p2 : wr.cell? ⟨b, 2, none⟩ = some (.int .i64 pl) := hblk'.cellv 2 rfl
      have p3 : wr.cell? ⟨b, 3, none⟩ = some (.int .i64 pr) := hblk'.cellv 3 rfl
      simp only [Key.cs] at HCALL
      clear hp hp? hb hcell hblk hblk'
      cases hq : q ⟨pg, pl, pr⟩
      · rw [hq] at HCALL hstep
        clear hq
        go_wp2_with fail
        refine HCALL.out.mono ?_
        rintro e W ⟨rfl, hb2⟩
        have hB2 := hB.trans (hb2.mono hB.size)
        have hown2 := ownsRow_below hown hb2
        clear hb2 p0 p1 p2 p3 hcell'
        go_wp2
        go_roundw
        case rel =>
          exact ⟨j + 1, by omega, by go_num, by rw [hstep.out]; simp; omega, by rw [hstep.out]; simpa using hown2, hB2⟩
        case measure => simp [intOf]; omega
      · rw [hq] at HCALL hstep
        clear hq
        go_wp2_with fail
        refine HCALL.out.mono ?_
        rintro e W ⟨rfl, hb2⟩
        have hB2 := hB.trans (hb2.mono hB.size)
        have hown2 := ownsRow_below hown hb2
        have hlb : b < wr.heap.size := World.block_lt_of_cell? wr _ p0
        have p0' := (hb2.cell (p := ⟨b, 0, none⟩) hlb).trans p0
        clear hb2 p0 p1 p2 p3 hcell'
        go_wp2_with (at_builtin; refine wpList_append_own _ rfl _ _ 45 rfl w.heap.size 3 i0 _ 1 8 Try.underlying45 hi hz0 hz1 hz2 rfl (by decide) _ _ _ rfl (hown2.alloc _) ⟨W.heap.size, 0, none⟩ 1 1 [.int .i64 pf] rfl rfl (cell_one_new _ _ _) (by simp [Value.oneCell']) (by unfold maxLen; omega) (by omega) (by have := hB2.size; simp; omega) ?_; intro v1 w1 hown1 hgrow1 _)
        have hB3 : Below w.heap.size w w1 := (hB2.alloc hB2.size _).grown hgrow1 (by have := hB2.size; simp; omega) (fun g hg => (hown2.lt g hg).1)
        go_roundw
        case rel =>
          exact ⟨j + 1, by omega, by go_num, by rw [hstep.out]; simp; omega, by rw [hstep.out]; simpa using hown1, hB3⟩
        case measure => simp [intOf]; omega
    · go_wp2
      go_ret
      have hj' : j = ps.length := by omega
      subst hj'
      rw [List.take_length] at hown
      exact ⟨_, rfl, hown, hB⟩

theorem store_of (k a bF bL : Nat) (tag : Nat → Nat) (v : Value) (ps : List Page) (bs : List Nat) (g : Int) (w : World) (H : StoreX k tag w a bF bL v ps bs) (hn : ps.length ≤ 1000000) :
    Calls Try.prog 15 #[.pointer (some ⟨a, 0, none⟩), .int .i64 g] w fun e w' =>
      ∃ v', e = .returned v' ∧ w'.ownsRow w.heap.size 3 1 v' (sOf ps g).length ((sOf ps g).map (Value.int .i64)) ∧ Below w.heap.size w w' := by
  have hb0 : Below w.heap.size w (w.alloc (.cells #[.int .i64 g] 3)) := (Below.refl _ w).alloc (Nat.le_refl _) _
  have H1 := H.below hb0
  go_enter Try.func15, Try.ntmps15
  go_wp2_with fail
  refine (frames_of (fun key => key.role == 0 && key.g == g) w.heap.size k a bF bL tag v ps bs _ H1 hn ?_).mono ?_
  · intro key W hB
    exact of_is key g w.heap.size W ((hB.cell (p := ⟨w.heap.size, 0, none⟩) (by simp)).trans ((Blk.new w 3 #[.int .i64 g]).cellv 0 rfl))
  rintro e W ⟨v', rfl, hown, hB⟩
  have hown2 := ownsRow_mono hown (B' := w.heap.size) (by simp)
  have hB2 := hb0.trans (hB.mono (by simp))
  clear hown hB
  go_wp2
  go_ret
  exact ⟨_, rfl, hown2, hB2⟩

theorem store_all (k a bF bL : Nat) (tag : Nat → Nat) (v : Value) (ps : List Page) (bs : List Nat) (w : World) (H : StoreX k tag w a bF bL v ps bs) (hn : ps.length ≤ 1000000) :
    Calls Try.prog 26 #[.pointer (some ⟨a, 0, none⟩)] w fun e w' =>
      ∃ v', e = .returned v' ∧ w'.ownsRow w.heap.size 3 1 v' (sAll ps).length ((sAll ps).map (Value.int .i64)) ∧ Below w.heap.size w w' := by
  have hE : Hid (framesOf (fun _ => true) ps = sAll ps) := Lib.hid (by unfold framesOf sAll; rw [List.filter_eq_self.2 (by simp)])
  go_enter Try.func26, Try.ntmps26
  go_wp2_with fail
  refine (frames_all (fun _ => true) () k a bF bL tag v ps bs _ H hn (fun key W _ => all_is key W)).mono ?_
  rintro e W ⟨v', rfl, hown, hB⟩
  rw [hE.out] at hown
  go_wp2
  go_ret
  exact ⟨_, rfl, hown, hB⟩
end Go.Proofs.Ytbmbgicdnegkfaa

/- The walks of store.put, Child, Leaf, Clear. -/
namespace Go.Proofs.Ytbmbgicdnegkfaa
open Go Go.RowKit Sil

/-- a store and its host's memory -/
structure SH (tag : Nat → Nat) (w : World) (a bF bL : Nat) (v : Value) (ps : List Page) (bs : List Nat) (n : Nat) (ws : List Int) : Prop where
  st : StoreX 6 tag w a bF bL v ps bs
  ho : HostR 1 tag w bF n ws
  hn : ps.length ≤ 1000000

theorem SH.mod {tag tag' : Nat → Nat} {w w' : World} {a bF bL n : Nat} {v : Value} {ps : List Page} {bs : List Nat} {ws : List Int} {T : List Nat} (h : SH tag w a bF bL v ps bs n ws) (hm : Mod T tag tag' w w')
    (hT : ∀ x ∈ T, x ≠ 1 ∧ x ≠ 2 ∧ x ≠ 6 ∧ x ≠ 7 ∧ x ≠ 8) : SH tag' w' a bF bL v ps bs n ws :=
  ⟨h.st.mod hm (fun h => (hT _ h).2.2.1 rfl) (fun h => (hT _ h).2.2.2.1 rfl) (fun h => (hT _ h).2.2.2.2 rfl), h.ho.mod hm (fun h => (hT _ h).1 rfl) (fun h => (hT _ h).2.1 rfl), h.hn⟩
theorem SH.below {tag : Nat → Nat} {w w' : World} {a bF bL n : Nat} {v : Value} {ps : List Page} {bs : List Nat} {ws : List Int} (h : SH tag w a bF bL v ps bs n ws) (hb : Below w.heap.size w w') : SH tag w' a bF bL v ps bs n ws :=
  h.mod (T := []) (Mod.of_below hb) (by simp)

theorem Blk.heap {w w' : World} {g : Nat} {t : TypeId} {cs : Array Value} (h : Blk w g t cs) (e : w'.heap = w.heap) : Blk w' g t cs := by unfold Blk at *; rw [e]; exact h
theorem StoreX.heap {k : Nat} {tag : Nat → Nat} {w w' : World} {a bF bL : Nat} {v : Value} {ps : List Page} {bs : List Nat} (h : StoreX k tag w a bF bL v ps bs) (e : w'.heap = w.heap) : StoreX k tag w' a bF bL v ps bs := by
  refine ⟨h.ta, Blk.heap h.blk e, ⟨h.pgs.len, h.pgs.nd, ?_, fun j b p hb hp => ?_⟩⟩
  · obtain ⟨⟨hl, h1⟩, h2⟩ := h.pgs.row
    exact ⟨⟨hl, by rw [e]; exact h1⟩, h2⟩
  · obtain ⟨a1, a2, a3⟩ := h.pgs.pg j b p hb hp
    exact ⟨a1, Blk.heap a2 e, a3⟩
/-- one page of a store is written -/
theorem StoreX.setPage {tag : Nat → Nat} {w w' : World} {a bF bL : Nat} {v : Value} {ps : List Page} {bs : List Nat} (H : StoreX 6 tag w a bF bL v ps bs) {j b : Nat} {p p' : Page} (hb : bs[j]? = some b) (hp : ps[j]? = some p)
    (hB : Blk w' b 103 p'.cs.toArray) (hl : p'.slots.length = 8) (hk : ∀ g, g ≠ b → g < w.heap.size → w'.heap[g]? = w.heap[g]?) : StoreX 6 tag w' a bF bL v (ps.set j p') bs := by
  have htb := (H.pgs.pg j b p hb hp).1
  have hab : a ≠ b := by rintro rfl; have := H.ta; omega
  refine ⟨H.ta, (hk a hab H.blk.lt).trans H.blk, ⟨by simp [H.pgs.len], H.pgs.nd, ?_, ?_⟩⟩
  · obtain ⟨⟨hl, h1⟩, h2⟩ := H.pgs.row
    rw [List.length_set]
    refine ⟨⟨hl, ?_⟩, h2⟩
    rcases h1 with h1 | ⟨g, cap, cur, hv, hb0, hg, r⟩
    · exact .inl h1
    · have hgt : tag g = 7 := h2 g (by rw [hv]; rfl)
      have hgb : g ≠ b := by rintro rfl; omega
      exact .inr ⟨g, cap, cur, hv, hb0, (hk g hgb (Array.getElem?_eq_some_iff.1 hg).1).trans hg, r⟩
  · intro i b' q hb' hq
    by_cases e : i = j
    · subst e
      rw [hb] at hb'; cases hb'
      have hq' : q = p' := by
        rw [List.getElem?_set_self (List.getElem?_eq_some_iff.1 hp).1] at hq; exact (Option.some.inj hq).symm
      subst hq'
      exact ⟨htb, hB, hl⟩
    · rw [List.getElem?_set_ne (Ne.symm e)] at hq
      obtain ⟨t1, t2, t3⟩ := H.pgs.pg i b' q hb' hq
      have hne : b' ≠ b := by
        rintro rfl
        have h1 := (List.getElem?_eq_some_iff.1 hb).1
        have h2 := (List.getElem?_eq_some_iff.1 hb').1
        exact e ((List.getElem_inj (h₀ := h2) (h₁ := h1) H.pgs.nd).1 (((List.getElem?_eq_some_iff.1 hb').2).trans ((List.getElem?_eq_some_iff.1 hb).2).symm))
      exact ⟨t1, (hk b' hne t2.lt).trans t2, t3⟩

theorem setAt_of {ps : List Page} {f : Int} {j : Nat} {p : Page} (h : ps.findIdx? (fun p => p.f == f) = some j) (hp : ps[j]? = some p) (n : Nat) (x : Slot) : setAt ps f n x = ps.set j { p with slots := p.slots.set n x } := by
  unfold setAt; rw [h]
  simp only []
  apply List.ext_getElem?
  intro i
  rw [List.getElem?_modify, List.getElem?_set]
  by_cases e : j = i
  · subst e
    have := (List.getElem?_eq_some_iff.1 hp).1
    have e := (List.getElem?_eq_some_iff.1 hp).2; simp [this, e]
  · simp [e]

/-- one block alone is another one -/
structure Only (b : Nat) (w w2 : World) : Prop where
  os : w2.os = w.os
  tape : w2.tape = w.tape
  output : w2.output = w.output
  size : w2.heap.size = w.heap.size
  heap : ∀ g, g ≠ b → w2.heap[g]? = w.heap[g]?
theorem Only.refl (b : Nat) (w : World) : Only b w w := ⟨rfl, rfl, rfl, rfl, fun _ _ => rfl⟩
theorem Only.set_ {b : Nat} {w w2 : World} (h : Only b w w2) (o : Nat) (u : Value) : Only b w (w2.setCell ⟨b, o, none⟩ u) :=
  ⟨h.os, h.tape, h.output, (by simp only [World.setCell, Array.size_modify]; exact h.size), fun g hg => (Below.heap_setCell w2 ⟨b, o, none⟩ u g hg).trans (h.heap g hg)⟩
theorem Only.far {b g : Nat} {w w2 : World} {t : TypeId} {cs : Array Value} (h : Only b w w2) (hB : Blk w g t cs) (hg : g ≠ b) : Blk w2 g t cs := (h.heap g hg).trans hB
theorem Only.mod {b : Nat} {tag : Nat → Nat} {w w2 w0 : World} {T : List Nat} (h : Only b w w2) (hm : Below w0.heap.size w0 w) (hb : tag b ∈ T) : Mod T tag tag w0 w2 :=
  ⟨h.os.trans hm.os, h.tape.trans hm.tape, h.output.trans hm.output, by rw [h.size]; exact hm.size, fun _ _ => rfl, fun g hg hn => (h.heap g (by rintro rfl; exact hn hb)).trans (hm.block g hg)⟩
/-- five cells of one block are laid anew -/
theorem set5 {w : World} {b o : Nat} {t : TypeId} {cs : Array Value} (h : Blk w b t cs) (u0 u1 u2 u3 u4 : Value) : ∃ w2, ((((w.setCell ⟨b, o, none⟩ u0).setCell ⟨b, o + 1, none⟩ u1).setCell ⟨b, o + 2, none⟩ u2).setCell ⟨b, o + 3, none⟩ u3).setCell ⟨b, o + 4, none⟩ u4 = w2 ∧
    Only b w w2 ∧ Blk w2 b t (((((cs.setIfInBounds o u0).setIfInBounds (o + 1) u1).setIfInBounds (o + 2) u2).setIfInBounds (o + 3) u3).setIfInBounds (o + 4) u4) := by
  generalize h1 : w.setCell ⟨b, o, none⟩ u0 = w1
  generalize h2 : w1.setCell ⟨b, o + 1, none⟩ u1 = w2
  generalize h3 : w2.setCell ⟨b, o + 2, none⟩ u2 = w3
  generalize h4 : w3.setCell ⟨b, o + 3, none⟩ u3 = w4
  generalize h5 : w4.setCell ⟨b, o + 4, none⟩ u4 = w5
  have b1 := h.set_ o u0
  rw [h1] at b1
  have b2 := b1.set_ (o + 1) u1
  rw [h2] at b2
  have b3 := b2.set_ (o + 2) u2
  rw [h3] at b3
  have b4 := b3.set_ (o + 3) u3
  rw [h4] at b4
  have b5 := b4.set_ (o + 4) u4
  rw [h5] at b5
  have o1 : Only b w w1 := by rw [← h1]; exact (Only.refl b w).set_ o u0
  have o2 : Only b w w2 := by rw [← h2]; exact o1.set_ (o + 1) u1
  have o3 : Only b w w3 := by rw [← h3]; exact o2.set_ (o + 2) u2
  have o4 : Only b w w4 := by rw [← h4]; exact o3.set_ (o + 3) u3
  have o5 : Only b w w5 := by rw [← h5]; exact o4.set_ (o + 4) u4
  exact ⟨w5, rfl, o5, b5⟩

set_option maxHeartbeats 1000000 in
set_option maxRecDepth 100000 in
theorem store_put (a bF bL n : Nat) (tag : Nat → Nat) (v : Value) (ps : List Page) (bs : List Nat) (ws : List Int) (f i to : Int) (x : Slot) (w : World) (H : SH tag w a bF bL v ps bs n ws) (hs : (sSlot? ps f i).isSome = true) :
    Calls Try.prog 78 #[.pointer (some ⟨a, 0, none⟩), .int .i64 f, .int .i64 i, .agg x.cs.toArray, .int .i64 to] w fun e w' =>
      e = .returned (.bool (hok n f i)) ∧ SH tag w' a bF bL v (setAt ps f i.toNat x) bs n (hset n ws f i (slotWord x to)) ∧ Mod [2, 8] tag tag w w' := by
  rcases slAt_case H.st.pgs f i with ⟨_, e2⟩ | ⟨j, b, m, p, y, e1, e2, rfl, hm, hb, hp, hpf, htb, hB, hl8, hy, hfi⟩
  · rw [e2] at hs; cases hs
  have hset1 := setAt_of hfi hp m x
  rw [Int.toNat_natCast, hset1]
  obtain ⟨xk, xt, ⟨xw, xu, xx⟩⟩ := x
  have hlb := hB.lt
  have hba : b ≠ a := by rintro rfl; have := H.st.ta; omega
  have E1 := Lib.hid e1
  have hb0 : Below w.heap.size w (w.alloc (.cells #[.int .i64 xk, .int .i64 xt, .bool xw, .bool xu, .bool xx] 62)) := (Below.refl _ w).alloc (Nat.le_refl _) _
  have H1 := H.below hb0
  have hcs := page_setcs p m ⟨xk, xt, ⟨xw, xu, xx⟩⟩ hl8 hm
  have HCS := Lib.hid hcs
  have hcsz : p.cs.toArray.size = 44 := by simpa using page_cs p hl8
  obtain ⟨f1, f2, f3, f4, f5⟩ : w.frozen? ⟨b, 4 + m * 5, none⟩ = false ∧ w.frozen? ⟨b, 4 + m * 5 + 1, none⟩ = false ∧ w.frozen? ⟨b, 4 + m * 5 + 2, none⟩ = false ∧ w.frozen? ⟨b, 4 + m * 5 + 3, none⟩ = false ∧ w.frozen? ⟨b, 4 + m * 5 + 4, none⟩ = false :=
    ⟨hB.frozen _, hB.frozen _, hB.frozen _, hB.frozen _, hB.frozen _⟩
  obtain ⟨yk, yt, ⟨yw, yu, yx⟩⟩ := y
  have y0 : p.cs.toArray[4 + m * 5]? = some (.int .i64 yk) := by simpa [Slot.cs] using page_slot hy 0 (by omega)
  have y1 : p.cs.toArray[4 + m * 5 + 1]? = some (.int .i64 yt) := by simpa [Slot.cs] using page_slot hy 1 (by omega)
  have y2 : p.cs.toArray[4 + m * 5 + 2]? = some (.bool yw) := by simpa [Slot.cs] using page_slot hy 2 (by omega)
  have y3 : p.cs.toArray[4 + m * 5 + 3]? = some (.bool yu) := by simpa [Slot.cs] using page_slot hy 3 (by omega)
  have y4 : p.cs.toArray[4 + m * 5 + 4]? = some (.bool yx) := by simpa [Slot.cs] using page_slot hy 4 (by omega)
  simp only [Slot.cs]
  have hB1 := hB.below hb0 hlb
  have hlb1 : b < (w.alloc (.cells #[.int .i64 xk, .int .i64 xt, .bool xw, .bool xu, .bool xx] 62)).heap.size := by simp; omega
  have hnb : w.heap.size ≠ b := by omega
  have hn := H.hn
  clear e1 e2 hs hset1 hcs f1 f2 f3 f4 f5
  go_enter Try.func78, Try.ntmps78
  go_wp2_with fail
  go_region_with (go_at_call 68; refine (store_slot 6 a bF bL tag v ps bs f m _ (by exact H1.st.heap rfl) hn).mono ?_; rintro e w' ⟨rfl, hb1⟩; rw [E1.out]; have hBb : Blk w' b 103 p.cs.toArray := (hb1.block b (by simp; omega)).trans hB1; have hBx : Blk w' w.heap.size 62 #[.int .i64 xk, .int .i64 xt, .bool xw, .bool xu, .bool xx] := (hb1.block _ (by simp)).trans (heap_alloc_new w _); have x0 := hBx.cellv 0 rfl; have x1 := hBx.cellv 1 rfl; have x2 := hBx.cellv 2 rfl; have x3 := hBx.cellv 3 rfl; have x4 := hBx.cellv 4 rfl; have z0 := hBb.cellv (4 + m * 5) y0; have z1 := hBb.cellv (4 + m * 5 + 1) y1; have z2 := hBb.cellv (4 + m * 5 + 2) y2; have z3 := hBb.cellv (4 + m * 5 + 3) y3; have z4 := hBb.cellv (4 + m * 5 + 4) y4; have q0 := hBb.frozen (4 + m * 5); have q1 := hBb.frozen (4 + m * 5 + 1); have q2 := hBb.frozen (4 + m * 5 + 2); have q3 := hBb.frozen (4 + m * 5 + 3); have q4 := hBb.frozen (4 + m * 5 + 4))
  all_goals
    have hbw : Below w.heap.size w w' := ⟨hb1.os.trans hb0.os, hb1.tape.trans hb0.tape, hb1.output.trans hb0.output, Nat.le_trans hb0.size hb1.size, fun g hg => (hb1.block g (by simp; omega)).trans (hb0.block g hg)⟩
    obtain ⟨w2, hw2, hO, hB2⟩ := set5 (o := 4 + m * 5) hBb (.int .i64 xk) (.int .i64 xt) (.bool xw) (.bool xu) (.bool xx)
    rw [hw2]
    have hM : Mod [8] tag tag w w2 := hO.mod hbw (by simp [htb])
    rw [HCS.out] at hB2
    have hX2 := hO.far hBx hnb
    have hSt2 : StoreX 6 tag w2 a bF bL v (ps.set j { p with slots := p.slots.set m ⟨xk, xt, ⟨xw, xu, xx⟩⟩ }) bs :=
      H.st.setPage hb hp hB2 (by simp [hl8]) (fun g hg hlt => (hO.heap g hg).trans (hbw.block g hlt))
    clear hw2 hO
    have x0 := hX2.cellv 0 rfl
    have x1 := hX2.cellv 1 rfl
    have x2 := hX2.cellv 2 rfl
    have x3 := hX2.cellv 3 rfl
    have x4 := hX2.cellv 4 rfl
    have hHo2 := H.ho.mod hM (by simp) (by simp)
    have hbF := hSt2.blk.cellv 0 rfl
    clear hBx hBb hB1 hb1 y0 y1 y2 y3 y4 HCS hB2 hB H1 E1 hb0 hbw
    go_wp2_with fail

    refine (pte_put ⟨true, xw, xu, false, false, false, !xx, false, to⟩ _).mono ?_
    rintro e w3 ⟨rfl, hb3⟩
    have hX3 := hX2.below hb3 hX2.lt
    have hSt3 := hSt2.below hb3
    have hHo3 := hHo2.mod (T := []) (Mod.of_below hb3) (by simp) (by simp)
    have hbF := hSt3.blk.cellv 0 rfl
    have x0 := hX3.cellv 0 rfl
    have hM3 : Mod [8] tag tag w w3 := hM.trans (Mod.of_below hb3)
    clear hb3 hSt2 hHo2 hM hX2
    have hsw : slotWord ⟨xk, xt, ⟨xw, xu, xx⟩⟩ to = if xk == 0 then 0 else ptePut ⟨true, xw, xu, false, false, false, !xx, false, to⟩ := rfl
    generalize ptePut ⟨true, xw, xu, false, false, false, !xx, false, to⟩ = u at *
    cases hk : (xk == 0)
    · rw [hk] at hsw
      have HSW := Lib.hid hsw
      clear hsw
      go_wp2_with fail
      refine (frame_set 1 bF n tag ws f m u _ hHo3).mono ?_
      rintro e w4 ⟨rfl, hH4, hM4⟩
      go_wp2
      go_ret
      rw [HSW.out]
      refine ⟨rfl, ⟨hSt3.mod hM4 (by simp) (by simp) (by simp), hH4, by simpa using hn⟩, (hM3.mono (by simp)).trans (hM4.mono (by simp))⟩
    · rw [hk] at hsw
      have HSW := Lib.hid hsw
      clear hsw
      go_wp2_with fail
      refine (frame_set 1 bF n tag ws f m 0 _ hHo3).mono ?_
      rintro e w4 ⟨rfl, hH4, hM4⟩
      go_wp2
      go_ret
      rw [HSW.out]
      refine ⟨rfl, ⟨hSt3.mod hM4 (by simp) (by simp) (by simp), hH4, by simpa using hn⟩, (hM3.mono (by simp)).trans (hM4.mono (by simp))⟩
end Go.Proofs.Ytbmbgicdnegkfaa

/- The walks of store.Child, Leaf, Clear. -/
namespace Go.Proofs.Ytbmbgicdnegkfaa
open Go Go.RowKit Sil

theorem sSlot_some {ps : List Page} {f i : Int} (h : (sSlot? ps f i).isSome = true) : ∃ x, sSlot? ps f i = some x := by
  cases e : sSlot? ps f i with
  | none => rw [e] at h; cases h
  | some x => exact ⟨x, rfl⟩

theorem store_clear (a bF bL n : Nat) (tag : Nat → Nat) (v : Value) (ps : List Page) (bs : List Nat) (ws : List Int) (f i : Int) (w : World) (H : SH tag w a bF bL v ps bs n ws) :
    Calls Try.prog 63 #[.pointer (some ⟨a, 0, none⟩), .int .i64 f, .int .i64 i] w fun e w' =>
      e = .returned (.bool (sClearIs ps f i && hok n f i)) ∧ SH tag w' a bF bL v (sClear ps f i) bs n (wClear n ps ws f i) ∧ Mod [2, 8] tag tag w w' := by
  have hn := H.hn
  rcases slAt_case H.st.pgs f i with ⟨e1, e2⟩ | ⟨j, b, m, p, y, e1, e2, rfl, hm, hb, hp, hpf, htb, hB, hl8, hy, hfi⟩
  · have e3 : sClearIs ps f i = false := by unfold sClearIs; rw [e2]
    have e4 : sClear ps f i = ps := by unfold sClear; rw [e3]; rfl
    have e5 : wClear n ps ws f i = ws := by unfold wClear; rw [e3]; rfl
    rw [e3, e4, e5]
    have E1 := Lib.hid e1
    clear e1 e2 e3 e4 e5
    go_enter Try.func63, Try.ntmps63
    go_wp2_with fail
    refine (store_slot 6 a bF bL tag v ps bs f i _ H.st hn).mono ?_
    rintro e w1 ⟨rfl, hb1⟩
    rw [E1.out]
    go_wp2_with fail
    go_ret
    exact ⟨rfl, H.below hb1, Mod.of_below hb1⟩
  · have hlb := hB.lt
    cases hk : (y.kind == 0)
    · have e3 : sClearIs ps f m = true := by unfold sClearIs; rw [e2]; simpa using hk
      have e4 : sClear ps f m = setAt ps f (m : Int).toNat Slot.empty := by unfold sClear; rw [e3]; rfl
      have e5 : wClear n ps ws f m = hset n ws f m 0 := by unfold wClear; rw [e3]; rfl
      rw [e3, e4, e5]
      have hs : (sSlot? ps f m).isSome = true := by rw [e2]; rfl
      have E1 := Lib.hid e1
      have HS := Lib.hid hs
      obtain ⟨yk, yt, yr⟩ := y
      have y0 : p.cs.toArray[4 + m * 5]? = some (.int .i64 yk) := by simpa [Slot.cs] using page_slot hy 0 (by omega)
      have hk' : ¬ yk = 0 := by simpa using hk
      have hk2 : (yk == 0) = false := hk
      have hk3 : (yk != 0) = true := by simp [hk']
      clear e1 e2 e3 e4 e5 hs hk hp hy hb
      go_enter Try.func63, Try.ntmps63
      go_wp2_with fail
      refine (store_slot 6 a bF bL tag v ps bs f m _ H.st hn).mono ?_
      rintro e w1 ⟨rfl, hb1⟩
      rw [E1.out]
      have z0 := (hB.below hb1 hlb).cellv (4 + m * 5) y0
      have H1 := H.below hb1
      go_wp2_with fail
      refine (store_put a bF bL n tag v ps bs ws f m 0 Slot.empty _ H1 HS.out).mono ?_
      rintro e w2 ⟨rfl, H2, hM2⟩
      go_wp2_with fail
      go_ret
      exact ⟨by simp, H2, (Mod.of_below hb1).trans hM2⟩
    · have e3 : sClearIs ps f m = false := by unfold sClearIs; rw [e2]; simpa using hk
      have e4 : sClear ps f m = ps := by unfold sClear; rw [e3]; rfl
      have e5 : wClear n ps ws f m = ws := by unfold wClear; rw [e3]; rfl
      rw [e3, e4, e5]
      have E1 := Lib.hid e1
      obtain ⟨yk, yt, yr⟩ := y
      have y0 : p.cs.toArray[4 + m * 5]? = some (.int .i64 yk) := by simpa [Slot.cs] using page_slot hy 0 (by omega)
      have hk' : yk = 0 := by simpa using hk
      subst hk'
      clear e1 e2 e3 e4 e5 hk hp hy hb
      go_enter Try.func63, Try.ntmps63
      go_wp2_with fail
      refine (store_slot 6 a bF bL tag v ps bs f m _ H.st hn).mono ?_
      rintro e w1 ⟨rfl, hb1⟩
      rw [E1.out]
      have z0 := (hB.below hb1 hlb).cellv (4 + m * 5) y0
      go_wp2_with fail
      go_ret
      exact ⟨rfl, H.below hb1, Mod.of_below hb1⟩

theorem slAt_isSome {k : Nat} {tag : Nat → Nat} {w : World} {v : Value} {ps : List Page} {bs : List Nat} (H : PagesX k tag w v ps bs) (f i : Int) : (slAt ps bs f i).isNone = (sSlot? ps f i).isNone := by
  rcases slAt_case H f i with ⟨e1, e2⟩ | ⟨j, b, m, p, y, e1, e2, _⟩
  · rw [e1, e2]; rfl
  · rw [e1, e2]; rfl

theorem pgLev {ps : List Page} (h : ∀ p ∈ ps, -1000 ≤ p.key.lev ∧ p.key.lev ≤ 1000) (f : Int) : -1000 ≤ (sKey ps f).lev ∧ (sKey ps f).lev ≤ 1000 := by
  unfold sKey sPage
  cases e : ps.find? (fun p => p.f == f) with
  | none => exact ⟨by decide, by decide⟩
  | some p => exact h p (List.mem_of_find?_eq_some e)

theorem store_child (a bF bL n : Nat) (tag : Nat → Nat) (v : Value) (ps : List Page) (bs : List Nat) (ws : List Int) (f i c : Int) (r : Rt) (w : World) (H : SH tag w a bF bL v ps bs n ws) (hlv : ∀ p ∈ ps, -1000 ≤ p.key.lev ∧ p.key.lev ≤ 1000) :
    Calls Try.prog 37 #[.pointer (some ⟨a, 0, none⟩), .int .i64 f, .int .i64 i, .int .i64 c, .agg r.cs.toArray] w fun e w' =>
      e = .returned (.bool (sChildIs ps f i c && hok n f i)) ∧ SH tag w' a bF bL v (sChild ps f i c r) bs n (wChild n ps ws f i c r) ∧ Mod [2, 8] tag tag w w' := by
  have hn := H.hn
  obtain ⟨rw_, ru, rx⟩ := r
  simp only [Rt.cs]
  have hl1 := pgLev hlv f
  have hl2 := pgLev hlv c
  have hss := slAt_isSome H.st.pgs f i
  clear hlv
  have hb0 : Below w.heap.size w (w.alloc (.cells #[.bool rw_, .bool ru, .bool rx] 39)) := (Below.refl _ w).alloc (Nat.le_refl _) _
  have hR0 := Blk.new w 39 #[.bool rw_, .bool ru, .bool rx]
  have H0 := H.below hb0
  cases hC : sChildIs ps f i c
  · have HC := Lib.hid hC
    have hg1 : sChild ps f i c ⟨rw_, ru, rx⟩ = ps := by unfold sChild; rw [hC]; rfl
    have hg2 : wChild n ps ws f i c ⟨rw_, ru, rx⟩ = ws := by unfold wChild; rw [hC]; rfl
    rw [hg1, hg2]
    unfold sChildIs at hC
    generalize hkf : sKey ps f = kf at *
    generalize hkc : sKey ps c = kc at *
    have HKF := Lib.hid hkf
    have HKC := Lib.hid hkc
    obtain ⟨kg, kl, kr⟩ := kf
    obtain ⟨cg, cl, cr⟩ := kc
    clear hkf hkc hg1 hg2 HC
    simp only [] at hC hl1 hl2
    cases e1 : slAt ps bs f i with
    | none =>
      have E1 := Lib.hid e1
      clear e1 hC hss
      go_enter Try.func37, Try.ntmps37
      go_wp2_with fail
      refine (store_key 6 a bF bL tag v ps bs f _ H0.st hn).mono ?_
      rintro e w1 ⟨rfl, hb1⟩
      rw [HKF.out]
      simp only [Key.cs]
      have H1 := H0.below hb1
      have hR1 := hR0.below hb1 hR0.lt
      have hbw1 := hb0.trans (hb1.mono hb0.size)
      have H1' := H1.below ((Below.refl _ w1).alloc (Nat.le_refl _) (.cells #[.int .i64 kg, .int .i64 kl, .int .i64 kr] 37))
      have hR1' := hR1.alloc (.cells #[.int .i64 kg, .int .i64 kl, .int .i64 kr] 37)
      have hK1 := Blk.new w1 37 #[.int .i64 kg, .int .i64 kl, .int .i64 kr]
      have hbw1' : Below w.heap.size w (w1.alloc (.cells #[.int .i64 kg, .int .i64 kl, .int .i64 kr] 37)) := hbw1.alloc hbw1.size _
      clear H0 hb1 hbw1
      go_wp2_with fail
      refine (store_key 6 a bF bL tag v ps bs c _ H1'.st hn).mono ?_
      rintro e w2 ⟨rfl, hb2⟩
      rw [HKC.out]
      simp only [Key.cs]
      have H2 := H1'.below hb2
      have hR2 := hR1'.below hb2 hR1'.lt
      have hK2 := hK1.below hb2 hK1.lt
      have hbw2 := hbw1'.trans (hb2.mono hbw1'.size)
      have H2' := H2.below ((Below.refl _ w2).alloc (Nat.le_refl _) (.cells #[.int .i64 cg, .int .i64 cl, .int .i64 cr] 37))
      have hR2' := hR2.alloc (.cells #[.int .i64 cg, .int .i64 cl, .int .i64 cr] 37)
      have hK2' := hK2.alloc (.cells #[.int .i64 cg, .int .i64 cl, .int .i64 cr] 37)
      have hC2' := Blk.new w2 37 #[.int .i64 cg, .int .i64 cl, .int .i64 cr]
      have hbw2' : Below w.heap.size w (w2.alloc (.cells #[.int .i64 cg, .int .i64 cl, .int .i64 cr] 37)) := hbw2.alloc hbw2.size _
      clear H1' H1 hR1 hR1' hK1 hbw1' hb2 hbw2 H2 hR2 hK2
      go_wp2_with fail
      refine (store_slot 6 a bF bL tag v ps bs f i _ H2'.st hn).mono ?_
      rintro e w3 ⟨rfl, hb3⟩
      rw [E1.out]
      have H3 := H2'.below hb3
      have hR3 := hR2'.below hb3 hR2'.lt
      have hK3 := hK2'.below hb3 hK2'.lt
      have hC3 := hC2'.below hb3 hC2'.lt
      have hbw3 := hbw2'.trans (hb3.mono hbw2'.size)
      clear H2' hR2' hK2' hC2' hbw2' hb3
      have r0 := hR3.cellv 0 rfl
      have r1 := hR3.cellv 1 rfl
      have r2 := hR3.cellv 2 rfl
      have k1 := hK3.cellv 1 rfl
      have c1 := hC3.cellv 1 rfl
      go_wp2_with fail
      go_ret
      exact ⟨rfl, H3, Mod.of_below hbw3⟩
    | some A =>
      have E1 := Lib.hid e1
      rw [e1] at hss
      have hss' : (sSlot? ps f i).isSome = true := by cases e : sSlot? ps f i <;> simp_all
      rw [hss'] at hC
      clear e1 hss hss'
      cases e2 : (sPage ps c).isSome
      · have E2 := Lib.hid e2
        clear e2 hC
        go_enter Try.func37, Try.ntmps37
        go_wp2_with fail
        refine (store_key 6 a bF bL tag v ps bs f _ H0.st hn).mono ?_
        rintro e w1 ⟨rfl, hb1⟩
        rw [HKF.out]
        simp only [Key.cs]
        have H1 := H0.below hb1
        have hR1 := hR0.below hb1 hR0.lt
        have hbw1 := hb0.trans (hb1.mono hb0.size)
        have H1' := H1.below ((Below.refl _ w1).alloc (Nat.le_refl _) (.cells #[.int .i64 kg, .int .i64 kl, .int .i64 kr] 37))
        have hR1' := hR1.alloc (.cells #[.int .i64 kg, .int .i64 kl, .int .i64 kr] 37)
        have hK1 := Blk.new w1 37 #[.int .i64 kg, .int .i64 kl, .int .i64 kr]
        have hbw1' : Below w.heap.size w (w1.alloc (.cells #[.int .i64 kg, .int .i64 kl, .int .i64 kr] 37)) := hbw1.alloc hbw1.size _
        clear H0 hb1 hbw1
        go_wp2_with fail
        refine (store_key 6 a bF bL tag v ps bs c _ H1'.st hn).mono ?_
        rintro e w2 ⟨rfl, hb2⟩
        rw [HKC.out]
        simp only [Key.cs]
        have H2 := H1'.below hb2
        have hR2 := hR1'.below hb2 hR1'.lt
        have hK2 := hK1.below hb2 hK1.lt
        have hbw2 := hbw1'.trans (hb2.mono hbw1'.size)
        have H2' := H2.below ((Below.refl _ w2).alloc (Nat.le_refl _) (.cells #[.int .i64 cg, .int .i64 cl, .int .i64 cr] 37))
        have hR2' := hR2.alloc (.cells #[.int .i64 cg, .int .i64 cl, .int .i64 cr] 37)
        have hK2' := hK2.alloc (.cells #[.int .i64 cg, .int .i64 cl, .int .i64 cr] 37)
        have hC2' := Blk.new w2 37 #[.int .i64 cg, .int .i64 cl, .int .i64 cr]
        have hbw2' : Below w.heap.size w (w2.alloc (.cells #[.int .i64 cg, .int .i64 cl, .int .i64 cr] 37)) := hbw2.alloc hbw2.size _
        clear H1' H1 hR1 hR1' hK1 hbw1' hb2 hbw2 H2 hR2 hK2
        go_wp2_with fail
        refine (store_slot 6 a bF bL tag v ps bs f i _ H2'.st hn).mono ?_
        rintro e w3 ⟨rfl, hb3⟩
        rw [E1.out]
        have H3 := H2'.below hb3
        have hR3 := hR2'.below hb3 hR2'.lt
        have hK3 := hK2'.below hb3 hK2'.lt
        have hC3 := hC2'.below hb3 hC2'.lt
        have hbw3 := hbw2'.trans (hb3.mono hbw2'.size)
        clear H2' hR2' hK2' hC2' hbw2' hb3
        have r0 := hR3.cellv 0 rfl
        have r1 := hR3.cellv 1 rfl
        have r2 := hR3.cellv 2 rfl
        have k1 := hK3.cellv 1 rfl
        have c1 := hC3.cellv 1 rfl
        rw [E2.out]
        go_wp2_with fail
        go_ret
        exact ⟨rfl, H3, Mod.of_below hbw3⟩
      · rw [e2] at hC
        have E2 := Lib.hid e2
        have hne : ¬ cl = kl - 1 := by simpa using hC
        have hnb : (cl != kl - 1) = true := by simp [hne]
        clear e2 hC
        go_enter Try.func37, Try.ntmps37
        go_wp2_with fail
        refine (store_key 6 a bF bL tag v ps bs f _ H0.st hn).mono ?_
        rintro e w1 ⟨rfl, hb1⟩
        rw [HKF.out]
        simp only [Key.cs]
        have H1 := H0.below hb1
        have hR1 := hR0.below hb1 hR0.lt
        have hbw1 := hb0.trans (hb1.mono hb0.size)
        have H1' := H1.below ((Below.refl _ w1).alloc (Nat.le_refl _) (.cells #[.int .i64 kg, .int .i64 kl, .int .i64 kr] 37))
        have hR1' := hR1.alloc (.cells #[.int .i64 kg, .int .i64 kl, .int .i64 kr] 37)
        have hK1 := Blk.new w1 37 #[.int .i64 kg, .int .i64 kl, .int .i64 kr]
        have hbw1' : Below w.heap.size w (w1.alloc (.cells #[.int .i64 kg, .int .i64 kl, .int .i64 kr] 37)) := hbw1.alloc hbw1.size _
        clear H0 hb1 hbw1
        go_wp2_with fail
        refine (store_key 6 a bF bL tag v ps bs c _ H1'.st hn).mono ?_
        rintro e w2 ⟨rfl, hb2⟩
        rw [HKC.out]
        simp only [Key.cs]
        have H2 := H1'.below hb2
        have hR2 := hR1'.below hb2 hR1'.lt
        have hK2 := hK1.below hb2 hK1.lt
        have hbw2 := hbw1'.trans (hb2.mono hbw1'.size)
        have H2' := H2.below ((Below.refl _ w2).alloc (Nat.le_refl _) (.cells #[.int .i64 cg, .int .i64 cl, .int .i64 cr] 37))
        have hR2' := hR2.alloc (.cells #[.int .i64 cg, .int .i64 cl, .int .i64 cr] 37)
        have hK2' := hK2.alloc (.cells #[.int .i64 cg, .int .i64 cl, .int .i64 cr] 37)
        have hC2' := Blk.new w2 37 #[.int .i64 cg, .int .i64 cl, .int .i64 cr]
        have hbw2' : Below w.heap.size w (w2.alloc (.cells #[.int .i64 cg, .int .i64 cl, .int .i64 cr] 37)) := hbw2.alloc hbw2.size _
        clear H1' H1 hR1 hR1' hK1 hbw1' hb2 hbw2 H2 hR2 hK2
        go_wp2_with fail
        refine (store_slot 6 a bF bL tag v ps bs f i _ H2'.st hn).mono ?_
        rintro e w3 ⟨rfl, hb3⟩
        rw [E1.out]
        have H3 := H2'.below hb3
        have hR3 := hR2'.below hb3 hR2'.lt
        have hK3 := hK2'.below hb3 hK2'.lt
        have hC3 := hC2'.below hb3 hC2'.lt
        have hbw3 := hbw2'.trans (hb3.mono hbw2'.size)
        clear H2' hR2' hK2' hC2' hbw2' hb3
        have r0 := hR3.cellv 0 rfl
        have r1 := hR3.cellv 1 rfl
        have r2 := hR3.cellv 2 rfl
        have k1 := hK3.cellv 1 rfl
        have c1 := hC3.cellv 1 rfl
        rw [E2.out]
        go_wp2_with fail
        go_ret
        exact ⟨rfl, H3, Mod.of_below hbw3⟩
  · have hg1 : sChild ps f i c ⟨rw_, ru, rx⟩ = setAt ps f i.toNat ⟨1, c, ⟨rw_, ru, rx⟩⟩ := by unfold sChild; rw [hC]; rfl
    have hg2 : wChild n ps ws f i c ⟨rw_, ru, rx⟩ = hset n ws f i (slotWord ⟨1, c, ⟨rw_, ru, rx⟩⟩ c) := by unfold wChild; rw [hC]; rfl
    rw [hg1, hg2]
    unfold sChildIs at hC
    generalize hkf : sKey ps f = kf at *
    generalize hkc : sKey ps c = kc at *
    have HKF := Lib.hid hkf
    have HKC := Lib.hid hkc
    obtain ⟨kg, kl, kr⟩ := kf
    obtain ⟨cg, cl, cr⟩ := kc
    clear hkf hkc hg1 hg2
    simp only [Bool.and_eq_true, beq_iff_eq] at hC
    obtain ⟨⟨hs1, hs2⟩, hcl⟩ := hC
    have HCL := Lib.hid hcl
    clear hcl
    have E2 := Lib.hid hs2
    have HS := Lib.hid hs1
    obtain ⟨A, e1⟩ : ∃ A, slAt ps bs f i = some A := by
      cases e : slAt ps bs f i with
      | none => rw [e] at hss; simp at hss; rw [hss] at hs1; cases hs1
      | some A => exact ⟨A, rfl⟩
    have E1 := Lib.hid e1
    clear e1 hss hs1 hs2
    go_enter Try.func37, Try.ntmps37
    go_wp2_with fail
    refine (store_key 6 a bF bL tag v ps bs f _ H0.st hn).mono ?_
    rintro e w1 ⟨rfl, hb1⟩
    rw [HKF.out]
    simp only [Key.cs]
    have H1 := H0.below hb1
    have hR1 := hR0.below hb1 hR0.lt
    have hbw1 := hb0.trans (hb1.mono hb0.size)
    have H1' := H1.below ((Below.refl _ w1).alloc (Nat.le_refl _) (.cells #[.int .i64 kg, .int .i64 kl, .int .i64 kr] 37))
    have hR1' := hR1.alloc (.cells #[.int .i64 kg, .int .i64 kl, .int .i64 kr] 37)
    have hK1 := Blk.new w1 37 #[.int .i64 kg, .int .i64 kl, .int .i64 kr]
    have hbw1' : Below w.heap.size w (w1.alloc (.cells #[.int .i64 kg, .int .i64 kl, .int .i64 kr] 37)) := hbw1.alloc hbw1.size _
    clear H0 hb1 hbw1
    go_wp2_with fail
    refine (store_key 6 a bF bL tag v ps bs c _ H1'.st hn).mono ?_
    rintro e w2 ⟨rfl, hb2⟩
    rw [HKC.out]
    simp only [Key.cs]
    have H2 := H1'.below hb2
    have hR2 := hR1'.below hb2 hR1'.lt
    have hK2 := hK1.below hb2 hK1.lt
    have hbw2 := hbw1'.trans (hb2.mono hbw1'.size)
    have H2' := H2.below ((Below.refl _ w2).alloc (Nat.le_refl _) (.cells #[.int .i64 cg, .int .i64 cl, .int .i64 cr] 37))
    have hR2' := hR2.alloc (.cells #[.int .i64 cg, .int .i64 cl, .int .i64 cr] 37)
    have hK2' := hK2.alloc (.cells #[.int .i64 cg, .int .i64 cl, .int .i64 cr] 37)
    have hC2' := Blk.new w2 37 #[.int .i64 cg, .int .i64 cl, .int .i64 cr]
    have hbw2' : Below w.heap.size w (w2.alloc (.cells #[.int .i64 cg, .int .i64 cl, .int .i64 cr] 37)) := hbw2.alloc hbw2.size _
    clear H1' H1 hR1 hR1' hK1 hbw1' hb2 hbw2 H2 hR2 hK2
    go_wp2_with fail
    refine (store_slot 6 a bF bL tag v ps bs f i _ H2'.st hn).mono ?_
    rintro e w3 ⟨rfl, hb3⟩
    rw [E1.out]
    have H3 := H2'.below hb3
    have hR3 := hR2'.below hb3 hR2'.lt
    have hK3 := hK2'.below hb3 hK2'.lt
    have hC3 := hC2'.below hb3 hC2'.lt
    have hbw3 := hbw2'.trans (hb3.mono hbw2'.size)
    clear H2' hR2' hK2' hC2' hbw2' hb3
    have r0 := hR3.cellv 0 rfl
    have r1 := hR3.cellv 1 rfl
    have r2 := hR3.cellv 2 rfl
    have k1 := hK3.cellv 1 rfl
    have c1 := hC3.cellv 1 rfl
    rw [E2.out]
    have hcl := HCL.out
    subst hcl
    go_wp2_with fail
    refine (store_put a bF bL n tag v ps bs ws f i c ⟨1, c, ⟨rw_, ru, rx⟩⟩ _ H3 HS.out).mono ?_
    rintro e w4 ⟨rfl, H4, hM4⟩
    go_wp2_with fail
    go_ret
    exact ⟨by simp, H4, (Mod.of_below hbw3).trans hM4⟩

theorem store_leaf (a bF bL n : Nat) (tag : Nat → Nat) (v : Value) (ps : List Page) (bs : List Nat) (ws : List Int) (f i g h : Int) (r : Rt) (w : World) (H : SH tag w a bF bL v ps bs n ws) :
    Calls Try.prog 38 #[.pointer (some ⟨a, 0, none⟩), .int .i64 f, .int .i64 i, .int .i64 g, .int .i64 h, .agg r.cs.toArray] w fun e w' =>
      e = .returned (.bool (sLeafIs n ps f i h && hok n f i)) ∧ SH tag w' a bF bL v (sLeaf n ps f i g h r) bs n (wLeaf n ps ws f i g h r) ∧ Mod [2, 8] tag tag w w' := by
  have hn := H.hn
  obtain ⟨rw_, ru, rx⟩ := r
  simp only [Rt.cs]
  have hss := slAt_isSome H.st.pgs f i
  have hb0 : Below w.heap.size w (w.alloc (.cells #[.bool rw_, .bool ru, .bool rx] 39)) := (Below.refl _ w).alloc (Nat.le_refl _) _
  have hR0 := Blk.new w 39 #[.bool rw_, .bool ru, .bool rx]
  have H0 := H.below hb0
  cases hC : sLeafIs n ps f i h
  · have HC := Lib.hid hC
    have hg1 : sLeaf n ps f i g h ⟨rw_, ru, rx⟩ = ps := by unfold sLeaf; rw [hC]; rfl
    have hg2 : wLeaf n ps ws f i g h ⟨rw_, ru, rx⟩ = ws := by unfold wLeaf; rw [hC]; rfl
    rw [hg1, hg2]
    unfold sLeafIs at hC
    generalize hkf : sKey ps f = kf at *
    have HKF := Lib.hid hkf
    obtain ⟨kg, kl, kr⟩ := kf
    clear hkf hg1 hg2 HC
    simp only [] at hC
    cases e1 : slAt ps bs f i with
    | none =>
      have E1 := Lib.hid e1
      clear e1 hC hss
      go_enter Try.func38, Try.ntmps38
      go_wp2_with fail
      refine (store_key 6 a bF bL tag v ps bs f _ H0.st hn).mono ?_
      rintro e w1 ⟨rfl, hb1⟩
      rw [HKF.out]
      simp only [Key.cs]
      have H1 := H0.below hb1
      have hR1 := hR0.below hb1 hR0.lt
      have hbw1 := hb0.trans (hb1.mono hb0.size)
      have H1' := H1.below ((Below.refl _ w1).alloc (Nat.le_refl _) (.cells #[.int .i64 kg, .int .i64 kl, .int .i64 kr] 37))
      have hR1' := hR1.alloc (.cells #[.int .i64 kg, .int .i64 kl, .int .i64 kr] 37)
      have hK1 := Blk.new w1 37 #[.int .i64 kg, .int .i64 kl, .int .i64 kr]
      have hbw1' : Below w.heap.size w (w1.alloc (.cells #[.int .i64 kg, .int .i64 kl, .int .i64 kr] 37)) := hbw1.alloc hbw1.size _
      clear H0 hb1 hbw1
      go_wp2_with fail
      refine (store_slot 6 a bF bL tag v ps bs f i _ H1'.st hn).mono ?_
      rintro e w3 ⟨rfl, hb3⟩
      rw [E1.out]
      have H3 := H1'.below hb3
      have hR3 := hR1'.below hb3 hR1'.lt
      have hK3 := hK1.below hb3 hK1.lt
      have hbw3 := hbw1'.trans (hb3.mono hbw1'.size)
      clear H1' hR1' hK1 hbw1' hb3 hR1 H1
      have r0 := hR3.cellv 0 rfl
      have r1 := hR3.cellv 1 rfl
      have r2 := hR3.cellv 2 rfl
      have k1 := hK3.cellv 1 rfl
      have bf0 := H3.st.blk.cellv 0 rfl
      go_wp2_with fail
      go_ret
      exact ⟨rfl, H3, Mod.of_below hbw3⟩
    | some A =>
      have E1 := Lib.hid e1
      rw [e1] at hss
      have hss' : (sSlot? ps f i).isSome = true := by cases e : sSlot? ps f i <;> simp_all
      rw [hss', Bool.true_and] at hC
      clear e1 hss hss'
      by_cases h1 : kl = 1
      · subst h1
        by_cases h2 : h < 0
        · clear hC
          go_enter Try.func38, Try.ntmps38
          go_wp2_with fail
          refine (store_key 6 a bF bL tag v ps bs f _ H0.st hn).mono ?_
          rintro e w1 ⟨rfl, hb1⟩
          rw [HKF.out]
          simp only [Key.cs]
          have H1 := H0.below hb1
          have hR1 := hR0.below hb1 hR0.lt
          have hbw1 := hb0.trans (hb1.mono hb0.size)
          have H1' := H1.below ((Below.refl _ w1).alloc (Nat.le_refl _) (.cells #[.int .i64 kg, .int .i64 1, .int .i64 kr] 37))
          have hR1' := hR1.alloc (.cells #[.int .i64 kg, .int .i64 1, .int .i64 kr] 37)
          have hK1 := Blk.new w1 37 #[.int .i64 kg, .int .i64 1, .int .i64 kr]
          have hbw1' : Below w.heap.size w (w1.alloc (.cells #[.int .i64 kg, .int .i64 1, .int .i64 kr] 37)) := hbw1.alloc hbw1.size _
          clear H0 hb1 hbw1
          go_wp2_with fail
          refine (store_slot 6 a bF bL tag v ps bs f i _ H1'.st hn).mono ?_
          rintro e w3 ⟨rfl, hb3⟩
          rw [E1.out]
          have H3 := H1'.below hb3
          have hR3 := hR1'.below hb3 hR1'.lt
          have hK3 := hK1.below hb3 hK1.lt
          have hbw3 := hbw1'.trans (hb3.mono hbw1'.size)
          clear H1' hR1' hK1 hbw1' hb3 hR1 H1
          have r0 := hR3.cellv 0 rfl
          have r1 := hR3.cellv 1 rfl
          have r2 := hR3.cellv 2 rfl
          have k1 := hK3.cellv 1 rfl
          have bf0 := H3.st.blk.cellv 0 rfl
          go_wp2_with fail
          go_ret
          exact ⟨rfl, H3, Mod.of_below hbw3⟩
        · have h3 : ¬ h < n := by
            intro h3; simp [h3] at hC; omega
          clear hC
          go_enter Try.func38, Try.ntmps38
          go_wp2_with fail
          refine (store_key 6 a bF bL tag v ps bs f _ H0.st hn).mono ?_
          rintro e w1 ⟨rfl, hb1⟩
          rw [HKF.out]
          simp only [Key.cs]
          have H1 := H0.below hb1
          have hR1 := hR0.below hb1 hR0.lt
          have hbw1 := hb0.trans (hb1.mono hb0.size)
          have H1' := H1.below ((Below.refl _ w1).alloc (Nat.le_refl _) (.cells #[.int .i64 kg, .int .i64 1, .int .i64 kr] 37))
          have hR1' := hR1.alloc (.cells #[.int .i64 kg, .int .i64 1, .int .i64 kr] 37)
          have hK1 := Blk.new w1 37 #[.int .i64 kg, .int .i64 1, .int .i64 kr]
          have hbw1' : Below w.heap.size w (w1.alloc (.cells #[.int .i64 kg, .int .i64 1, .int .i64 kr] 37)) := hbw1.alloc hbw1.size _
          clear H0 hb1 hbw1
          go_wp2_with fail
          refine (store_slot 6 a bF bL tag v ps bs f i _ H1'.st hn).mono ?_
          rintro e w3 ⟨rfl, hb3⟩
          rw [E1.out]
          have H3 := H1'.below hb3
          have hR3 := hR1'.below hb3 hR1'.lt
          have hK3 := hK1.below hb3 hK1.lt
          have hbw3 := hbw1'.trans (hb3.mono hbw1'.size)
          clear H1' hR1' hK1 hbw1' hb3 hR1 H1
          have r0 := hR3.cellv 0 rfl
          have r1 := hR3.cellv 1 rfl
          have r2 := hR3.cellv 2 rfl
          have k1 := hK3.cellv 1 rfl
          have bf0 := H3.st.blk.cellv 0 rfl
          go_wp2_with fail
          refine (frame_frames 1 bF n tag ws _ H3.ho).mono ?_
          rintro e w4 ⟨rfl, rfl⟩
          go_wp2_with fail
          go_ret
          exact ⟨rfl, H3, Mod.of_below hbw3⟩
      · clear hC
        go_enter Try.func38, Try.ntmps38
        go_wp2_with fail
        refine (store_key 6 a bF bL tag v ps bs f _ H0.st hn).mono ?_
        rintro e w1 ⟨rfl, hb1⟩
        rw [HKF.out]
        simp only [Key.cs]
        have H1 := H0.below hb1
        have hR1 := hR0.below hb1 hR0.lt
        have hbw1 := hb0.trans (hb1.mono hb0.size)
        have H1' := H1.below ((Below.refl _ w1).alloc (Nat.le_refl _) (.cells #[.int .i64 kg, .int .i64 kl, .int .i64 kr] 37))
        have hR1' := hR1.alloc (.cells #[.int .i64 kg, .int .i64 kl, .int .i64 kr] 37)
        have hK1 := Blk.new w1 37 #[.int .i64 kg, .int .i64 kl, .int .i64 kr]
        have hbw1' : Below w.heap.size w (w1.alloc (.cells #[.int .i64 kg, .int .i64 kl, .int .i64 kr] 37)) := hbw1.alloc hbw1.size _
        clear H0 hb1 hbw1
        go_wp2_with fail
        refine (store_slot 6 a bF bL tag v ps bs f i _ H1'.st hn).mono ?_
        rintro e w3 ⟨rfl, hb3⟩
        rw [E1.out]
        have H3 := H1'.below hb3
        have hR3 := hR1'.below hb3 hR1'.lt
        have hK3 := hK1.below hb3 hK1.lt
        have hbw3 := hbw1'.trans (hb3.mono hbw1'.size)
        clear H1' hR1' hK1 hbw1' hb3 hR1 H1
        have r0 := hR3.cellv 0 rfl
        have r1 := hR3.cellv 1 rfl
        have r2 := hR3.cellv 2 rfl
        have k1 := hK3.cellv 1 rfl
        have bf0 := H3.st.blk.cellv 0 rfl
        go_wp2_with fail
        go_ret
        exact ⟨rfl, H3, Mod.of_below hbw3⟩
  · have hg1 : sLeaf n ps f i g h ⟨rw_, ru, rx⟩ = setAt ps f i.toNat ⟨2, g, ⟨rw_, ru, rx⟩⟩ := by unfold sLeaf; rw [hC]; rfl
    have hg2 : wLeaf n ps ws f i g h ⟨rw_, ru, rx⟩ = hset n ws f i (slotWord ⟨2, g, ⟨rw_, ru, rx⟩⟩ h) := by unfold wLeaf; rw [hC]; rfl
    rw [hg1, hg2]
    unfold sLeafIs at hC
    generalize hkf : sKey ps f = kf at *
    have HKF := Lib.hid hkf
    obtain ⟨kg, kl, kr⟩ := kf
    clear hkf hg1 hg2
    simp only [Bool.and_eq_true, beq_iff_eq, decide_eq_true_eq] at hC
    obtain ⟨⟨⟨hs1, rfl⟩, h2⟩, h3⟩ := hC
    have HS := Lib.hid hs1
    obtain ⟨A, e1⟩ : ∃ A, slAt ps bs f i = some A := by
      cases e : slAt ps bs f i with
      | none => rw [e] at hss; simp at hss; rw [hss] at hs1; cases hs1
      | some A => exact ⟨A, rfl⟩
    have E1 := Lib.hid e1
    clear e1 hss hs1
    go_enter Try.func38, Try.ntmps38
    go_wp2_with fail
    refine (store_key 6 a bF bL tag v ps bs f _ H0.st hn).mono ?_
    rintro e w1 ⟨rfl, hb1⟩
    rw [HKF.out]
    simp only [Key.cs]
    have H1 := H0.below hb1
    have hR1 := hR0.below hb1 hR0.lt
    have hbw1 := hb0.trans (hb1.mono hb0.size)
    have H1' := H1.below ((Below.refl _ w1).alloc (Nat.le_refl _) (.cells #[.int .i64 kg, .int .i64 1, .int .i64 kr] 37))
    have hR1' := hR1.alloc (.cells #[.int .i64 kg, .int .i64 1, .int .i64 kr] 37)
    have hK1 := Blk.new w1 37 #[.int .i64 kg, .int .i64 1, .int .i64 kr]
    have hbw1' : Below w.heap.size w (w1.alloc (.cells #[.int .i64 kg, .int .i64 1, .int .i64 kr] 37)) := hbw1.alloc hbw1.size _
    clear H0 hb1 hbw1
    go_wp2_with fail
    refine (store_slot 6 a bF bL tag v ps bs f i _ H1'.st hn).mono ?_
    rintro e w3 ⟨rfl, hb3⟩
    rw [E1.out]
    have H3 := H1'.below hb3
    have hR3 := hR1'.below hb3 hR1'.lt
    have hK3 := hK1.below hb3 hK1.lt
    have hbw3 := hbw1'.trans (hb3.mono hbw1'.size)
    clear H1' hR1' hK1 hbw1' hb3 hR1 H1
    have r0 := hR3.cellv 0 rfl
    have r1 := hR3.cellv 1 rfl
    have r2 := hR3.cellv 2 rfl
    have k1 := hK3.cellv 1 rfl
    have bf0 := H3.st.blk.cellv 0 rfl
    go_wp2_with fail
    refine (frame_frames 1 bF n tag ws _ H3.ho).mono ?_
    rintro e w4 ⟨rfl, rfl⟩
    go_wp2_with fail
    refine (store_put a bF bL n tag v ps bs ws f i h ⟨2, g, ⟨rw_, ru, rx⟩⟩ _ H3 HS.out).mono ?_
    rintro e w4 ⟨rfl, H4, hM4⟩
    go_wp2_with fail
    go_ret
    exact ⟨by simp, H4, (Mod.of_below hbw3).trans hM4⟩
end Go.Proofs.Ytbmbgicdnegkfaa
