/- The walks of the small layers: memory, map, entries, slices, what is known, free frames. -/
import Derived.Test.YtbmbgicdnegkfaaM1
import Derived.Test.YtbmbgicdnegkfaaProg
import Derived.WalkKit
import Derived.WalkSpells
import Derived.WalkLawsBesides
import Derived.Deep.QuietTactic
import Derived.BigQuiet
import Derived.Lib.Hide
import Derived.StillTailTactics
import Derived.Deep.RegionWith
import Derived.Deep.RegionHeld3
import Derived.Deep.AppendLies
import Derived.Deep.RegionLaw
set_option linter.unusedVariables false
set_option linter.unusedSimpArgs false
/- The walks of layers 1, 3 and 7: memory, the map, the guest's memory. -/
namespace Go.Proofs.Ytbmbgicdnegkfaa
open Go Go.RowKit Sil

/-- a host's memory of n frames: the struct's block a (tag k), the words' block (tag k + 1) -/
def HostR (k : Nat) (tag : Nat → Nat) (w : World) (a n : Nat) (ws : List Int) : Prop :=
  ∃ d, tag a = k ∧ Blk w a 131 #[.slice (some ⟨d, 0, none⟩) n n] ∧ tag d = k + 1 ∧ Blk w d 154 (ws.map (Value.int .u64)).toArray ∧ ws.length = 8 * n ∧ n ≤ 256

theorem HostR.mod {k : Nat} {tag tag' : Nat → Nat} {w w' : World} {a n : Nat} {ws : List Int} {T : List Nat} (h : HostR k tag w a n ws) (hm : Mod T tag tag' w w') (h0 : k ∉ T) (h1 : k + 1 ∉ T) : HostR k tag' w' a n ws := by
  obtain ⟨d, ha, hA, hd, hD, hl, hn⟩ := h
  exact ⟨d, hm.tagOf hA ha, hA.mod hm (by rw [ha]; exact h0), hm.tagOf hD hd, hD.mod hm (by rw [hd]; exact h1), hl, hn⟩

theorem word_no (a d n : Nat) (f i : Int) (w : World) (h0 : w.cell? ⟨a, 0, none⟩ = some (.slice (some ⟨d, 0, none⟩) n n)) (hn : n ≤ 256) (h : hok n f i = false) :
    Calls Try.prog 77 #[.pointer (some ⟨a, 0, none⟩), .int .i64 f, .int .i64 i] w fun e w' => e = .returned (.pointer none) ∧ w = w' := by
  simp only [hok, Bool.and_eq_false_iff, decide_eq_false_iff_not] at h
  by_cases h1 : f < 0
  · go_enter Try.func77, Try.ntmps77
    go_wp2
    go_ret
    exact ⟨rfl, rfl⟩
  by_cases h2 : (n : Int) ≤ f
  · go_enter Try.func77, Try.ntmps77
    go_wp2
    go_ret
    exact ⟨rfl, rfl⟩
  by_cases h3 : i < 0
  · go_enter Try.func77, Try.ntmps77
    go_wp2
    go_ret
    exact ⟨rfl, rfl⟩
  by_cases h4 : 8 ≤ i
  · go_enter Try.func77, Try.ntmps77
    go_wp2
    go_ret
    exact ⟨rfl, rfl⟩
  · exfalso; omega

theorem word_ok (a d n : Nat) (f i : Int) (w : World) (h0 : w.cell? ⟨a, 0, none⟩ = some (.slice (some ⟨d, 0, none⟩) n n)) (hn : n ≤ 256) (h : hok n f i = true) :
    Calls Try.prog 77 #[.pointer (some ⟨a, 0, none⟩), .int .i64 f, .int .i64 i] w fun e w' => e = .returned (.pointer (some ⟨d, f.toNat * 8 + i.toNat, none⟩)) ∧ w = w' := by
  simp only [hok, Bool.and_eq_true, decide_eq_true_eq] at h
  obtain ⟨⟨⟨h1, h2⟩, h3⟩, h4⟩ := h
  go_enter Try.func77, Try.ntmps77
  go_wp2
  go_ret
  exact ⟨rfl, rfl⟩

theorem hok_lt {n : Nat} {f i : Int} (h : hok n f i = true) : f.toNat * 8 + i.toNat < 8 * n := by
  simp only [hok, Bool.and_eq_true, decide_eq_true_eq] at h
  omega

theorem frame_get (k a n : Nat) (tag : Nat → Nat) (ws : List Int) (f i : Int) (w : World) (H : HostR k tag w a n ws) :
    Calls Try.prog 69 #[.pointer (some ⟨a, 0, none⟩), .int .i64 f, .int .i64 i] w fun e w' => e = .returned (.tuple #[.int .u64 (hget n ws f i), .bool (hok n f i)]) ∧ w = w' := by
  obtain ⟨d, ha, hA, hd, hD, hl, hn⟩ := H
  have c0 := hA.cellv 0 rfl
  by_cases h : hok n f i = true
  · have hlt := hok_lt h
    have c1 : w.cell? ⟨d, f.toNat * 8 + i.toNat, none⟩ = some (.int .u64 (ws.getD (f.toNat * 8 + i.toNat) 0)) := by
      rw [hD.cell]; simp [List.getD, show f.toNat * 8 + i.toNat < ws.length by omega]
    have hg : hget n ws f i = ws.getD (f.toNat * 8 + i.toNat) 0 := by unfold hget; rw [if_pos h]
    rw [hg, h]
    generalize ws.getD (f.toNat * 8 + i.toNat) 0 = x at c1 ⊢
    have H := Lib.hid h
    clear h hg
    go_enter Try.func69, Try.ntmps69
    go_wp2_with (go_at_call 77; refine (word_ok a d n f i _ c0 hn H.out).mono ?_; rintro e w' ⟨rfl, rfl⟩)
    go_ret2
    exact ⟨rfl, rfl⟩
  · have h' : hok n f i = false := by simpa using h
    have hg : hget n ws f i = 0 := by unfold hget; rw [if_neg h]
    rw [hg, h']
    have H := Lib.hid h'
    clear h h' hg
    go_enter Try.func69, Try.ntmps69
    go_wp2_with (go_at_call 77; refine (word_no a d n f i _ c0 hn H.out).mono ?_; rintro e w' ⟨rfl, rfl⟩)
    go_ret2
    exact ⟨rfl, rfl⟩

theorem HostR.set_ {k : Nat} {tag : Nat → Nat} {w : World} {a n d : Nat} {ws : List Int} {j : Nat} (v : Int) (ha : tag a = k) (hA : Blk w a 131 #[.slice (some ⟨d, 0, none⟩) n n]) (hd : tag d = k + 1)
    (hD : Blk w d 154 (ws.map (Value.int .u64)).toArray) (hl : ws.length = 8 * n) (hn : n ≤ 256) : HostR k tag (w.setCell ⟨d, j, none⟩ (.int .u64 v)) a n (ws.set j v) := by
  refine ⟨d, ha, hA.far (p := ⟨d, j, none⟩) (fun e => ?_) _, hd, ?_, by simp [hl], hn⟩
  · have e' : a = d := e
    rw [e', hd] at ha; omega
  · have := hD.set_ j (.int .u64 v)
    simpa using this

theorem frame_set (k a n : Nat) (tag : Nat → Nat) (ws : List Int) (f i v : Int) (w : World) (H : HostR k tag w a n ws) :
    Calls Try.prog 66 #[.pointer (some ⟨a, 0, none⟩), .int .i64 f, .int .i64 i, .int .u64 v] w fun e w' => e = .returned (.bool (hok n f i)) ∧ HostR k tag w' a n (hset n ws f i v) ∧ Mod [k + 1] tag tag w w' := by
  have H0 := H
  obtain ⟨d, ha, hA, hd, hD, hl, hn⟩ := H
  have c0 := hA.cellv 0 rfl
  by_cases h : hok n f i = true
  · have hlt := hok_lt h
    have c1 : w.cell? ⟨d, f.toNat * 8 + i.toNat, none⟩ = some (.int .u64 (ws.getD (f.toNat * 8 + i.toNat) 0)) := by
      rw [hD.cell]; simp [List.getD, show f.toNat * 8 + i.toNat < ws.length by omega]
    have c2 := hD.frozen (f.toNat * 8 + i.toNat)
    have hg : hset n ws f i v = ws.set (f.toNat * 8 + i.toNat) v := by unfold hset; rw [if_pos h]
    rw [hg, h]
    have H := Lib.hid h
    clear h hg
    go_enter Try.func66, Try.ntmps66
    go_wp2_with (go_at_call 77; refine (word_ok a d n f i _ c0 hn H.out).mono ?_; rintro e w' ⟨rfl, rfl⟩)
    go_ret
    exact ⟨rfl, HostR.set_ v ha hA hd hD hl hn, (Mod.refl _ _ _).setCell (by rw [hd]; simp) _⟩
  · have h' : hok n f i = false := by simpa using h
    have hg : hset n ws f i v = ws := by unfold hset; rw [if_neg h]
    rw [hg, h']
    have H := Lib.hid h'
    clear h h' hg
    go_enter Try.func66, Try.ntmps66
    go_wp2_with (go_at_call 77; refine (word_no a d n f i _ c0 hn H.out).mono ?_; rintro e w' ⟨rfl, rfl⟩)
    go_ret
    exact ⟨rfl, H0, Mod.refl _ _ _⟩

theorem frame_frames (k a n : Nat) (tag : Nat → Nat) (ws : List Int) (w : World) (H : HostR k tag w a n ws) :
    Calls Try.prog 79 #[.pointer (some ⟨a, 0, none⟩)] w fun e w' => e = .returned (.int .i64 n) ∧ w = w' := by
  obtain ⟨d, ha, hA, hd, hD, hl, hn⟩ := H
  have c0 := hA.cellv 0 rfl
  go_enter Try.func79, Try.ntmps79
  go_wp2
  go_ret
  exact ⟨rfl, rfl⟩

end Go.Proofs.Ytbmbgicdnegkfaa

/- The walks of layers 3 and 7: the map, the guest's memory. -/
namespace Go.Proofs.Ytbmbgicdnegkfaa
open Go Go.RowKit Sil

theorem ownsMap_block {w w' : World} {b n : Nat} {D : DataW Unit} {k : TypeId} {R : Value → Option (DataW Unit × List MemPlace)} (h : w.ownsMap Try.prog k R b n D) (hb : w'.heap[b]? = w.heap[b]?) : w'.ownsMap Try.prog k R b n D := by
  obtain ⟨es, clock, h1, F, hs, hD⟩ := h
  exact ⟨es, clock, hb.trans h1, F, hs, hD⟩

/-- the map: the struct's block a (tag k), the list's row (k + 1), the map's block (k + 2) -/
def MapR (k : Nat) (tag : Nat → Nat) (w : World) (a : Nat) (hs : List Int) : Prop :=
  ∃ (v : Value) (m : Nat) (D : DataW Unit) (c : Nat), tag a = k ∧ Blk w a 134 #[v, .map (some m)] ∧ Row (k + 1) tag w 3 1 v hs.length (hs.map (Value.int .i64)) ∧ hs.length ≤ 64 ∧
    tag m = k + 2 ∧ w.ownsMap Try.prog 3 (plainElem Try.prog 3) m c D ∧
    (∀ h : Int, Maps.has D (.int .i64 h) = decide (h ∈ hs)) ∧ (∀ (j : Nat) (h : Int), hs[j]? = some h → D.atKey (.int .i64 h) (.lit (.int .i64 0)) = .lit (.int .i64 j))

theorem MapR.mod {k : Nat} {tag tag' : Nat → Nat} {w w' : World} {a : Nat} {hs : List Int} {T : List Nat} (h : MapR k tag w a hs) (hm : Mod T tag tag' w w') (h0 : k ∉ T) (h1 : k + 1 ∉ T) (h2 : k + 2 ∉ T) : MapR k tag' w' a hs := by
  obtain ⟨v, m, D, c, ha, hA, hr, hl, hmt, ho, r1, r2⟩ := h
  exact ⟨v, m, D, c, hm.tagOf hA ha, hA.mod hm (by rw [ha]; exact h0), hr.mod hm h1, hl, (hm.tags m ho.lt).trans hmt, ownsMap_block ho (hm.keep m ho.lt (by rw [hmt]; exact h2)), r1, r2⟩

theorem gmap_host (k a : Nat) (tag : Nat → Nat) (hs : List Int) (g : Int) (w : World) (H : MapR k tag w a hs) :
    Calls Try.prog 65 #[.pointer (some ⟨a, 0, none⟩), .int .i64 g] w fun e w' => e = .returned (.tuple #[.int .i64 (ghost hs g), .bool (gok hs g)]) ∧ w = w' := by
  obtain ⟨v, m, D, c, ha, hA, hr, hl, hmt, ho, r1, r2⟩ := H
  rcases hr.form with ⟨rfl, hn, hx⟩ | ⟨d, cap, cur, rfl, ht, hB, hc, hc2, hsz, hcur⟩
  · have hs0 : hs = [] := List.eq_nil_of_length_eq_zero hn
    subst hs0
    have c0 := hA.cellv 0 rfl
    have e1 : gok [] g = false := by simp only [gok, List.length_nil]; by_cases h : 0 ≤ g <;> simp [h]
    have e2 : ghost [] g = 0 := by simp [ghost]
    rw [e1, e2]
    clear e1 e2 r1 r2
    by_cases h1 : g < 0
    · go_enter Try.func65, Try.ntmps65
      go_wp2
      go_ret2
      exact ⟨rfl, rfl⟩
    · go_enter Try.func65, Try.ntmps65
      go_wp2
      go_ret2
      exact ⟨rfl, rfl⟩
  · have c0 := hA.cellv 0 rfl
    clear r1 r2
    by_cases h : gok hs g = true
    · have e2 : ghost hs g = hs.getD g.toNat 0 := by unfold ghost; rw [if_pos h]
      have e3 := h
      simp only [gok, Bool.and_eq_true, decide_eq_true_eq] at e3
      obtain ⟨e3, e4⟩ := e3
      have c1 : w.cell? ⟨d, g.toNat, none⟩ = some (.int .i64 (hs.getD g.toNat 0)) := by
        rw [hB.cell]
        have hlt : g.toNat < hs.length := by omega
        have h5 : (cur.toList.take (hs.length * 1))[g.toNat]? = some (.int .i64 (hs.getD g.toNat 0)) := by
          rw [hcur]; simp [List.getD, hlt]
        rw [List.getElem?_take] at h5
        split at h5
        · simpa using h5
        · cases h5
      rw [e2, h]
      generalize hs.getD g.toNat 0 = x at c1 ⊢
      clear hcur hr e2 h
      generalize hs.length = N at *
      clear hsz
      go_enter Try.func65, Try.ntmps65
      go_wp2
      go_ret2
      exact ⟨rfl, rfl⟩
    · have h' : gok hs g = false := by simpa using h
      have e2 : ghost hs g = 0 := by unfold ghost; rw [if_neg h]
      rw [e2, h']
      simp only [gok, Bool.and_eq_false_iff, decide_eq_false_iff_not] at h'
      clear hcur hr e2 h
      generalize hs.length = N at *
      clear hsz
      by_cases h1 : g < 0
      · go_enter Try.func65, Try.ntmps65
        go_wp2
        go_ret2
        exact ⟨rfl, rfl⟩
      · have h2 : (N : Int) ≤ g := by omega
        clear h'
        go_enter Try.func65, Try.ntmps65
        go_wp2
        go_ret2
        exact ⟨rfl, rfl⟩

theorem guest_get (kh km a bM bF n : Nat) (tag : Nat → Nat) (hs ws : List Int) (g i : Int) (w : World) (hA : Blk w a 120 #[.pointer (some ⟨bM, 0, none⟩), .pointer (some ⟨bF, 0, none⟩)])
    (HM : MapR km tag w bM hs) (HH : HostR kh tag w bF n ws) :
    Calls Try.prog 28 #[.pointer (some ⟨a, 0, none⟩), .int .i64 g, .int .i64 i] w fun e w' => e = .returned (.tuple #[.int .u64 (guget n hs ws g i), .bool (guok n hs g i)]) ∧ w = w' := by
  have c0 := hA.cellv 0 rfl
  have c1 := hA.cellv 1 rfl
  cases h : gok hs g
  · have e1 : guget n hs ws g i = 0 := by unfold guget; rw [h]; rfl
    have e2 : guok n hs g i = false := by unfold guok; rw [h]; rfl
    rw [e1, e2]
    have H := Lib.hid h
    clear h e1 e2
    go_enter Try.func28, Try.ntmps28
    go_wp2_with fail
    refine (gmap_host km bM tag hs g _ HM).mono ?_
    rintro e w' ⟨rfl, rfl⟩
    rw [H.out]
    go_wp2_with fail
    go_ret2
    exact ⟨rfl, rfl⟩
  · have e1 : guget n hs ws g i = hget n ws (ghost hs g) i := by unfold guget; rw [h]; rfl
    have e2 : guok n hs g i = hok n (ghost hs g) i := by unfold guok; rw [h]; rfl
    rw [e1, e2]
    have H := Lib.hid h
    clear h e1 e2
    go_enter Try.func28, Try.ntmps28
    go_wp2_with fail
    refine (gmap_host km bM tag hs g _ HM).mono ?_
    rintro e w' ⟨rfl, rfl⟩
    rw [H.out]
    go_wp2_with fail
    refine (frame_get kh bF n tag ws (ghost hs g) i _ HH).mono ?_
    rintro e w' ⟨rfl, rfl⟩
    go_wp2_with fail
    go_ret2
    exact ⟨rfl, rfl⟩

theorem guest_set (kh km a bM bF n : Nat) (tag : Nat → Nat) (hs ws : List Int) (g i v : Int) (w : World) (hA : Blk w a 120 #[.pointer (some ⟨bM, 0, none⟩), .pointer (some ⟨bF, 0, none⟩)])
    (HM : MapR km tag w bM hs) (HH : HostR kh tag w bF n ws) :
    Calls Try.prog 25 #[.pointer (some ⟨a, 0, none⟩), .int .i64 g, .int .i64 i, .int .u64 v] w fun e w' => e = .returned (.bool (guok n hs g i)) ∧ HostR kh tag w' bF n (guset n hs ws g i v) ∧ Mod [kh + 1] tag tag w w' := by
  have c0 := hA.cellv 0 rfl
  have c1 := hA.cellv 1 rfl
  cases h : gok hs g
  · have e1 : guset n hs ws g i v = ws := by unfold guset; rw [h]; rfl
    have e2 : guok n hs g i = false := by unfold guok; rw [h]; rfl
    rw [e1, e2]
    have H := Lib.hid h
    clear h e1 e2
    go_enter Try.func25, Try.ntmps25
    go_wp2_with fail
    refine (gmap_host km bM tag hs g _ HM).mono ?_
    rintro e w' ⟨rfl, rfl⟩
    rw [H.out]
    go_wp2_with fail
    go_ret
    exact ⟨rfl, HH, Mod.refl _ _ _⟩
  · have e1 : guset n hs ws g i v = hset n ws (ghost hs g) i v := by unfold guset; rw [h]; rfl
    have e2 : guok n hs g i = hok n (ghost hs g) i := by unfold guok; rw [h]; rfl
    rw [e1, e2]
    have H := Lib.hid h
    clear h e1 e2
    go_enter Try.func25, Try.ntmps25
    go_wp2_with fail
    refine (gmap_host km bM tag hs g _ HM).mono ?_
    rintro e w' ⟨rfl, rfl⟩
    rw [H.out]
    go_wp2_with fail
    refine (frame_set kh bF n tag ws (ghost hs g) i v _ HH).mono ?_
    rintro e w' ⟨rfl, h1, h2⟩
    go_wp2_with fail
    go_ret
    exact ⟨rfl, h1, h2⟩
end Go.Proofs.Ytbmbgicdnegkfaa

/- The walks of layer 4: entries of tables, in words. -/
namespace Go.Proofs.Ytbmbgicdnegkfaa
open Go Go.RowKit Sil

def flagsC (b : Nat) : Array Value := #[.pointer (some ⟨b, 0, none⟩), .int .u64 1, .pointer (some ⟨b, 1, none⟩), .int .u64 2, .pointer (some ⟨b, 2, none⟩), .int .u64 4, .pointer (some ⟨b, 3, none⟩), .int .u64 32,
  .pointer (some ⟨b, 4, none⟩), .int .u64 64, .pointer (some ⟨b, 5, none⟩), .int .u64 128, .pointer (some ⟨b, 6, none⟩), .int .u64 big63]
def flagsV (b : Nat) : Value := .agg (flagsC b)

set_option maxRecDepth 100000 in
set_option maxHeartbeats 1000000 in
theorem pte_flags (b : Nat) (w : World) :
    Calls Try.prog 92 #[.pointer (some ⟨b, 0, none⟩)] w fun e w' => e = .returned (flagsV b) ∧ Below w.heap.size w w' := by
  go_enter Try.func92, Try.ntmps92
  go_wp2
  go_still_tail 29, (by kernel_rfl)
  refine wpList_store_row rfl 149 _ _ rfl w.heap.size (flagsC b) rfl rfl 149 _ (heap_alloc_new w _) (by kernel_rfl) rfl (by simp [flagsC, Value.oneCell']) ?_
  generalize hW : World.setRow _ _ _ = W
  have hB : Blk W w.heap.size 149 (flagsC b) := by
    rw [← hW]; exact blk_setRow (heap_alloc_new w _)
  have hb : Below w.heap.size w W := by
    rw [← hW]; exact below_setRow ((Below.refl _ _).alloc (Nat.le_refl _) _).drew (Nat.le_refl _) _
  clear hW
  go_wp2
  exact bodyPost_ret (v := flagsV b) (ret_cell rfl rfl hB Try.underlying149 rfl (by kernel_rfl)) rfl ⟨rfl, hb⟩

theorem index_flags (b k : Nat) (h : k < 7) (w : World) : (Instr.index 149 (flagsV b) (.int .i64 k)).run Try.prog w = .ok (.agg #[.pointer (some ⟨b, k, none⟩), .int .u64 (bitOf k)]) w := by
  have h7 : k = 0 ∨ k = 1 ∨ k = 2 ∨ k = 3 ∨ k = 4 ∨ k = 5 ∨ k = 6 := by omega
  rcases h7 with rfl | rfl | rfl | rfl | rfl | rfl | rfl
  all_goals (show _ = _; kernel_rfl)

theorem pteC_size (v : Int) (k : Nat) : (pteC v k).size = 9 := by
  induction k with
  | zero => rfl
  | succ k ih => simp [pteC, ih]

set_option maxRecDepth 100000 in
set_option maxHeartbeats 1000000 in
theorem pte_get (v : Int) (w : World) :
    Calls Try.prog 62 #[.int .u64 v] w fun e w' => e = .returned (.agg (pteGet v).cs.toArray) ∧ Below w.heap.size w w' := by
  go_enter Try.func62, Try.ntmps62
  go_wp2_with (go_at_call 92; refine (pte_flags _ _).mono ?_; rintro e w' ⟨rfl, hb⟩)
  have z0 : Blk w' w.heap.size 69 (pteC v 0) := ((Blk.new w _ _).alloc _).below hb (by simp; omega)
  have z1 : Blk w' (w.heap.size + 1) 69 (pteC v 0) := by
    have h := Blk.new (w.alloc (.cells (pteC v 0) 69)) 69 (pteC v 0)
    rw [World.size_alloc] at h
    exact h.below hb (by simp)
  have hB : Below w.heap.size w w' := (((Below.refl _ w).alloc (Nat.le_refl _) _).alloc (by simp) _).trans (hb.mono (by simp; omega))
  have hz : w.heap.size + 1 < w'.heap.size := by have := hb.size; simp at this; omega
  clear hb
  go_loopw [4, 10] (fun r i wr => ∃ k : Nat, k ≤ 7 ∧ i = .int .i64 k ∧ r = .int .u64 (pteRest v k) ∧ Blk wr (w.heap.size + 1) 69 (pteC v k) ∧ Blk wr w.heap.size 69 (pteC v 0) ∧ Below w.heap.size w wr ∧ w.heap.size + 1 < wr.heap.size) (fun _ i _ => 7 - (intOf i).toNat)
  case atStart => exact ⟨0, by omega, rfl, rfl, z1, z0, hB, hz⟩
  case round =>
    clear z0 z1 hB hz
    obtain ⟨k, hk, rfl, rfl, z1, z0, hB, hz⟩ := hrel
    by_cases hlt : k < 7
    · have hi := index_flags (w.heap.size + 1) k hlt
      have hs : k < (pteC v k).size := by rw [pteC_size]; omega
      have c1 : wr.cell? ⟨w.heap.size + 1, k, none⟩ = some (pteC v k)[k] := by rw [z1.cell]; simp [hs]
      have c2 := z1.frozen k
      go_wp2
      go_roundw
      case rel => 
        refine ⟨k + 1, by omega, by go_num, rfl, (z1.set_ k _).alloc _, (z0.far (p := ⟨w.heap.size + 1, k, none⟩) (by simp) _).alloc _, (hB.setCell (p := ⟨w.heap.size + 1, k, none⟩) (by simp) _).alloc (by simp; omega) _, by simp; omega⟩
      case measure => simp [intOf]; omega
    · have H7 : Hid (k = 7) := (by omega : k = 7)
      have z2 : Blk wr (w.heap.size + 1) 69 #[.bool (pteBit v 0), .bool (pteBit v 1), .bool (pteBit v 2), .bool (pteBit v 3), .bool (pteBit v 4), .bool (pteBit v 5), .bool (pteBit v 6), .bool false, .int .i64 0] := by
        have h := z1; rw [H7.out] at h; exact h
      have z3 : Blk wr w.heap.size 69 #[.bool false, .bool false, .bool false, .bool false, .bool false, .bool false, .bool false, .bool false, .int .i64 0] := z0
      have c0 := z2.cellv 0 rfl
      have c1 := z2.cellv 1 rfl
      have c2 := z2.cellv 2 rfl
      have c3 := z2.cellv 3 rfl
      have c4 := z2.cellv 4 rfl
      have c5 := z2.cellv 5 rfl
      have c6 := z2.cellv 6 rfl
      have c7 := z2.cellv 7 rfl
      have c8 := z2.cellv 8 rfl
      have f7 := z2.frozen 7
      have f8 := z2.frozen 8
      have d0 := z3.cellv 0 rfl
      have d1 := z3.cellv 1 rfl
      have d2 := z3.cellv 2 rfl
      have d3 := z3.cellv 3 rfl
      have d4 := z3.cellv 4 rfl
      have d5 := z3.cellv 5 rfl
      have d6 := z3.cellv 6 rfl
      have d7 := z3.cellv 7 rfl
      have d8 := z3.cellv 8 rfl
      have g0 := z3.frozen 0
      have g1 := z3.frozen 1
      have g2 := z3.frozen 2
      have g3 := z3.frozen 3
      have g4 := z3.frozen 4
      have g5 := z3.frozen 5
      have g6 := z3.frozen 6
      have g7 := z3.frozen 7
      have g8 := z3.frozen 8
      go_wp2
      have e7 : k = 7 := H7.out
      subst e7
      refine bodyPost_ret (v := .agg (pteGet v).cs.toArray) (ret_cell (g := w.heap.size) (t := 69) rfl rfl ?_ Try.underlying69 rfl (by kernel_rfl)) rfl ⟨rfl, ?_⟩
      · refine Blk.sb (Blk.set_ (Blk.set_ (Blk.set_ (Blk.set_ (Blk.set_ (Blk.set_ (Blk.set_ (Blk.set_ (Blk.fb (by simp) (Blk.fb (by simp) z3)) _ _) _ _) _ _) _ _) _ _) _ _) _ _) _ _) ?_
        simp only [pteGet, Pte.cs, pteFrame]
        simp
      · repeat' refine Below.setCell ?_ (by simp) _
        exact hB
end Go.Proofs.Ytbmbgicdnegkfaa

/- The walk of pte.Put. -/
namespace Go.Proofs.Ytbmbgicdnegkfaa
open Go Go.RowKit Sil

set_option maxRecDepth 100000 in
set_option maxHeartbeats 1000000 in
theorem pte_put_bad (e : Pte) (w : World) (h : e.bad = true ∨ e.frame < 0 ∨ 1048576 ≤ e.frame) :
    Calls Try.prog 96 #[.agg e.cs.toArray] w fun r w' => r = .returned (.tuple #[.int .u64 0, .bool false]) ∧ Below w.heap.size w w' := by
  obtain ⟨p, ww, u, a, d, ps, nx, bad, frame⟩ := e
  simp only [Pte.cs] at *
  cases bad
  · by_cases h1 : frame < 0
    · go_enter Try.func96, Try.ntmps96
      go_wp2
      go_ret2
      exact ⟨rfl, (Below.refl _ _).alloc (Nat.le_refl _) _⟩
    · have h2 : 1048576 ≤ frame := by simp at h; omega
      clear h
      go_enter Try.func96, Try.ntmps96
      go_wp2
      go_ret2
      exact ⟨rfl, (Below.refl _ _).alloc (Nat.le_refl _) _⟩
  · clear h
    go_enter Try.func96, Try.ntmps96
    go_wp2
    go_ret2
    exact ⟨rfl, (Below.refl _ _).alloc (Nat.le_refl _) _⟩

set_option maxRecDepth 100000 in
set_option maxHeartbeats 1000000 in
theorem pte_put_ok (e : Pte) (w : World) (h0 : e.bad = false) (h1 : 0 ≤ e.frame) (h2 : e.frame < 1048576) :
    Calls Try.prog 96 #[.agg e.cs.toArray] w fun r w' => r = .returned (.tuple #[.int .u64 (putTo e 7), .bool true]) ∧ Below w.heap.size w w' := by
  generalize hE : putTo e 7 = E
  have HE := Lib.hid hE
  clear hE
  have hfl : ∀ k, k < 7 → e.cs.toArray[k]? = some (.bool (pteFlag e k)) := by
    intro k hk
    have h7 : k = 0 ∨ k = 1 ∨ k = 2 ∨ k = 3 ∨ k = 4 ∨ k = 5 ∨ k = 6 := by omega
    rcases h7 with rfl | rfl | rfl | rfl | rfl | rfl | rfl <;> rfl
  have h8 : e.cs.toArray[8]? = some (.int .i64 e.frame) := rfl
  have h7 : e.cs.toArray[7]? = some (.bool false) := by rw [← h0]; rfl
  have HP : Hid (putTo e 0 = e.frame * 4096) := Lib.hid rfl
  have HF := Lib.hid hfl
  clear hfl
  have HB : Hid (e.cs = [.bool e.p, .bool e.w, .bool e.u, .bool e.a, .bool e.d, .bool e.ps, .bool e.nx, .bool false, .int .i64 e.frame]) := Lib.hid (by rw [← h0]; rfl)
  clear h0 h7 h8
  rw [HB.out]
  generalize e.frame = frame at *
  go_enter Try.func96, Try.ntmps96
  go_wp2_with (go_at_call 92; refine (pte_flags _ _).mono ?_; rintro e w' ⟨rfl, hb⟩)
  have z0 : Blk w' w.heap.size 69 e.cs.toArray := by
    have h := Blk.new w 69 e.cs.toArray
    rw [HB.out] at h ⊢
    exact h.below hb (by simp)
  have hB : Below w.heap.size w w' := ((Below.refl _ w).alloc (Nat.le_refl _) _).trans (hb.mono (by simp))
  have hz : w.heap.size < w'.heap.size := by have := hb.size; simp at this; omega
  clear hb
  rw [← HP.out]
  go_loopw [4, 24] (fun r i wr => ∃ k : Nat, k ≤ 7 ∧ i = .int .i64 k ∧ r = .int .u64 (putTo e k) ∧ Blk wr w.heap.size 69 e.cs.toArray ∧ Below w.heap.size w wr ∧ w.heap.size < wr.heap.size) (fun _ i _ => 7 - (intOf i).toNat)
  case atStart => exact ⟨0, by omega, rfl, rfl, z0, hB, hz⟩
  case round =>
    clear z0 hB hz
    obtain ⟨k, hk, rfl, rfl, z0, hB, hz⟩ := hrel
    by_cases hlt : k < 7
    · have hi := index_flags w.heap.size k hlt
      have c1 := z0.cellv k (HF.out k hlt)
      have hs : Hid (putTo e (k + 1) = if pteFlag e k then bits .or .u64 (putTo e k) (bitOf k) else putTo e k) := Lib.hid rfl
      cases hfl : pteFlag e k
      all_goals
        rw [hfl] at c1 hs
        clear hfl
        go_wp2
        go_roundw
        case rel => exact ⟨k + 1, by omega, by go_num, by rw [hs.out]; rfl, z0.alloc _, hB.alloc (by omega) _, by simp; omega⟩
        case measure => simp [intOf]; omega
    · have H7 : Hid (k = 7) := (by omega : k = 7)
      go_wp2
      go_ret2
      refine ⟨?_, hB⟩
      rw [← HE.out, H7.out]
      rfl

theorem pte_put (e : Pte) (w : World) :
    Calls Try.prog 96 #[.agg e.cs.toArray] w fun r w' => r = .returned (.tuple #[.int .u64 (ptePut e), .bool (pteOk e)]) ∧ Below w.heap.size w w' := by
  by_cases h : pteOk e = true
  · have h' := h
    simp only [pteOk, Bool.and_eq_true, Bool.not_eq_true', decide_eq_true_eq] at h'
    have hp : ptePut e = putTo e 7 := by unfold ptePut; rw [if_pos h]
    rw [hp, h]
    exact pte_put_ok e w h'.1.1 h'.1.2 h'.2
  · have h' : pteOk e = false := by simpa using h
    have hp : ptePut e = 0 := by unfold ptePut; rw [if_neg h]
    rw [hp, h']
    refine pte_put_bad e w ?_
    simp only [pteOk, Bool.and_eq_false_iff, Bool.not_eq_false', decide_eq_false_iff_not] at h'
    rcases h' with (h' | h') | h'
    · exact .inl h'
    · exact .inr (.inl (by omega))
    · exact .inr (.inr (by omega))
end Go.Proofs.Ytbmbgicdnegkfaa

/- The walks of the library's slices functions, at their uses. -/
namespace Go.Proofs.Ytbmbgicdnegkfaa
open Go Go.RowKit Sil

/-- where the first is of which something is so; -1: nowhere -/
def fidx {α : Type} (p : α → Bool) (l : List α) : Int := match l.findIdx? p with
  | some j => (j : Int)
  | none => -1
theorem fidx_some {α : Type} {p : α → Bool} {l : List α} {k : Nat} (hk : k < l.length) (h : p l[k] = true) (hq : ∀ (j : Nat) (hj : j < k), p (l[j]'(by omega)) = false) : fidx p l = k := by
  unfold fidx
  rw [List.findIdx?_eq_some_iff_getElem.2 ⟨hk, h, fun j hj => by simpa using hq j hj⟩]
theorem fidx_none {α : Type} {p : α → Bool} {l : List α} (hq : ∀ (j : Nat) (hj : j < l.length), p l[j] = false) : fidx p l = -1 := by
  unfold fidx
  rw [List.findIdx?_eq_none_iff.2 (fun x hx => by obtain ⟨j, hj, rfl⟩ := List.getElem_of_mem hx; exact hq j hj)]

/-- slices.IndexFunc at store.page and the closure store.Store.page$1 -/
theorem indexFunc_pageAt {α : Type} (ys : List α) (N : Nat) (hN : ys.length = N) (p : α → Bool) (cap : Value) (kt : Nat) (A : Option Addr) (c : Nat) (xs : List Value) (w : World) (tag : Nat → Nat) (hR : Rd kt tag w 1 (.slice A N c) N xs) (hn : N ≤ 1000000)
    (hf : ∀ (j : Nat) (v : Value) (hj : j < ys.length) (W : World), xs[j]? = some v → Below w.heap.size w W → Calls Try.prog 84 #[v, cap] W fun e W' => e = .returned (.bool (p ys[j])) ∧ Below W.heap.size W W') :
    Calls Try.prog 83 #[.slice A N c, .func (.func 84) #[] #[cap]] w fun e w' => e = .returned (.int .i64 (fidx p ys)) ∧ Below w.heap.size w w' := by
  have HF := Lib.hid hf
  have HL : Hid (xs.length = N) := by have := hR.1; rw [Nat.mul_one] at this; exact this
  have HN := Lib.hid hN
  clear hf hN
  go_enter Try.func83, Try.ntmps83
  go_wp2
  go_loopw [8] (fun i wr => ∃ k : Nat, k ≤ N ∧ i = .int .i64 k ∧ Hid (∀ (j : Nat) (hj : j < ys.length), j < k → p ys[j] = false) ∧ Below w.heap.size w wr) (fun i _ => N - (intOf i).toNat)
  case atStart => exact ⟨0, by omega, rfl, Lib.hid (fun j _ h => by omega), Below.refl _ _⟩
  case round =>
    obtain ⟨k, hk, rfl, HQ, hB⟩ := hrel
    by_cases hlt : k < N
    · have hlx : k < xs.length := by rw [HL.out]; exact hlt
      have hly : k < ys.length := by rw [HN.out]; exact hlt
      obtain ⟨v, hv⟩ : ∃ v, xs[k]? = some v := ⟨xs[k], by simp [hlx]⟩
      obtain ⟨g, off, rfl, hc, hg⟩ := hR.at_ hv
      have c1 : wr.cell? ⟨g, off + k, none⟩ = some v := (hB.cell (p := ⟨g, off + k, none⟩) hg).trans hc
      have HV := Lib.hid hv
      have HY := Lib.hid hly
      clear hv hc hlx hly
      go_wp2_with fail
      refine (HF.out k v HY.out wr HV.out hB).mono ?_
      rintro e W' ⟨rfl, hB'⟩
      have hB2 := hB.trans (hB'.mono hB.size)
      clear hB' c1
      cases hp : p (ys[k]'HY.out)
      · have HP := Lib.hid hp
        clear hp
        go_wp2
        go_roundw
        case rel =>
          refine ⟨k + 1, by omega, by go_num, Lib.hid (fun j hj h => ?_), hB2⟩
          by_cases e : j = k
          · subst e; exact HP.out
          · exact HQ.out j hj (by omega)
        case measure => simp [intOf]; omega
      · have HP := Lib.hid hp
        clear hp
        go_wp2
        go_ret
        exact ⟨by rw [fidx_some HY.out HP.out (fun j hj => HQ.out j _ hj)]; rfl, hB2⟩
    · go_wp2
      go_ret
      exact ⟨by rw [fidx_none (fun j hj => HQ.out j hj (by rw [HN.out] at hj; omega))]; rfl, hB⟩
/-- slices.IndexFunc at store.page and the closure store.Store.Drop$1 -/
theorem indexFunc_pageDrop {α : Type} (ys : List α) (N : Nat) (hN : ys.length = N) (p : α → Bool) (cap : Value) (kt : Nat) (A : Option Addr) (c : Nat) (xs : List Value) (w : World) (tag : Nat → Nat) (hR : Rd kt tag w 1 (.slice A N c) N xs) (hn : N ≤ 1000000)
    (hf : ∀ (j : Nat) (v : Value) (hj : j < ys.length) (W : World), xs[j]? = some v → Below w.heap.size w W → Calls Try.prog 94 #[v, cap] W fun e W' => e = .returned (.bool (p ys[j])) ∧ Below W.heap.size W W') :
    Calls Try.prog 83 #[.slice A N c, .func (.func 94) #[] #[cap]] w fun e w' => e = .returned (.int .i64 (fidx p ys)) ∧ Below w.heap.size w w' := by
  have HF := Lib.hid hf
  have HL : Hid (xs.length = N) := by have := hR.1; rw [Nat.mul_one] at this; exact this
  have HN := Lib.hid hN
  clear hf hN
  go_enter Try.func83, Try.ntmps83
  go_wp2
  go_loopw [8] (fun i wr => ∃ k : Nat, k ≤ N ∧ i = .int .i64 k ∧ Hid (∀ (j : Nat) (hj : j < ys.length), j < k → p ys[j] = false) ∧ Below w.heap.size w wr) (fun i _ => N - (intOf i).toNat)
  case atStart => exact ⟨0, by omega, rfl, Lib.hid (fun j _ h => by omega), Below.refl _ _⟩
  case round =>
    obtain ⟨k, hk, rfl, HQ, hB⟩ := hrel
    by_cases hlt : k < N
    · have hlx : k < xs.length := by rw [HL.out]; exact hlt
      have hly : k < ys.length := by rw [HN.out]; exact hlt
      obtain ⟨v, hv⟩ : ∃ v, xs[k]? = some v := ⟨xs[k], by simp [hlx]⟩
      obtain ⟨g, off, rfl, hc, hg⟩ := hR.at_ hv
      have c1 : wr.cell? ⟨g, off + k, none⟩ = some v := (hB.cell (p := ⟨g, off + k, none⟩) hg).trans hc
      have HV := Lib.hid hv
      have HY := Lib.hid hly
      clear hv hc hlx hly
      go_wp2_with fail
      refine (HF.out k v HY.out wr HV.out hB).mono ?_
      rintro e W' ⟨rfl, hB'⟩
      have hB2 := hB.trans (hB'.mono hB.size)
      clear hB' c1
      cases hp : p (ys[k]'HY.out)
      · have HP := Lib.hid hp
        clear hp
        go_wp2
        go_roundw
        case rel =>
          refine ⟨k + 1, by omega, by go_num, Lib.hid (fun j hj h => ?_), hB2⟩
          by_cases e : j = k
          · subst e; exact HP.out
          · exact HQ.out j hj (by omega)
        case measure => simp [intOf]; omega
      · have HP := Lib.hid hp
        clear hp
        go_wp2
        go_ret
        exact ⟨by rw [fidx_some HY.out HP.out (fun j hj => HQ.out j _ hj)]; rfl, hB2⟩
    · go_wp2
      go_ret
      exact ⟨by rw [fidx_none (fun j hj => HQ.out j hj (by rw [HN.out] at hj; omega))]; rfl, hB⟩
/-- slices.IndexFunc at int and the closure guard.Guard.tight$1 -/
theorem indexFunc_intTight {α : Type} (ys : List α) (N : Nat) (hN : ys.length = N) (p : α → Bool) (cap : Value) (kt : Nat) (A : Option Addr) (c : Nat) (xs : List Value) (w : World) (tag : Nat → Nat) (hR : Rd kt tag w 1 (.slice A N c) N xs) (hn : N ≤ 1000000)
    (hf : ∀ (j : Nat) (v : Value) (hj : j < ys.length) (W : World), xs[j]? = some v → Below w.heap.size w W → Calls Try.prog 91 #[v, cap] W fun e W' => e = .returned (.bool (p ys[j])) ∧ Below W.heap.size W W') :
    Calls Try.prog 101 #[.slice A N c, .func (.func 91) #[] #[cap]] w fun e w' => e = .returned (.int .i64 (fidx p ys)) ∧ Below w.heap.size w w' := by
  have HF := Lib.hid hf
  have HL : Hid (xs.length = N) := by have := hR.1; rw [Nat.mul_one] at this; exact this
  have HN := Lib.hid hN
  clear hf hN
  go_enter Try.func101, Try.ntmps101
  go_wp2
  go_loopw [8] (fun i wr => ∃ k : Nat, k ≤ N ∧ i = .int .i64 k ∧ Hid (∀ (j : Nat) (hj : j < ys.length), j < k → p ys[j] = false) ∧ Below w.heap.size w wr) (fun i _ => N - (intOf i).toNat)
  case atStart => exact ⟨0, by omega, rfl, Lib.hid (fun j _ h => by omega), Below.refl _ _⟩
  case round =>
    obtain ⟨k, hk, rfl, HQ, hB⟩ := hrel
    by_cases hlt : k < N
    · have hlx : k < xs.length := by rw [HL.out]; exact hlt
      have hly : k < ys.length := by rw [HN.out]; exact hlt
      obtain ⟨v, hv⟩ : ∃ v, xs[k]? = some v := ⟨xs[k], by simp [hlx]⟩
      obtain ⟨g, off, rfl, hc, hg⟩ := hR.at_ hv
      have c1 : wr.cell? ⟨g, off + k, none⟩ = some v := (hB.cell (p := ⟨g, off + k, none⟩) hg).trans hc
      have HV := Lib.hid hv
      have HY := Lib.hid hly
      clear hv hc hlx hly
      go_wp2_with fail
      refine (HF.out k v HY.out wr HV.out hB).mono ?_
      rintro e W' ⟨rfl, hB'⟩
      have hB2 := hB.trans (hB'.mono hB.size)
      clear hB' c1
      cases hp : p (ys[k]'HY.out)
      · have HP := Lib.hid hp
        clear hp
        go_wp2
        go_roundw
        case rel =>
          refine ⟨k + 1, by omega, by go_num, Lib.hid (fun j hj h => ?_), hB2⟩
          by_cases e : j = k
          · subst e; exact HP.out
          · exact HQ.out j hj (by omega)
        case measure => simp [intOf]; omega
      · have HP := Lib.hid hp
        clear hp
        go_wp2
        go_ret
        exact ⟨by rw [fidx_some HY.out HP.out (fun j hj => HQ.out j _ hj)]; rfl, hB2⟩
    · go_wp2
      go_ret
      exact ⟨by rw [fidx_none (fun j hj => HQ.out j hj (by rw [HN.out] at hj; omega))]; rfl, hB⟩

theorem index_int (ys : List Int) (N : Nat) (hN : ys.length = N) (x : Int) (kt : Nat) (A : Option Addr) (c : Nat) (w : World) (tag : Nat → Nat) (hR : Rd kt tag w 1 (.slice A N c) N (ys.map (Value.int .i64))) (hn : N ≤ 1000000) :
    Calls Try.prog 82 #[.slice A N c, .int .i64 x] w fun e w' => e = .returned (.int .i64 (fidx (fun y => x == y) ys)) ∧ w = w' := by
  have HN := Lib.hid hN
  clear hN
  go_enter Try.func82, Try.ntmps82
  go_wp2
  go_loop [8] (fun i => ∃ k : Nat, k ≤ N ∧ i = .int .i64 k ∧ Hid (∀ (j : Nat) (hj : j < ys.length), j < k → (x == ys[j]) = false)) (fun i => N - (intOf i).toNat)
  case atStart => exact ⟨0, by omega, rfl, Lib.hid (fun j _ h => by omega)⟩
  case round =>
    obtain ⟨k, hk, rfl, HQ⟩ := hrel
    by_cases hlt : k < N
    · have hly : k < ys.length := by rw [HN.out]; exact hlt
      obtain ⟨y, hy⟩ : ∃ y, ys[k]? = some y := ⟨ys[k], by simp [hly]⟩
      obtain ⟨g, off, rfl, c1, hg⟩ := hR.at_ (j := k) (u := .int .i64 y) (by simp [hy])
      have HY := Lib.hid hly
      have HYY : Hid (ys[k]'HY.out = y) := Lib.hid (by rw [List.getElem?_eq_getElem hly] at hy; simpa using hy)
      clear hly hy
      cases hp : (x == y)
      · have HP := Lib.hid hp
        go_wp2
        go_round
        case rel =>
          refine ⟨k + 1, by omega, by go_num, Lib.hid (fun j hj h => ?_)⟩
          by_cases e : j = k
          · subst e; rw [HYY.out]; exact HP.out
          · exact HQ.out j hj (by omega)
        case measure => simp [intOf]; omega
      · have HP := Lib.hid hp
        go_wp2
        go_ret
        exact ⟨by rw [fidx_some (p := fun y => x == y) HY.out (by rw [HYY.out]; exact HP.out) (fun j hj => HQ.out j _ hj)]; rfl, rfl⟩
    · go_wp2
      go_ret
      exact ⟨by rw [fidx_none (p := fun y => x == y) (fun j hj => HQ.out j hj (by rw [HN.out] at hj; omega))]; rfl, rfl⟩

theorem fidx_contains (ys : List Int) (x : Int) : decide (0 ≤ fidx (fun y => x == y) ys) = ys.contains x := by
  unfold fidx
  cases h : ys.findIdx? (fun y => x == y) with
  | none =>
    have := List.findIdx?_eq_none_iff.1 h
    simp only [beq_eq_false_iff_ne] at this
    have hx : ¬ x ∈ ys := fun hm => this x hm rfl
    simp [hx]
  | some j =>
    obtain ⟨hj, hx, _⟩ := List.findIdx?_eq_some_iff_getElem.1 h
    have : x ∈ ys := by
      have e : x = ys[j] := by simpa using hx
      rw [e]; exact List.getElem_mem hj
    simp [this]

theorem contains_int (ys : List Int) (N : Nat) (hN : ys.length = N) (x : Int) (kt : Nat) (A : Option Addr) (c : Nat) (w : World) (tag : Nat → Nat) (hR : Rd kt tag w 1 (.slice A N c) N (ys.map (Value.int .i64))) (hn : N ≤ 1000000) :
    Calls Try.prog 48 #[.slice A N c, .int .i64 x] w fun e w' => e = .returned (.bool (ys.contains x)) ∧ w = w' := by
  have HC := Lib.hid (fidx_contains ys x)
  have HN := Lib.hid hN
  clear hN
  go_enter Try.func48, Try.ntmps48
  go_wp2_with fail
  refine (index_int ys N HN.out x kt A c _ tag hR hn).mono ?_
  rintro e w' ⟨rfl, rfl⟩
  go_wp2
  go_ret
  refine ⟨?_, rfl⟩
  rw [← HC.out]
  rfl
end Go.Proofs.Ytbmbgicdnegkfaa

/- The walks of the closures over pages and numbers, and of slices.DeleteFunc and slices.Clone. -/
namespace Go.Proofs.Ytbmbgicdnegkfaa
open Go Go.RowKit Sil

theorem below_drewN {w w' : World} (h : ∃ n, w' = w.drewN n) : Below w.heap.size w w' := by
  obtain ⟨n, rfl⟩ := h
  exact ⟨rfl, rfl, rfl, Nat.le_refl _, fun _ _ => rfl⟩

theorem page_is (bp b : Nat) (f f' : Int) (w : World) (h0 : w.cell? ⟨bp, 0, none⟩ = some (.int .i64 f)) (h1 : w.cell? ⟨b, 0, none⟩ = some (.int .i64 f')) :
    Calls Try.prog 84 #[.pointer (some ⟨bp, 0, none⟩), .pointer (some ⟨b, 0, none⟩)] w fun e w' => e = .returned (.bool (f == f')) ∧ Below w.heap.size w w' := by
  go_enter Try.func84, Try.ntmps84
  go_wp2
  go_quiet (fail)
  go_wp2
  go_ret
  exact ⟨rfl, below_drewN ⟨_, rfl⟩⟩
theorem page_is_drop (bp b : Nat) (f f' : Int) (w : World) (h0 : w.cell? ⟨bp, 0, none⟩ = some (.int .i64 f)) (h1 : w.cell? ⟨b, 0, none⟩ = some (.int .i64 f')) :
    Calls Try.prog 94 #[.pointer (some ⟨bp, 0, none⟩), .pointer (some ⟨b, 0, none⟩)] w fun e w' => e = .returned (.bool (f == f')) ∧ Below w.heap.size w w' := by
  go_enter Try.func94, Try.ntmps94
  go_wp2
  go_quiet (fail)
  go_wp2
  go_ret
  exact ⟨rfl, below_drewN ⟨_, rfl⟩⟩

theorem tight_is (b : Nat) (x y : Int) (w : World) (h1 : w.cell? ⟨b, 0, none⟩ = some (.int .i64 y)) :
    Calls Try.prog 91 #[.int .i64 x, .pointer (some ⟨b, 0, none⟩)] w fun e w' => e = .returned (.bool (x == y)) ∧ Below w.heap.size w w' := by
  go_enter Try.func91, Try.ntmps91
  go_wp2
  go_ret
  exact ⟨rfl, Below.refl _ _⟩

/-- slices.DeleteFunc at int and the closure guard.Guard.tight$1: the row is cut to what is kept -/
theorem deleteFunc_intTight {α : Type} (enc : α → Value) (henc : ∀ y, ∃ z, enc y = .int .i64 z) (ys : List α) (N : Nat) (hN : ys.length = N) (p : α → Bool) (cap : Value) (kt : Nat) (v : Value) (w : World) (tag : Nat → Nat)
    (hR : Row kt tag w 3 1 v N (ys.map enc)) (hn : N ≤ 1000000)
    (hf : ∀ (j : Nat) (hj : j < ys.length) (W : World), Mod [kt] tag tag w W → Calls Try.prog 91 #[enc ys[j], cap] W fun e W' => e = .returned (.bool (p ys[j])) ∧ Below W.heap.size W W') :
    Calls Try.prog 90 #[v, .func (.func 91) #[] #[cap]] w fun e w' =>
      ∃ v', e = .returned v' ∧ Row kt tag w' 3 1 v' (ys.filter (fun y => !p y)).length ((ys.filter (fun y => !p y)).map enc) ∧ Mod [kt] tag tag w w' := by
  have HF := Lib.hid hf
  have HN := Lib.hid hN
  have hz : ∀ w, (zeroValue 3).run Try.prog w = .ok (.int .i64 0) w := fun w => by kernel_rfl
  obtain ⟨A, cp, rfl⟩ := hR.val
  have hIF := fun (j : Nat) (v : Value) (hj : j < ys.length) (W : World) (hv : (ys.map enc)[j]? = some v) (hB : Below w.heap.size w W) => by
    have e : v = enc ys[j] := by simpa [hj] using hv.symm
    have := hf j hj W (Mod.of_below hB)
    rw [← e] at this
    exact this
  have HI := Lib.hid hIF
  clear hf hN hIF
  by_cases hnone : ys.findIdx? p = none
  · -- nothing goes
    have hfi : fidx p ys = -1 := by unfold fidx; rw [hnone]
    have hfl : ys.filter (fun y => !p y) = ys := by
      rw [List.filter_eq_self]; intro y hy; simp [List.findIdx?_eq_none_iff.1 hnone y hy]
    rw [hfl, HN.out]
    have HFI := Lib.hid hfi
    clear hfi hfl hnone
    go_enter Try.func90, Try.ntmps90
    go_wp2_with fail
    refine (indexFunc_intTight ys N HN.out p cap kt A cp _ w tag hR.rd hn HI.out).mono ?_
    rintro e W' ⟨rfl, hB⟩
    rw [HFI.out]
    go_wp2
    go_ret
    exact ⟨_, rfl, hR.mod (T := []) (Mod.of_below hB) (by simp), Mod.of_below hB⟩
  · obtain ⟨k0, hk0⟩ : ∃ k0, ys.findIdx? p = some k0 := by
      cases h : ys.findIdx? p with
      | none => exact absurd h hnone
      | some k0 => exact ⟨k0, rfl⟩
    clear hnone
    have hfi : fidx p ys = k0 := by unfold fidx; rw [hk0]
    obtain ⟨hlk, hpk, hbk⟩ := List.findIdx?_eq_some_iff_getElem.1 hk0
    rcases hR.form with ⟨_, hN0, _⟩ | ⟨g, cap', C0, hv, htg, hB0, hNc, hcm, hCs, hCx⟩
    · exfalso; have := HN.out; omega
    obtain ⟨rfl, rfl⟩ : A = some ⟨g, 0, none⟩ ∧ cp = cap' := by injection hv with h1 h2 h3; exact ⟨h1, h3⟩
    have hlkN : k0 < N := by rw [← HN.out]; exact hlk
    have HFI := Lib.hid hfi
    have hfirst : Mid C0 k0 (k0 + 1) N (((ys.take (k0 + 1)).filter (fun y => !p y)).map enc) (ys.map enc) := by
      have e1 : (ys.take (k0 + 1)).filter (fun y => !p y) = ys.take k0 := by
        rw [List.take_succ_eq_append_getElem hlk, List.filter_append]
        have e2 : (ys.take k0).filter (fun y => !p y) = ys.take k0 := by
          rw [List.filter_eq_self]
          intro y hy
          obtain ⟨j, hj, rfl⟩ := List.getElem_of_mem hy
          have hj' : j < k0 := by simp at hj; omega
          have := hbk j hj'
          simp only [List.getElem_take]
          simpa using this
        rw [e2]; simp [hpk]
      have hlc : ∀ l, l < N → C0[l]? = (ys.map enc)[l]? := by
        intro l hl
        rw [← hCx, List.getElem?_take, if_pos (by omega)]; simp
      refine ⟨?_, by simp [e1]; omega, fun l _ h2 => hlc l h2⟩
      rw [e1]
      apply List.ext_getElem?
      intro l
      rw [List.getElem?_take]
      split
      · rename_i hl
        have := hlc l (by omega)
        simp only [List.getElem?_map, List.getElem?_take, if_pos hl] at this ⊢
        simpa using this
      · rename_i hl
        rw [List.getElem?_eq_none (by simp; omega)]
    have HM := Lib.hid hfirst
    have hne : ((k0 : Int) == -1) = false := by simp
    have HCS : Hid (C0.size = cp) := Lib.hid (by omega)
    clear hfirst hfi hpk hbk hk0 hlk hCs hv hCx
    go_enter Try.func90, Try.ntmps90
    go_wp2_with fail
    refine (indexFunc_intTight ys N HN.out p cap kt _ cp _ w tag hR.rd hn HI.out).mono ?_
    rintro e W' ⟨rfl, hB⟩
    rw [HFI.out]
    have hM1 : Mod [kt] tag tag w W' := Mod.of_below hB
    have hB1 : Blk W' g 3 C0 := hB0.below hB hB0.lt
    clear hB
    go_wp2
    go_loopw [5, 6] (fun ti tj wr => ∃ (i j : Nat) (C : Array Value), i < j ∧ j ≤ N ∧ ti = .int .i64 i ∧ tj = .int .i64 j ∧ Blk wr g 3 C ∧ Hid (C.size = cp) ∧ Hid (Mid C i j N (((ys.take j).filter (fun y => !p y)).map enc) (ys.map enc)) ∧ Mod [kt] tag tag w wr) (fun _ tj _ => N - (intOf tj).toNat)
    case atStart => exact ⟨k0, k0 + 1, C0, by omega, by omega, rfl, rfl, hB1, HCS, HM, hM1⟩
    case round =>
      clear hM1 hB1 HM HCS
      obtain ⟨i, j, C, hij, hjN, rfl, rfl, hB1, HCS, HM, hM1⟩ := hrel
      by_cases hlt : j < N
      · have hly : j < ys.length := by rw [HN.out]; exact hlt
        have hcj : wr.cell? ⟨g, j, none⟩ = some (enc ys[j]) := by
          rw [hB1.cell, HM.out.2.2 j (Nat.le_refl _) hlt]; simp [hly]
        have hci : ∃ u, wr.cell? ⟨g, i, none⟩ = some u := by
          rw [hB1.cell]; exact ⟨C[i]'(by rw [HCS.out]; omega), by simp [show i < C.size by rw [HCS.out]; omega]⟩
        obtain ⟨u, hci⟩ := hci
        have hfz := hB1.frozen i
        have HY := Lib.hid hly
        obtain ⟨z, hx⟩ := henc (ys[j]'hly)
        rw [hx] at hcj
        have HX : Hid (enc (ys[j]'HY.out) = .int .i64 z) := Lib.hid hx
        clear hx hly
        have hcall := HF.out j HY.out wr hM1
        rw [HX.out] at hcall
        have HCALL := Lib.hid hcall
        clear hcall
        cases hp : p (ys[j]'HY.out)
        · have HP := Lib.hid hp
          rw [hp] at HCALL
          clear hp
          go_wp2_with fail
          refine HCALL.out.mono ?_
          rintro e W2 ⟨rfl, hb2⟩
          have hB2 := hB1.below hb2 hB1.lt
          have hM2 : Mod [kt] tag tag w W2 := hM1.trans (Mod.of_below hb2)
          have hci2 : W2.cell? ⟨g, i, none⟩ = some u := (hb2.cell (p := ⟨g, i, none⟩) hB1.lt).trans hci
          have hfz2 := hB2.frozen i
          clear hci hfz hcj hb2
          go_wp2
          go_roundw
          case rel =>
            refine ⟨i + 1, j + 1, C.setIfInBounds i (.int .i64 z), by omega, by omega, by go_num, by go_num, hB2.set_ i _, Lib.hid (by simp [HCS.out]), ?_, hM2.setCell (by simp [htg]) _⟩
            have hm := HM.out.put hij (by rw [HCS.out]; omega) (.int .i64 z)
            have e1 : ((ys.take (j + 1)).filter (fun y => !p y)).map enc = ((ys.take j).filter (fun y => !p y)).map enc ++ [.int .i64 z] := by
              rw [List.take_succ_eq_append_getElem HY.out, List.filter_append]
              simp [HP.out, HX.out]
            rw [e1]; exact Lib.hid hm
          case measure => simp [intOf]; omega
        · have HP := Lib.hid hp
          rw [hp] at HCALL
          clear hp
          go_wp2_with fail
          refine HCALL.out.mono ?_
          rintro e W2 ⟨rfl, hb2⟩
          have hB2 := hB1.below hb2 hB1.lt
          have hM2 : Mod [kt] tag tag w W2 := hM1.trans (Mod.of_below hb2)
          clear hci hfz hcj hb2
          go_wp2
          go_roundw
          case rel =>
            refine ⟨i, j + 1, C, by omega, by omega, rfl, by go_num, hB2, HCS, ?_, hM2⟩
            have e1 : ((ys.take (j + 1)).filter (fun y => !p y)).map enc = ((ys.take j).filter (fun y => !p y)).map enc := by
              rw [List.take_succ_eq_append_getElem HY.out, List.filter_append]
              simp [HP.out]
            rw [e1]; exact Lib.hid HM.out.keep
          case measure => simp [intOf]; omega
      · have HJ : Hid (j = N) := Lib.hid (by omega)
        have hcl : (Builtin.clear_ #[45] 0 #[.slice (some ⟨g, i, none⟩) (N - i) (cp - i)]).run Try.prog wr = _ := run_clear_row (t := 45) (z := .int .i64 0) (sz := 1) Try.underlying45 hz rfl (by simp [Value.cells, Value.oneCell']) hB1 (by rw [HCS.out]; omega)
        generalize hW : wr.setRow g _ = W3 at hcl
        have hM3 : Mod [kt] tag tag w W3 := by
          rw [← hW]; exact hM1.setRow (by simp [htg]) _
        have hB3 : Row kt tag W3 3 1 (.slice (some ⟨g, 0, none⟩) i cp) (ys.filter (fun y => !p y)).length ((ys.filter (fun y => !p y)).map enc) := by
          have e1 : ys.take j = ys := by rw [HJ.out, ← HN.out]; exact List.take_length
          obtain ⟨m1, m2, m3⟩ := HM.out
          rw [e1] at m1 m2
          rw [List.length_map] at m2
          have hlen : C.toList.length = cp := by rw [Array.length_toList]; exact HCS.out
          refine ⟨⟨by simp, .inr ⟨g, cp, _, by rw [m2], Nat.zero_le _, by rw [← hW]; exact blk_setRow hB1, by omega, hcm, ?_, ?_⟩⟩, fun b hb => by simp [Value.ownBlock] at hb; subst hb; exact htg⟩
          · have hzl : (Builtin.zeroCells (Value.cells (.int .i64 0)) (N - i)).toList.length = N - i := by rw [Array.length_toList, size_zeroCells']; simp [Value.cells]
            simp only [List.size_toArray, List.length_append, List.length_take, List.length_drop, hzl, hlen]
            omega
          · rw [Nat.mul_one, m2, List.toList_toArray, List.append_assoc, List.take_append_of_le_length (by rw [List.length_take, hlen]; omega), List.take_of_length_le (by rw [List.length_take]; omega)]
            exact m1
        clear hW
        go_wp2
        go_ret
        exact ⟨_, rfl, hB3, hM3⟩
/-- slices.DeleteFunc at store.page and the closure store.Store.Drop$1: the row is cut to what is kept -/
theorem deleteFunc_pageDrop {α : Type} (enc : α → Value) (henc : ∀ y, ∃ z, enc y = .pointer (some ⟨z, 0, none⟩)) (ys : List α) (N : Nat) (hN : ys.length = N) (p : α → Bool) (cap : Value) (kt : Nat) (v : Value) (w : World) (tag : Nat → Nat)
    (hR : Row kt tag w 99 1 v N (ys.map enc)) (hn : N ≤ 1000000)
    (hf : ∀ (j : Nat) (hj : j < ys.length) (W : World), Mod [kt] tag tag w W → Calls Try.prog 94 #[enc ys[j], cap] W fun e W' => e = .returned (.bool (p ys[j])) ∧ Below W.heap.size W W') :
    Calls Try.prog 93 #[v, .func (.func 94) #[] #[cap]] w fun e w' =>
      ∃ v', e = .returned v' ∧ Row kt tag w' 99 1 v' (ys.filter (fun y => !p y)).length ((ys.filter (fun y => !p y)).map enc) ∧ Mod [kt] tag tag w w' := by
  have HF := Lib.hid hf
  have HN := Lib.hid hN
  have hz : ∀ w, (zeroValue 99).run Try.prog w = .ok (.pointer none) w := fun w => by kernel_rfl
  obtain ⟨A, cp, rfl⟩ := hR.val
  have hIF := fun (j : Nat) (v : Value) (hj : j < ys.length) (W : World) (hv : (ys.map enc)[j]? = some v) (hB : Below w.heap.size w W) => by
    have e : v = enc ys[j] := by simpa [hj] using hv.symm
    have := hf j hj W (Mod.of_below hB)
    rw [← e] at this
    exact this
  have HI := Lib.hid hIF
  clear hf hN hIF
  by_cases hnone : ys.findIdx? p = none
  · -- nothing goes
    have hfi : fidx p ys = -1 := by unfold fidx; rw [hnone]
    have hfl : ys.filter (fun y => !p y) = ys := by
      rw [List.filter_eq_self]; intro y hy; simp [List.findIdx?_eq_none_iff.1 hnone y hy]
    rw [hfl, HN.out]
    have HFI := Lib.hid hfi
    clear hfi hfl hnone
    go_enter Try.func93, Try.ntmps93
    go_wp2_with fail
    refine (indexFunc_pageDrop ys N HN.out p cap kt A cp _ w tag hR.rd hn HI.out).mono ?_
    rintro e W' ⟨rfl, hB⟩
    rw [HFI.out]
    go_wp2
    go_ret
    exact ⟨_, rfl, hR.mod (T := []) (Mod.of_below hB) (by simp), Mod.of_below hB⟩
  · obtain ⟨k0, hk0⟩ : ∃ k0, ys.findIdx? p = some k0 := by
      cases h : ys.findIdx? p with
      | none => exact absurd h hnone
      | some k0 => exact ⟨k0, rfl⟩
    clear hnone
    have hfi : fidx p ys = k0 := by unfold fidx; rw [hk0]
    obtain ⟨hlk, hpk, hbk⟩ := List.findIdx?_eq_some_iff_getElem.1 hk0
    rcases hR.form with ⟨_, hN0, _⟩ | ⟨g, cap', C0, hv, htg, hB0, hNc, hcm, hCs, hCx⟩
    · exfalso; have := HN.out; omega
    obtain ⟨rfl, rfl⟩ : A = some ⟨g, 0, none⟩ ∧ cp = cap' := by injection hv with h1 h2 h3; exact ⟨h1, h3⟩
    have hlkN : k0 < N := by rw [← HN.out]; exact hlk
    have HFI := Lib.hid hfi
    have hfirst : Mid C0 k0 (k0 + 1) N (((ys.take (k0 + 1)).filter (fun y => !p y)).map enc) (ys.map enc) := by
      have e1 : (ys.take (k0 + 1)).filter (fun y => !p y) = ys.take k0 := by
        rw [List.take_succ_eq_append_getElem hlk, List.filter_append]
        have e2 : (ys.take k0).filter (fun y => !p y) = ys.take k0 := by
          rw [List.filter_eq_self]
          intro y hy
          obtain ⟨j, hj, rfl⟩ := List.getElem_of_mem hy
          have hj' : j < k0 := by simp at hj; omega
          have := hbk j hj'
          simp only [List.getElem_take]
          simpa using this
        rw [e2]; simp [hpk]
      have hlc : ∀ l, l < N → C0[l]? = (ys.map enc)[l]? := by
        intro l hl
        rw [← hCx, List.getElem?_take, if_pos (by omega)]; simp
      refine ⟨?_, by simp [e1]; omega, fun l _ h2 => hlc l h2⟩
      rw [e1]
      apply List.ext_getElem?
      intro l
      rw [List.getElem?_take]
      split
      · rename_i hl
        have := hlc l (by omega)
        simp only [List.getElem?_map, List.getElem?_take, if_pos hl] at this ⊢
        simpa using this
      · rename_i hl
        rw [List.getElem?_eq_none (by simp; omega)]
    have HM := Lib.hid hfirst
    have hne : ((k0 : Int) == -1) = false := by simp
    have HCS : Hid (C0.size = cp) := Lib.hid (by omega)
    clear hfirst hfi hpk hbk hk0 hlk hCs hv hCx
    go_enter Try.func93, Try.ntmps93
    go_wp2_with fail
    refine (indexFunc_pageDrop ys N HN.out p cap kt _ cp _ w tag hR.rd hn HI.out).mono ?_
    rintro e W' ⟨rfl, hB⟩
    rw [HFI.out]
    have hM1 : Mod [kt] tag tag w W' := Mod.of_below hB
    have hB1 : Blk W' g 99 C0 := hB0.below hB hB0.lt
    clear hB
    go_wp2
    go_loopw [5, 6] (fun ti tj wr => ∃ (i j : Nat) (C : Array Value), i < j ∧ j ≤ N ∧ ti = .int .i64 i ∧ tj = .int .i64 j ∧ Blk wr g 99 C ∧ Hid (C.size = cp) ∧ Hid (Mid C i j N (((ys.take j).filter (fun y => !p y)).map enc) (ys.map enc)) ∧ Mod [kt] tag tag w wr) (fun _ tj _ => N - (intOf tj).toNat)
    case atStart => exact ⟨k0, k0 + 1, C0, by omega, by omega, rfl, rfl, hB1, HCS, HM, hM1⟩
    case round =>
      clear hM1 hB1 HM HCS
      obtain ⟨i, j, C, hij, hjN, rfl, rfl, hB1, HCS, HM, hM1⟩ := hrel
      by_cases hlt : j < N
      · have hly : j < ys.length := by rw [HN.out]; exact hlt
        have hcj : wr.cell? ⟨g, j, none⟩ = some (enc ys[j]) := by
          rw [hB1.cell, HM.out.2.2 j (Nat.le_refl _) hlt]; simp [hly]
        have hci : ∃ u, wr.cell? ⟨g, i, none⟩ = some u := by
          rw [hB1.cell]; exact ⟨C[i]'(by rw [HCS.out]; omega), by simp [show i < C.size by rw [HCS.out]; omega]⟩
        obtain ⟨u, hci⟩ := hci
        have hfz := hB1.frozen i
        have HY := Lib.hid hly
        obtain ⟨z, hx⟩ := henc (ys[j]'hly)
        rw [hx] at hcj
        have HX : Hid (enc (ys[j]'HY.out) = .pointer (some ⟨z, 0, none⟩)) := Lib.hid hx
        clear hx hly
        have hcall := HF.out j HY.out wr hM1
        rw [HX.out] at hcall
        have HCALL := Lib.hid hcall
        clear hcall
        cases hp : p (ys[j]'HY.out)
        · have HP := Lib.hid hp
          rw [hp] at HCALL
          clear hp
          go_wp2_with fail
          refine HCALL.out.mono ?_
          rintro e W2 ⟨rfl, hb2⟩
          have hB2 := hB1.below hb2 hB1.lt
          have hM2 : Mod [kt] tag tag w W2 := hM1.trans (Mod.of_below hb2)
          have hci2 : W2.cell? ⟨g, i, none⟩ = some u := (hb2.cell (p := ⟨g, i, none⟩) hB1.lt).trans hci
          have hfz2 := hB2.frozen i
          clear hci hfz hcj hb2
          go_wp2
          go_roundw
          case rel =>
            refine ⟨i + 1, j + 1, C.setIfInBounds i (.pointer (some ⟨z, 0, none⟩)), by omega, by omega, by go_num, by go_num, hB2.set_ i _, Lib.hid (by simp [HCS.out]), ?_, hM2.setCell (by simp [htg]) _⟩
            have hm := HM.out.put hij (by rw [HCS.out]; omega) (.pointer (some ⟨z, 0, none⟩))
            have e1 : ((ys.take (j + 1)).filter (fun y => !p y)).map enc = ((ys.take j).filter (fun y => !p y)).map enc ++ [.pointer (some ⟨z, 0, none⟩)] := by
              rw [List.take_succ_eq_append_getElem HY.out, List.filter_append]
              simp [HP.out, HX.out]
            rw [e1]; exact Lib.hid hm
          case measure => simp [intOf]; omega
        · have HP := Lib.hid hp
          rw [hp] at HCALL
          clear hp
          go_wp2_with fail
          refine HCALL.out.mono ?_
          rintro e W2 ⟨rfl, hb2⟩
          have hB2 := hB1.below hb2 hB1.lt
          have hM2 : Mod [kt] tag tag w W2 := hM1.trans (Mod.of_below hb2)
          clear hci hfz hcj hb2
          go_wp2
          go_roundw
          case rel =>
            refine ⟨i, j + 1, C, by omega, by omega, rfl, by go_num, hB2, HCS, ?_, hM2⟩
            have e1 : ((ys.take (j + 1)).filter (fun y => !p y)).map enc = ((ys.take j).filter (fun y => !p y)).map enc := by
              rw [List.take_succ_eq_append_getElem HY.out, List.filter_append]
              simp [HP.out]
            rw [e1]; exact Lib.hid HM.out.keep
          case measure => simp [intOf]; omega
      · have HJ : Hid (j = N) := Lib.hid (by omega)
        have hcl : (Builtin.clear_ #[113] 0 #[.slice (some ⟨g, i, none⟩) (N - i) (cp - i)]).run Try.prog wr = _ := run_clear_row (t := 113) (z := .pointer none) (sz := 1) Try.underlying113 hz rfl (by simp [Value.cells, Value.oneCell']) hB1 (by rw [HCS.out]; omega)
        generalize hW : wr.setRow g _ = W3 at hcl
        have hM3 : Mod [kt] tag tag w W3 := by
          rw [← hW]; exact hM1.setRow (by simp [htg]) _
        have hB3 : Row kt tag W3 99 1 (.slice (some ⟨g, 0, none⟩) i cp) (ys.filter (fun y => !p y)).length ((ys.filter (fun y => !p y)).map enc) := by
          have e1 : ys.take j = ys := by rw [HJ.out, ← HN.out]; exact List.take_length
          obtain ⟨m1, m2, m3⟩ := HM.out
          rw [e1] at m1 m2
          rw [List.length_map] at m2
          have hlen : C.toList.length = cp := by rw [Array.length_toList]; exact HCS.out
          refine ⟨⟨by simp, .inr ⟨g, cp, _, by rw [m2], Nat.zero_le _, by rw [← hW]; exact blk_setRow hB1, by omega, hcm, ?_, ?_⟩⟩, fun b hb => by simp [Value.ownBlock] at hb; subst hb; exact htg⟩
          · have hzl : (Builtin.zeroCells (Value.cells (.pointer none)) (N - i)).toList.length = N - i := by rw [Array.length_toList, size_zeroCells']; simp [Value.cells]
            simp only [List.size_toArray, List.length_append, List.length_take, List.length_drop, hzl, hlen]
            omega
          · rw [Nat.mul_one, m2, List.toList_toArray, List.append_assoc, List.take_append_of_le_length (by rw [List.length_take, hlen]; omega), List.take_of_length_le (by rw [List.length_take]; omega)]
            exact m1
        clear hW
        go_wp2
        go_ret
        exact ⟨_, rfl, hB3, hM3⟩
end Go.Proofs.Ytbmbgicdnegkfaa

/- The walks of slices.Clone and of layer 9: what is known of pages. -/
namespace Go.Proofs.Ytbmbgicdnegkfaa
open Go Go.RowKit Sil

theorem info_int : (Try.prog.info? 3).map (fun i => (i.zero, i.size, i.bytes)) = some (some (.int .i64 0), 1, 8) := by kernel_rfl

/-- slices.Clone at int: new memory -/
theorem clone_int (kt : Nat) (A : Option Addr) (c N : Nat) (xs : List Value) (w : World) (tag : Nat → Nat) (hR : Rd kt tag w 1 (.slice A N c) N xs) (h1 : ∀ u ∈ xs, u.oneCell' = true) (hn : N ≤ 1000000) :
    Calls Try.prog 59 #[.slice A N c] w fun e w' => ∃ v', e = .returned v' ∧ w'.ownsRow w.heap.size 3 1 v' N xs ∧ Below w.heap.size w w' ∧ (v' = .slice none 0 0 → N = 0) := by
  obtain ⟨i0, hi, hz0, hz1, hz2⟩ := info_parts info_int
  have qT : ∀ (w : World) (a : Option Addr) (n c n' c' : Nat), (binOp .eql 45 (.slice a n c) (.slice none n' c')).run Try.prog w = .ok (.bool a.isNone) w := fun w a n c n' c' => Lib.run_eql_slice_nil w _ _ a n c n' c' Try.underlying45
  have hl := hR.1
  cases A with
  | none =>
    have hN : N = 0 := by
      rcases Nat.eq_zero_or_pos N with h | h
      · exact h
      · obtain ⟨_, _, _, hv, _, h2⟩ := hR
        cases hv
        obtain ⟨g, off, hA, _⟩ := h2 h
        cases hA
    subst hN
    have hx : xs = [] := List.eq_nil_of_length_eq_zero (by simpa using hl)
    subst hx
    clear hR
    go_enter Try.func59, Try.ntmps59
    go_wp2
    go_ret
    exact ⟨_, rfl, World.ownsRow_nil _ _ _ _, Below.refl _ _, by simp⟩
  | some ad =>
    have hown0 : (w.alloc (.cells #[] 3)).ownsRow w.heap.size 3 1 (.slice (some ⟨w.heap.size, 0, none⟩) 0 0) 0 [] := World.ownsRow_made w #[] 0 (Nat.le_refl _) (by unfold maxLen; omega) (by simp)
    have hnews : ∀ j u, xs[j]? = some u → (w.alloc (.cells #[] 3)).cell? (ad.add j) = some u := by
      intro j u hu
      obtain ⟨g, off, hA, hc, hg⟩ := hR.at_ hu
      cases hA
      have hadd : (⟨g, off, none⟩ : Addr).add j = ⟨g, off + j, none⟩ := by unfold Addr.add; split <;> simp_all
      rw [hadd, World.cell?_alloc_lt w _ _ hg]
      exact hc
    have HL := Lib.hid hl
    have H1 := Lib.hid h1
    have HNW := Lib.hid hnews
    clear hl h1 hR hnews
    go_enter Try.func59, Try.ntmps59
    go_wp2_with (at_builtin; refine wpList_append_own _ rfl _ _ 45 rfl w.heap.size 3 i0 _ 1 8 Try.underlying45 hi hz0 hz1 hz2 rfl (by decide) _ _ _ rfl hown0 ad N c xs rfl HL.out HNW.out H1.out ?c3 ?c4 ?c5 ?c6)
    case c3 => unfold maxLen; omega
    case c4 => omega
    case c5 => simp
    case c6 =>
      intro v' w1 hown' hgrow _
      have hb : Below w.heap.size w w1 := ((Below.refl _ w).alloc (Nat.le_refl _) _).grown hgrow (by simp) (fun k h => by simp [Value.ownBlock] at h; omega)
      go_wp2
      go_ret
      refine ⟨_, rfl, hown', hb, fun h => ?_⟩
      rcases hown'.2 with h2 | ⟨_, _, _, h2, _⟩
      · exact h2.2
      · rw [h2] at h; cases h

/-- what is known: the struct's block a (tag k), the hits' row (tag k + 1) -/
def TlbR (k : Nat) (tag : Nat → Nat) (w : World) (a : Nat) (most : Int) (hs : List Hit) : Prop :=
  ∃ v, tag a = k ∧ Blk w a 106 #[.int .i64 most, v] ∧ Row (k + 1) tag w 51 7 v hs.length (hs.flatMap Hit.cs)

theorem TlbR.mod {k : Nat} {tag tag' : Nat → Nat} {w w' : World} {a : Nat} {most : Int} {hs : List Hit} {T : List Nat} (h : TlbR k tag w a most hs) (hm : Mod T tag tag' w w') (h0 : k ∉ T) (h1 : k + 1 ∉ T) : TlbR k tag' w' a most hs := by
  obtain ⟨v, ha, hA, hr⟩ := h
  exact ⟨v, hm.tagOf hA ha, hA.mod hm (by rw [ha]; exact h0), hr.mod hm h1⟩

theorem tlb_many (k a : Nat) (tag : Nat → Nat) (most : Int) (hs : List Hit) (w : World) (H : TlbR k tag w a most hs) :
    Calls Try.prog 22 #[.pointer (some ⟨a, 0, none⟩)] w fun e w' => e = .returned (.int .i64 hs.length) ∧ w = w' := by
  obtain ⟨v, ha, hA, hr⟩ := H
  obtain ⟨A, c, rfl⟩ := hr.val
  have c1 := hA.cellv 1 rfl
  go_enter Try.func22, Try.ntmps22
  go_wp2
  go_ret
  exact ⟨rfl, rfl⟩

theorem tlb_all (k a : Nat) (tag : Nat → Nat) (most : Int) (hs : List Hit) (w : World) (H : TlbR k tag w a most hs) :
    Calls Try.prog 64 #[.pointer (some ⟨a, 0, none⟩)] w fun e w' => e = .returned (.tuple #[]) ∧ TlbR k tag w' a most [] ∧ Mod [k] tag tag w w' := by
  obtain ⟨v, ha, hA, hr⟩ := H
  obtain ⟨A, c, rfl⟩ := hr.val
  have c1 := hA.cellv 1 rfl
  have f1 := hA.frozen 1
  go_enter Try.func64, Try.ntmps64
  go_wp2
  go_end0
  exact ⟨rfl, ⟨_, ha, hA.set_ 1 _, Row.nil _ _ _ _ _⟩, (Mod.refl _ _ _).setCell (by simp [ha]) _⟩

/-- one of a hit's cells -/
theorem hits_cell {hs : List Hit} {j : Nat} {h : Hit} (hj : hs[j]? = some h) (i : Nat) (hi : i < 7) : (hs.flatMap Hit.cs)[j * 7 + i]? = h.cs[i]? := by
  induction hs generalizing j with
  | nil => simp at hj
  | cons x xs ih =>
    cases j with
    | zero =>
      have e : x = h := by simpa using hj
      subst e
      rw [List.flatMap_cons, List.getElem?_append_left (by simp [Hit.cs]; omega)]
      simp
    | succ j =>
      have hj' : xs[j]? = some h := by simpa using hj
      rw [List.flatMap_cons, List.getElem?_append_right (by simp [Hit.cs]; omega)]
      have e : (j + 1) * 7 + i - x.cs.length = j * 7 + i := by simp [Hit.cs]; omega
      rw [e]; exact ih hj'

theorem tlb_of (h : Hit) (w : World) :
    Calls Try.prog 99 #[.agg h.cs.toArray] w fun e w' => e = .returned (.agg #[.int .i64 h.asid, .int .i64 h.page]) ∧ Below w.heap.size w w' := by
  obtain ⟨ax, pg, fr, ⟨rw_, ru, rx⟩, d⟩ := h
  simp only [Hit.cs]
  go_enter Try.func99, Try.ntmps99
  go_wp2
  exact bodyPost_ret (v := .agg #[.int .i64 ax, .int .i64 pg]) (ret_cell rfl rfl (Blk.new2 w _ _ _) Try.underlying141 rfl (by kernel_rfl)) rfl ⟨rfl, ((Below.refl _ _).alloc (Nat.le_refl _) _).alloc (by simp) _⟩

theorem tlb_at_is (h : Hit) (b : Nat) (ax pg : Int) (w : World) (h0 : w.cell? ⟨b, 0, none⟩ = some (.int .i64 ax)) (h1 : w.cell? ⟨b, 1, none⟩ = some (.int .i64 pg)) (hb : b < w.heap.size) :
    Calls Try.prog 98 #[.agg h.cs.toArray, .pointer (some ⟨b, 0, none⟩)] w fun e w' => e = .returned (.bool (h.asid == ax && h.page == pg)) ∧ Below w.heap.size w w' := by
  obtain ⟨hx, hp, fr, ⟨rw_, ru, rx⟩, d⟩ := h
  have HO := fun w => Lib.hid (tlb_of ⟨hx, hp, fr, ⟨rw_, ru, rx⟩, d⟩ w)
  simp only [Hit.cs] at HO ⊢
  have hlt := hb
  cases e1 : (hx == ax) <;> cases e2 : (hp == pg)
  all_goals
    go_enter Try.func98, Try.ntmps98
    go_wp2_with fail
    go_region_held3 (fun w' => w'.cell? ⟨b, 0, none⟩ = some (.int .i64 ax) ∧ w'.cell? ⟨b, 1, none⟩ = some (.int .i64 pg) ∧ w'.cell? ⟨w.heap.size, 0, none⟩ = some (.int .i64 hx) ∧ w'.cell? ⟨w.heap.size, 1, none⟩ = some (.int .i64 hp) ∧
        w'.cell? ⟨w.heap.size, 2, none⟩ = some (.int .i64 fr) ∧ w'.cell? ⟨w.heap.size, 3, none⟩ = some (.bool rw_) ∧ w'.cell? ⟨w.heap.size, 4, none⟩ = some (.bool ru) ∧ w'.cell? ⟨w.heap.size, 5, none⟩ = some (.bool rx) ∧ w'.cell? ⟨w.heap.size, 6, none⟩ = some (.bool d))
      (first | go_keep | (go_split_ands; refine ⟨?_, ?_, ?_, ?_, ?_, ?_, ?_, ?_, ?_⟩ <;> (refine (Below.cell hb ?_).trans ?_ <;> first | assumption | (simp; omega) | (simp [*]; done) | (simp; done))))
      (first | (go_at_call 99; refine (HO _).out.mono ?_; rintro e w' ⟨rfl, hb⟩))
    go_wp2
    go_ret
    refine ⟨by simp, ?_⟩
    exact ((Below.refl _ w).alloc (Nat.le_refl _) _).drew.trans (hb.mono (by simp))

/-- a hit's cells, read in its row -/
theorem hit_cells {k : Nat} {tag : Nat → Nat} {w : World} {g N cp : Nat} {hs : List Hit} (hR : Row k tag w 51 7 (.slice (some ⟨g, 0, none⟩) N cp) N (hs.flatMap Hit.cs)) {j : Nat} {h : Hit} (hj : hs[j]? = some h) (i : Nat) (hi : i < 7) :
    w.cell? ⟨g, j * 7 + i, none⟩ = h.cs[i]? := by
  have hc := hits_cell hj i hi
  have hlt : i < h.cs.length := by simp [Hit.cs]; omega
  have hu : (hs.flatMap Hit.cs)[j * 7 + i]? = some h.cs[i] := by rw [hc]; simp [hlt]
  have := hR.1.cells (g := g) rfl _ _ hu
  have hadd : (⟨g, 0, none⟩ : Addr).add (j * 7 + i) = ⟨g, j * 7 + i, none⟩ := by unfold Addr.add; split <;> simp_all
  rw [hadd] at this
  rw [this]; simp [hlt]

theorem indexFunc_tlbAt (hs : List Hit) (N : Nat) (hN : hs.length = N) (p : Hit → Bool) (cap : Value) (kt : Nat) (v : Value) (w : World) (tag : Nat → Nat) (hR : Row kt tag w 51 7 v N (hs.flatMap Hit.cs)) (hn : N ≤ 1000000)
    (hf : ∀ (h : Hit) (W : World), Below w.heap.size w W → Calls Try.prog 98 #[.agg h.cs.toArray, cap] W fun e W' => e = .returned (.bool (p h)) ∧ Below W.heap.size W W') :
    Calls Try.prog 97 #[v, .func (.func 98) #[] #[cap]] w fun e w' => e = .returned (.int .i64 (fidx p hs)) ∧ Below w.heap.size w w' := by
  have HF := Lib.hid hf
  have HN := Lib.hid hN
  clear hf hN
  obtain ⟨A, c, rfl⟩ := hR.val
  go_enter Try.func97, Try.ntmps97
  go_wp2
  go_loopw [8] (fun i wr => ∃ k : Nat, k ≤ N ∧ i = .int .i64 k ∧ Hid (∀ (j : Nat) (hj : j < hs.length), j < k → p hs[j] = false) ∧ Below w.heap.size w wr) (fun i _ => N - (intOf i).toNat)
  case atStart => exact ⟨0, by omega, rfl, Lib.hid (fun j _ h => by omega), Below.refl _ _⟩
  case round =>
    obtain ⟨k, hk, rfl, HQ, hB⟩ := hrel
    by_cases hlt : k < N
    · have hly : k < hs.length := by rw [HN.out]; exact hlt
      have HY := Lib.hid hly
      have hR2 := hR.mod (T := []) (Mod.of_below hB) (by simp)
      rcases hR2.form with ⟨_, h0, _⟩ | ⟨g, cap', cur, hv, _, hBk, hc1, hc2, _, _⟩
      · omega
      obtain ⟨rfl, rfl⟩ : A = some ⟨g, 0, none⟩ ∧ c = cap' := by injection hv with h1 h2 h3; exact ⟨h1, h3⟩
      have hj : hs[k]? = some (hs[k]'hly) := by simp [hly]
      obtain ⟨hx, hE⟩ : ∃ hx, hx = hs[k]'hly := ⟨_, rfl⟩
      rw [← hE] at hj
      have c0 : wr.cell? ⟨g, k * 7, none⟩ = _ := hit_cells hR2 hj 0 (by omega)
      have c1 := hit_cells hR2 hj 1 (by omega)
      have c2 := hit_cells hR2 hj 2 (by omega)
      have c3 := hit_cells hR2 hj 3 (by omega)
      have c4 := hit_cells hR2 hj 4 (by omega)
      have c5 := hit_cells hR2 hj 5 (by omega)
      have c6 := hit_cells hR2 hj 6 (by omega)
      have HE : Hid (hx = hs[k]'HY.out) := Lib.hid hE
      have HCALL := Lib.hid (HF.out hx wr hB)
      obtain ⟨ax, pg, fr, ⟨rw_, ru, rx⟩, d⟩ := hx
      simp only [Hit.cs] at c0 c1 c2 c3 c4 c5 c6 HCALL
      clear hE hj hly hv hR2 hBk
      go_wp2_with fail
      refine HCALL.out.mono ?_
      rintro e W' ⟨rfl, hB'⟩
      have hB2 := hB.trans (hB'.mono hB.size)
      clear hB' c0 c1 c2 c3 c4 c5 c6
      rw [HE.out]
      cases hp : p (hs[k]'HY.out)
      · have HP := Lib.hid hp
        clear hp
        go_wp2
        go_roundw
        case rel =>
          refine ⟨k + 1, by omega, by go_num, Lib.hid (fun j hj h => ?_), hB2⟩
          by_cases e : j = k
          · subst e; exact HP.out
          · exact HQ.out j hj (by omega)
        case measure => simp [intOf]; omega
      · have HP := Lib.hid hp
        clear hp
        go_wp2
        go_ret
        exact ⟨by rw [fidx_some HY.out HP.out (fun j hj => HQ.out j _ hj)]; rfl, hB2⟩
    · go_wp2
      go_ret
      exact ⟨by rw [fidx_none (fun j hj => HQ.out j hj (by rw [HN.out] at hj; omega))]; rfl, hB⟩

theorem tlb_at (k a : Nat) (tag : Nat → Nat) (most : Int) (hs : List Hit) (ax pg : Int) (w : World) (H : TlbR k tag w a most hs) (hn : hs.length ≤ 1000000) :
    Calls Try.prog 85 #[.pointer (some ⟨a, 0, none⟩), .agg #[.int .i64 ax, .int .i64 pg]] w fun e w' => e = .returned (.int .i64 (fidx (hitIs ax pg) hs)) ∧ Below w.heap.size w w' := by
  obtain ⟨v, ha, hA, hr⟩ := H
  have c1 := hA.cellv 1 rfl
  have hlt := hA.lt
  have hr2 := hr.mod (T := []) (Mod.of_below ((Below.refl _ w).alloc (Nat.le_refl _) (.cells #[.int .i64 ax, .int .i64 pg] 141))) (by simp)
  go_enter Try.func85, Try.ntmps85
  go_wp2_with fail
  refine (indexFunc_tlbAt hs _ rfl (hitIs ax pg) _ (k + 1) _ _ tag hr2 hn ?_).mono ?_
  · intro h W hB
    have hz : w.heap.size < W.heap.size := by have := hB.size; simp at this; omega
    refine tlb_at_is h w.heap.size ax pg W ?_ ?_ hz
    · exact (hB.cell (p := ⟨w.heap.size, 0, none⟩) (by simp)).trans ((Blk.new w 141 #[.int .i64 ax, .int .i64 pg]).cellv 0 rfl)
    · exact (hB.cell (p := ⟨w.heap.size, 1, none⟩) (by simp)).trans ((Blk.new w 141 #[.int .i64 ax, .int .i64 pg]).cellv 1 rfl)
  rintro e W' ⟨rfl, hB⟩
  go_wp2
  go_ret
  exact ⟨rfl, ((Below.refl _ w).alloc (Nat.le_refl _) _).trans (hB.mono (by simp))⟩
end Go.Proofs.Ytbmbgicdnegkfaa

/- The walks of layer 9 that write. -/
namespace Go.Proofs.Ytbmbgicdnegkfaa
open Go Go.RowKit Sil

theorem flatMap_take {α β : Type} (f : α → List β) (c : Nat) (hf : ∀ x, (f x).length = c) (l : List α) (i : Nat) : (l.take i).flatMap f = (l.flatMap f).take (i * c) := by
  induction l generalizing i with
  | nil => simp
  | cons x l ih =>
    cases i with
    | zero => simp
    | succ i =>
      rw [List.take_succ_cons, List.flatMap_cons, List.flatMap_cons, List.take_append, ih, hf]
      have e : (i + 1) * c - c = i * c := by rw [Nat.add_mul]; omega
      rw [e, List.take_of_length_le (l := f x) (by rw [hf]; rw [Nat.add_mul]; omega)]
theorem flatMap_drop {α β : Type} (f : α → List β) (c : Nat) (hf : ∀ x, (f x).length = c) (l : List α) (i : Nat) : (l.drop i).flatMap f = (l.flatMap f).drop (i * c) := by
  induction l generalizing i with
  | nil => simp
  | cons x l ih =>
    cases i with
    | zero => simp
    | succ i =>
      rw [List.drop_succ_cons, List.flatMap_cons, List.drop_append, ih, hf]
      have e : (i + 1) * c - c = i * c := by rw [Nat.add_mul]; omega
      rw [e, List.drop_of_length_le (l := f x) (by rw [hf]; rw [Nat.add_mul]; omega), List.nil_append]
theorem hit_len (h : Hit) : h.cs.length = 7 := rfl
theorem flatMap_len {α β : Type} (f : α → List β) (c : Nat) (hf : ∀ x, (f x).length = c) (l : List α) : (l.flatMap f).length = l.length * c := by
  induction l with
  | nil => simp
  | cons x l ih => rw [List.flatMap_cons, List.length_append, ih, hf, List.length_cons, Nat.add_mul]; omega

theorem info_hit : (Try.prog.info? 51).map (fun i => (i.zero, i.size, i.bytes)) = some (some (.agg #[.int .i64 0, .int .i64 0, .int .i64 0, .bool false, .bool false, .bool false, .bool false]), 7, 32) := by kernel_rfl

theorem del_row (hs : List Hit) (M i cap : Nat) (C0 C1 : Array Value) (hN : hs.length = M + 1) (hi : i < M + 1) (hc : M + 1 ≤ cap) (hcm : cap ≤ 9223372036854775807) (hs0 : C0.size = cap * 7) (hx : C0.toList.take ((M + 1) * 7) = hs.flatMap Hit.cs)
    (h1 : (C0.toList.take (i * 7) ++ (hs.flatMap Hit.cs).drop ((i + 1) * 7) ++ C0.toList.drop (i * 7 + ((hs.flatMap Hit.cs).drop ((i + 1) * 7)).length)).toArray = C1)
    {kt : Nat} {tag : Nat → Nat} {w : World} {g : Nat} (htg : tag g = kt) {Z : List Value} (hB : Blk w g 51 (C1.toList.take (M * 7) ++ Z ++ C1.toList.drop (M * 7 + 1 * 7)).toArray) (hZ : Z.length = 7) :
    Row kt tag w 51 7 (.slice (some ⟨g, 0, none⟩) M cap) (hs.eraseIdx i).length ((hs.eraseIdx i).flatMap Hit.cs) := by
  have hxl : (hs.flatMap Hit.cs).length = (M + 1) * 7 := by rw [flatMap_len _ 7 hit_len, hN]
  have hel : (hs.eraseIdx i).length = M := by rw [List.length_eraseIdx]; rw [if_pos (by omega)]; omega
  have hdl : ((hs.flatMap Hit.cs).drop ((i + 1) * 7)).length = (M - i) * 7 := by rw [List.length_drop, hxl]; omega
  have hC1s : C1.toList.length = cap * 7 := by
    rw [← h1]; simp only [List.toList_toArray, List.length_append, List.length_take, List.length_drop, Array.length_toList, hdl, hs0, hxl]; omega
  have hE : (hs.eraseIdx i).flatMap Hit.cs = C1.toList.take (M * 7) := by
    rw [List.eraseIdx_eq_take_drop_succ, List.flatMap_append, flatMap_take _ 7 hit_len, flatMap_drop _ 7 hit_len, ← h1, List.toList_toArray]
    have e1 : (hs.flatMap Hit.cs).take (i * 7) = C0.toList.take (i * 7) := by
      rw [← hx, List.take_take]; congr 1; omega
    rw [e1]
    exact (List.take_left' (by rw [List.length_append, List.length_take, hdl, Array.length_toList, hs0]; omega)).symm
  rw [hel, hE]
  refine ⟨⟨by rw [List.length_take, hC1s]; omega, .inr ⟨g, cap, _, rfl, Nat.zero_le _, hB, by omega, by unfold maxLen; omega, ?_, ?_⟩⟩, fun b hb => by simp [Value.ownBlock] at hb; subst hb; exact htg⟩
  · simp only [List.size_toArray, List.length_append, List.length_take, List.length_drop, hC1s, hZ]; omega
  · rw [List.toList_toArray, List.append_assoc, List.take_append_of_le_length (by rw [List.length_take, hC1s]; omega)]
    rw [List.take_of_length_le (by rw [List.length_take]; omega)]

set_option maxRecDepth 100000 in
theorem delete_hit (hs : List Hit) (N i : Nat) (hN : hs.length = N) (hi : i < N) (kt : Nat) (v : Value) (w : World) (tag : Nat → Nat) (hR : Row kt tag w 51 7 v N (hs.flatMap Hit.cs)) (hn : N ≤ 1000000) :
    Calls Try.prog 55 #[v, .int .i64 i, .int .i64 (i + 1)] w fun e w' =>
      ∃ v', e = .returned v' ∧ Row kt tag w' 51 7 v' (hs.eraseIdx i).length ((hs.eraseIdx i).flatMap Hit.cs) ∧ Mod [kt] tag tag w w' := by
  have HN := Lib.hid hN
  clear hN
  obtain ⟨i0, hi0, hz0, hz1, hz2⟩ := info_parts info_hit
  rcases hR.form with ⟨_, h0, _⟩ | ⟨g, cap, C0, rfl, htg, hB0, hNc, hcm, hCs, hCx⟩
  · omega
  have hne : ((i : Int) == (i : Int) + 1) = false := by simp; omega
  have HCX := Lib.hid hCx
  have HCS := Lib.hid hCs
  clear hCx hCs
  unfold maxLen at hcm
  obtain ⟨M, rfl⟩ : ∃ M, N = M + 1 := ⟨N - 1, by omega⟩
  have b1 : i ≤ cap := by omega
  have b2 : (i : Int) + 1 ≤ (M : Int) + 1 := by omega
  have b4 : M < cap := by omega
  have b5 : (i : Int) ≤ (cap : Int) := by omega
  have b6 : (i : Int) ≤ (M : Int) + 1 := by omega
  have b3 : (0 : Int) ≤ (i : Int) + 1 := by omega
  by_cases hcap : i + 1 < cap
  · have hcc : ¬ cap = i + 1 := by omega
    go_enter Try.func55, Try.ntmps55
    go_wp2
    go_still_tail 6, (by kernel_rfl)
    change wpList _ _ _ _ _ w.drew
    have hB1 : Blk w.drew g 51 C0 := hB0.drew
    have hM1 : Mod [kt] tag tag w w.drew := (Mod.refl _ _ _).drew
    generalize w.drew = w2 at hB1 hM1 ⊢
    have hnl : ((hs.flatMap Hit.cs).drop ((i + 1) * 7)).length = (M - i) * 7 := by
      rw [List.length_drop, flatMap_len _ 7 hit_len, HN.out]; omega
    have happ := run_append_room (P := Try.prog) w2 104 104 51 i0 Try.underlying104 hi0 g i cap C0 hB1 ⟨g, (i + 1) * 7, none⟩ (M - i) (cap - (i + 1)) ((hs.flatMap Hit.cs).drop ((i + 1) * 7)) (by rw [hz1]; exact hnl) ?hnews ?h1 (by omega) (by rw [hnl, hz1, HCS.out]; omega)
    case hnews =>
      intro j u hu
      have hadd : (⟨g, (i + 1) * 7, none⟩ : Addr).add j = ⟨g, (i + 1) * 7 + j, none⟩ := by unfold Addr.add; split <;> simp_all
      rw [hadd, hB1.cell]
      rw [List.getElem?_drop, ← HCX.out, List.getElem?_take] at hu
      split at hu
      · simpa using hu
      · cases hu
    case h1 =>
      intro u hu
      obtain ⟨h, _, hu'⟩ := List.mem_flatMap.1 (List.mem_of_mem_drop hu)
      simp [Hit.cs] at hu'
      rcases hu' with h | h | h | h | h | h | h <;> rw [h] <;> rfl
    rw [hz1, show i + (M - i) = M by omega] at happ
    generalize hC1 : (C0.toList.take (i * 7) ++ (hs.flatMap Hit.cs).drop ((i + 1) * 7) ++ C0.toList.drop (i * 7 + ((hs.flatMap Hit.cs).drop ((i + 1) * 7)).length)).toArray = C1 at happ
    have HC1 := Lib.hid hC1
    have hB3 : Blk (w2.setRow g C1) g 51 C1 := blk_setRow hB1
    have hM3 : Mod [kt] tag tag w (w2.setRow g C1) := hM1.setRow (by simp [htg]) _
    generalize w2.setRow g C1 = w3 at happ hB3 hM3
    clear hC1 hnl
    refine wpList_append_run rfl _ _ _ rfl _ _ _ _ rfl rfl happ ?_
    have hz : ∀ w, (zeroValue 51).run Try.prog w = .ok (.agg #[.int .i64 0, .int .i64 0, .int .i64 0, .bool false, .bool false, .bool false, .bool false]) w := fun w => by kernel_rfl
    have hC1s : C1.size = cap * 7 := by
      rw [← HC1.out]; simp only [List.size_toArray, List.length_append, List.length_take, List.length_drop, Array.length_toList, flatMap_len _ 7 hit_len, HN.out, HCS.out]; omega
    have hcl : (Builtin.clear_ #[104] 0 #[.slice (some ⟨g, M * 7, none⟩) 1 (cap - M)]).run Try.prog w3 = _ := run_clear_row (t := 104) (sz := 7) Try.underlying104 hz rfl (by simp [Value.cells, Value.oneCell']) hB3 (by rw [hC1s]; omega)
    obtain ⟨X, hX⟩ : ∃ X, X = (C1.toList.take (M * 7) ++ (Builtin.zeroCells (Value.cells (.agg #[.int .i64 0, .int .i64 0, .int .i64 0, .bool false, .bool false, .bool false, .bool false])) 1).toList ++ C1.toList.drop (M * 7 + 1 * 7)).toArray := ⟨_, rfl⟩
    rw [← hX] at hcl
    have hM4 : Mod [kt] tag tag w (w3.setRow g X) := hM3.setRow (by simp [htg]) _
    have hb4 : Blk (w3.setRow g X) g 51 X := blk_setRow hB3
    generalize w3.setRow g X = w4 at hcl hM4 hb4
    have hR4 : Row kt tag w4 51 7 (.slice (some ⟨g, 0, none⟩) M cap) (hs.eraseIdx i).length ((hs.eraseIdx i).flatMap Hit.cs) := by
      rw [hX] at hb4
      exact del_row hs M i cap C0 C1 HN.out hi hNc hcm (by rw [HCS.out]) HCX.out HC1.out htg hb4 (by rw [Array.length_toList, size_zeroCells']; rfl)
    clear hX hb4 hz hC1s happ
    go_wp2
    go_ret
    exact ⟨_, rfl, hR4, hM4⟩
  · obtain rfl : cap = i + 1 := by omega
    obtain rfl : i = M := by omega
    go_enter Try.func55, Try.ntmps55
    go_wp2
    go_still_tail 6, (by kernel_rfl)
    change wpList _ _ _ _ _ w.drew
    have hB1 : Blk w.drew g 51 C0 := hB0.drew
    have hM1 : Mod [kt] tag tag w w.drew := (Mod.refl _ _ _).drew
    generalize w.drew = w2 at hB1 hM1 ⊢
    have hnl : ((hs.flatMap Hit.cs).drop ((i + 1) * 7)).length = 0 * 7 := by
      rw [List.length_drop, flatMap_len _ 7 hit_len, HN.out]; omega
    have happ := run_append_room (P := Try.prog) w2 104 104 51 i0 Try.underlying104 hi0 g i (i + 1) C0 hB1 ⟨g, 0, none⟩ 0 0 ((hs.flatMap Hit.cs).drop ((i + 1) * 7)) (by rw [hz1]; exact hnl) ?hnews ?h1 (by omega) (by rw [hnl, hz1, HCS.out]; omega)
    case hnews =>
      intro j u hu
      have hnil : (hs.flatMap Hit.cs).drop ((i + 1) * 7) = [] := List.eq_nil_of_length_eq_zero (by rw [hnl])
      rw [hnil] at hu
      simp at hu
    case h1 =>
      intro u hu
      obtain ⟨h, _, hu'⟩ := List.mem_flatMap.1 (List.mem_of_mem_drop hu)
      simp [Hit.cs] at hu'
      rcases hu' with h | h | h | h | h | h | h <;> rw [h] <;> rfl
    rw [hz1, Nat.add_zero] at happ
    generalize hC1 : (C0.toList.take (i * 7) ++ (hs.flatMap Hit.cs).drop ((i + 1) * 7) ++ C0.toList.drop (i * 7 + ((hs.flatMap Hit.cs).drop ((i + 1) * 7)).length)).toArray = C1 at happ
    have HC1 := Lib.hid hC1
    have hB3 : Blk (w2.setRow g C1) g 51 C1 := blk_setRow hB1
    have hM3 : Mod [kt] tag tag w (w2.setRow g C1) := hM1.setRow (by simp [htg]) _
    generalize w2.setRow g C1 = w3 at happ hB3 hM3
    clear hC1 hnl
    refine wpList_append_run rfl _ _ _ rfl _ _ _ _ rfl rfl happ ?_
    have hz : ∀ w, (zeroValue 51).run Try.prog w = .ok (.agg #[.int .i64 0, .int .i64 0, .int .i64 0, .bool false, .bool false, .bool false, .bool false]) w := fun w => by kernel_rfl
    have hC1s : C1.size = (i + 1) * 7 := by
      rw [← HC1.out]; simp only [List.size_toArray, List.length_append, List.length_take, List.length_drop, Array.length_toList, flatMap_len _ 7 hit_len, HN.out, HCS.out]; omega
    have hcl : (Builtin.clear_ #[104] 0 #[.slice (some ⟨g, i * 7, none⟩) 1 1]).run Try.prog w3 = _ := run_clear_row (t := 104) (sz := 7) Try.underlying104 hz rfl (by simp [Value.cells, Value.oneCell']) hB3 (by rw [hC1s]; omega)
    obtain ⟨X, hX⟩ : ∃ X, X = (C1.toList.take (i * 7) ++ (Builtin.zeroCells (Value.cells (.agg #[.int .i64 0, .int .i64 0, .int .i64 0, .bool false, .bool false, .bool false, .bool false])) 1).toList ++ C1.toList.drop (i * 7 + 1 * 7)).toArray := ⟨_, rfl⟩
    rw [← hX] at hcl
    have hM4 : Mod [kt] tag tag w (w3.setRow g X) := hM3.setRow (by simp [htg]) _
    have hb4 : Blk (w3.setRow g X) g 51 X := blk_setRow hB3
    generalize w3.setRow g X = w4 at hcl hM4 hb4
    have hR4 : Row kt tag w4 51 7 (.slice (some ⟨g, 0, none⟩) i (i + 1)) (hs.eraseIdx i).length ((hs.eraseIdx i).flatMap Hit.cs) := by
      rw [hX] at hb4
      exact del_row hs i i (i + 1) C0 C1 HN.out hi hNc hcm (by rw [HCS.out]) HCX.out HC1.out htg hb4 (by rw [Array.length_toList, size_zeroCells']; rfl)
    clear hX hb4 hz hC1s happ
    go_wp2
    go_ret
    exact ⟨_, rfl, hR4, hM4⟩
end Go.Proofs.Ytbmbgicdnegkfaa

/- The walks of tlb.Put, tlb.Drop and tlb.New. -/
namespace Go.Proofs.Ytbmbgicdnegkfaa
open Go Go.RowKit Sil

theorem fidx_case {α : Type} (p : α → Bool) (l : List α) : (fidx p l = -1 ∧ l.eraseP p = l ∧ l.any p = false) ∨ ∃ i : Nat, fidx p l = i ∧ i < l.length ∧ l.eraseP p = l.eraseIdx i ∧ l.any p = true := by
  unfold fidx
  rw [List.eraseP_eq_eraseIdx]
  cases h : l.findIdx? p with
  | none =>
    refine .inl ⟨rfl, rfl, ?_⟩
    have := List.findIdx?_eq_none_iff.1 h
    simp only [List.any_eq_false]; intro x hx; simp [this x hx]
  | some i =>
    obtain ⟨hi, hp, _⟩ := List.findIdx?_eq_some_iff_getElem.1 h
    exact .inr ⟨i, rfl, hi, rfl, List.any_eq_true.2 ⟨l[i], List.getElem_mem hi, hp⟩⟩

theorem tlb_drop (k a : Nat) (tag : Nat → Nat) (most : Int) (hs : List Hit) (ax pg : Int) (w : World) (H : TlbR k tag w a most hs) (hn : hs.length ≤ 1000000) :
    Calls Try.prog 54 #[.pointer (some ⟨a, 0, none⟩), .int .i64 ax, .int .i64 pg] w fun e w' =>
      e = .returned (.bool (hs.any (hitIs ax pg))) ∧ TlbR k tag w' a most (hs.eraseP (hitIs ax pg)) ∧ Mod [k, k + 1] tag tag w w' := by
  have H0 := H
  rcases fidx_case (hitIs ax pg) hs with ⟨e1, e2, e3⟩ | ⟨i, e1, hi, e2, e3⟩
  · rw [e2, e3]
    have E1 := Lib.hid e1
    clear e1 e2 e3
    go_enter Try.func54, Try.ntmps54
    go_wp2_with fail
    refine (tlb_at k a tag most hs ax pg _ H hn).mono ?_
    rintro e W ⟨rfl, hB⟩
    rw [E1.out]
    have H1 : TlbR k tag W a most hs := H0.mod (T := []) (Mod.of_below hB) (by simp) (by simp)
    go_wp2
    go_ret
    exact ⟨rfl, H1, Mod.of_below hB⟩
  · rw [e2, e3]
    have E1 := Lib.hid e1
    clear e1 e2 e3
    go_enter Try.func54, Try.ntmps54
    go_wp2_with fail
    refine (tlb_at k a tag most hs ax pg _ H hn).mono ?_
    rintro e W ⟨rfl, hB⟩
    rw [E1.out]
    obtain ⟨v, ha, hA, hr⟩ : TlbR k tag W a most hs := H0.mod (T := []) (Mod.of_below hB) (by simp) (by simp)
    have c1 := hA.cellv 1 rfl
    have hM := Mod.of_below (T := [k, k + 1]) (tag := tag) hB
    clear hB H H0
    have hd : a ≠ a + 1 := by omega
    go_wp2_with fail
    refine (delete_hit hs _ i rfl hi (k + 1) v W tag hr hn).mono ?_
    rintro e W2 ⟨v2, rfl, hr2, hM2⟩
    have hA2 := hA.mod hM2 (by simp [ha])
    have d1 := hA2.cellv 1 rfl
    have f1 := hA2.frozen 1
    obtain ⟨A2, c2, rfl⟩ := hr2.val
    have hM3 : Mod [k, k + 1] tag tag W W2 := hM2.mono (by simp)
    clear c1 hr
    go_wp2
    go_ret
    refine ⟨rfl, ⟨_, ha, hA2.set_ 1 _, hr2.mod ((Mod.refl [k] _ _).setCell (by simp [ha]) _) (by simp)⟩, (hM.trans hM3).setCell (by simp [ha]) _⟩

theorem put_fin {k a : Nat} {tag : Nat → Nat} {most : Int} {l : List Hit} {h : Hit} {w w2 w3 : World} {A : Option Addr} {c gg cp : Nat} {B : Array Value} (ha : tag a = k) (hA3 : Blk w3 a 106 #[.int .i64 most, .slice A l.length c])
    (hr2 : Row (k + 1) tag w2 51 7 (.slice A l.length c) l.length (l.flatMap Hit.cs)) (hM2 : Mod [k, k + 1] tag tag w w2) (hF : Fresh tag w)
    (hown3 : w3.ownsRow 0 51 7 (.slice (some ⟨gg, 0, none⟩) (l.length + 1) cp) (l.length + 1) (l.flatMap Hit.cs ++ h.cs)) (hgrow3 : ((w2.alloc (.cells B 51)).drew).grownBy w3 (Value.slice A l.length c).ownBlock)
    (hat3 : (Value.slice A l.length c).ownBlock = some gg ∨ gg = w2.heap.size + 1) (hlt : a < w2.heap.size) :
    ∃ tag', TlbR k tag' (w3.setCell ⟨a, 1, none⟩ (.slice (some ⟨gg, 0, none⟩) (l.length + 1) cp)) a most (l ++ [h]) ∧ Mod [k, k + 1] tag tag' w (w3.setCell ⟨a, 1, none⟩ (.slice (some ⟨gg, 0, none⟩) (l.length + 1) cp)) ∧
      Fresh tag' (w3.setCell ⟨a, 1, none⟩ (.slice (some ⟨gg, 0, none⟩) (l.length + 1) cp)) := by
  have hrP : Row (k + 1) tag (w2.alloc (.cells B 51)).drew 51 7 (.slice A l.length c) l.length (l.flatMap Hit.cs) := hr2.mod (T := []) (((Mod.refl _ _ _).alloc _).drew) (by simp)
  obtain ⟨tag', hr4, hM4, hF4⟩ := hrP.grew (T := [k + 1]) hown3 (by rcases hat3 with h | h; exact .inl h.symm; exact .inr (by subst h; simp [Value.ownBlock])) hgrow3 rfl
  have hMw : Mod [k, k + 1] tag tag' w w3 := ((hM2.alloc _).drew).trans (hM4.mono (by simp))
  have hlta : a < (w2.alloc (.cells B 51)).drew.heap.size := by
    simp; omega
  have hta : tag' a = k := (hM4.tags a hlta).trans ha
  refine ⟨tag', ⟨_, hta, hA3.set_ 1 _, ?_⟩, hMw.setCell (by simp [hta]) _, (hF4 ?_).mono (by simp [World.setCell])⟩
  · have := hr4.mod (T := [k]) ((Mod.refl [k] tag' w3).setCell (a := ⟨a, 1, none⟩) (by simp [hta]) (.slice (some ⟨gg, 0, none⟩) (l.length + 1) cp)) (by simp)
    simpa using this
  · exact (hF.mono hM2.size).mono (by simp)

set_option maxRecDepth 100000 in
theorem tlb_put (k a : Nat) (tag : Nat → Nat) (most : Int) (hs : List Hit) (h : Hit) (w : World) (H : TlbR k tag w a most hs) (hn : hs.length ≤ 1000) (hm : 1 ≤ most) (hf : Fresh tag w) (hk : 0 < k) :
    Calls Try.prog 18 #[.pointer (some ⟨a, 0, none⟩), .agg h.cs.toArray] w fun e w' =>
      e = .returned (.tuple #[]) ∧ ∃ tag', TlbR k tag' w' a most (tPut most hs h) ∧ Mod [k, k + 1] tag tag' w w' ∧ Fresh tag' w' := by
  obtain ⟨ax, pg, fr, ⟨rw_, ru, rx⟩, d⟩ := h
  obtain ⟨i0, hi0, hz0, hz1, hz2⟩ := info_parts info_hit
  simp only [Hit.cs]
  have H0 : TlbR k tag (w.alloc (.cells #[.int .i64 ax, .int .i64 pg, .int .i64 fr, .bool rw_, .bool ru, .bool rx, .bool d] 51)) a most hs :=
    H.mod (T := []) (Mod.of_below ((Below.refl _ w).alloc (Nat.le_refl _) _)) (by simp) (by simp)
  go_enter Try.func18, Try.ntmps18
  go_wp2_with fail
  refine (tlb_drop k a tag most hs ax pg _ H0 (by omega)).mono ?_
  rintro e W ⟨rfl, ⟨v, ha, hA, hr⟩, hM⟩
  have hb : Blk W w.heap.size 51 #[.int .i64 ax, .int .i64 pg, .int .i64 fr, .bool rw_, .bool ru, .bool rx, .bool d] := by
    refine (Blk.new w _ _).mod hM ?_
    rw [hf _ (Nat.le_refl _)]; simp; omega
  obtain ⟨A, c, rfl⟩ := hr.val
  have c0 := hA.cellv 0 rfl
  have c1 := hA.cellv 1 rfl
  generalize hl : hs.eraseP (hitIs ax pg) = l at *
  have hln : l.length ≤ 1000 := by rw [← hl]; have := List.length_eraseP_le (p := hitIs ax pg) (l := hs); omega
  have HL := Lib.hid hl
  clear hl
  cases hc : ((l.length : Int) == most)
  · go_wp2
    go_quiet (fail)
    generalize hw2 : World.drewN W _ = w2
    have hA2 : Blk w2 a 106 #[.int .i64 most, .slice A l.length c] := by rw [← hw2]; exact hA.drewN _
    have hb2 : Blk w2 w.heap.size 51 #[.int .i64 ax, .int .i64 pg, .int .i64 fr, .bool rw_, .bool ru, .bool rx, .bool d] := by rw [← hw2]; exact hb.drewN _
    have hM2 : Mod [k, k + 1] tag tag w w2 := by rw [← hw2]; exact (((Mod.refl _ _ _).alloc _).trans hM).drewN _
    have hr2 : Row (k + 1) tag w2 51 7 (.slice A l.length c) l.length (l.flatMap Hit.cs) := by
      rw [← hw2]; exact hr.mod (T := []) ((Mod.refl _ _ _).drewN _) (by simp)
    clear hw2 hA hb hM hr c0 c1
    go_wp2
    have c1 := hA2.cellv 1 rfl
    have f1 := hA2.frozen 1
    have d0 := hb2.cellv 0 rfl
    have d1 := hb2.cellv 1 rfl
    have d2 := hb2.cellv 2 rfl
    have d3 := hb2.cellv 3 rfl
    have d4 := hb2.cellv 4 rfl
    have d5 := hb2.cellv 5 rfl
    have d6 := hb2.cellv 6 rfl
    have hlt2 := hA2.lt
    have hltb := hb2.lt
    have hne : some a ≠ (Value.slice A l.length c).ownBlock := fun e => by have := hr2.2 a e.symm; omega
    go_region_law (refine step_append_lies _ rfl (.tmp 32) (.tmp 34) 104 rfl 0 51 i0 _ 7 32 Try.underlying104 hi0 hz0 hz1 hz2 rfl (by decide) (.slice A l.length c) l.length (l.flatMap Hit.cs) (by simp [Act.eval, Act.put]) ((hr2.1.alloc _).drew) ⟨w2.heap.size, 0, none⟩ 1 1 [.int .i64 ax, .int .i64 pg, .int .i64 fr, .bool rw_, .bool ru, .bool rx, .bool d] (by simp [Act.eval, Act.put]) rfl (World.news_of_block (cs := #[.int .i64 ax, .int .i64 pg, .int .i64 fr, .bool rw_, .bool ru, .bool rx, .bool d]) (t := 51) (fr := (0, 0)) (heap_alloc_new w2 _)) (by simp [Value.oneCell']) (by omega) (by unfold maxLen; omega) (by omega) (Nat.zero_le _) (w2.heap.size + 1) (by simp) ?_; intro gg cp w3 hown3 hgrow3 hat3 hlt3; have hA3 := ((hA2.alloc (.cells #[.int .i64 ax, .int .i64 pg, .int .i64 fr, .bool rw_, .bool ru, .bool rx, .bool d] 51)).drew).grown hgrow3 hne; have c1' := hA3.cellv 1 rfl; have f1' := hA3.frozen 1)
    all_goals
      go_end0
      refine ⟨rfl, ?_⟩
      have hE : tPut most hs ⟨ax, pg, fr, ⟨rw_, ru, rx⟩, d⟩ = l ++ [⟨ax, pg, fr, ⟨rw_, ru, rx⟩, d⟩] := by
        unfold tPut
        simp only []
        rw [show hs.eraseP (hitIs ax pg) = l from HL.out]
        rw [if_neg (by simpa using hc)]
      rw [hE]
      exact put_fin (h := ⟨ax, pg, fr, ⟨rw_, ru, rx⟩, d⟩) ha hA3 hr2 hM2 hf hown3 hgrow3 hat3 hlt2
  · go_wp2
    go_quiet (fail)
    generalize hw2 : World.drewN W _ = w1
    have hA1 : Blk w1 a 106 #[.int .i64 most, .slice A l.length c] := by rw [← hw2]; exact hA.drewN _
    have hb1 : Blk w1 w.heap.size 51 #[.int .i64 ax, .int .i64 pg, .int .i64 fr, .bool rw_, .bool ru, .bool rx, .bool d] := by rw [← hw2]; exact hb.drewN _
    have hM1 : Mod [k, k + 1] tag tag w w1 := by rw [← hw2]; exact (((Mod.refl _ _ _).alloc _).trans hM).drewN _
    have hr1 : Row (k + 1) tag w1 51 7 (.slice A l.length c) l.length (l.flatMap Hit.cs) := by
      rw [← hw2]; exact hr.mod (T := []) ((Mod.refl _ _ _).drewN _) (by simp)
    have hl0 : 0 < l.length := by
      have : (l.length : Int) = most := by simpa using hc
      omega
    have htag0 : tag w.heap.size = 0 := hf _ (Nat.le_refl _)
    clear hw2 hA hb hM hr c0 c1
    have c1 := hA1.cellv 1 rfl
    go_wp2_with fail
    refine (delete_hit l _ 0 rfl hl0 (k + 1) _ w1 tag hr1 (by omega)).mono ?_
    rintro e W2 ⟨v2, rfl, hr2, hMd⟩
    have hA2 := hA1.mod hMd (by simp [ha])
    have hb2 := hb1.mod hMd (by rw [htag0]; simp)
    have hM2 : Mod [k, k + 1] tag tag w W2 := hM1.trans (hMd.mono (by simp))
    clear hb1 hM1 hMd c1 hA1 hr1
    obtain ⟨A2, c2, rfl⟩ := hr2.val
    have c1 := hA2.cellv 1 rfl
    have f1 := hA2.frozen 1
    generalize hl' : l.eraseIdx 0 = l' at *
    have hln' : l'.length ≤ 1000 := by rw [← hl']; have := List.length_eraseIdx_le l 0; omega
    have HL' := Lib.hid hl'
    clear hl'
    go_wp2
    have hne0 : w.heap.size ≠ a := fun e => by rw [e, ha] at htag0; omega
    generalize hw3 : World.setCell W2 _ _ = W3
    have hA4 : Blk W3 a 106 #[.int .i64 most, .slice A2 l'.length c2] := by rw [← hw3]; exact hA2.set_ 1 _
    have hb4 : Blk W3 w.heap.size 51 #[.int .i64 ax, .int .i64 pg, .int .i64 fr, .bool rw_, .bool ru, .bool rx, .bool d] := by rw [← hw3]; exact hb2.far (p := ⟨a, 1, none⟩) hne0 _
    have hM4 : Mod [k, k + 1] tag tag w W3 := by rw [← hw3]; exact hM2.setCell (by simp [ha]) _
    have hr4 : Row (k + 1) tag W3 51 7 (.slice A2 l'.length c2) l'.length (l'.flatMap Hit.cs) := by rw [← hw3]; exact hr2.mod ((Mod.refl [k] _ _).setCell (by simp [ha]) _) (by simp)
    clear hw3 hA2 hb2 hM2 hr2 c1 f1
    have hA2 := hA4
    have hb2 := hb4
    have hM2 := hM4
    have hr2 := hr4
    clear hA4 hb4 hM4 hr4 htag0 hne0
    have c1 := hA2.cellv 1 rfl
    have f1 := hA2.frozen 1
    have d0 := hb2.cellv 0 rfl
    have d1 := hb2.cellv 1 rfl
    have d2 := hb2.cellv 2 rfl
    have d3 := hb2.cellv 3 rfl
    have d4 := hb2.cellv 4 rfl
    have d5 := hb2.cellv 5 rfl
    have d6 := hb2.cellv 6 rfl
    have hlt2 := hA2.lt
    have hltb := hb2.lt
    have hne : some a ≠ (Value.slice A2 l'.length c2).ownBlock := fun e => by have := hr2.2 a e.symm; omega
    go_region_law (refine step_append_lies _ rfl (.tmp 32) (.tmp 34) 104 rfl 0 51 i0 _ 7 32 Try.underlying104 hi0 hz0 hz1 hz2 rfl (by decide) (.slice A2 l'.length c2) l'.length (l'.flatMap Hit.cs) (by simp [Act.eval, Act.put]) ((hr2.1.alloc _).drew) ⟨W3.heap.size, 0, none⟩ 1 1 [.int .i64 ax, .int .i64 pg, .int .i64 fr, .bool rw_, .bool ru, .bool rx, .bool d] (by simp [Act.eval, Act.put]) rfl (World.news_of_block (cs := #[.int .i64 ax, .int .i64 pg, .int .i64 fr, .bool rw_, .bool ru, .bool rx, .bool d]) (t := 51) (fr := (0, 0)) (heap_alloc_new W3 _)) (by simp [Value.oneCell']) (by omega) (by unfold maxLen; omega) (by omega) (Nat.zero_le _) (W3.heap.size + 1) (by simp) ?_; intro gg cp w3 hown3 hgrow3 hat3 hlt3; have hA3 := ((hA2.alloc (.cells #[.int .i64 ax, .int .i64 pg, .int .i64 fr, .bool rw_, .bool ru, .bool rx, .bool d] 51)).drew).grown hgrow3 hne; have c1' := hA3.cellv 1 rfl; have f1' := hA3.frozen 1)
    all_goals
      go_end0
      refine ⟨rfl, ?_⟩
      have hE : tPut most hs ⟨ax, pg, fr, ⟨rw_, ru, rx⟩, d⟩ = l' ++ [⟨ax, pg, fr, ⟨rw_, ru, rx⟩, d⟩] := by
        unfold tPut
        simp only []
        rw [show hs.eraseP (hitIs ax pg) = l from HL.out]
        rw [if_pos (by simpa using hc), show l.eraseIdx 0 = l' from HL'.out]
      rw [hE]
      exact put_fin (h := ⟨ax, pg, fr, ⟨rw_, ru, rx⟩, d⟩) ha hA3 hr2 hM2 hf hown3 hgrow3 hat3 hlt2
end Go.Proofs.Ytbmbgicdnegkfaa

/- The walks of layer 2: free frames. -/
namespace Go.Proofs.Ytbmbgicdnegkfaa
open Go Go.RowKit Sil

theorem belowDN {B : Nat} {a w : World} (h : Below B a w) (n : Nat) : Below B a (w.drewN n) := ⟨h.os, h.tape, h.output, h.size, h.block⟩
theorem law_int : Maps.Keyed Try.prog 3 := Maps.int_keyed Try.underlying3
theorem zero_int (w : World) : (zeroValue 3).run Try.prog w = .ok (.int .i64 0) w := by kernel_rfl

theorem ownsMap_size {w : World} {b n : Nat} {D : DataW Unit} {k : TypeId} {R : Value → Option (DataW Unit × List MemPlace)} (h : w.ownsMap Try.prog k R b n D) : w.ownsMap Try.prog k R b (Maps.size D) D := by
  obtain ⟨es, clock, h1, F, hs, hD⟩ := h
  exact ⟨es, clock, h1, F, by rw [hD, Maps.size_eq]; simp [length_read], hD⟩

/-- a map of numbers whose keys are those of a list -/
def KeysR (w : World) (m : Nat) (l : List Int) : Prop :=
  ∃ D : DataW Unit, w.ownsMap Try.prog 3 (plainElem Try.prog 3) m l.length D ∧ Maps.Tidy D ∧ (∀ x : Int, Maps.has D (.int .i64 x) = decide (x ∈ l)) ∧ Maps.size D = l.length

theorem KeysR.lt {w : World} {m : Nat} {l : List Int} (h : KeysR w m l) : m < w.heap.size := by
  obtain ⟨D, h, _⟩ := h; exact h.lt
theorem KeysR.block {w w' : World} {m : Nat} {l : List Int} (h : KeysR w m l) (hb : w'.heap[m]? = w.heap[m]?) : KeysR w' m l := by
  obtain ⟨D, h, r⟩ := h; exact ⟨D, ownsMap_block h hb, r⟩

/-- free frames: the struct's block a (tag k), the stack's row (k + 1), the map's block (k + 2) -/
def FreeR (k : Nat) (tag : Nat → Nat) (w : World) (a : Nat) (f : Free) : Prop :=
  ∃ (v : Value) (m : Nat), tag a = k ∧ Blk w a 157 #[.int .i64 f.first, .int .i64 f.many, .int .i64 f.fresh, v, .map (some m)] ∧ Row (k + 1) tag w 3 1 v f.back.length (f.back.map (Value.int .i64)) ∧
    tag m = k + 2 ∧ KeysR w m f.taken

theorem FreeR.mod {k : Nat} {tag tag' : Nat → Nat} {w w' : World} {a : Nat} {f : Free} {T : List Nat} (h : FreeR k tag w a f) (hm : Mod T tag tag' w w') (h0 : k ∉ T) (h1 : k + 1 ∉ T) (h2 : k + 2 ∉ T) : FreeR k tag' w' a f := by
  obtain ⟨v, m, ha, hA, hr, hmt, ho⟩ := h
  exact ⟨v, m, hm.tagOf hA ha, hA.mod hm (by rw [ha]; exact h0), hr.mod hm h1, (hm.tags m ho.lt).trans hmt, ho.block (hm.keep m ho.lt (by rw [hmt]; exact h2))⟩

theorem KeysR.added {w' : World} {m c : Nat} {l : List Int} {D : DataW Unit} {x : Int} {d : DataW Unit} (hT : Maps.Tidy D) (hh : ∀ x : Int, Maps.has D (.int .i64 x) = decide (x ∈ l)) (hs : Maps.size D = l.length)
    (h' : w'.ownsMap Try.prog 3 (plainElem Try.prog 3) m c (D.put (.int .i64 x) d)) (hx : WideAt.IsKeyLit (.int .i64 x)) : KeysR w' m (addT l x) := by
  have hsz : Maps.size (D.put (.int .i64 x) d) = (addT l x).length := by
    rw [Maps.size_put hT, hh, hs]; unfold addT
    by_cases h : x ∈ l <;> simp [h]
  refine ⟨_, hsz ▸ ownsMap_size h', hT.put hx d, fun y => ?_, hsz⟩
  by_cases e : y = x
  · subst e
    rw [Maps.has_put_same hT.isMap hx]
    unfold addT; by_cases h : y ∈ l <;> simp [h]
  · rw [Maps.has_put_other (by intro h; exact e (by injection h)), hh]
    unfold addT; by_cases h : x ∈ l <;> simp [h, e]

theorem isKey_int (x : Int) : WideAt.IsKeyLit (.int .i64 x) := by
  trivial

structure FreeOk (f : Free) : Prop where
  f0 : 0 ≤ f.first
  f1 : f.first ≤ 256
  m1 : f.many ≤ 256
  r0 : 0 ≤ f.fresh
  r1 : f.fresh ≤ 256
  b : ∀ x ∈ f.back, 0 ≤ x ∧ x ≤ 1000
  bl : f.back.length ≤ 1000000
  tl : f.taken.length ≤ 1000000

theorem wf_small {x : Int} (h0 : -1000000 ≤ x) (h1 : x ≤ 1000000) : (Lit.int .i64 x).wf = true := WalkArith.wf_i64 (by omega)

theorem free_take_none (k a : Nat) (tag : Nat → Nat) (f : Free) (w : World) (H : FreeR k tag w a f) (hok : FreeOk f) (hb : f.back = []) (hm : ¬ f.fresh < f.many) :
    Calls Try.prog 88 #[.pointer (some ⟨a, 0, none⟩)] w fun e w' => e = .returned (.tuple #[.int .i64 0, .bool false]) ∧ Below w.heap.size w w' := by
  obtain ⟨v, m, ha, hA, hr, hmt, ho⟩ := H
  obtain ⟨A, c, rfl⟩ := hr.val
  have c0 := hA.cellv 0 rfl
  have c1 := hA.cellv 1 rfl
  have c2 := hA.cellv 2 rfl
  have c3 := hA.cellv 3 rfl
  rw [hb, List.length_nil] at c3
  have k1 := hok.f0
  have k2 := hok.f1
  have k3 := hok.m1
  have k4 := hok.r0
  have k5 := hok.r1
  generalize f.first = fi at *
  generalize f.many = ma at *
  generalize f.fresh = fr at *
  clear hb
  go_enter Try.func88, Try.ntmps88
  go_wp2
  go_quiet (fail)
  go_wp2
  go_quiet (fail)
  go_wp2
  go_ret2
  exact ⟨rfl, belowDN (belowDN (Below.refl _ _) _) _⟩

set_option maxRecDepth 100000 in
theorem free_take_fresh (k a : Nat) (tag : Nat → Nat) (f : Free) (w : World) (H : FreeR k tag w a f) (hok : FreeOk f) (hb : f.back = []) (hm : f.fresh < f.many) :
    Calls Try.prog 88 #[.pointer (some ⟨a, 0, none⟩)] w fun e w' => e = .returned (.tuple #[.int .i64 (f.first + f.fresh), .bool true]) ∧ FreeR k tag w' a { f with fresh := f.fresh + 1, taken := addT f.taken (f.first + f.fresh) } ∧ Mod [k, k + 1, k + 2] tag tag w w' := by
  obtain ⟨v, m, ha, hA, hr, hmt, ho⟩ := H
  obtain ⟨D, ho, hT, hh, hs⟩ := ho
  obtain ⟨A, c, rfl⟩ := hr.val
  have c0 := hA.cellv 0 rfl
  have c1 := hA.cellv 1 rfl
  have c2 := hA.cellv 2 rfl
  have c3 := hA.cellv 3 rfl
  have c4 := hA.cellv 4 rfl
  have f2 := hA.frozen 2
  have c3' : w.cell? ⟨a, 3, none⟩ = some (.slice A 0 c) := by rw [c3, hb]; rfl
  clear c3
  have k1 := hok.f0
  have k2 := hok.f1
  have k3 := hok.m1
  have k4 := hok.r0
  have k5 := hok.r1
  have k6 := hok.tl
  have HB := Lib.hid hb
  have HHH := Lib.hid hh
  have HS := Lib.hid hs
  have hkey : keyOf Try.prog 3 (.int .i64 (f.first + f.fresh)) = some (.int .i64 (f.first + f.fresh)) := Maps.keyOf_int_mk Try.underlying3 (wf_small (by omega) (by omega))
  clear hb hh hs
  have hmA : m ≠ a := by intro e; rw [e] at hmt; omega
  go_enter Try.func88, Try.ntmps88
  go_wp2
  go_quiet (fail)
  go_wp2
  go_quiet (fail)
  have hblk : ∀ (n : Nat) (u : Value), ((w.drewN n).setCell ⟨a, 2, none⟩ u).heap[m]? = w.heap[m]? := fun n u => Below.heap_setCell (w.drewN n) ⟨a, 2, none⟩ u m hmA
  have HBK := Lib.hid hblk
  clear hblk
  go_wp2_with (first
    | (at_lookup; refine wpList_lookup_own_int _ rfl _ _ 132 rfl 3 3 .i64 law_int Try.underlying132 Try.underlying3 (zero_int _) m _ _ rfl (ownsMap_block ho (HBK.out _ _)) _ _ rfl hkey ?_; intro cc hat hwc; clear hat hwc)
    | (at_mapUpdate; refine wpList_mapUpdate_own _ rfl _ _ _ 132 rfl 3 3 law_int Try.underlying132 _ m _ _ rfl (ownsMap_block ho (HBK.out _ _)) (by unfold maxLen; omega) _ _ _ rfl rfl hkey _ [] (plainElem_int Try.underlying3 (wrap64_wf _)) ?_; intro w1 hown1 hgrow1))
  go_ret2
  have hM1 : Mod [k, k + 2] tag tag w w1 := (((Mod.refl [k, k + 2] tag w).drewN _).setCell (a := ⟨a, 2, none⟩) (by simp [ha]) _).grown hgrow1 (fun g hg => by cases hg; exact .inl (by simp [hmt]))
  refine ⟨rfl, ⟨_, m, ha, ((hA.drewN _).set_ 2 _).grown hgrow1 (by simp; exact fun e => hmA e.symm), hr.mod hM1 (by simp), hmt, KeysR.added hT HHH.out HS.out hown1 (isKey_int _)⟩, hM1.mono (by simp)⟩

set_option maxRecDepth 100000 in
theorem free_take_back (k a : Nat) (tag : Nat → Nat) (f : Free) (w : World) (H : FreeR k tag w a f) (hok : FreeOk f) (hb : f.back ≠ []) :
    Calls Try.prog 88 #[.pointer (some ⟨a, 0, none⟩)] w fun e w' => e = .returned (.tuple #[.int .i64 (f.back.getLastD 0), .bool true]) ∧ FreeR k tag w' a { f with back := f.back.dropLast, taken := addT f.taken (f.back.getLastD 0) } ∧ Mod [k, k + 1, k + 2] tag tag w w' := by
  obtain ⟨v, m, ha, hA, hr, hmt, ho⟩ := H
  obtain ⟨D, ho, hT, hh, hs⟩ := ho
  obtain ⟨M, hbl⟩ : ∃ M, f.back.length = M + 1 := ⟨f.back.length - 1, by have := List.length_pos_iff.2 hb; omega⟩
  have hlast : f.back[M]? = some (f.back.getLastD 0) := by
    rw [List.getLastD_eq_getLast?, List.getLast?_eq_getElem?, hbl]
    simp [hbl]
  have hdl : f.back.dropLast = f.back.take M := by rw [List.dropLast_eq_take, hbl]; rfl
  have hx := hok.b (f.back.getLastD 0) (List.mem_of_getElem? hlast)
  rw [hbl] at hr
  rcases hr.form with ⟨_, h0, _⟩ | ⟨g, cap, cur, rfl, htg, hB, hc1, hc2, hsz, hcur⟩
  · omega
  have c0 := hA.cellv 0 rfl
  have c2 := hA.cellv 2 rfl
  have c3 := hA.cellv 3 rfl
  have c4 := hA.cellv 4 rfl
  have f3 := hA.frozen 3
  have k1 := hok.f0
  have k2 := hok.f1
  have k4 := hok.r0
  have k5 := hok.r1
  have k6 := hok.tl
  have k7 := hok.bl
  have e1 : w.cell? ⟨g, M, none⟩ = some (.int .i64 (f.back.getLastD 0)) := by
    have := hr.1.cells (g := g) rfl M (.int .i64 (f.back.getLastD 0)) (by simp [hlast])
    have hadd : (⟨g, 0, none⟩ : Addr).add M = ⟨g, M, none⟩ := by unfold Addr.add; split <;> simp_all
    rw [hadd] at this; exact this
  have hcut := hr.cut (m := M) (by omega)
  rw [← List.map_take, Nat.mul_one, ← hdl] at hcut
  have hkey : keyOf Try.prog 3 (.int .i64 (f.back.getLastD 0)) = some (.int .i64 (f.back.getLastD 0)) := Maps.keyOf_int_mk Try.underlying3 (wf_small (by omega) (by omega))
  generalize f.back.getLastD 0 = x at *
  have HHH := Lib.hid hh
  have HS := Lib.hid hs
  have HBL := Lib.hid hbl
  have HDL := Lib.hid hdl
  have HK := Lib.hid hok
  clear hb hh hs hbl hdl hlast hsz hcur hok
  have hmA : m ≠ a := by intro e; rw [e] at hmt; omega
  have hgA : g ≠ a := by intro e; rw [e] at htg; omega
  unfold maxLen at hc2
  have hblk : ∀ (n : Nat) (u : Value), ((w.drewN n).setCell ⟨a, 3, none⟩ u).heap[m]? = w.heap[m]? := fun n u => Below.heap_setCell (w.drewN n) ⟨a, 3, none⟩ u m hmA
  have HBK := Lib.hid hblk
  clear hblk
  go_enter Try.func88, Try.ntmps88
  go_wp2
  go_quiet (fail)
  go_wp2_with (first
    | (at_lookup; refine wpList_lookup_own_int _ rfl _ _ 132 rfl 3 3 .i64 law_int Try.underlying132 Try.underlying3 (zero_int _) m _ _ rfl (ownsMap_block ho (HBK.out _ _)) _ _ rfl hkey ?_; intro cc hat hwc; clear hat hwc)
    | (at_mapUpdate; refine wpList_mapUpdate_own _ rfl _ _ _ 132 rfl 3 3 law_int Try.underlying132 _ m _ _ rfl (ownsMap_block ho (HBK.out _ _)) (by unfold maxLen; omega) _ _ _ rfl rfl hkey _ [] (plainElem_int Try.underlying3 (wrap64_wf _)) ?_; intro w1 hown1 hgrow1))
  go_ret2
  have hM1 : Mod [k, k + 2] tag tag w w1 := (((Mod.refl [k, k + 2] tag w).drewN _).setCell (a := ⟨a, 3, none⟩) (by simp [ha]) _).grown hgrow1 (fun g hg => by cases hg; exact .inl (by simp [hmt]))
  have hdn : f.back.dropLast.length = M := by rw [List.length_dropLast, HBL.out]; rfl
  refine ⟨rfl, ⟨_, m, ha, ((hA.drewN _).set_ 3 _).grown hgrow1 (by simp; exact fun e => hmA e.symm), ?_, hmt, KeysR.added hT HHH.out HS.out hown1 (isKey_int _)⟩, hM1.mono (by simp)⟩
  have := hcut.mod hM1 (by simp)
  rw [hdn]; exact this

/-- free.Take: the next frame, if there is one -/
theorem free_take (k a : Nat) (tag : Nat → Nat) (f : Free) (w : World) (H : FreeR k tag w a f) (hok : FreeOk f) :
    Calls Try.prog 88 #[.pointer (some ⟨a, 0, none⟩)] w fun e w' => e = .returned (.tuple #[.int .i64 (f.next.getD 0), .bool f.next.isSome]) ∧ FreeR k tag w' a f.took ∧ Mod [k, k + 1, k + 2] tag tag w w' := by
  by_cases hb : f.back = []
  · by_cases hm : f.fresh < f.many
    · have e1 : f.next = some (f.first + f.fresh) := by unfold Free.next; rw [if_neg (by simp [hb]), if_pos hm]
      have e2 : f.took = { f with fresh := f.fresh + 1, taken := addT f.taken (f.first + f.fresh) } := by unfold Free.took; rw [if_neg (by simp [hb]), if_pos hm]
      rw [e1, e2]
      exact free_take_fresh k a tag f w H hok hb hm
    · have e1 : f.next = none := by unfold Free.next; rw [if_neg (by simp [hb]), if_neg hm]
      have e2 : f.took = f := by unfold Free.took; rw [if_neg (by simp [hb]), if_neg hm]
      rw [e1, e2]
      refine (free_take_none k a tag f w H hok hb hm).mono ?_
      rintro e w' ⟨rfl, hB⟩
      exact ⟨rfl, H.mod (T := []) (Mod.of_below hB) (by simp) (by simp) (by simp), Mod.of_below hB⟩
  · have e1 : f.next = some (f.back.getLastD 0) := by unfold Free.next; rw [if_pos hb]
    have e2 : f.took = { f with back := f.back.dropLast, taken := addT f.taken (f.back.getLastD 0) } := by unfold Free.took; rw [if_pos hb]
    rw [e1, e2]
    exact free_take_back k a tag f w H hok hb

set_option maxRecDepth 100000 in
theorem free_give_no (k a : Nat) (tag : Nat → Nat) (f : Free) (x : Int) (w : World) (H : FreeR k tag w a f) (hx : (Lit.int .i64 x).wf = true) (hn : ¬ x ∈ f.taken) :
    Calls Try.prog 95 #[.pointer (some ⟨a, 0, none⟩), .int .i64 x] w fun e w' => e = .returned (.bool false) ∧ w = w' := by
  obtain ⟨v, m, ha, hA, hr, hmt, ho⟩ := H
  obtain ⟨D, ho, hT, hh, hs⟩ := ho
  have c4 := hA.cellv 4 rfl
  have hkey : keyOf Try.prog 3 (.int .i64 x) = some (.int .i64 x) := Maps.keyOf_int_mk Try.underlying3 hx
  have hb : Maps.has D (.int .i64 x) = false := by rw [hh]; simpa using hn
  clear hh hs hT
  go_enter Try.func95, Try.ntmps95
  go_wp2_with (at_lookup; refine wpList_lookup_own_ok_int _ rfl _ _ 132 rfl 3 3 .i64 law_int Try.underlying132 Try.underlying3 (zero_int _) m _ _ rfl ho _ _ rfl hkey ?_; intro cc hat hwc; clear hat hwc)
  go_ret
  exact ⟨rfl, rfl⟩

set_option maxRecDepth 100000 in
theorem free_give_yes (k a : Nat) (tag : Nat → Nat) (f : Free) (x : Int) (w : World) (H : FreeR k tag w a f) (hx : (Lit.int .i64 x).wf = true) (hn : x ∈ f.taken) (hF : Fresh tag w) (hnd : f.taken.Nodup) (hbl : f.back.length ≤ 1000000) :
    Calls Try.prog 95 #[.pointer (some ⟨a, 0, none⟩), .int .i64 x] w fun e w' => e = .returned (.bool true) ∧ ∃ tag', FreeR k tag' w' a { f with back := f.back ++ [x], taken := f.taken.erase x } ∧ Mod [k, k + 1, k + 2] tag tag' w w' ∧ Fresh tag' w' := by
  obtain ⟨v, m, ha, hA, hr, hmt, ho⟩ := H
  obtain ⟨D, ho, hT, hh, hs⟩ := ho
  obtain ⟨i0, hi, hz0, hz1, hz2⟩ := info_parts info_int
  obtain ⟨A, c, rfl⟩ := hr.val
  have hkey : keyOf Try.prog 3 (.int .i64 x) = some (.int .i64 x) := Maps.keyOf_int_mk Try.underlying3 hx
  have hb : Maps.has D (.int .i64 x) = true := by rw [hh]; simpa using hn
  have c3 := hA.cellv 3 rfl
  have c4 := hA.cellv 4 rfl
  have hmA : m ≠ a := by intro e; rw [e] at hmt; omega
  have hne : some a ≠ (Value.slice A f.back.length c).ownBlock := fun e => by have := hr.2 a e.symm; omega
  have HHH := Lib.hid hh
  have HS := Lib.hid hs
  generalize hN : f.back.length = N at *
  have HN := Lib.hid hN
  clear hh hs hN
  go_enter Try.func95, Try.ntmps95
  go_wp2_with (first
    | (at_lookup; refine wpList_lookup_own_ok_int _ rfl _ _ 132 rfl 3 3 .i64 law_int Try.underlying132 Try.underlying3 (zero_int _) m _ _ rfl ho _ _ rfl hkey ?_; intro cc hat hwc; clear hat hwc)
    | (at_delete; refine wpList_delete_own _ rfl _ _ 132 3 rfl 3 law_int Try.underlying132 _ m _ _ rfl ho _ _ rfl hkey ?_; intro w1 hown1 hturn1; have hg1 := hturn1.grown; have hA1 := hA.grown hg1 (by simp; exact fun e => hmA e.symm); have c3 := hA1.cellv 3 rfl; have hM1 : Mod [k, k + 2] tag tag w w1 := (Mod.refl _ _ _).grown hg1 (fun g hg => by cases hg; exact .inl (by simp [hmt])); have hr1 := hr.mod hM1 (by simp))
    | (at_builtin; refine wpList_append_own_at _ rfl _ _ 45 rfl 0 3 i0 _ 1 8 Try.underlying45 hi hz0 hz1 hz2 rfl (by decide) _ _ _ rfl (hr1.1.alloc _) ⟨w1.heap.size, 0, none⟩ 1 1 [.int .i64 x] rfl rfl (cell_one_new _ _ _) (by simp [Value.oneCell']) (by unfold maxLen; omega) (by omega) (Nat.zero_le _) ?_; intro v2 w2 hown2 hgrow2 _ hat2; obtain ⟨tag2, hr2, hM2, hF2⟩ := (hr1.mod (T := []) ((Mod.refl _ _ _).alloc _) (by simp)).grew (T := [k + 1]) hown2 hat2 hgrow2 rfl; obtain ⟨A2, c2, rfl⟩ := hr2.val; have hA2 := (hA1.alloc _).grown hgrow2 hne; have d3 := hA2.cellv 3 rfl; have f3 := hA2.frozen 3))
  go_ret
  have ht2 : tag2 a = k := (hM2.tags a (by simp; have := hA1.lt; omega)).trans ha
  have hm2 : tag2 m = k + 2 := (hM2.tags m (by simp; have := hown1.lt; omega)).trans hmt
  have hMw : Mod [k, k + 1, k + 2] tag tag2 w w2 := ((hM1.mono (by simp)).alloc _).trans (hM2.mono (by simp))
  refine ⟨rfl, tag2, ⟨_, m, ht2, hA2.set_ 3 _, ?_, hm2, ?_⟩, hMw.setCell (by simp [ht2]) _, ?_⟩
  · have := hr2.mod (T := [k]) ((Mod.refl [k] tag2 w2).setCell (a := ⟨a, 3, none⟩) (by simp [ht2]) (.slice A2 (N + 1) c2)) (by simp)
    simpa [HN.out] using this
  · have hK : KeysR w1 m (f.taken.erase x) := by
      have hsz : Maps.size (D.del (.int .i64 x)) = (f.taken.erase x).length := by
        have h1 := Maps.size_del (k := .int .i64 x) hT
        rw [hb] at h1
        have h2 := HS.out
        rw [List.length_erase_of_mem hn]
        simp at h1; omega
      refine ⟨_, hsz ▸ ownsMap_size hown1, hT.del _, fun y => ?_, hsz⟩
      by_cases e : y = x
      · subst e
        rw [Maps.has_del_same, decide_eq_false (fun h => hnd.not_mem_erase h)]
      · rw [Maps.has_del_other (by intro h; exact e (by injection h)), HHH.out]
        simp [List.mem_erase_of_ne e]
    refine hK.block ?_
    have e1 : (w2.setCell ⟨a, 3, none⟩ (.slice A2 (N + 1) c2)).heap[m]? = w2.heap[m]? := Below.heap_setCell w2 ⟨a, 3, none⟩ _ m hmA
    have e2 : w2.heap[m]? = (w1.alloc (.cells #[.int .i64 x] 3)).heap[m]? := hM2.keep m (by simp; have := hown1.lt; omega) (by rw [hmt]; simp)
    exact e1.trans (e2.trans (Below.heap_alloc w1 _ m hown1.lt))
  · exact (hF2 ((hF.mono hM1.size).mono (by simp))).mono (by simp [World.setCell])
end Go.Proofs.Ytbmbgicdnegkfaa
