/- The walks of the guard: what it tells, Zap, Word, tight, forbid, Loosen. -/
import Derived.Test.YtbmbgicdnegkfaaM4
import Derived.Deep.DrawnRows
import Derived.StillTailTactics
import Derived.Deep.DeepCutAuto
import Derived.Deep.LoopGhost
set_option linter.unusedVariables false
set_option linter.unusedSimpArgs false
/- The guard's walks: Loose, List, Protected, Zap. -/
namespace Go.Proofs.Ytbmbgicdnegkfaa
open Go Go.RowKit Sil

structure GX (tag : Nat → Nat) (w : World) (p : Pt) (hs : List Int) (most : Int) (v : Value) (bs : List Nat) (s : St) : Prop where
  sf : SF tag w p.a p.bF p.bL v s.ps bs p.n s.ws s.fr
  mp : MapR 3 tag w p.bM hs
  gt : tag p.bG = 16
  gb : Blk w p.bG 120 #[.pointer (some ⟨p.bM, 0, none⟩), .pointer (some ⟨p.bF, 0, none⟩)]
  tl : TlbR 12 tag w p.bT most s.hits
  gd : GuardR tag w p.d p.bG p.bM p.a p.bT s.loose
  pl : s.ps.length ≤ 1000
  ll : s.loose.length ≤ 1000
  hl : s.hits.length ≤ 1000
  m1 : 1 ≤ most
def GR (tag : Nat → Nat) (w : World) (p : Pt) (hs : List Int) (most : Int) (s : St) : Prop := ∃ v bs, GX tag w p hs most v bs s

theorem GX.mod {tag tag' : Nat → Nat} {w w' : World} {p : Pt} {hs : List Int} {most : Int} {v : Value} {bs : List Nat} {s : St} {T : List Nat} (h : GX tag w p hs most v bs s) (hm : Mod T tag tag' w w') (hT : ∀ x ∈ T, x = 0 ∨ 20 ≤ x) : GX tag' w' p hs most v bs s := by
  have hN : ∀ k, 1 ≤ k → k < 20 → k ∉ T := fun k h1 h2 hk => by have := hT k hk; omega
  exact ⟨h.sf.mod hm (fun x hx => by have := hT x hx; omega), h.mp.mod hm (hN _ (by omega) (by omega)) (hN _ (by omega) (by omega)) (hN _ (by omega) (by omega)), hm.tagOf h.gb h.gt, h.gb.mod hm (by rw [h.gt]; exact hN _ (by omega) (by omega)),
    h.tl.mod hm (hN _ (by omega) (by omega)) (hN _ (by omega) (by omega)), h.gd.mod hm (hN _ (by omega) (by omega)) (hN _ (by omega) (by omega)), h.pl, h.ll, h.hl, h.m1⟩
theorem GX.below {tag : Nat → Nat} {w w' : World} {p : Pt} {hs : List Int} {most : Int} {v : Value} {bs : List Nat} {s : St} (h : GX tag w p hs most v bs s) (hb : Below w.heap.size w w') : GX tag w' p hs most v bs s :=
  h.mod (T := []) (Mod.of_below hb) (by simp)

theorem own_val {w : World} {B e sz n : Nat} {v : Value} {xs : List Value} (h : w.ownsRow B e sz v n xs) : ∃ A c, v = .slice A n c := by
  obtain ⟨_, h1⟩ := h
  rcases h1 with ⟨rfl, rfl, _⟩ | ⟨g, cap, cur, rfl, _⟩
  · exact ⟨none, 0, rfl⟩
  · exact ⟨_, cap, rfl⟩

theorem guard_loose (tag : Nat → Nat) (p : Pt) (hs : List Int) (most : Int) (s : St) (g : Int) (w : World) (H : GR tag w p hs most s) :
    Calls Try.prog 13 #[.pointer (some ⟨p.d, 0, none⟩), .int .i64 g] w fun e w' => e = .returned (.bool (s.isLoose g)) ∧ w = w' := by
  obtain ⟨v, bs, H⟩ := H
  obtain ⟨vl, hd, hD, hr⟩ := H.gd
  have hll := H.ll
  obtain ⟨A, c, rfl⟩ := hr.val
  have c4 := hD.cellv 4 rfl
  go_enter Try.func13, Try.ntmps13
  go_wp2_with fail
  refine (contains_int s.loose s.loose.length rfl g 15 A c _ tag hr.rd (by omega)).mono ?_
  rintro e w' ⟨rfl, rfl⟩
  go_wp2_with fail
  go_ret
  exact ⟨by simp [St.isLoose], rfl⟩

theorem guard_list (tag : Nat → Nat) (p : Pt) (hs : List Int) (most : Int) (s : St) (w : World) (H : GR tag w p hs most s) :
    Calls Try.prog 23 #[.pointer (some ⟨p.d, 0, none⟩)] w fun e w' => ∃ v', e = .returned v' ∧ w'.ownsRow w.heap.size 3 1 v' s.loose.length (s.loose.map (Value.int .i64)) ∧ Below w.heap.size w w' := by
  obtain ⟨v, bs, H⟩ := H
  obtain ⟨vl, hd, hD, hr⟩ := H.gd
  have hll := H.ll
  obtain ⟨A, c, rfl⟩ := hr.val
  have c4 := hD.cellv 4 rfl
  go_enter Try.func23, Try.ntmps23
  go_wp2_with fail
  refine (clone_int 15 A c s.loose.length (s.loose.map (Value.int .i64)) _ tag hr.rd (by simp [Value.oneCell']) (by omega)).mono ?_
  rintro e w' ⟨v', rfl, hown, hB, _⟩
  go_wp2_with fail
  go_ret
  exact ⟨_, rfl, hown, hB⟩

theorem guard_protected (tag : Nat → Nat) (p : Pt) (hs : List Int) (most : Int) (s : St) (g : Int) (w : World) (H : GR tag w p hs most s) :
    Calls Try.prog 17 #[.pointer (some ⟨p.d, 0, none⟩), .int .i64 g] w fun e w' => e = .returned (.bool (s.prot g)) ∧ Below w.heap.size w w' := by
  obtain ⟨v, bs, H⟩ := H
  have hD0 : ∃ vl, Blk w p.d 95 #[.pointer (some ⟨p.bG, 0, none⟩), .pointer (some ⟨p.bM, 0, none⟩), .pointer (some ⟨p.a, 0, none⟩), .pointer (some ⟨p.bT, 0, none⟩), vl] := by obtain ⟨vl, _, h, _⟩ := H.gd; exact ⟨vl, h⟩
  obtain ⟨vl, hD⟩ := hD0
  have c2 := hD.cellv 2 rfl
  have hpl := H.pl
  have hof : (sOf s.ps g).length ≤ 1000 := by unfold sOf; rw [List.length_map]; exact Nat.le_trans (List.length_filter_le _ _) hpl
  cases he : (sOf s.ps g).isEmpty
  · have hpos : 0 < (sOf s.ps g).length := by
      rcases Nat.eq_zero_or_pos (sOf s.ps g).length with h | h
      · rw [List.eq_nil_of_length_eq_zero h] at he; cases he
      · exact h
    have e1 : s.prot g = !s.isLoose g := by unfold St.prot; rw [he]; rfl
    rw [e1]
    go_enter Try.func17, Try.ntmps17
    go_wp2_with fail
    refine (store_of 6 p.a p.bF p.bL tag v s.ps bs g _ H.sf.sh.st (by omega)).mono ?_
    rintro e w1 ⟨v', rfl, hown, hB⟩
    obtain ⟨A, c, rfl⟩ := own_val hown
    go_wp2_with fail
    refine (guard_loose tag p hs most s g _ ⟨v, bs, H.below hB⟩).mono ?_
    rintro e w2 ⟨rfl, rfl⟩
    go_wp2_with fail
    go_ret
    exact ⟨rfl, hB⟩
  · have e1 : s.prot g = false := by unfold St.prot; rw [he]; rfl
    have e2 : sOf s.ps g = [] := List.isEmpty_iff.1 he
    rw [e1]
    have E2 := Lib.hid e2
    clear e2 he
    go_enter Try.func17, Try.ntmps17
    go_wp2_with fail
    refine (store_of 6 p.a p.bF p.bL tag v s.ps bs g _ H.sf.sh.st (by omega)).mono ?_
    rintro e w1 ⟨v', rfl, hown, hB⟩
    rw [E2.out] at hown
    obtain ⟨A, c, rfl⟩ := own_val hown
    go_wp2_with fail
    go_ret
    exact ⟨rfl, hB⟩
end Go.Proofs.Ytbmbgicdnegkfaa

/- The guard's walks: Zap, Word, tight, agrees. -/
namespace Go.Proofs.Ytbmbgicdnegkfaa
open Go Go.RowKit Sil

theorem GX.guard {tag : Nat → Nat} {w : World} {p : Pt} {hs : List Int} {most : Int} {v : Value} {bs : List Nat} {s : St} (h : GX tag w p hs most v bs s) :
    ∃ vl, Blk w p.d 95 #[.pointer (some ⟨p.bG, 0, none⟩), .pointer (some ⟨p.bM, 0, none⟩), .pointer (some ⟨p.a, 0, none⟩), .pointer (some ⟨p.bT, 0, none⟩), vl] := by
  obtain ⟨vl, _, h, _⟩ := h.gd; exact ⟨vl, h⟩

set_option maxRecDepth 100000 in
theorem guard_zap (tag : Nat → Nat) (p : Pt) (hs : List Int) (most : Int) (s : St) (f i : Int) (w : World) (H : GR tag w p hs most s) :
    Calls Try.prog 49 #[.pointer (some ⟨p.d, 0, none⟩), .int .i64 f, .int .i64 i] w fun e w' => e = .returned (.bool (sClearIs s.ps f i && hok p.n f i)) ∧ GR tag w' p hs most (s.zap p.n f i) ∧ Mod [2, 8, 12] tag tag w w' := by
  obtain ⟨v, bs, H⟩ := H
  obtain ⟨vl, hD⟩ := H.guard
  have c2 := hD.cellv 2 rfl
  have hdt : tag p.d = 14 := by obtain ⟨_, h, _⟩ := H.gd; exact h
  cases hc : (sClearIs s.ps f i && hok p.n f i)
  · have HC := Lib.hid hc
    clear hc
    go_enter Try.func49, Try.ntmps49
    go_wp2_with fail
    refine (store_clear p.a p.bF p.bL p.n tag v s.ps bs s.ws f i _ H.sf.sh).mono ?_
    rintro e w1 ⟨rfl, H1, hM1⟩
    rw [HC.out]
    go_wp2_with fail
    go_ret
    have e1 : s.zap p.n f i = { s with ws := wClear p.n s.ps s.ws f i, ps := sClear s.ps f i } := by unfold St.zap; rw [HC.out]; rfl
    rw [e1]
    exact ⟨rfl, ⟨v, bs, ⟨H1, H.sf.frr.mod hM1 (by simp) (by simp) (by simp), H.sf.ok⟩, H.mp.mod hM1 (by simp) (by simp) (by simp), hM1.tagOf H.gb H.gt, H.gb.mod hM1 (by rw [H.gt]; simp), H.tl.mod hM1 (by simp) (by simp), H.gd.mod hM1 (by simp) (by simp), by simpa [sClear_len] using H.pl, H.ll, H.hl, H.m1⟩, hM1.mono (by simp)⟩
  · have HC := Lib.hid hc
    clear hc
    go_enter Try.func49, Try.ntmps49
    go_wp2_with fail
    refine (store_clear p.a p.bF p.bL p.n tag v s.ps bs s.ws f i _ H.sf.sh).mono ?_
    rintro e w1 ⟨rfl, H1, hM1⟩
    rw [HC.out]
    have c3 := (hD.mod hM1 (by rw [hdt]; simp)).cellv 3 rfl
    go_wp2_with fail
    refine (tlb_all 12 p.bT tag most s.hits _ (H.tl.mod hM1 (by simp) (by simp))).mono ?_
    rintro e w2 ⟨rfl, hT2, hM2⟩
    go_wp2_with fail
    go_ret
    have e1 : s.zap p.n f i = { s with ws := wClear p.n s.ps s.ws f i, ps := sClear s.ps f i, hits := [] } := by unfold St.zap; rw [HC.out]; rfl
    rw [e1]
    have hM : Mod [2, 8, 12] tag tag w w2 := (hM1.mono (by simp)).trans (hM2.mono (by simp))
    exact ⟨rfl, ⟨v, bs, ⟨H1.mod hM2 (by simp), H.sf.frr.mod hM (by simp) (by simp) (by simp), H.sf.ok⟩, H.mp.mod hM (by simp) (by simp) (by simp), hM.tagOf H.gb H.gt, H.gb.mod hM (by rw [H.gt]; simp), hT2, H.gd.mod hM (by simp) (by simp), by simpa [sClear_len] using H.pl, H.ll, by simp, H.m1⟩, hM⟩

def zaps (n : Nat) (s : St) (l : List Int) (i : Int) : St := l.foldl (fun s p => s.zap n p i) s
theorem zaps_snoc (n : Nat) (s : St) (l : List Int) (x i : Int) : zaps n s (l ++ [x]) i = (zaps n s l i).zap n x i := by simp [zaps]

set_option maxRecDepth 100000 in
theorem guard_word (tag : Nat → Nat) (p : Pt) (hs : List Int) (most : Int) (s : St) (g i : Int) (w : World) (H : GR tag w p hs most s) (hF : Fresh tag w) :
    Calls Try.prog 33 #[.pointer (some ⟨p.d, 0, none⟩), .int .i64 g, .int .i64 i] w fun e w' => e = .returned (.tuple #[]) ∧ GR tag w' p hs most (s.word p.n g i) ∧ Mod [2, 8, 12] tag tag w w' := by
  have hwd : Hid (s.word p.n g i = zaps p.n s (sOf s.ps g) i) := Lib.hid rfl
  have H0 := H
  obtain ⟨v, bs, H⟩ := H
  obtain ⟨vl, hD⟩ := H.guard
  have c2 := hD.cellv 2 rfl
  have hof : (sOf s.ps g).length ≤ 1000 := by unfold sOf; rw [List.length_map]; exact Nat.le_trans (List.length_filter_le _ _) H.pl
  have hpl := H.pl
  generalize hL : sOf s.ps g = L at *
  have HL := Lib.hid hL
  clear hL
  go_enter Try.func33, Try.ntmps33
  go_wp2_with fail
  refine (store_of 6 p.a p.bF p.bL tag v s.ps bs g _ H.sf.sh.st (by omega)).mono ?_
  rintro e w1 ⟨v', rfl, hown, hB⟩
  rw [HL.out] at hown
  have hrow := Row.of_new hown hF
  obtain ⟨A, c, rfl⟩ := own_val hown
  clear hown
  go_wp2_with fail
  go_loopw [15] (fun k wr => ∃ j : Nat, j ≤ L.length ∧ k = .int .i64 j ∧ GR tag wr p hs most (zaps p.n s (L.take j) i) ∧ Row 0 tag wr 3 1 (.slice A L.length c) L.length (L.map (Value.int .i64)) ∧ Mod [2, 8, 12] tag tag w wr) (fun k _ => L.length - (intOf k).toNat)
  case atStart => exact ⟨0, Nat.zero_le _, rfl, ⟨v, bs, H.below hB⟩, hrow, Mod.of_below hB⟩
  case round =>
    obtain ⟨j, hj, rfl, Hj, hrj, hMj⟩ := hrel
    by_cases hlt : j < L.length
    · obtain ⟨x, hx⟩ : ∃ x, L[j]? = some x := ⟨L[j], by simp [hlt]⟩
      have hstep : Hid (zaps p.n s (L.take (j + 1)) i = (zaps p.n s (L.take j) i).zap p.n x i) := Lib.hid (by
        have := (List.getElem?_eq_some_iff.1 hx).2
        rw [List.take_succ_eq_append_getElem hlt, this, zaps_snoc])
      obtain ⟨g', off, rfl, q0, _⟩ := hrj.rd.at_ (j := j) (u := .int .i64 x) (by simp [hx])
      clear hx
      go_wp2_with fail
      refine (guard_zap tag p hs most _ x i _ Hj).mono ?_
      rintro e w2 ⟨rfl, H2, hM2⟩
      go_wp2_with fail
      go_roundw
      case rel => exact ⟨j + 1, by omega, by go_num, by rw [hstep.out]; exact H2, hrj.mod hM2 (by simp), hMj.trans hM2⟩
      case measure => simp [intOf]; omega
    · have hj' : j = L.length := by omega
      subst hj'
      rw [List.take_length] at Hj
      go_wp2_with fail
      go_end0
      exact ⟨rfl, by rw [hwd.out]; exact Hj, hMj⟩
end Go.Proofs.Ytbmbgicdnegkfaa

/- The guard's walks: tight, agrees. -/
namespace Go.Proofs.Ytbmbgicdnegkfaa
open Go Go.RowKit Sil

set_option maxHeartbeats 8000000 in
theorem guard_agrees (x : Slot) (e : Pte) (w : World) :
    Calls Try.prog 61 #[.agg x.cs.toArray, .agg e.cs.toArray] w fun r w' => r = .returned (.bool (agr x e)) ∧ Below w.heap.size w w' := by
  have hB : ∀ o1 o2 : Obj, Below w.heap.size w ((w.alloc o1).alloc o2) := fun o1 o2 => ((Below.refl _ w).alloc (Nat.le_refl _) _).alloc (by simp) _
  obtain ⟨xk, xt, ⟨xw, xu, xx⟩⟩ := x
  obtain ⟨ep, ew, eu, ea, ed, eps, enx, ebad, ef⟩ := e
  simp only [Slot.cs, Pte.cs]
  unfold agr
  simp only []
  cases ep
  · go_enter Try.func61, Try.ntmps61
    go_wp2_with fail
    go_ret
    exact ⟨by simp, hB _ _⟩
  cases ea
  · go_enter Try.func61, Try.ntmps61
    go_wp2_with fail
    go_ret
    exact ⟨by simp, hB _ _⟩
  cases ebad
  rotate_left
  · go_enter Try.func61, Try.ntmps61
    go_wp2_with fail
    go_ret
    exact ⟨by simp, hB _ _⟩
  cases eps
  rotate_left
  · go_enter Try.func61, Try.ntmps61
    go_wp2_with fail
    go_ret
    exact ⟨by simp, hB _ _⟩
  by_cases hf : ef = xt
  rotate_left
  · go_enter Try.func61, Try.ntmps61
    go_wp2_with fail
    all_goals first
      | (exfalso; omega)
      | (go_ret; exact ⟨by simp [hf], hB _ _⟩)
  subst hf
  cases eu <;> cases xu <;> cases enx <;> cases xx <;> cases xw
  all_goals
    go_enter Try.func61, Try.ntmps61
    go_wp2_with fail
  all_goals first
    | (go_ret; exact ⟨by simp, hB _ _⟩)
    | (go_ret; exact ⟨by simp [*], hB _ _⟩)
    | (exfalso; simp_all; done)
end Go.Proofs.Ytbmbgicdnegkfaa

/- The guard's walk: tight. -/
namespace Go.Proofs.Ytbmbgicdnegkfaa
open Go Go.RowKit Sil

set_option maxRecDepth 100000 in
theorem guard_tight (tag : Nat → Nat) (p : Pt) (hs : List Int) (most : Int) (s : St) (g : Int) (w : World) (H : GR tag w p hs most s) (hF : Fresh tag w) :
    Calls Try.prog 60 #[.pointer (some ⟨p.d, 0, none⟩), .int .i64 g] w fun e w' => e = .returned (.tuple #[]) ∧ GR tag w' p hs most (s.tight g) ∧ Mod [14, 15] tag tag w w' := by
  have hb0 : Below w.heap.size w (w.alloc (.cells #[.int .i64 g] 3)) := (Below.refl _ w).alloc (Nat.le_refl _) _
  obtain ⟨v, bs, H⟩ := H
  have H0 := H.below hb0
  obtain ⟨vl, hdt, hD, hr⟩ := H0.gd
  have hX0 := Blk.new w 3 #[.int .i64 g]
  have hX0t : tag w.heap.size = 0 := hF _ (Nat.le_refl _)
  have hll := H.ll
  have c4 := hD.cellv 4 rfl
  have hcall : ∀ (j : Nat) (hj : j < s.loose.length) (W : World), Mod [15] tag tag (w.alloc (.cells #[.int .i64 g] 3)) W →
      Calls Try.prog 91 #[Value.int .i64 s.loose[j], .pointer (some ⟨w.heap.size, 0, none⟩)] W fun e W' => e = .returned (.bool ((fun l : Int => l == g) s.loose[j])) ∧ Below W.heap.size W W' := by
    intro j hj W hMW
    exact tight_is w.heap.size s.loose[j] g W ((hX0.mod hMW (by rw [hX0t]; simp)).cellv 0 rfl)
  have HC := Lib.hid hcall
  clear hcall
  go_enter Try.func60, Try.ntmps60
  go_wp2_with fail
  refine (deleteFunc_intTight (Value.int .i64) (fun y => ⟨_, rfl⟩) s.loose s.loose.length rfl (fun l => l == g) (.pointer (some ⟨w.heap.size, 0, none⟩)) 15 vl _ tag hr (by omega) HC.out).mono ?_
  rintro e w4 ⟨v4, rfl, hr4, hM4⟩
  obtain ⟨A4, c5, rfl⟩ := hr4.val
  have hD4 := hD.mod hM4 (by rw [hdt]; simp)
  have d4 := hD4.cellv 4 rfl
  have g4 := hD4.frozen 4
  go_wp2_with fail
  go_end0
  have hMw : Mod [14, 15] tag tag w w4 := (Mod.of_below hb0).trans (hM4.mono (by simp))
  have hM5 : Mod [14] tag tag w4 (w4.setCell ⟨p.d, 4, none⟩ (.slice A4 (List.filter (fun y => !(y == g)) s.loose).length c5)) := (Mod.refl [14] tag w4).setCell (a := ⟨p.d, 4, none⟩) (by simp [hdt]) _
  have hM : Mod [14, 15] tag tag w _ := hMw.trans (hM5.mono (by simp))
  refine ⟨rfl, ⟨v, bs, H.sf.mod hM (by simp), H.mp.mod hM (by simp) (by simp) (by simp), hM.tagOf H.gb H.gt, H.gb.mod hM (by rw [H.gt]; simp), H.tl.mod hM (by simp) (by simp), ⟨_, hdt, hD4.set_ 4 _, hr4.mod hM5 (by simp)⟩, H.pl, Nat.le_trans (List.length_filter_le _ _) H.ll, H.hl, H.m1⟩, hM⟩
end Go.Proofs.Ytbmbgicdnegkfaa

/- The guard's walk: forbid. -/
namespace Go.Proofs.Ytbmbgicdnegkfaa
open Go Go.RowKit Sil
attribute [local go_sem ↓] Go.wp_at_zero Go.wp_at_succ

set_option maxRecDepth 100000 in
set_option maxHeartbeats 2000000 in
theorem guard_forbid (tag : Nat → Nat) (p : Pt) (hs : List Int) (most : Int) (s : St) (g : Int) (w : World) (H : GR tag w p hs most s) (hF : Fresh tag w) :
    Calls Try.prog 58 #[.pointer (some ⟨p.d, 0, none⟩), .int .i64 g] w fun e w' => e = .returned (.tuple #[]) ∧ GR tag w' p hs most (s.forbid p.n hs g) ∧ Mod [2, 8, 12] tag tag w w' := by
  have hfd : Hid (s.forbid p.n hs g = s.forbids p.n g (ghost hs g) (sTold s.ps 2 g)) := Lib.hid rfl
  have H00 := H
  obtain ⟨v, bs, H⟩ := H
  obtain ⟨vl, hD⟩ := H.guard
  have hdt : tag p.d = 14 := by obtain ⟨_, h, _⟩ := H.gd; exact h
  have c1 := hD.cellv 1 rfl
  have c2 := hD.cellv 2 rfl
  have hpl := H.pl
  generalize hats : sTold s.ps 2 g = ats at *
  have HATS := Lib.hid hats
  have hN : ats.length ≤ 8000 := by rw [← hats]; unfold sTold; rw [List.length_map]; exact Nat.le_trans (List.length_filter_le _ _) (by rw [stAts_len]; omega)
  clear hats
  generalize hgh : ghost hs g = h at *
  have HGH := Lib.hid hgh
  clear hgh
  go_enter Try.func58, Try.ntmps58
  go_wp2_with fail
  refine (gmap_host 3 p.bM tag hs g _ H.mp).mono ?_
  rintro e w0 ⟨rfl, rfl⟩
  rw [HGH.out]
  go_wp2_with fail
  refine (store_leaves p.a p.bF p.bL tag v s.ps bs g _ H.sf.sh.st (by omega)).mono ?_
  rintro e w1 ⟨v', rfl, hown, hB⟩
  rw [HATS.out] at hown
  have hrow := Row.of_new hown hF
  obtain ⟨A, c, rfl⟩ := own_val hown
  clear hown
  go_wp2_with fail
  go_loopg [26] ats.length (fun gk k wr => ∃ j : Nat, j ≤ ats.length ∧ gk = ats.length - j ∧ k = .int .i64 j ∧ GR tag wr p hs most (s.forbids p.n g h (ats.take j)) ∧ Row 0 tag wr 111 2 (.slice A ats.length c) ats.length (ats.flatMap At.cs) ∧ Mod [2, 8, 12] tag tag w wr)
  case atStart => exact ⟨0, Nat.zero_le _, rfl, rfl, ⟨v, bs, H.below hB⟩, hrow, Mod.of_below hB⟩
  case round =>
    obtain ⟨j, hj, rfl, rfl, Hj, hrj, hMj⟩ := hrel
    by_cases hlt : j < ats.length
    · obtain ⟨x, hx⟩ : ∃ x, ats[j]? = some x := ⟨ats[j], by simp [hlt]⟩
      have hstep : Hid (s.forbids p.n g h (ats.take (j + 1)) = (s.forbids p.n g h (ats.take j)).forbid1 p.n g h x) := Lib.hid (by
        have := (List.getElem?_eq_some_iff.1 hx).2
        rw [List.take_succ_eq_append_getElem hlt, this, St.forbids_snoc])
      have y0 := ats_cell hx 0 (by omega)
      have y1 := ats_cell hx 1 (by omega)
      obtain ⟨ag, ai⟩ := x
      obtain ⟨ga, rfl⟩ : ∃ ga, A = some ⟨ga, 0, none⟩ := by
        rcases hrj.form with ⟨_, h0, _⟩ | ⟨ga, cap, cur, hv, _⟩
        · omega
        · injection hv with hv1; exact ⟨ga, hv1⟩
      have q0 : wr.cell? ⟨ga, j * 2, none⟩ = some (.int .i64 ag) := by
        obtain ⟨g', off, e, h, _⟩ := hrj.rd.at_ (j := j * 2 + 0) (u := .int .i64 ag) (by rw [y0]; rfl)
        cases e; simpa using h
      have q1 : wr.cell? ⟨ga, j * 2 + 1, none⟩ = some (.int .i64 ai) := by
        obtain ⟨g', off, e, h, _⟩ := hrj.rd.at_ (j := j * 2 + 1) (u := .int .i64 ai) (by rw [y1]; rfl)
        cases e; simpa using h
      clear y0 y1 hx
      have hDj := hD.mod hMj (by rw [hdt]; simp)
      have hltd := hDj.lt
      have c2' := hDj.cellv 2 rfl
      have c3' := hDj.cellv 3 rfl
      obtain ⟨vj, bsj, Hx⟩ := Hj
      generalize hsj : s.forbids p.n g h (ats.take j) = sj at *
      clear hsj
      obtain ⟨sk, hsk⟩ : ∃ sk, sSlot sj.ps ag ai = sk := ⟨_, rfl⟩
      have HSK := Lib.hid hsk
      have hplj := Hx.pl
      clear hsk
      obtain ⟨xk, xt, ⟨xw, xu, xx⟩⟩ := sk
      have hBa := Blk.new wr 111 #[.int .i64 ag, .int .i64 ai]
      have a0 := hBa.cellv 0 rfl
      have a1 := hBa.cellv 1 rfl
      have hb0 : Below wr.heap.size wr (wr.alloc (.cells #[.int .i64 ag, .int .i64 ai] 111)) := (Below.refl _ wr).alloc (Nat.le_refl _) _
      have s1 : StoreX 6 tag (wr.alloc (.cells #[.int .i64 ag, .int .i64 ai] 111)).drew p.a p.bF p.bL vj sj.ps bsj := (Hx.below hb0).sf.sh.st.heap rfl
      have hb1 : Below wr.heap.size wr ((wr.alloc (.cells #[.int .i64 ag, .int .i64 ai] 111)).alloc (.cells #[.int .i64 0, .int .i64 0, .bool false, .bool false, .bool false] 62)) := hb0.alloc hb0.size _
      have s2 : StoreX 6 tag ((wr.alloc (.cells #[.int .i64 ag, .int .i64 ai] 111)).alloc (.cells #[.int .i64 0, .int .i64 0, .bool false, .bool false, .bool false] 62)).drew p.a p.bF p.bL vj sj.ps bsj := (Hx.below hb1).sf.sh.st.heap rfl
      have hZ := Blk.new2 wr (.cells #[.int .i64 ag, .int .i64 ai] 111) 62 #[.int .i64 0, .int .i64 0, .bool false, .bool false, .bool false]
      have zb : ∀ w2, Below ((wr.alloc (.cells #[.int .i64 ag, .int .i64 ai] 111)).alloc (.cells #[.int .i64 0, .int .i64 0, .bool false, .bool false, .bool false] 62)).drew.heap.size ((wr.alloc (.cells #[.int .i64 ag, .int .i64 ai] 111)).alloc (.cells #[.int .i64 0, .int .i64 0, .bool false, .bool false, .bool false] 62)).drew w2 → Blk w2 (wr.heap.size + 1) 62 #[.int .i64 0, .int .i64 0, .bool false, .bool false, .bool false] := fun w2 hb2 => (hb2.block _ (by simp)).trans hZ
      have ZB := Lib.hid zb
      clear zb hZ
      have HB0 := Lib.hid hb0
      have HB1 := Lib.hid hb1
      clear hb0 hb1
      go_upto_region 4 with fail
      go_cut [8] (fun s8 wx => ∃ b : Nat, s8 = .pointer (some ⟨b, 0, none⟩) ∧ Blk wx b 62 #[.int .i64 xk, .int .i64 xt, .bool xw, .bool xu, .bool xx] ∧ Below wr.heap.size wr wx ∧ Blk wx wr.heap.size 111 #[.int .i64 ag, .int .i64 ai])
      case first =>
        go_region_with (go_at_call 27; refine (store_Slot 6 p.a p.bF p.bL tag vj sj.ps bsj ag ai _ (by first | with_reducible exact s1 | with_reducible exact s2) (by omega)).mono ?_; rintro e w2 ⟨rfl, hb2⟩; rw [HSK.out]; simp only [Slot.cs]; first | (have hZ2 : Blk w2 (wr.heap.size + 1) 62 #[.int .i64 0, .int .i64 0, .bool false, .bool false, .bool false] := (by with_reducible exact ZB.out w2 hb2); have z0 := hZ2.cellv 0 rfl; have z1 := hZ2.cellv 1 rfl; have z2 := hZ2.cellv 2 rfl; have z3 := hZ2.cellv 3 rfl; have z4 := hZ2.cellv 4 rfl; have g0 := hZ2.frozen 0; have g1 := hZ2.frozen 1; have g2 := hZ2.frozen 2; have g3 := hZ2.frozen 3; have g4 := hZ2.frozen 4) | skip)
        all_goals (go_wp2_with fail; go_meet)
        all_goals first
          | (have hh := held_new (W0 := wr.alloc (.cells #[.int .i64 ag, .int .i64 ai] 111)) (t := 62) (C := #[.int .i64 xk, .int .i64 xt, .bool xw, .bool xu, .bool xx]) (by with_reducible exact hb2); exact ⟨_, rfl, hh.1, HB0.out.trans (hh.2.mono HB0.out.size), hBa.below hh.2 hBa.lt⟩)
          | (have hh := held_set5 (W0 := wr.alloc (.cells #[.int .i64 ag, .int .i64 ai] 111)) (t := 62) (H := wr.heap.size + 1) (.int .i64 xk) (.int .i64 xt) (.bool xw) (.bool xu) (.bool xx) (by simp) (by with_reducible exact hb2); exact ⟨_, rfl, hh.1, HB0.out.trans (hh.2.mono HB0.out.size), hBa.below hh.2 hBa.lt⟩)
      case rest =>
        obtain ⟨b, rfl, hX, hbw, hA⟩ := hcut
        clear ZB HB0 HB1 s1 s2 hBa a0 a1 c2' c3'
        have x2 := hX.cellv 2 rfl
        have x3 := hX.cellv 3 rfl
        have x4 := hX.cellv 4 rfl
        have a0 := hA.cellv 0 rfl
        have a1 := hA.cellv 1 rfl
        have hDc := hDj.below hbw hDj.lt
        have c2' := hDc.cellv 2 rfl
        have c3' := hDc.cellv 3 rfl
        have hMc : Mod [2, 8, 12] tag tag w wc := hMj.trans (Mod.of_below hbw)
        have hrc := hrj.mod (T := []) (Mod.of_below hbw) (by simp)
        have Hc := Hx.below hbw
        have HF1 : Hid (sj.forbid1 p.n g h ⟨ag, ai⟩ = if xw then { sj with ps := sLeaf p.n sj.ps ag ai g h ⟨false, xu, xx⟩, ws := wLeaf p.n sj.ps sj.ws ag ai g h ⟨false, xu, xx⟩, hits := [] } else sj) := Lib.hid (by unfold St.forbid1; simp only [HSK.out])
        cases xw
        · go_wp2_with fail
          go_roundg (ats.length - (j + 1))
          case measure => omega
          case rel => exact ⟨j + 1, by omega, rfl, by go_num, by rw [hstep.out, HF1.out]; exact ⟨vj, bsj, Hc⟩, hrc, hMc⟩
        · go_wp2_with fail
          go_still_tail 17, (by kernel_rfl)
          change wpList _ _ _ _ _ wc.drew
          have Hd : GX tag wc.drew p hs most vj bsj sj := Hc.mod ((Mod.refl [] tag wc).drew) (by simp)
          have hMd : Mod [2, 8, 12] tag tag w wc.drew := hMc.drew
          have hrd := hrc.mod ((Mod.refl [] tag wc).drew) (by simp)
          have hDd := hDc.drew
          generalize wc.drew = w2 at Hd hMd hrd hDd ⊢
          clear x2 x3 x4 a0 a1 c2' c3' hX hA hDc hMc hrc Hc hbw
          go_wp2_with fail
          refine (store_leaf p.a p.bF p.bL p.n tag vj sj.ps bsj sj.ws ag ai g h ⟨false, xu, xx⟩ _ Hd.sf.sh).mono ?_
          rintro e w3 ⟨rfl, H3, hM3⟩
          have c3 := (hDd.mod hM3 (by rw [hdt]; simp)).cellv 3 rfl
          go_wp2_with fail
          refine (tlb_all 12 p.bT tag most sj.hits _ (Hd.tl.mod hM3 (by simp) (by simp))).mono ?_
          rintro e w4 ⟨rfl, hT4, hM4⟩
          have hM : Mod [2, 8, 12] tag tag w2 w4 := (hM3.mono (by simp)).trans (hM4.mono (by simp))
          go_wp2_with fail
          go_roundg (ats.length - (j + 1))
          case measure => omega
          case rel =>
            refine ⟨j + 1, by omega, rfl, by go_num, ?_, hrd.mod hM (by simp), hMd.trans hM⟩
            rw [hstep.out, HF1.out]
            exact ⟨vj, bsj, ⟨H3.mod hM4 (by simp), Hd.sf.frr.mod hM (by simp) (by simp) (by simp), Hd.sf.ok⟩, Hd.mp.mod hM (by simp) (by simp) (by simp), hM.tagOf Hd.gb Hd.gt, Hd.gb.mod hM (by rw [Hd.gt]; simp), hT4, Hd.gd.mod hM (by simp) (by simp), by simpa [sLeaf_len] using Hd.pl, Hd.ll, by simp, Hd.m1⟩
    · have hj' : j = ats.length := by omega
      subst hj'
      rw [List.take_length] at Hj
      go_wp2_with fail
      go_end0
      exact ⟨rfl, by rw [hfd.out]; exact Hj, hMj⟩
end Go.Proofs.Ytbmbgicdnegkfaa

/- The guard's walk: Loosen. -/
namespace Go.Proofs.Ytbmbgicdnegkfaa
open Go Go.RowKit Sil
attribute [local go_sem ↓] Go.wp_at_zero Go.wp_at_succ

theorem below_drewN' {B : Nat} {w w' : World} (h : Below B w w') (n : Nat) : Below B w (w'.drewN n) := ⟨h.os, h.tape, h.output, h.size, h.block⟩
set_option maxRecDepth 100000 in
set_option maxHeartbeats 2000000 in
theorem guard_loosen (tag : Nat → Nat) (p : Pt) (hs : List Int) (most : Int) (s : St) (g : Int) (w : World) (H : GR tag w p hs most s) (hF : Fresh tag w) (hl1 : s.loose.length < 1000) :
    Calls Try.prog 39 #[.pointer (some ⟨p.d, 0, none⟩), .int .i64 g] w fun e w' => e = .returned (.bool (s.loosenIs g)) ∧ ∃ tag', GR tag' w' p hs most (s.loosen g) ∧ Mod [14, 15] tag tag' w w' ∧ Fresh tag' w' := by
  obtain ⟨v, bs, H⟩ := H
  obtain ⟨vl, hdt, hD, hr⟩ := H.gd
  obtain ⟨Al, cl, rfl⟩ := hr.val
  obtain ⟨i0, hi, hz0, hz1, hz2⟩ := info_parts info_int
  have c2 := hD.cellv 2 rfl
  have hpl := H.pl
  have hof : (sOf s.ps g).length ≤ 1000 := by unfold sOf; rw [List.length_map]; exact Nat.le_trans (List.length_filter_le _ _) H.pl
  have hI : Hid (s.loosenIs g = if s.isLoose g || (sOf s.ps g).length != 1 then false else if (sKey s.ps ((sOf s.ps g).getD 0 0)).lev != 1 || (sTold s.ps 1 ((sOf s.ps g).getD 0 0)).length != 1 then false else (sTold s.ps 1 ((sTold s.ps 1 ((sOf s.ps g).getD 0 0)).getD 0 ⟨0, 0⟩).g).length == 1) := Lib.hid rfl
  have hno : Hid (∀ w', s.loosenIs g = false → Below w.heap.size w w' → ∃ tag', GR tag' w' p hs most (s.loosen g) ∧ Mod [14, 15] tag tag' w w' ∧ Fresh tag' w') := Lib.hid (fun w' h0 hb => ⟨tag, ⟨v, bs, by unfold St.loosen; rw [h0]; exact H.below hb⟩, Mod.of_below hb, hF.mono hb.size⟩)
  generalize hL : sOf s.ps g = L at *
  have HL := Lib.hid hL
  clear hL
  cases hlo : s.isLoose g
  · have HLO := Lib.hid hlo
    by_cases h1 : L.length = 1
    · obtain ⟨f, rfl⟩ : ∃ f, L = [f] := by
        match L, h1 with
        | [f], _ => exact ⟨f, rfl⟩
      clear h1 hlo hof
      obtain ⟨key, hkey⟩ : ∃ key, sKey s.ps f = key := ⟨_, rfl⟩
      have HK := Lib.hid hkey
      clear hkey
      obtain ⟨kg, kl, kr⟩ := key
      obtain ⟨up, hup⟩ : ∃ up, sTold s.ps 1 f = up := ⟨_, rfl⟩
      have HUP := Lib.hid hup
      clear hup
      by_cases hk1 : kl = 1
      · subst hk1
        by_cases hu1 : up.length = 1
        · obtain ⟨⟨ug, ui⟩, rfl⟩ : ∃ u, up = [u] := by
            match up, hu1 with
            | [u], _ => exact ⟨u, rfl⟩
          clear hu1
          obtain ⟨up2, hup2⟩ : ∃ up, sTold s.ps 1 ug = up := ⟨_, rfl⟩
          have HUP2 := Lib.hid hup2
          have hI0 : s.loosenIs g = (up2.length == 1) := by rw [hI.out]; simp [HLO.out, HK.out, HUP.out, hup2]
          clear hup2
          have HI0 := Lib.hid hI0
          rw [hI0]
          by_cases hu2 : up2.length = 1
          · generalize hN2 : up2.length = N2 at *
            subst hu2
            clear hI0
            have hne : some p.d ≠ (Value.slice Al s.loose.length cl).ownBlock := fun e => by have := hr.2 p.d e.symm; omega
            go_enter Try.func39, Try.ntmps39
            go_wp2_with fail
            refine (store_of 6 p.a p.bF p.bL tag v s.ps bs g _ H.sf.sh.st (by omega)).mono ?_
            rintro e w1 ⟨v', rfl, hown, hB⟩
            rw [HL.out] at hown
            obtain ⟨A, c, rfl⟩ := own_val hown
            have H1 := H.below hB
            go_wp2_with fail
            refine (guard_loose tag p hs most s g _ ⟨v, bs, H1⟩).mono ?_
            rintro e w2 ⟨rfl, rfl⟩
            rw [HLO.out]
            have hrow := Row.of_new hown hF
            obtain ⟨g', off, rfl, q0, hlg⟩ := hrow.rd.at_ (j := 0) (u := .int .i64 f) rfl
            rw [Nat.add_zero] at q0
            have hD1 := hD.below hB hD.lt
            have d2 := hD1.cellv 2 rfl
            have hltd := hD1.lt
            have s1 : StoreX 6 tag w1.drew p.a p.bF p.bL v s.ps bs := H1.sf.sh.st.heap rfl
            have hb1 : Below w1.heap.size w1 (w1.alloc (.cells #[.int .i64 0, .int .i64 0, .int .i64 0] 37)) := (Below.refl _ w1).alloc (Nat.le_refl _) _
            have s2 : StoreX 6 tag (w1.alloc (.cells #[.int .i64 0, .int .i64 0, .int .i64 0] 37)).drew p.a p.bF p.bL v s.ps bs := (H1.below hb1).sf.sh.st.heap rfl
            have zb : ∀ w2, Below (w1.alloc (.cells #[.int .i64 0, .int .i64 0, .int .i64 0] 37)).drew.heap.size (w1.alloc (.cells #[.int .i64 0, .int .i64 0, .int .i64 0] 37)).drew w2 → Blk w2 w1.heap.size 37 #[.int .i64 0, .int .i64 0, .int .i64 0] := fun w2 hb2 => (held_set hb2).1
            have ZB := Lib.hid zb
            clear hb1 hown zb
            go_upto_region 4 with fail
            go_cut [6] (fun s6 wx => ∃ b : Nat, s6 = .pointer (some ⟨b, 0, none⟩) ∧ Blk wx b 37 #[.int .i64 kg, .int .i64 1, .int .i64 kr] ∧ Below w1.heap.size w1 wx)
            case first =>
              go_region_with (go_at_call 16; refine (store_key 6 p.a p.bF p.bL tag v s.ps bs f _ (by first | with_reducible exact s1 | with_reducible exact s2) (by omega)).mono ?_; rintro e w2 ⟨rfl, hb2⟩; rw [HK.out]; simp only [Key.cs]; (first | (have hZ2 : Blk w2 w1.heap.size 37 #[.int .i64 0, .int .i64 0, .int .i64 0] := (by with_reducible exact ZB.out w2 hb2); have z0 := hZ2.cellv 0 rfl; have z1 := hZ2.cellv 1 rfl; have z2 := hZ2.cellv 2 rfl; have g0 := hZ2.frozen 0; have g1 := hZ2.frozen 1; have g2 := hZ2.frozen 2) | skip))
              all_goals (go_wp2_with fail; go_meet)
              all_goals first
                | (have hh := held_new (W0 := w1) (t := 37) (C := #[.int .i64 kg, .int .i64 1, .int .i64 kr]) (by with_reducible exact hb2); exact ⟨_, rfl, hh⟩)
                | (have hh := held_set3 (W0 := w1) (t := 37) (H := w1.heap.size) (.int .i64 kg) (.int .i64 1) (.int .i64 kr) rfl (by with_reducible exact hb2); exact ⟨_, rfl, hh⟩)
            case rest =>
              obtain ⟨b, rfl, hX, hbc⟩ := hcut
              have hbw := hB.trans (hbc.mono hB.size)
              have Hc := H1.below hbc
              have hDc := hD1.below hbc hD1.lt
              have d2 := hDc.cellv 2 rfl
              have q0 := (hbc.cell (p := ⟨g', off, none⟩) hlg).trans q0
              clear ZB s1 s2 H1 hD1 hrow hB
              have hltd := hDc.lt
              have hlgc := Nat.lt_of_lt_of_le hlg hbc.size
              go_wp2_with fail
              go_still_tail 7, (by kernel_rfl)
              change wpList _ _ _ _ _ wc.drew
              have Hd : GX tag wc.drew p hs most v bs s := Hc.mod ((Mod.refl [] tag wc).drew) (by simp)
              have hbd : Below w.heap.size w wc.drew := hbw.drew
              have hDd := hDc.drew
              have hXd := hX.drew
              generalize wc.drew = w3 at Hd hbd hDd hXd ⊢
              clear Hc hbw hDc hX d2 q0 hbc hltd hlgc
              go_wp2_with fail
              refine (store_parents p.a p.bF p.bL tag v s.ps bs f _ Hd.sf.sh.st (by omega)).mono ?_
              rintro e w4 ⟨vu, rfl, hownu, hb4⟩
              rw [HUP.out] at hownu
              obtain ⟨Au, cu, rfl⟩ := own_val hownu
              have hXe := hXd.below hb4 hXd.lt
              have hDe := hDd.below hb4 hDd.lt
              have He := Hd.below hb4
              have hbe := hbd.trans (hb4.mono hbd.size)
              have d2 := hDe.cellv 2 rfl
              have x1 := hXe.cellv 1 rfl
              have hru := Row.of_new hownu (hF.mono hbd.size)
              obtain ⟨gu, ou, rfl, r0, hlu⟩ := hru.rd.at_ (j := 0) (u := .int .i64 ug) rfl
              rw [Nat.add_zero] at r0
              clear hru hownu
              go_wp2_with fail
              go_still_tail 17, (by kernel_rfl)
              change wpList _ _ _ _ _ w4.drew
              have Hf : GX tag w4.drew p hs most v bs s := He.mod ((Mod.refl [] tag w4).drew) (by simp)
              have hbe5 : Below w.heap.size w w4.drew := hbe.drew
              have hDf := hDe.drew
              generalize w4.drew = w5 at Hf hbe5 hDf ⊢
              clear He hbe hDe hXe d2 x1 Hd hbd hDd hXd hb4
              go_wp2_with fail
              refine (store_parents p.a p.bF p.bL tag v s.ps bs ug _ Hf.sf.sh.st (by omega)).mono ?_
              rintro e w6 ⟨vv, rfl, hownv, hb6⟩
              rw [HUP2.out] at hownv
              obtain ⟨Av, cv, rfl⟩ := own_val hownv
              clear hownv
              have hb7 := hbe5.trans (hb6.mono hbe5.size)
              have hD7 := hD.below hb7 hD.lt
              have d4 := hD7.cellv 4 rfl
              have hr7 := hr.mod (T := []) (Mod.of_below hb7) (by simp)
              have hM7 : Mod [14, 15] tag tag w w6 := Mod.of_below hb7
              have H7 := H.below hb7
              clear hb6 Hf hbe5 hDf r0
              go_wp2_with (at_builtin; refine wpList_append_own_at _ rfl _ _ 45 rfl 0 3 i0 _ 1 8 Try.underlying45 hi hz0 hz1 hz2 rfl (by decide) _ _ _ rfl (hr7.1.alloc _) ⟨w6.heap.size, 0, none⟩ 1 1 [.int .i64 g] rfl rfl (cell_one_new _ _ _) (by simp [Value.oneCell']) (by unfold maxLen; omega) (by omega) (Nat.zero_le _) ?_; intro v2 w8 hown8 hgrow8 _ hat8; obtain ⟨tag8, hr8, hM8, hF8⟩ := (hr7.mod (T := []) ((Mod.refl _ _ _).alloc _) (by simp)).grew (T := [15]) hown8 hat8 hgrow8 rfl; obtain ⟨A8, c8, rfl⟩ := hr8.val; have hD8 := (hD7.alloc _).grown hgrow8 hne; have d4 := hD8.cellv 4 rfl; have f4 := hD8.frozen 4)
              go_ret
              have hI1 : s.loosenIs g = true := by rw [HI0.out]; rfl
              have hE : s.loosen g = { s with loose := s.loose ++ [g] } := by unfold St.loosen; rw [hI1]; rfl
              have hMt : Mod [14, 15] tag tag8 w w8 := (hM7.alloc _).trans (hM8.mono (by simp))
              have ht8 : tag8 p.d = 14 := hMt.tagOf hD hdt
              have hMs : Mod [14, 15] tag tag8 w (w8.setCell ⟨p.d, 4, none⟩ (.slice A8 (s.loose.length + 1) c8)) := hMt.setCell (by simp [ht8]) _
              refine ⟨rfl, tag8, ?_, hMs, (hF8 ((hF.mono hb7.size).mono (by simp))).mono (by simp [World.setCell])⟩
              rw [hE]
              refine ⟨v, bs, H.sf.mod hMs (by simp), H.mp.mod hMs (by simp) (by simp) (by simp), hMs.tagOf H.gb H.gt, H.gb.mod hMs (by rw [H.gt]; simp), H.tl.mod hMs (by simp) (by simp), ⟨_, ht8, hD8.set_ 4 _, ?_⟩, H.pl, by simp; omega, H.hl, H.m1⟩
              have := hr8.mod (T := [14]) ((Mod.refl [14] tag8 w8).setCell (a := ⟨p.d, 4, none⟩) (by simp [ht8]) (.slice A8 (s.loose.length + 1) c8)) (by simp)
              simpa using this
          · generalize hN2 : up2.length = N2 at *
            have hne2 : ((N2 : Int) == 1) = false := by simp; omega
            have hnb2 : ((N2 : Int) != 1) = true := by simp; omega
            have HNE : (N2 == 1) = false := by simp [hu2]
            rw [HNE]
            clear hI0 hu2
            go_enter Try.func39, Try.ntmps39
            go_wp2_with fail
            refine (store_of 6 p.a p.bF p.bL tag v s.ps bs g _ H.sf.sh.st (by omega)).mono ?_
            rintro e w1 ⟨v', rfl, hown, hB⟩
            rw [HL.out] at hown
            obtain ⟨A, c, rfl⟩ := own_val hown
            have H1 := H.below hB
            go_wp2_with fail
            refine (guard_loose tag p hs most s g _ ⟨v, bs, H1⟩).mono ?_
            rintro e w2 ⟨rfl, rfl⟩
            rw [HLO.out]
            have hrow := Row.of_new hown hF
            obtain ⟨g', off, rfl, q0, hlg⟩ := hrow.rd.at_ (j := 0) (u := .int .i64 f) rfl
            rw [Nat.add_zero] at q0
            have hD1 := hD.below hB hD.lt
            have d2 := hD1.cellv 2 rfl
            have hltd := hD1.lt
            have s1 : StoreX 6 tag w1.drew p.a p.bF p.bL v s.ps bs := H1.sf.sh.st.heap rfl
            have hb1 : Below w1.heap.size w1 (w1.alloc (.cells #[.int .i64 0, .int .i64 0, .int .i64 0] 37)) := (Below.refl _ w1).alloc (Nat.le_refl _) _
            have s2 : StoreX 6 tag (w1.alloc (.cells #[.int .i64 0, .int .i64 0, .int .i64 0] 37)).drew p.a p.bF p.bL v s.ps bs := (H1.below hb1).sf.sh.st.heap rfl
            have zb : ∀ w2, Below (w1.alloc (.cells #[.int .i64 0, .int .i64 0, .int .i64 0] 37)).drew.heap.size (w1.alloc (.cells #[.int .i64 0, .int .i64 0, .int .i64 0] 37)).drew w2 → Blk w2 w1.heap.size 37 #[.int .i64 0, .int .i64 0, .int .i64 0] := fun w2 hb2 => (held_set hb2).1
            have ZB := Lib.hid zb
            clear hb1 hown zb
            go_upto_region 4 with fail
            go_cut [6] (fun s6 wx => ∃ b : Nat, s6 = .pointer (some ⟨b, 0, none⟩) ∧ Blk wx b 37 #[.int .i64 kg, .int .i64 1, .int .i64 kr] ∧ Below w1.heap.size w1 wx)
            case first =>
              go_region_with (go_at_call 16; refine (store_key 6 p.a p.bF p.bL tag v s.ps bs f _ (by first | with_reducible exact s1 | with_reducible exact s2) (by omega)).mono ?_; rintro e w2 ⟨rfl, hb2⟩; rw [HK.out]; simp only [Key.cs]; (first | (have hZ2 : Blk w2 w1.heap.size 37 #[.int .i64 0, .int .i64 0, .int .i64 0] := (by with_reducible exact ZB.out w2 hb2); have z0 := hZ2.cellv 0 rfl; have z1 := hZ2.cellv 1 rfl; have z2 := hZ2.cellv 2 rfl; have g0 := hZ2.frozen 0; have g1 := hZ2.frozen 1; have g2 := hZ2.frozen 2) | skip))
              all_goals (go_wp2_with fail; go_meet)
              all_goals first
                | (have hh := held_new (W0 := w1) (t := 37) (C := #[.int .i64 kg, .int .i64 1, .int .i64 kr]) (by with_reducible exact hb2); exact ⟨_, rfl, hh⟩)
                | (have hh := held_set3 (W0 := w1) (t := 37) (H := w1.heap.size) (.int .i64 kg) (.int .i64 1) (.int .i64 kr) rfl (by with_reducible exact hb2); exact ⟨_, rfl, hh⟩)
            case rest =>
              obtain ⟨b, rfl, hX, hbc⟩ := hcut
              have hbw := hB.trans (hbc.mono hB.size)
              have Hc := H1.below hbc
              have hDc := hD1.below hbc hD1.lt
              have d2 := hDc.cellv 2 rfl
              have q0 := (hbc.cell (p := ⟨g', off, none⟩) hlg).trans q0
              clear ZB s1 s2 H1 hD1 hrow hB
              have hltd := hDc.lt
              have hlgc := Nat.lt_of_lt_of_le hlg hbc.size
              go_wp2_with fail
              go_still_tail 7, (by kernel_rfl)
              change wpList _ _ _ _ _ wc.drew
              have Hd : GX tag wc.drew p hs most v bs s := Hc.mod ((Mod.refl [] tag wc).drew) (by simp)
              have hbd : Below w.heap.size w wc.drew := hbw.drew
              have hDd := hDc.drew
              have hXd := hX.drew
              generalize wc.drew = w3 at Hd hbd hDd hXd ⊢
              clear Hc hbw hDc hX d2 q0 hbc hltd hlgc
              go_wp2_with fail
              refine (store_parents p.a p.bF p.bL tag v s.ps bs f _ Hd.sf.sh.st (by omega)).mono ?_
              rintro e w4 ⟨vu, rfl, hownu, hb4⟩
              rw [HUP.out] at hownu
              obtain ⟨Au, cu, rfl⟩ := own_val hownu
              have hXe := hXd.below hb4 hXd.lt
              have hDe := hDd.below hb4 hDd.lt
              have He := Hd.below hb4
              have hbe := hbd.trans (hb4.mono hbd.size)
              have d2 := hDe.cellv 2 rfl
              have x1 := hXe.cellv 1 rfl
              have hru := Row.of_new hownu (hF.mono hbd.size)
              obtain ⟨gu, ou, rfl, r0, hlu⟩ := hru.rd.at_ (j := 0) (u := .int .i64 ug) rfl
              rw [Nat.add_zero] at r0
              clear hru hownu
              go_wp2_with fail
              go_still_tail 17, (by kernel_rfl)
              change wpList _ _ _ _ _ w4.drew
              have Hf : GX tag w4.drew p hs most v bs s := He.mod ((Mod.refl [] tag w4).drew) (by simp)
              have hbe5 : Below w.heap.size w w4.drew := hbe.drew
              have hDf := hDe.drew
              generalize w4.drew = w5 at Hf hbe5 hDf ⊢
              clear He hbe hDe hXe d2 x1 Hd hbd hDd hXd hb4
              go_wp2_with fail
              refine (store_parents p.a p.bF p.bL tag v s.ps bs ug _ Hf.sf.sh.st (by omega)).mono ?_
              rintro e w6 ⟨vv, rfl, hownv, hb6⟩
              rw [HUP2.out] at hownv
              obtain ⟨Av, cv, rfl⟩ := own_val hownv
              clear hownv
              have hb7 := hbe5.trans (hb6.mono hbe5.size)
              go_wp2_with fail
              go_ret
              exact ⟨rfl, hno.out _ (by rw [HI0.out, HNE]) hb7⟩
        · have hI0 : s.loosenIs g = false := by rw [hI.out]; simp [HLO.out, HK.out, HUP.out, hu1]
          rw [hI0]
          have HI0 := Lib.hid hI0
          generalize hN : up.length = N at *
          have hne : ((N : Int) == 1) = false := by simp; omega
          have hnb : ((N : Int) != 1) = true := by simp; omega
          have HN := Lib.hid hN
          clear hI0 hu1 hN
          go_enter Try.func39, Try.ntmps39
          go_wp2_with fail
          refine (store_of 6 p.a p.bF p.bL tag v s.ps bs g _ H.sf.sh.st (by omega)).mono ?_
          rintro e w1 ⟨v', rfl, hown, hB⟩
          rw [HL.out] at hown
          obtain ⟨A, c, rfl⟩ := own_val hown
          have H1 := H.below hB
          go_wp2_with fail
          refine (guard_loose tag p hs most s g _ ⟨v, bs, H1⟩).mono ?_
          rintro e w2 ⟨rfl, rfl⟩
          rw [HLO.out]
          have hrow := Row.of_new hown hF
          obtain ⟨g', off, rfl, q0, hlg⟩ := hrow.rd.at_ (j := 0) (u := .int .i64 f) rfl
          rw [Nat.add_zero] at q0
          have hD1 := hD.below hB hD.lt
          have d2 := hD1.cellv 2 rfl
          have hltd := hD1.lt
          have s1 : StoreX 6 tag w1.drew p.a p.bF p.bL v s.ps bs := H1.sf.sh.st.heap rfl
          have hb1 : Below w1.heap.size w1 (w1.alloc (.cells #[.int .i64 0, .int .i64 0, .int .i64 0] 37)) := (Below.refl _ w1).alloc (Nat.le_refl _) _
          have s2 : StoreX 6 tag (w1.alloc (.cells #[.int .i64 0, .int .i64 0, .int .i64 0] 37)).drew p.a p.bF p.bL v s.ps bs := (H1.below hb1).sf.sh.st.heap rfl
          have zb : ∀ w2, Below (w1.alloc (.cells #[.int .i64 0, .int .i64 0, .int .i64 0] 37)).drew.heap.size (w1.alloc (.cells #[.int .i64 0, .int .i64 0, .int .i64 0] 37)).drew w2 → Blk w2 w1.heap.size 37 #[.int .i64 0, .int .i64 0, .int .i64 0] := fun w2 hb2 => (held_set hb2).1
          have ZB := Lib.hid zb
          clear hb1 hown zb
          go_upto_region 4 with fail
          go_cut [6] (fun s6 wx => ∃ b : Nat, s6 = .pointer (some ⟨b, 0, none⟩) ∧ Blk wx b 37 #[.int .i64 kg, .int .i64 1, .int .i64 kr] ∧ Below w1.heap.size w1 wx)
          case first =>
            go_region_with (go_at_call 16; refine (store_key 6 p.a p.bF p.bL tag v s.ps bs f _ (by first | with_reducible exact s1 | with_reducible exact s2) (by omega)).mono ?_; rintro e w2 ⟨rfl, hb2⟩; rw [HK.out]; simp only [Key.cs]; (first | (have hZ2 : Blk w2 w1.heap.size 37 #[.int .i64 0, .int .i64 0, .int .i64 0] := (by with_reducible exact ZB.out w2 hb2); have z0 := hZ2.cellv 0 rfl; have z1 := hZ2.cellv 1 rfl; have z2 := hZ2.cellv 2 rfl; have g0 := hZ2.frozen 0; have g1 := hZ2.frozen 1; have g2 := hZ2.frozen 2) | skip))
            all_goals (go_wp2_with fail; go_meet)
            all_goals first
              | (have hh := held_new (W0 := w1) (t := 37) (C := #[.int .i64 kg, .int .i64 1, .int .i64 kr]) (by with_reducible exact hb2); exact ⟨_, rfl, hh⟩)
              | (have hh := held_set3 (W0 := w1) (t := 37) (H := w1.heap.size) (.int .i64 kg) (.int .i64 1) (.int .i64 kr) rfl (by with_reducible exact hb2); exact ⟨_, rfl, hh⟩)
          case rest =>
            obtain ⟨b, rfl, hX, hbc⟩ := hcut
            have hbw := hB.trans (hbc.mono hB.size)
            have Hc := H1.below hbc
            have hDc := hD1.below hbc hD1.lt
            have d2 := hDc.cellv 2 rfl
            have q0 := (hbc.cell (p := ⟨g', off, none⟩) hlg).trans q0
            clear ZB s1 s2 H1 hD1 hrow hB
            have hltd := hDc.lt
            have hlgc := Nat.lt_of_lt_of_le hlg hbc.size
            go_wp2_with fail
            go_still_tail 7, (by kernel_rfl)
            change wpList _ _ _ _ _ wc.drew
            have Hd : GX tag wc.drew p hs most v bs s := Hc.mod ((Mod.refl [] tag wc).drew) (by simp)
            have hbd : Below w.heap.size w wc.drew := hbw.drew
            have hDd := hDc.drew
            have hXd := hX.drew
            generalize wc.drew = w3 at Hd hbd hDd hXd ⊢
            clear Hc hbw hDc hX d2 q0 hbc hltd hlgc
            go_wp2_with fail
            refine (store_parents p.a p.bF p.bL tag v s.ps bs f _ Hd.sf.sh.st (by omega)).mono ?_
            rintro e w4 ⟨vu, rfl, hownu, hb4⟩
            rw [HUP.out] at hownu
            obtain ⟨Au, cu, rfl⟩ := own_val hownu
            have hXe := hXd.below hb4 hXd.lt
            have hDe := hDd.below hb4 hDd.lt
            have He := Hd.below hb4
            have hbe := hbd.trans (hb4.mono hbd.size)
            have d2 := hDe.cellv 2 rfl
            have x1 := hXe.cellv 1 rfl
            rw [HN.out]
            go_wp2_with fail
            go_quiet (fail)
            generalize hwq : World.drewN w4 _ = wq
            go_wp2_with fail
            go_ret
            exact ⟨rfl, hno.out _ HI0.out (by rw [← hwq]; exact below_drewN' hbe _)⟩
      · have hI0 : s.loosenIs g = false := by rw [hI.out]; simp [HLO.out, HK.out, hk1]
        rw [hI0]
        have HI0 := Lib.hid hI0
        have hne : (kl == 1) = false := by simp [hk1]
        have hnb : (kl != 1) = true := by simp [hk1]
        clear hI0 hk1
        go_enter Try.func39, Try.ntmps39
        go_wp2_with fail
        refine (store_of 6 p.a p.bF p.bL tag v s.ps bs g _ H.sf.sh.st (by omega)).mono ?_
        rintro e w1 ⟨v', rfl, hown, hB⟩
        rw [HL.out] at hown
        obtain ⟨A, c, rfl⟩ := own_val hown
        have H1 := H.below hB
        go_wp2_with fail
        refine (guard_loose tag p hs most s g _ ⟨v, bs, H1⟩).mono ?_
        rintro e w2 ⟨rfl, rfl⟩
        rw [HLO.out]
        have hrow := Row.of_new hown hF
        obtain ⟨g', off, rfl, q0, hlg⟩ := hrow.rd.at_ (j := 0) (u := .int .i64 f) rfl
        rw [Nat.add_zero] at q0
        have hD1 := hD.below hB hD.lt
        have d2 := hD1.cellv 2 rfl
        have hltd := hD1.lt
        have s1 : StoreX 6 tag w1.drew p.a p.bF p.bL v s.ps bs := H1.sf.sh.st.heap rfl
        have hb1 : Below w1.heap.size w1 (w1.alloc (.cells #[.int .i64 0, .int .i64 0, .int .i64 0] 37)) := (Below.refl _ w1).alloc (Nat.le_refl _) _
        have s2 : StoreX 6 tag (w1.alloc (.cells #[.int .i64 0, .int .i64 0, .int .i64 0] 37)).drew p.a p.bF p.bL v s.ps bs := (H1.below hb1).sf.sh.st.heap rfl
        have zb : ∀ w2, Below (w1.alloc (.cells #[.int .i64 0, .int .i64 0, .int .i64 0] 37)).drew.heap.size (w1.alloc (.cells #[.int .i64 0, .int .i64 0, .int .i64 0] 37)).drew w2 → Blk w2 w1.heap.size 37 #[.int .i64 0, .int .i64 0, .int .i64 0] := fun w2 hb2 => (held_set hb2).1
        have ZB := Lib.hid zb
        clear hb1 hown zb
        go_upto_region 4 with fail
        go_cut [6] (fun s6 wx => ∃ b : Nat, s6 = .pointer (some ⟨b, 0, none⟩) ∧ Blk wx b 37 #[.int .i64 kg, .int .i64 kl, .int .i64 kr] ∧ Below w1.heap.size w1 wx)
        case first =>
          go_region_with (go_at_call 16; refine (store_key 6 p.a p.bF p.bL tag v s.ps bs f _ (by first | with_reducible exact s1 | with_reducible exact s2) (by omega)).mono ?_; rintro e w2 ⟨rfl, hb2⟩; rw [HK.out]; simp only [Key.cs]; (first | (have hZ2 : Blk w2 w1.heap.size 37 #[.int .i64 0, .int .i64 0, .int .i64 0] := (by with_reducible exact ZB.out w2 hb2); have z0 := hZ2.cellv 0 rfl; have z1 := hZ2.cellv 1 rfl; have z2 := hZ2.cellv 2 rfl; have g0 := hZ2.frozen 0; have g1 := hZ2.frozen 1; have g2 := hZ2.frozen 2) | skip))
          all_goals (go_wp2_with fail; go_meet)
          all_goals first
            | (have hh := held_new (W0 := w1) (t := 37) (C := #[.int .i64 kg, .int .i64 kl, .int .i64 kr]) (by with_reducible exact hb2); exact ⟨_, rfl, hh⟩)
            | (have hh := held_set3 (W0 := w1) (t := 37) (H := w1.heap.size) (.int .i64 kg) (.int .i64 kl) (.int .i64 kr) rfl (by with_reducible exact hb2); exact ⟨_, rfl, hh⟩)
        case rest =>
          obtain ⟨b, rfl, hX, hbc⟩ := hcut
          have hbw := hB.trans (hbc.mono hB.size)
          have Hc := H1.below hbc
          have hDc := hD1.below hbc hD1.lt
          have d2 := hDc.cellv 2 rfl
          have q0 := (hbc.cell (p := ⟨g', off, none⟩) hlg).trans q0
          clear ZB s1 s2 H1 hD1 hrow hB
          have hltd := hDc.lt
          have hlgc := Nat.lt_of_lt_of_le hlg hbc.size
          go_wp2_with fail
          go_still_tail 7, (by kernel_rfl)
          change wpList _ _ _ _ _ wc.drew
          have Hd : GX tag wc.drew p hs most v bs s := Hc.mod ((Mod.refl [] tag wc).drew) (by simp)
          have hbd : Below w.heap.size w wc.drew := hbw.drew
          have hDd := hDc.drew
          have hXd := hX.drew
          generalize wc.drew = w3 at Hd hbd hDd hXd ⊢
          clear Hc hbw hDc hX d2 q0 hbc hltd hlgc
          go_wp2_with fail
          refine (store_parents p.a p.bF p.bL tag v s.ps bs f _ Hd.sf.sh.st (by omega)).mono ?_
          rintro e w4 ⟨vu, rfl, hownu, hb4⟩
          rw [HUP.out] at hownu
          obtain ⟨Au, cu, rfl⟩ := own_val hownu
          have hXe := hXd.below hb4 hXd.lt
          have hDe := hDd.below hb4 hDd.lt
          have He := Hd.below hb4
          have hbe := hbd.trans (hb4.mono hbd.size)
          have d2 := hDe.cellv 2 rfl
          have x1 := hXe.cellv 1 rfl
          go_wp2_with fail
          go_quiet (fail)
          generalize hwq : World.drewN w4 _ = wq
          go_wp2_with fail
          go_ret
          exact ⟨rfl, hno.out _ HI0.out (by rw [← hwq]; exact below_drewN' hbe _)⟩
    · have hI0 : s.loosenIs g = false := by rw [hI.out]; simp [h1]
      rw [hI0]
      have HI0 := Lib.hid hI0
      generalize hN : L.length = N at *
      have hne : ((N : Int) == 1) = false := by simp; omega
      have hnb : ((N : Int) != 1) = true := by simp; omega
      clear hI0 hlo h1
      go_enter Try.func39, Try.ntmps39
      go_wp2_with fail
      refine (store_of 6 p.a p.bF p.bL tag v s.ps bs g _ H.sf.sh.st (by omega)).mono ?_
      rintro e w1 ⟨v', rfl, hown, hB⟩
      rw [HL.out] at hown
      obtain ⟨A, c, rfl⟩ := own_val hown
      have H1 := H.below hB
      go_wp2_with fail
      refine (guard_loose tag p hs most s g _ ⟨v, bs, H1⟩).mono ?_
      rintro e w2 ⟨rfl, rfl⟩
      rw [HLO.out]
      go_wp2_with fail
      go_ret
      exact ⟨rfl, hno.out _ HI0.out hB⟩
  · have hI0 : s.loosenIs g = false := by rw [hI.out]; simp [hlo]
    rw [hI0]
    have HLO := Lib.hid hlo
    have HI0 := Lib.hid hI0
    clear hI0 hlo
    go_enter Try.func39, Try.ntmps39
    go_wp2_with fail
    refine (store_of 6 p.a p.bF p.bL tag v s.ps bs g _ H.sf.sh.st (by omega)).mono ?_
    rintro e w1 ⟨v', rfl, hown, hB⟩
    rw [HL.out] at hown
    obtain ⟨A, c, rfl⟩ := own_val hown
    have H1 := H.below hB
    go_wp2_with fail
    refine (guard_loose tag p hs most s g _ ⟨v, bs, H1⟩).mono ?_
    rintro e w2 ⟨rfl, rfl⟩
    rw [HLO.out]
    go_wp2_with fail
    go_ret
    exact ⟨rfl, hno.out _ HI0.out hB⟩
end Go.Proofs.Ytbmbgicdnegkfaa
