/- The walks of the guard: Look, All, Drop, Make, Reach. -/
import Derived.Test.YtbmbgicdnegkfaaM5
import Derived.Laws.EntriesVeiled
set_option linter.unusedVariables false
set_option linter.unusedSimpArgs false
/- The guard's walk: Look. -/
namespace Go.Proofs.Ytbmbgicdnegkfaa
open Go Go.RowKit Sil
attribute [local go_sem ↓] Go.wp_at_zero Go.wp_at_succ

set_option maxRecDepth 100000 in
set_option maxHeartbeats 2000000 in
theorem guard_look1 (tag : Nat → Nat) (p : Pt) (hs : List Int) (most : Int) (s : St) (g : Int) (w : World) (H : GR tag w p hs most s) (hF : Fresh tag w) (hlo : s.isLoose g = true) :
    Calls Try.prog 24 #[.pointer (some ⟨p.d, 0, none⟩), .int .i64 g] w fun e w' => e = .returned (.bool true) ∧ GR tag w' p hs most (s.look p.n hs g) ∧ Mod [2, 8, 12, 14, 15] tag tag w w' := by
  have HE : Hid (s.look p.n hs g = { ((s.tight g).forbid p.n hs g).lookP p.n hs g (sOf ((s.tight g).forbid p.n hs g).ps g) with hits := [] }) := Lib.hid (by unfold St.look; rw [if_pos hlo])
  have HLO := Lib.hid hlo
  clear hlo
  go_enter Try.func24, Try.ntmps24
  go_wp2_with fail
  refine (guard_loose tag p hs most s g _ H).mono ?_
  rintro e w2 ⟨rfl, rfl⟩
  rw [HLO.out]
  go_wp2_with fail
  refine (guard_tight tag p hs most s g _ H hF).mono ?_
  rintro e w1 ⟨rfl, H1, hM1⟩
  have hF1 := hF.mono hM1.size
  go_wp2_with fail
  refine (guard_forbid tag p hs most _ g _ H1 hF1).mono ?_
  rintro e w2 ⟨rfl, H2, hM2⟩
  have hM2' : Mod [2, 8, 12, 14, 15] tag tag w w2 := (hM1.mono (by simp)).trans (hM2.mono (by simp))
  have hF2 := hF1.mono hM2.size
  generalize hs2 : (s.tight g).forbid p.n hs g = s2 at *
  clear hs2 hM1 hM2 H1 hF1 H
  have H2' := H2
  obtain ⟨v, bs, H2⟩ := H2
  obtain ⟨vl, hD⟩ := H2.guard
  have hdt : tag p.d = 14 := by obtain ⟨_, h, _⟩ := H2.gd; exact h
  have c2 := hD.cellv 2 rfl
  have hpl := H2.pl
  have hof : (sOf s2.ps g).length ≤ 1000 := by unfold sOf; rw [List.length_map]; exact Nat.le_trans (List.length_filter_le _ _) H2.pl
  generalize hL : sOf s2.ps g = L at *
  have HL := Lib.hid hL
  clear hL
  go_wp2_with fail
  refine (store_of 6 p.a p.bF p.bL tag v s2.ps bs g _ H2.sf.sh.st (by omega)).mono ?_
  rintro e w3 ⟨v', rfl, hown, hB⟩
  rw [HL.out] at hown
  have hrow := Row.of_new hown hF2
  obtain ⟨A, c, rfl⟩ := own_val hown
  clear hown
  go_wp2_with fail
  go_loopg [29] L.length (fun gk k wr => ∃ j : Nat, j ≤ L.length ∧ gk = L.length - j ∧ k = .int .i64 j ∧ GR tag wr p hs most (s2.lookP p.n hs g (L.take j)) ∧ Row 0 tag wr 3 1 (.slice A L.length c) L.length (L.map (Value.int .i64)) ∧ Mod [2, 8, 12, 14, 15] tag tag w wr)
  case atStart => exact ⟨0, Nat.zero_le _, rfl, rfl, ⟨v, bs, H2.below hB⟩, hrow, hM2'.trans (Mod.of_below hB)⟩
  case round =>
    obtain ⟨j, hj, rfl, rfl, Hj, hrj, hMj⟩ := hrel
    by_cases hlt : j < L.length
    · obtain ⟨pg, hx⟩ : ∃ x, L[j]? = some x := ⟨L[j], by simp [hlt]⟩
      have hstep : Hid (s2.lookP p.n hs g (L.take (j + 1)) = (s2.lookP p.n hs g (L.take j)).lookI p.n hs g pg 8) := Lib.hid (by
        have := (List.getElem?_eq_some_iff.1 hx).2
        rw [List.take_succ_eq_append_getElem hlt, this, lookP_snoc])
      obtain ⟨g', off, rfl, q0, _⟩ := hrj.rd.at_ (j := j) (u := .int .i64 pg) (by simp [hx])
      clear hx
      generalize hsj : s2.lookP p.n hs g (L.take j) = sj at *
      have HSJ := Lib.hid hsj
      clear hsj
      obtain ⟨wo, rfl⟩ : ∃ wo : World, wo = wr := ⟨_, rfl⟩
      go_wp2_with fail
      go_loopg [33] 8 (fun gm k wi => ∃ m : Nat, m ≤ 8 ∧ gm = 8 - m ∧ k = .int .i64 m ∧ GR tag wi p hs most (sj.lookI p.n hs g pg m) ∧ Mod [2, 8, 12] tag tag wo wi)
      case atStart => exact ⟨0, by omega, rfl, rfl, Hj, Mod.refl _ _ _⟩
      case round =>
        obtain ⟨m, hm, rfl, rfl, HI, hMI⟩ := hrel
        obtain ⟨wi, rfl⟩ : ∃ wi : World, wi = wr := ⟨_, rfl⟩
        by_cases hlt2 : m < 8
        · have hstep2 := Lib.hid (lookI_succ p.n hs g pg sj m)
          have HI0 := HI
          obtain ⟨vI, bsI, HI⟩ := HI
          generalize hsI : sj.lookI p.n hs g pg m = sI at *
          clear hsI
          obtain ⟨vlI, hDI⟩ := HI.guard
          have d2 := hDI.cellv 2 rfl
          have hplI := HI.pl
          obtain ⟨sk, hsk⟩ : ∃ sk, sSlot sI.ps pg m = sk := ⟨_, rfl⟩
          obtain ⟨vv, hvv⟩ : ∃ vv, guget p.n hs sI.ws g m = vv := ⟨_, rfl⟩
          have HLK : Hid (sI.look1 p.n hs g pg m = if sk.kind == 2 && !agr sk (pteGet vv) then { sI with ps := sClear sI.ps pg m, ws := wClear p.n sI.ps sI.ws pg m } else sI) := Lib.hid (by unfold St.look1; rw [hsk, hvv])
          have HSK := Lib.hid hsk
          have HV := Lib.hid hvv
          clear hsk hvv
          obtain ⟨xk, xt, ⟨xw, xu, xx⟩⟩ := sk
          by_cases hk : xk = 2
          · subst hk
            cases hag : agr ⟨2, xt, ⟨xw, xu, xx⟩⟩ (pteGet vv)
            · have HAG := Lib.hid hag
              clear hag
              go_wp2_with fail
              refine (store_Slot 6 p.a p.bF p.bL tag vI sI.ps bsI pg m _ HI.sf.sh.st (by omega)).mono ?_
              rintro e w2 ⟨rfl, hb2⟩
              rw [HSK.out]
              simp only [Slot.cs]
              have hX := Blk.new w2 62 #[.int .i64 2, .int .i64 xt, .bool xw, .bool xu, .bool xx]
              have hb3 : Below wi.heap.size wi (w2.alloc (.cells #[.int .i64 2, .int .i64 xt, .bool xw, .bool xu, .bool xx] 62)) := hb2.alloc hb2.size _
              have HI3 := HI.below hb3
              obtain ⟨vl3, hdt3, hD3, hr3⟩ := HI3.gd
              have e0 := hD3.cellv 0 rfl
              go_wp2_with fail
              refine (guest_get 1 3 p.bG p.bM p.bF p.n tag hs sI.ws g m _ HI3.gb HI3.mp HI3.sf.sh.ho).mono ?_
              rintro e w4 ⟨rfl, rfl⟩
              rw [HV.out]
              have hXd := hX.drew
              have x0 := hX.cellv 0 rfl
              have x1 := hX.cellv 1 rfl
              have x2 := hX.cellv 2 rfl
              have x3 := hX.cellv 3 rfl
              have x4 := hX.cellv 4 rfl
              go_wp2_with fail
              go_region_with (first | (go_at_call 62; refine (pte_get vv _).mono ?_; rintro e w5 ⟨rfl, hb5⟩; have hX5 := hXd.below hb5 hXd.lt; have y0 := hX5.cellv 0 rfl; have y1 := hX5.cellv 1 rfl; have y2 := hX5.cellv 2 rfl; have y3 := hX5.cellv 3 rfl; have y4 := hX5.cellv 4 rfl) | (go_at_call 61; refine (guard_agrees ⟨2, xt, ⟨xw, xu, xx⟩⟩ (pteGet vv) _).mono ?_; rintro e w6 ⟨rfl, hb6⟩; rw [HAG.out]))
              all_goals
                have h35 := hb3.trans ((below_drew hb5).mono hb3.size)
                have hbi := h35.trans (hb6.mono h35.size)
                have HI6 := HI.below hbi
                have d2 := (hDI.below hbi hDI.lt).cellv 2 rfl
                clear hb6 hb5 h35 hXd hX5 y0 y1 y2 y3 y4 x0 x1 x2 x3 x4 e0 hb3 hX
                go_wp2_with fail
                refine (store_clear p.a p.bF p.bL p.n tag vI sI.ps bsI sI.ws pg m _ HI6.sf.sh).mono ?_
                rintro e w7 ⟨rfl, H7, hM7⟩
                go_wp2_with fail
                go_roundg (8 - (m + 1))
                case measure => omega
                case rel =>
                  refine ⟨m + 1, by omega, rfl, by go_num, ?_, hMI.trans ((Mod.of_below hbi).trans (hM7.mono (by simp)))⟩
                  rw [hstep2.out, HLK.out]
                  simp only [HAG.out, beq_self_eq_true, Bool.not_false, Bool.and_self, if_true]
                  exact ⟨vI, bsI, ⟨H7, HI6.sf.frr.mod hM7 (by simp) (by simp) (by simp), HI6.sf.ok⟩, HI6.mp.mod hM7 (by simp) (by simp) (by simp), hM7.tagOf HI6.gb HI6.gt, HI6.gb.mod hM7 (by rw [HI6.gt]; simp), HI6.tl.mod hM7 (by simp) (by simp), HI6.gd.mod hM7 (by simp) (by simp), by simpa [sClear_len] using HI6.pl, HI6.ll, HI6.hl, HI6.m1⟩
            · have HAG := Lib.hid hag
              clear hag
              go_wp2_with fail
              refine (store_Slot 6 p.a p.bF p.bL tag vI sI.ps bsI pg m _ HI.sf.sh.st (by omega)).mono ?_
              rintro e w2 ⟨rfl, hb2⟩
              rw [HSK.out]
              simp only [Slot.cs]
              have hX := Blk.new w2 62 #[.int .i64 2, .int .i64 xt, .bool xw, .bool xu, .bool xx]
              have hb3 : Below wi.heap.size wi (w2.alloc (.cells #[.int .i64 2, .int .i64 xt, .bool xw, .bool xu, .bool xx] 62)) := hb2.alloc hb2.size _
              have HI3 := HI.below hb3
              obtain ⟨vl3, hdt3, hD3, hr3⟩ := HI3.gd
              have e0 := hD3.cellv 0 rfl
              go_wp2_with fail
              refine (guest_get 1 3 p.bG p.bM p.bF p.n tag hs sI.ws g m _ HI3.gb HI3.mp HI3.sf.sh.ho).mono ?_
              rintro e w4 ⟨rfl, rfl⟩
              rw [HV.out]
              have hXd := hX.drew
              have x0 := hX.cellv 0 rfl
              have x1 := hX.cellv 1 rfl
              have x2 := hX.cellv 2 rfl
              have x3 := hX.cellv 3 rfl
              have x4 := hX.cellv 4 rfl
              go_wp2_with fail
              go_region_with (first | (go_at_call 62; refine (pte_get vv _).mono ?_; rintro e w5 ⟨rfl, hb5⟩; have hX5 := hXd.below hb5 hXd.lt; have y0 := hX5.cellv 0 rfl; have y1 := hX5.cellv 1 rfl; have y2 := hX5.cellv 2 rfl; have y3 := hX5.cellv 3 rfl; have y4 := hX5.cellv 4 rfl) | (go_at_call 61; refine (guard_agrees ⟨2, xt, ⟨xw, xu, xx⟩⟩ (pteGet vv) _).mono ?_; rintro e w6 ⟨rfl, hb6⟩; rw [HAG.out]))
              all_goals
                have h35 := hb3.trans ((below_drew hb5).mono hb3.size)
                have hbi := h35.trans (hb6.mono h35.size)
                have HI6 := HI.below hbi
                clear hb6 hb5 h35 hXd hX5 y0 y1 y2 y3 y4 x0 x1 x2 x3 x4 e0 hb3 hX
                go_wp2_with fail
                go_roundg (8 - (m + 1))
                case measure => omega
                case rel =>
                  refine ⟨m + 1, by omega, rfl, by go_num, ?_, hMI.trans (Mod.of_below hbi)⟩
                  rw [hstep2.out, HLK.out]
                  simp only [HAG.out, Bool.not_true, Bool.and_false, Bool.false_eq_true, if_false]
                  exact ⟨vI, bsI, HI6⟩
          · have hkb : (xk == 2) = false := by simp [hk]
            have HKB := Lib.hid hkb
            go_wp2_with fail
            refine (store_Slot 6 p.a p.bF p.bL tag vI sI.ps bsI pg m _ HI.sf.sh.st (by omega)).mono ?_
            rintro e w2 ⟨rfl, hb2⟩
            rw [HSK.out]
            simp only [Slot.cs]
            have hX := Blk.new w2 62 #[.int .i64 xk, .int .i64 xt, .bool xw, .bool xu, .bool xx]
            have hb3 : Below wi.heap.size wi (w2.alloc (.cells #[.int .i64 xk, .int .i64 xt, .bool xw, .bool xu, .bool xx] 62)) := hb2.alloc hb2.size _
            have HI3 := HI.below hb3
            obtain ⟨vl3, hdt3, hD3, hr3⟩ := HI3.gd
            have e0 := hD3.cellv 0 rfl
            go_wp2_with fail
            refine (guest_get 1 3 p.bG p.bM p.bF p.n tag hs sI.ws g m _ HI3.gb HI3.mp HI3.sf.sh.ho).mono ?_
            rintro e w4 ⟨rfl, rfl⟩
            rw [HV.out]
            have hXd := hX.drew
            have x0 := hX.cellv 0 rfl
            have x1 := hX.cellv 1 rfl
            have x2 := hX.cellv 2 rfl
            have x3 := hX.cellv 3 rfl
            have x4 := hX.cellv 4 rfl
            go_wp2_with fail
            go_quiet (fail)
            generalize hwq : World.drewN _ _ = wq
            have hbi : Below wi.heap.size wi wq := by rw [← hwq]; exact ⟨hb3.os, hb3.tape, hb3.output, hb3.size, hb3.block⟩
            have HI6 := HI.below hbi
            clear hwq hXd x0 x1 x2 x3 x4 e0 hb3 hX
            go_wp2_with fail
            go_roundg (8 - (m + 1))
            case measure => omega
            case rel =>
              refine ⟨m + 1, by omega, rfl, by go_num, ?_, hMI.trans (Mod.of_below hbi)⟩
              rw [hstep2.out, HLK.out]
              simp only [HKB.out, Bool.false_and, Bool.false_eq_true, if_false]
              exact ⟨vI, bsI, HI6⟩
        · have hm8 : m = 8 := by omega
          subst hm8
          go_wp2_with fail
          go_roundg (L.length - (j + 1))
          case measure => omega
          case rel => exact ⟨j + 1, by omega, rfl, by go_num, by rw [hstep.out]; exact HI, hrj.mod hMI (by simp), hMj.trans (hMI.mono (by simp))⟩
    · have hj' : j = L.length := by omega
      subst hj'
      rw [List.take_length] at Hj
      obtain ⟨vj, bsj, Hj⟩ := Hj
      obtain ⟨vlj, hDj⟩ := Hj.guard
      have d3 := hDj.cellv 3 rfl
      go_wp2_with fail
      refine (tlb_all 12 p.bT tag most _ _ Hj.tl).mono ?_
      rintro e w5 ⟨rfl, hT5, hM5⟩
      go_wp2_with fail
      go_ret
      rw [HE.out]
      exact ⟨rfl, ⟨vj, bsj, Hj.sf.mod hM5 (by simp), Hj.mp.mod hM5 (by simp) (by simp) (by simp), hM5.tagOf Hj.gb Hj.gt, Hj.gb.mod hM5 (by rw [Hj.gt]; simp), hT5, Hj.gd.mod hM5 (by simp) (by simp), Hj.pl, Hj.ll, by simp, Hj.m1⟩, hMj.trans (hM5.mono (by simp))⟩

theorem guard_look (tag : Nat → Nat) (p : Pt) (hs : List Int) (most : Int) (s : St) (g : Int) (w : World) (H : GR tag w p hs most s) (hF : Fresh tag w) :
    Calls Try.prog 24 #[.pointer (some ⟨p.d, 0, none⟩), .int .i64 g] w fun e w' => e = .returned (.bool (s.isLoose g)) ∧ GR tag w' p hs most (s.look p.n hs g) ∧ Mod [2, 8, 12, 14, 15] tag tag w w' := by
  cases hlo : s.isLoose g
  · have e1 : s.look p.n hs g = s := by unfold St.look; rw [hlo]; rfl
    rw [e1]
    have HLO := Lib.hid hlo
    clear hlo e1
    go_enter Try.func24, Try.ntmps24
    go_wp2_with fail
    refine (guard_loose tag p hs most s g _ H).mono ?_
    rintro e w2 ⟨rfl, rfl⟩
    rw [HLO.out]
    go_wp2_with fail
    go_ret
    exact ⟨rfl, H, Mod.refl _ _ _⟩
  · exact guard_look1 tag p hs most s g w H hF hlo
end Go.Proofs.Ytbmbgicdnegkfaa

/- The guard's walk: All. -/
namespace Go.Proofs.Ytbmbgicdnegkfaa
open Go Go.RowKit Sil


set_option maxRecDepth 100000 in
theorem guard_all (tag : Nat → Nat) (p : Pt) (hs : List Int) (most : Int) (s : St) (w : World) (H : GR tag w p hs most s) (hF : Fresh tag w) :
    Calls Try.prog 50 #[.pointer (some ⟨p.d, 0, none⟩)] w fun e w' => e = .returned (.tuple #[]) ∧ GR tag w' p hs most (s.all p.n hs) ∧ Mod [2, 8, 12, 14, 15] tag tag w w' := by
  have hal : Hid (s.all p.n hs = s.looks p.n hs s.loose) := Lib.hid rfl
  have hll : s.loose.length ≤ 1000 := by obtain ⟨_, _, h⟩ := H; exact h.ll
  generalize hL : s.loose = L at *
  have HL := Lib.hid hL
  clear hL
  go_enter Try.func50, Try.ntmps50
  go_wp2_with fail
  refine (guard_list tag p hs most s _ H).mono ?_
  rintro e w1 ⟨v', rfl, hown, hB⟩
  rw [HL.out] at hown
  have hrow := Row.of_new hown hF
  obtain ⟨A, c, rfl⟩ := own_val hown
  clear hown
  have H1 : GR tag w1 p hs most s := by obtain ⟨v, bs, h⟩ := H; exact ⟨v, bs, h.below hB⟩
  go_wp2_with fail
  go_loopw [7] (fun k wr => ∃ j : Nat, j ≤ L.length ∧ k = .int .i64 j ∧ GR tag wr p hs most (s.looks p.n hs (L.take j)) ∧ Row 0 tag wr 3 1 (.slice A L.length c) L.length (L.map (Value.int .i64)) ∧ Mod [2, 8, 12, 14, 15] tag tag w wr) (fun k _ => L.length - (intOf k).toNat)
  case atStart => exact ⟨0, Nat.zero_le _, rfl, H1, hrow, Mod.of_below hB⟩
  case round =>
    obtain ⟨j, hj, rfl, Hj, hrj, hMj⟩ := hrel
    by_cases hlt : j < L.length
    · obtain ⟨x, hx⟩ : ∃ x, L[j]? = some x := ⟨L[j], by simp [hlt]⟩
      have hstep : Hid (s.looks p.n hs (L.take (j + 1)) = (s.looks p.n hs (L.take j)).look p.n hs x) := Lib.hid (by
        have := (List.getElem?_eq_some_iff.1 hx).2
        rw [List.take_succ_eq_append_getElem hlt, this, looks_snoc])
      obtain ⟨g', off, rfl, q0, _⟩ := hrj.rd.at_ (j := j) (u := .int .i64 x) (by simp [hx])
      clear hx
      go_wp2_with fail
      refine (guard_look tag p hs most _ x _ Hj (hF.mono hMj.size)).mono ?_
      rintro e w2 ⟨rfl, H2, hM2⟩
      go_wp2_with fail
      go_roundw
      case rel => exact ⟨j + 1, by omega, by go_num, by rw [hstep.out]; exact H2, hrj.mod hM2 (by simp), hMj.trans hM2⟩
      case measure => simp [intOf]; omega
    · have hj' : j = L.length := by omega
      subst hj'
      rw [List.take_length] at Hj
      go_wp2_with fail
      go_end0
      exact ⟨rfl, by rw [hal.out]; exact Hj, hMj⟩
end Go.Proofs.Ytbmbgicdnegkfaa

/- The guard's walk: Drop. -/
namespace Go.Proofs.Ytbmbgicdnegkfaa
open Go Go.RowKit Sil

theorem GR.below {tag : Nat → Nat} {w w' : World} {p : Pt} {hs : List Int} {most : Int} {s : St} (h : GR tag w p hs most s) (hb : Below w.heap.size w w') : GR tag w' p hs most s := by
  obtain ⟨v, bs, h⟩ := h; exact ⟨v, bs, h.below hb⟩
theorem GR.mod {tag tag' : Nat → Nat} {w w' : World} {p : Pt} {hs : List Int} {most : Int} {s : St} {T : List Nat} (h : GR tag w p hs most s) (hm : Mod T tag tag' w w') (hT : ∀ x ∈ T, x = 0 ∨ 20 ≤ x) : GR tag' w' p hs most s := by
  obtain ⟨v, bs, h⟩ := h; exact ⟨v, bs, h.mod hm hT⟩

theorem sDrop_len (n : Nat) (ps : List Page) (ws : List Int) (f : Int) : (sDrop n ps ws f).length ≤ ps.length := by
  unfold sDrop dropState
  refine Nat.le_trans (List.length_filter_le _ _) ?_
  rw [clrs_len, clrs_len]
  exact Nat.le_refl _
theorem drop_eq {n : Nat} {s : St} {f : Int} (h : (sPage s.ps f).isSome = true) (t : St) (ht : s.preD f = t) : s.drop n f = { t with ps := sDrop n t.ps t.ws f, ws := wDrop n t.ps t.ws f, fr := t.fr.given f, hits := [] } := by
  unfold St.drop; rw [if_pos h, ht]; unfold St.sdrop
  generalize sDrop n t.ps t.ws f = a
  generalize wDrop n t.ps t.ws f = b
  rfl
set_option maxRecDepth 100000 in
set_option maxHeartbeats 1000000 in
theorem guard_drop (tag : Nat → Nat) (p : Pt) (hs : List Int) (most : Int) (s : St) (f : Int) (w : World) (H : GR tag w p hs most s) (hF : Fresh tag w) (hwf : (Lit.int .i64 f).wf = true) (hnd : s.fr.taken.Nodup) (hok : (sPage s.ps f).isSome = true → FreeOk (s.fr.given f)) :
    Calls Try.prog 34 #[.pointer (some ⟨p.d, 0, none⟩), .int .i64 f] w fun e w' => e = .returned (.bool (sPage s.ps f).isSome) ∧ ∃ tag', GR tag' w' p hs most (s.drop p.n f) ∧ Mod [2, 6, 7, 8, 9, 10, 11, 12, 14, 15] tag tag' w w' ∧ Fresh tag' w' := by
  have H0 := H
  obtain ⟨v, bs, H⟩ := H
  obtain ⟨vl, hD⟩ := H.guard
  have c2 := hD.cellv 2 rfl
  have hpl := H.pl
  have hps := preD_ps s f
  cases hsm : (sPage s.ps f).isSome
  · have e1 : s.drop p.n f = s := by unfold St.drop; rw [hsm]; rfl
    rw [e1]
    have HS := Lib.hid hsm
    have hk0 : sKey s.ps f = Key.zero := by
      unfold sKey
      cases h : sPage s.ps f with
      | none => rfl
      | some q => rw [h] at hsm; cases hsm
    obtain ⟨kg, hkg⟩ : ∃ x : Int, x = 0 := ⟨0, rfl⟩
    have HK : Hid (sKey s.ps f = ⟨0, 0, 0⟩) := Lib.hid hk0
    subst hkg
    obtain ⟨kl, hkl⟩ : ∃ x : Int, x = 0 := ⟨0, rfl⟩
    clear hsm e1 hk0 hps
    go_enter Try.func34, Try.ntmps34
    go_wp2_with fail
    refine (store_key 6 p.a p.bF p.bL tag v s.ps bs f _ H.sf.sh.st (by omega)).mono ?_
    rintro e w1 ⟨rfl, hb1⟩
    rw [HS.out, HK.out]
    simp only [Key.cs]
    have hbw := hb1.alloc hb1.size (.cells #[.int .i64 0, .int .i64 0, .int .i64 0] 37)
    go_wp2_with fail
    go_ret
    exact ⟨rfl, tag, H0.below hbw, Mod.of_below hbw, hF.mono hbw.size⟩
  · obtain ⟨t, ht⟩ : ∃ t, s.preD f = t := ⟨_, rfl⟩
    have he0 := drop_eq (n := p.n) hsm t ht
    rw [ht] at hps
    have HS := Lib.hid hsm
    have HS1 : Hid ((sPage t.ps f).isSome = true) := Lib.hid (by rw [hps.1]; exact hsm)
    have HN1 : Hid (t.fr.taken.Nodup) := Lib.hid (by rw [hps.2.2.1]; exact hnd)
    have HO1 : Hid (FreeOk (t.fr.given f)) := Lib.hid (by rw [hps.2.2.1]; exact hok hsm)
    have hpl' : (sDrop p.n t.ps t.ws f).length ≤ 1000 := Nat.le_trans (sDrop_len _ _ _ _) (by rw [hps.1]; exact hpl)
    obtain ⟨pa, hpa⟩ : ∃ a, sDrop p.n t.ps t.ws f = a := ⟨_, rfl⟩
    obtain ⟨wa, hwa⟩ : ∃ a, wDrop p.n t.ps t.ws f = a := ⟨_, rfl⟩
    rw [hpa] at hpl' he0
    rw [hwa] at he0
    have HE := Lib.hid he0
    have HPA := Lib.hid hpa
    have HWA := Lib.hid hwa
    clear hpa hwa he0
    obtain ⟨key, hkey⟩ : ∃ key, sKey s.ps f = key := ⟨_, rfl⟩
    have HK := Lib.hid hkey
    have hpre : s.preD f = if key.role == 0 then s.tight key.g else s := by unfold St.preD; rw [hkey]
    rw [ht] at hpre
    clear hsm hkey hps ht hok hnd
    obtain ⟨kg, kl, kr⟩ := key
    by_cases hr : kr = 0
    · subst hr
      have HT : Hid (t = s.tight kg) := Lib.hid hpre
      clear hpre
      go_enter Try.func34, Try.ntmps34
      go_wp2_with fail
      refine (store_key 6 p.a p.bF p.bL tag v s.ps bs f _ H.sf.sh.st (by omega)).mono ?_
      rintro e w1 ⟨rfl, hb1⟩
      rw [HS.out, HK.out]
      simp only [Key.cs]
      have hX := Blk.new w1 37 #[.int .i64 kg, .int .i64 kl, .int .i64 0]
      have hbw := hb1.alloc hb1.size (.cells #[.int .i64 kg, .int .i64 kl, .int .i64 0] 37)
      have x0 := hX.cellv 0 rfl
      have x2 := hX.cellv 2 rfl
      have hF1 := hF.mono hbw.size
      go_wp2_with fail
      refine (guard_tight tag p hs most s kg _ (H0.below hbw) hF1).mono ?_
      rintro e w3 ⟨rfl, H1, hM3⟩
      rw [← HT.out] at H1
      have hF2 := hF1.mono hM3.size
      have hMw : Mod [14, 15] tag tag w w3 := (Mod.of_below hbw).trans hM3
      obtain ⟨v1, bs1, H1⟩ := H1
      obtain ⟨vl1, hD1⟩ := H1.guard
      have hdt1 : tag p.d = 14 := by obtain ⟨_, h, _⟩ := H1.gd; exact h
      have c2 := hD1.cellv 2 rfl
      go_wp2_with fail
      refine (store_drop p.a p.bF p.bL p.n tag v1 _ bs1 _ _ f _ H1.sf hF2 (by have := H1.pl; omega) HS1.out hwf HN1.out HO1.out).mono ?_
      rintro e w4 ⟨rfl, tag4, v4, bs4, H4, hM4, hF4⟩
      rw [HPA.out, HWA.out] at H4
      have hD4 := hD1.mod hM4 (by rw [hdt1]; simp)
      have c3 := hD4.cellv 3 rfl
      go_wp2_with fail
      refine (tlb_all 12 p.bT tag4 most _ _ (H1.tl.mod hM4 (by simp) (by simp))).mono ?_
      rintro e w5 ⟨rfl, hT5, hM5⟩
      have hM : Mod [2, 6, 7, 8, 9, 10, 11, 12] tag tag4 _ w5 := (hM4.mono (by simp)).trans (hM5.mono (by simp))
      go_wp2_with fail
      go_ret
      refine ⟨rfl, tag4, ?_, (hMw.mono (by simp)).trans (hM.mono (by simp)), hF4.mono hM5.size⟩
      rw [HE.out]
      exact ⟨v4, bs4, H4.mod hM5 (by simp), H1.mp.mod hM (by simp) (by simp) (by simp), hM.tagOf H1.gb H1.gt, H1.gb.mod hM (by rw [H1.gt]; simp), hT5, H1.gd.mod hM (by simp) (by simp), hpl', H1.ll, by simp, H1.m1⟩
    · have HT : Hid (t = s) := Lib.hid (by rw [hpre, if_neg (by simpa using hr)])
      have hrb : (kr == 0) = false := by simp [hr]
      clear hpre
      go_enter Try.func34, Try.ntmps34
      go_wp2_with fail
      refine (store_key 6 p.a p.bF p.bL tag v s.ps bs f _ H.sf.sh.st (by omega)).mono ?_
      rintro e w1 ⟨rfl, hb1⟩
      rw [HS.out, HK.out]
      simp only [Key.cs]
      have hX := Blk.new w1 37 #[.int .i64 kg, .int .i64 kl, .int .i64 kr]
      have hbw := hb1.alloc hb1.size (.cells #[.int .i64 kg, .int .i64 kl, .int .i64 kr] 37)
      have x0 := hX.cellv 0 rfl
      have x2 := hX.cellv 2 rfl
      have hF1 := hF.mono hbw.size
      have H1 := H0.below hbw
      rw [← HT.out] at H1
      have hF2 := hF1
      have hMw : Mod [14, 15] tag tag w _ := Mod.of_below hbw
      obtain ⟨v1, bs1, H1⟩ := H1
      obtain ⟨vl1, hD1⟩ := H1.guard
      have hdt1 : tag p.d = 14 := by obtain ⟨_, h, _⟩ := H1.gd; exact h
      have c2 := hD1.cellv 2 rfl
      go_wp2_with fail
      refine (store_drop p.a p.bF p.bL p.n tag v1 _ bs1 _ _ f _ H1.sf hF2 (by have := H1.pl; omega) HS1.out hwf HN1.out HO1.out).mono ?_
      rintro e w4 ⟨rfl, tag4, v4, bs4, H4, hM4, hF4⟩
      rw [HPA.out, HWA.out] at H4
      have hD4 := hD1.mod hM4 (by rw [hdt1]; simp)
      have c3 := hD4.cellv 3 rfl
      go_wp2_with fail
      refine (tlb_all 12 p.bT tag4 most _ _ (H1.tl.mod hM4 (by simp) (by simp))).mono ?_
      rintro e w5 ⟨rfl, hT5, hM5⟩
      have hM : Mod [2, 6, 7, 8, 9, 10, 11, 12] tag tag4 _ w5 := (hM4.mono (by simp)).trans (hM5.mono (by simp))
      go_wp2_with fail
      go_ret
      refine ⟨rfl, tag4, ?_, (hMw.mono (by simp)).trans (hM.mono (by simp)), hF4.mono hM5.size⟩
      rw [HE.out]
      exact ⟨v4, bs4, H4.mod hM5 (by simp), H1.mp.mod hM (by simp) (by simp) (by simp), hM.tagOf H1.gb H1.gt, H1.gb.mod hM (by rw [H1.gt]; simp), hT5, H1.gd.mod hM (by simp) (by simp), hpl', H1.ll, by simp, H1.m1⟩
end Go.Proofs.Ytbmbgicdnegkfaa

/- The guard's walk: Make. -/
namespace Go.Proofs.Ytbmbgicdnegkfaa
open Go Go.RowKit Sil
attribute [local go_sem ↓] Go.wp_at_zero Go.wp_at_succ

/-- the guard behind a store's Make -/
theorem GX.smake {tag tag' : Nat → Nat} {w w' : World} {p : Pt} {hs : List Int} {most : Int} {v v' : Value} {bs bs' : List Nat} {s : St} {k : Key} (H : GX tag w p hs most v bs s) (hy : sMakeIs s.ps s.fr k = true)
    (H4 : SF tag' w' p.a p.bF p.bL v' (s.ps ++ [pageNew (s.fr.next.getD 0) k]) bs' p.n (hfill p.n s.ws (s.fr.next.getD 0) zero8) s.fr.took) (hM : Mod [2, 6, 7, 9, 10, 11] tag tag' w w') (hl : s.ps.length < 1000) : GX tag' w' p hs most v' bs' (s.smake p.n k) := by
  unfold St.smake
  rw [if_pos hy]
  exact ⟨H4, H.mp.mod hM (by simp) (by simp) (by simp), hM.tagOf H.gb H.gt, H.gb.mod hM (by rw [H.gt]; simp), H.tl.mod hM (by simp) (by simp), H.gd.mod hM (by simp) (by simp), by simp; omega, H.ll, H.hl, H.m1⟩

/-- store.Make, whatever comes out -/
theorem store_make (tag : Nat → Nat) (p : Pt) (hs : List Int) (most : Int) (v : Value) (bs : List Nat) (s : St) (k : Key) (w : World) (H : GX tag w p hs most v bs s) (hF : Fresh tag w)
    (hmk : sMakeIs s.ps s.fr k = true → (∀ f, s.fr.next = some f → hok p.n f 0 = true) ∧ FreeOk s.fr.took ∧ s.ps.length < 1000) :
    Calls Try.prog 57 #[.pointer (some ⟨p.a, 0, none⟩), .agg k.cs.toArray] w fun e w' =>
      e = .returned (.tuple #[.int .i64 (smakeF s k), .bool (sMakeIs s.ps s.fr k)]) ∧ ∃ tag', GR tag' w' p hs most (s.smake p.n k) ∧ Mod [2, 6, 7, 9, 10, 11] tag tag' w w' ∧ Fresh tag' w' := by
  cases hy : sMakeIs s.ps s.fr k
  · refine (store_make_no p.a p.bF p.bL p.n tag v s.ps bs s.ws s.fr k _ H.sf hF hy).mono ?_
    rintro e w7 ⟨rfl, H7, hM7, hF7⟩
    have e1 : s.smake p.n k = s := by unfold St.smake; rw [hy]; rfl
    have e2 : smakeF s k = 0 := by unfold smakeF; rw [hy]; rfl
    rw [e1, e2]
    exact ⟨rfl, tag, ⟨v, bs, ⟨H7, H.mp.mod hM7 (by simp) (by simp) (by simp), hM7.tagOf H.gb H.gt, H.gb.mod hM7 (by rw [H.gt]; simp), H.tl.mod hM7 (by simp) (by simp), H.gd.mod hM7 (by simp) (by simp), H.pl, H.ll, H.hl, H.m1⟩⟩, hM7.mono (by simp), hF7⟩
  · obtain ⟨h1, h2, h3⟩ := hmk hy
    refine (store_make_yes p.a p.bF p.bL p.n tag v s.ps bs s.ws s.fr k _ H.sf hF hy h1 h2 (by omega)).mono ?_
    rintro e w7 ⟨rfl, tag7, v7, bs7, H7, hM7, hF7⟩
    have e2 : smakeF s k = s.fr.next.getD 0 := by unfold smakeF; rw [hy]; rfl
    rw [e2]
    exact ⟨rfl, tag7, ⟨v7, bs7, H.smake hy H7 hM7 h3⟩, hM7, hF7⟩

set_option maxRecDepth 100000 in
set_option maxHeartbeats 1000000 in
theorem guard_make (tag : Nat → Nat) (p : Pt) (hs : List Int) (most : Int) (s : St) (k : Key) (w : World) (H : GR tag w p hs most s) (hF : Fresh tag w)
    (hmk : sMakeIs (s.pre p.n hs k).ps (s.pre p.n hs k).fr k = true → (∀ f, (s.pre p.n hs k).fr.next = some f → hok p.n f 0 = true) ∧ FreeOk (s.pre p.n hs k).fr.took ∧ (s.pre p.n hs k).ps.length < 1000) :
    Calls Try.prog 21 #[.pointer (some ⟨p.d, 0, none⟩), .agg k.cs.toArray] w fun e w' => e = .returned (.tuple #[.int .i64 (s.makeF p.n hs k), .bool (s.makeIs p.n hs k)]) ∧
      ∃ tag', GR tag' w' p hs most (s.make p.n hs k) ∧ Mod [2, 6, 7, 8, 9, 10, 11, 12, 14, 15] tag tag' w w' ∧ Fresh tag' w' := by
  have H00 := H
  obtain ⟨v, bs, H⟩ := H
  obtain ⟨vl, hD⟩ := H.guard
  have hltd := hD.lt
  have hpl := H.pl
  have hfr0 : tag w.heap.size = 0 := hF _ (Nat.le_refl _)
  obtain ⟨t, ht⟩ : ∃ t, s.pre p.n hs k = t := ⟨_, rfl⟩
  rw [ht] at hmk
  obtain ⟨kg, kl, kr⟩ := k
  simp only [Key.cs]
  have hK0 := Blk.new w 37 #[.int .i64 kg, .int .i64 kl, .int .i64 kr]
  have hb0 : Below w.heap.size w (w.alloc (.cells #[.int .i64 kg, .int .i64 kl, .int .i64 kr] 37)) := (Below.refl _ w).alloc (Nat.le_refl _) _
  have c2 := hD.cellv 2 rfl
  have hs1 : StoreX 6 tag (w.alloc (.cells #[.int .i64 kg, .int .i64 kl, .int .i64 kr] 37)).drew p.a p.bF p.bL v s.ps bs := (H.below hb0).sf.sh.st.heap rfl
  have S1 := Lib.hid hs1
  clear hs1
  cases hfi : sFind s.ps ⟨kg, kl, kr⟩ with
  | some q =>
    have e1 : s.make p.n hs ⟨kg, kl, kr⟩ = s := by unfold St.make; rw [hfi]; rfl
    have e2 : s.makeF p.n hs ⟨kg, kl, kr⟩ = q := by unfold St.makeF; rw [hfi]
    have e3 : s.makeIs p.n hs ⟨kg, kl, kr⟩ = true := by unfold St.makeIs; rw [hfi]; rfl
    rw [e1, e2, e3]
    have HFI := Lib.hid hfi
    clear hfi e1 e2 e3 hmk ht
    go_enter Try.func21, Try.ntmps21
    go_upto_region 1 with fail
    go_cut [6, 7] (fun s6 s7 wx => s6 = .int .i64 q ∧ s7 = .bool true ∧ Below (w.alloc (.cells #[.int .i64 kg, .int .i64 kl, .int .i64 kr] 37)).heap.size (w.alloc (.cells #[.int .i64 kg, .int .i64 kl, .int .i64 kr] 37)) wx)
    case first =>
      go_region_with (go_at_call 20; refine (store_find 6 p.a p.bF p.bL tag v s.ps bs ⟨kg, kl, kr⟩ _ (by with_reducible exact S1.out) (by omega)).mono ?_; rintro e w2 ⟨rfl, hb2⟩; rw [HFI.out])
      all_goals (go_wp2_with fail; go_meet; exact ⟨rfl, rfl, below_drew hb2⟩)
    case rest =>
      obtain ⟨rfl, rfl, hbc⟩ := hcut
      have hbw := hb0.trans (hbc.mono (by simp))
      have hKc := hK0.below hbc hK0.lt
      have hFc := hF.mono hbw.size
      have k0 := hKc.cellv 0 rfl
      have k1 := hKc.cellv 1 rfl
      have k2 := hKc.cellv 2 rfl
      clear S1 c2 hD
      go_wp2_with fail
      go_ret2
      exact ⟨rfl, tag, H00.below hbw, Mod.of_below hbw, hFc⟩
  | none =>
    have e1 : s.make p.n hs ⟨kg, kl, kr⟩ = if sMakeIs t.ps t.fr ⟨kg, kl, kr⟩ && kr == 0 then (t.smake p.n ⟨kg, kl, kr⟩).forbid p.n hs kg else t.smake p.n ⟨kg, kl, kr⟩ := by unfold St.make; rw [hfi, ht]; rfl
    have e2 : s.makeF p.n hs ⟨kg, kl, kr⟩ = smakeF t ⟨kg, kl, kr⟩ := by unfold St.makeF; rw [hfi, ht]
    have e3 : s.makeIs p.n hs ⟨kg, kl, kr⟩ = sMakeIs t.ps t.fr ⟨kg, kl, kr⟩ := by unfold St.makeIs; rw [hfi, ht]; rfl
    have hpre : t = if kr == 0 then s.look p.n hs kg else s := by rw [← ht]; rfl
    have HFI := Lib.hid hfi
    have HMK := Lib.hid hmk
    have HE := Lib.hid e1
    clear hfi ht hmk
    rw [e2, e3]
    clear e1 e2 e3
    cases hy : sMakeIs t.ps t.fr ⟨kg, kl, kr⟩
    · have HY := Lib.hid hy
      clear hy
      by_cases hr : kr = 0
      · have hrb : (kr == 0) = true := by simp [hr]
        have HT : Hid (t = s.look p.n hs kg) := Lib.hid (by rw [hpre, hrb]; rfl)
        have HRB := Lib.hid hrb
        clear hpre hr
        go_enter Try.func21, Try.ntmps21
        go_upto_region 1 with fail
        go_cut [6, 7] (fun s6 s7 wx => s6 = .int .i64 0 ∧ s7 = .bool false ∧ Below (w.alloc (.cells #[.int .i64 kg, .int .i64 kl, .int .i64 kr] 37)).heap.size (w.alloc (.cells #[.int .i64 kg, .int .i64 kl, .int .i64 kr] 37)) wx)
        case first =>
          go_region_with (go_at_call 20; refine (store_find 6 p.a p.bF p.bL tag v s.ps bs ⟨kg, kl, kr⟩ _ (by with_reducible exact S1.out) (by omega)).mono ?_; rintro e w2 ⟨rfl, hb2⟩; rw [HFI.out])
          all_goals (go_wp2_with fail; go_meet; exact ⟨rfl, rfl, below_drew hb2⟩)
        case rest =>
          obtain ⟨rfl, rfl, hbc⟩ := hcut
          have hbw := hb0.trans (hbc.mono (by simp))
          have hKc := hK0.below hbc hK0.lt
          have hFc := hF.mono hbw.size
          have k0 := hKc.cellv 0 rfl
          have k1 := hKc.cellv 1 rfl
          have k2 := hKc.cellv 2 rfl
          clear S1 c2 hD
          go_wp2_with fail
          refine (guard_look tag p hs most s kg _ (H00.below hbw) hFc).mono ?_
          rintro e w4 ⟨rfl, H5, hM4⟩
          rw [← HT.out] at H5
          have hM5 : Mod [2, 6, 7, 8, 9, 10, 11, 12, 14, 15] tag tag w w4 := (Mod.of_below hbw).trans (hM4.mono (by simp))
          have hK5 := hKc.mod hM4 (by rw [hfr0]; simp)
          have hF5 := hFc.mono hM4.size
          clear hKc k0 k1 k2 hbc
          obtain ⟨v5, bs5, H5⟩ := H5
          obtain ⟨vl5, hD5⟩ := H5.guard
          have c2 := hD5.cellv 2 rfl
          have k0 := hK5.cellv 0 rfl
          have k1 := hK5.cellv 1 rfl
          have k2 := hK5.cellv 2 rfl
          have hltd := hD5.lt
          have hltk := hK5.lt
          have hd5 : GX tag w4.drew p hs most v5 bs5 t := H5.mod ((Mod.refl [] tag w4).drew) (by simp)
          have S5 := Lib.hid hd5
          have hf5 : Fresh tag w4.drew := hF5
          have F5 := Lib.hid hf5
          clear hd5 hf5
          go_upto_region 7 with fail
          go_cut [9, 10] (fun s9 s10 wx => s9 = .int .i64 (smakeF t ⟨kg, kl, kr⟩) ∧ s10 = .bool (sMakeIs t.ps t.fr ⟨kg, kl, kr⟩) ∧ ∃ tag', GR tag' wx p hs most (t.smake p.n ⟨kg, kl, kr⟩) ∧ Mod [2, 6, 7, 9, 10, 11] tag tag' w4 wx ∧ Fresh tag' wx)
          case first =>
            go_region_with (go_at_call 57; refine (store_make tag p hs most v5 bs5 t ⟨kg, kl, kr⟩ _ (by with_reducible exact S5.out) (by with_reducible exact F5.out) HMK.out).mono ?_; rintro e w7 ⟨rfl, tag7, H7, hM7, hF7⟩)
            all_goals (go_wp2_with fail; go_meet; exact ⟨rfl, rfl, tag7, H7, ⟨hM7.os, hM7.tape, hM7.output, hM7.size, hM7.tags, hM7.keep⟩, hF7⟩)
          case rest =>
            obtain ⟨rfl, rfl, tag7, H7, hM7, hF7⟩ := hcut
            have hK7 := hK5.mod hM7 (by rw [hfr0]; simp)
            have hM8 : Mod [2, 6, 7, 8, 9, 10, 11, 12, 14, 15] tag tag7 w _ := hM5.trans (hM7.mono (by simp))
            have k0 := hK7.cellv 0 rfl
            rw [HY.out]
            clear S5 F5 HMK
            go_wp2_with fail
            go_ret2
            exact ⟨rfl, tag7, by rw [HE.out, HY.out]; exact H7, hM8, hF7⟩
      · have hrb : (kr == 0) = false := by simp [hr]
        have HT : Hid (t = s) := Lib.hid (by rw [hpre, hrb]; rfl)
        have HRB := Lib.hid hrb
        clear hpre hr
        go_enter Try.func21, Try.ntmps21
        go_upto_region 1 with fail
        go_cut [6, 7] (fun s6 s7 wx => s6 = .int .i64 0 ∧ s7 = .bool false ∧ Below (w.alloc (.cells #[.int .i64 kg, .int .i64 kl, .int .i64 kr] 37)).heap.size (w.alloc (.cells #[.int .i64 kg, .int .i64 kl, .int .i64 kr] 37)) wx)
        case first =>
          go_region_with (go_at_call 20; refine (store_find 6 p.a p.bF p.bL tag v s.ps bs ⟨kg, kl, kr⟩ _ (by with_reducible exact S1.out) (by omega)).mono ?_; rintro e w2 ⟨rfl, hb2⟩; rw [HFI.out])
          all_goals (go_wp2_with fail; go_meet; exact ⟨rfl, rfl, below_drew hb2⟩)
        case rest =>
          obtain ⟨rfl, rfl, hbc⟩ := hcut
          have hbw := hb0.trans (hbc.mono (by simp))
          have hKc := hK0.below hbc hK0.lt
          have hFc := hF.mono hbw.size
          have k0 := hKc.cellv 0 rfl
          have k1 := hKc.cellv 1 rfl
          have k2 := hKc.cellv 2 rfl
          clear S1 c2 hD
          have H5 := H00.below hbw
          rw [← HT.out] at H5
          have hM5 : Mod [2, 6, 7, 8, 9, 10, 11, 12, 14, 15] tag tag w wc := Mod.of_below hbw
          have hK5 := hKc
          have hF5 := hFc
          clear k0 k1 k2 hbc
          obtain ⟨v5, bs5, H5⟩ := H5
          obtain ⟨vl5, hD5⟩ := H5.guard
          have c2 := hD5.cellv 2 rfl
          have k0 := hK5.cellv 0 rfl
          have k1 := hK5.cellv 1 rfl
          have k2 := hK5.cellv 2 rfl
          have hltd := hD5.lt
          have hltk := hK5.lt
          have hd5 : GX tag wc.drew p hs most v5 bs5 t := H5.mod ((Mod.refl [] tag wc).drew) (by simp)
          have S5 := Lib.hid hd5
          have hf5 : Fresh tag wc.drew := hF5
          have F5 := Lib.hid hf5
          clear hd5 hf5
          go_upto_region 7 with fail
          go_cut [9, 10] (fun s9 s10 wx => s9 = .int .i64 (smakeF t ⟨kg, kl, kr⟩) ∧ s10 = .bool (sMakeIs t.ps t.fr ⟨kg, kl, kr⟩) ∧ ∃ tag', GR tag' wx p hs most (t.smake p.n ⟨kg, kl, kr⟩) ∧ Mod [2, 6, 7, 9, 10, 11] tag tag' wc wx ∧ Fresh tag' wx)
          case first =>
            go_region_with (go_at_call 57; refine (store_make tag p hs most v5 bs5 t ⟨kg, kl, kr⟩ _ (by with_reducible exact S5.out) (by with_reducible exact F5.out) HMK.out).mono ?_; rintro e w7 ⟨rfl, tag7, H7, hM7, hF7⟩)
            all_goals (go_wp2_with fail; go_meet; exact ⟨rfl, rfl, tag7, H7, ⟨hM7.os, hM7.tape, hM7.output, hM7.size, hM7.tags, hM7.keep⟩, hF7⟩)
          case rest =>
            obtain ⟨rfl, rfl, tag7, H7, hM7, hF7⟩ := hcut
            have hK7 := hK5.mod hM7 (by rw [hfr0]; simp)
            have hM8 : Mod [2, 6, 7, 8, 9, 10, 11, 12, 14, 15] tag tag7 w _ := hM5.trans (hM7.mono (by simp))
            have k0 := hK7.cellv 0 rfl
            rw [HY.out]
            clear S5 F5 HMK
            go_wp2_with fail
            go_ret2
            exact ⟨rfl, tag7, by rw [HE.out, HY.out]; exact H7, hM8, hF7⟩
    · have HY := Lib.hid hy
      clear hy
      by_cases hr : kr = 0
      · have hrb : (kr == 0) = true := by simp [hr]
        have HT : Hid (t = s.look p.n hs kg) := Lib.hid (by rw [hpre, hrb]; rfl)
        have HRB := Lib.hid hrb
        clear hpre hr
        go_enter Try.func21, Try.ntmps21
        go_upto_region 1 with fail
        go_cut [6, 7] (fun s6 s7 wx => s6 = .int .i64 0 ∧ s7 = .bool false ∧ Below (w.alloc (.cells #[.int .i64 kg, .int .i64 kl, .int .i64 kr] 37)).heap.size (w.alloc (.cells #[.int .i64 kg, .int .i64 kl, .int .i64 kr] 37)) wx)
        case first =>
          go_region_with (go_at_call 20; refine (store_find 6 p.a p.bF p.bL tag v s.ps bs ⟨kg, kl, kr⟩ _ (by with_reducible exact S1.out) (by omega)).mono ?_; rintro e w2 ⟨rfl, hb2⟩; rw [HFI.out])
          all_goals (go_wp2_with fail; go_meet; exact ⟨rfl, rfl, below_drew hb2⟩)
        case rest =>
          obtain ⟨rfl, rfl, hbc⟩ := hcut
          have hbw := hb0.trans (hbc.mono (by simp))
          have hKc := hK0.below hbc hK0.lt
          have hFc := hF.mono hbw.size
          have k0 := hKc.cellv 0 rfl
          have k1 := hKc.cellv 1 rfl
          have k2 := hKc.cellv 2 rfl
          clear S1 c2 hD
          go_wp2_with fail
          refine (guard_look tag p hs most s kg _ (H00.below hbw) hFc).mono ?_
          rintro e w4 ⟨rfl, H5, hM4⟩
          rw [← HT.out] at H5
          have hM5 : Mod [2, 6, 7, 8, 9, 10, 11, 12, 14, 15] tag tag w w4 := (Mod.of_below hbw).trans (hM4.mono (by simp))
          have hK5 := hKc.mod hM4 (by rw [hfr0]; simp)
          have hF5 := hFc.mono hM4.size
          clear hKc k0 k1 k2 hbc
          obtain ⟨v5, bs5, H5⟩ := H5
          obtain ⟨vl5, hD5⟩ := H5.guard
          have c2 := hD5.cellv 2 rfl
          have k0 := hK5.cellv 0 rfl
          have k1 := hK5.cellv 1 rfl
          have k2 := hK5.cellv 2 rfl
          have hltd := hD5.lt
          have hltk := hK5.lt
          have hd5 : GX tag w4.drew p hs most v5 bs5 t := H5.mod ((Mod.refl [] tag w4).drew) (by simp)
          have S5 := Lib.hid hd5
          have hf5 : Fresh tag w4.drew := hF5
          have F5 := Lib.hid hf5
          clear hd5 hf5
          go_upto_region 7 with fail
          go_cut [9, 10] (fun s9 s10 wx => s9 = .int .i64 (smakeF t ⟨kg, kl, kr⟩) ∧ s10 = .bool (sMakeIs t.ps t.fr ⟨kg, kl, kr⟩) ∧ ∃ tag', GR tag' wx p hs most (t.smake p.n ⟨kg, kl, kr⟩) ∧ Mod [2, 6, 7, 9, 10, 11] tag tag' w4 wx ∧ Fresh tag' wx)
          case first =>
            go_region_with (go_at_call 57; refine (store_make tag p hs most v5 bs5 t ⟨kg, kl, kr⟩ _ (by with_reducible exact S5.out) (by with_reducible exact F5.out) HMK.out).mono ?_; rintro e w7 ⟨rfl, tag7, H7, hM7, hF7⟩)
            all_goals (go_wp2_with fail; go_meet; exact ⟨rfl, rfl, tag7, H7, ⟨hM7.os, hM7.tape, hM7.output, hM7.size, hM7.tags, hM7.keep⟩, hF7⟩)
          case rest =>
            obtain ⟨rfl, rfl, tag7, H7, hM7, hF7⟩ := hcut
            have hK7 := hK5.mod hM7 (by rw [hfr0]; simp)
            have hM8 : Mod [2, 6, 7, 8, 9, 10, 11, 12, 14, 15] tag tag7 w _ := hM5.trans (hM7.mono (by simp))
            have k0 := hK7.cellv 0 rfl
            rw [HY.out]
            clear S5 F5 HMK
            go_wp2_with fail
            refine (guard_forbid tag7 p hs most _ kg _ H7 hF7).mono ?_
            rintro e w8 ⟨rfl, H8, hM9⟩
            go_wp2_with fail
            go_ret2
            exact ⟨rfl, tag7, by rw [HE.out, HY.out, HRB.out]; exact H8, hM8.trans (hM9.mono (by simp)), hF7.mono hM9.size⟩
      · have hrb : (kr == 0) = false := by simp [hr]
        have HT : Hid (t = s) := Lib.hid (by rw [hpre, hrb]; rfl)
        have HRB := Lib.hid hrb
        clear hpre hr
        go_enter Try.func21, Try.ntmps21
        go_upto_region 1 with fail
        go_cut [6, 7] (fun s6 s7 wx => s6 = .int .i64 0 ∧ s7 = .bool false ∧ Below (w.alloc (.cells #[.int .i64 kg, .int .i64 kl, .int .i64 kr] 37)).heap.size (w.alloc (.cells #[.int .i64 kg, .int .i64 kl, .int .i64 kr] 37)) wx)
        case first =>
          go_region_with (go_at_call 20; refine (store_find 6 p.a p.bF p.bL tag v s.ps bs ⟨kg, kl, kr⟩ _ (by with_reducible exact S1.out) (by omega)).mono ?_; rintro e w2 ⟨rfl, hb2⟩; rw [HFI.out])
          all_goals (go_wp2_with fail; go_meet; exact ⟨rfl, rfl, below_drew hb2⟩)
        case rest =>
          obtain ⟨rfl, rfl, hbc⟩ := hcut
          have hbw := hb0.trans (hbc.mono (by simp))
          have hKc := hK0.below hbc hK0.lt
          have hFc := hF.mono hbw.size
          have k0 := hKc.cellv 0 rfl
          have k1 := hKc.cellv 1 rfl
          have k2 := hKc.cellv 2 rfl
          clear S1 c2 hD
          have H5 := H00.below hbw
          rw [← HT.out] at H5
          have hM5 : Mod [2, 6, 7, 8, 9, 10, 11, 12, 14, 15] tag tag w wc := Mod.of_below hbw
          have hK5 := hKc
          have hF5 := hFc
          clear k0 k1 k2 hbc
          obtain ⟨v5, bs5, H5⟩ := H5
          obtain ⟨vl5, hD5⟩ := H5.guard
          have c2 := hD5.cellv 2 rfl
          have k0 := hK5.cellv 0 rfl
          have k1 := hK5.cellv 1 rfl
          have k2 := hK5.cellv 2 rfl
          have hltd := hD5.lt
          have hltk := hK5.lt
          have hd5 : GX tag wc.drew p hs most v5 bs5 t := H5.mod ((Mod.refl [] tag wc).drew) (by simp)
          have S5 := Lib.hid hd5
          have hf5 : Fresh tag wc.drew := hF5
          have F5 := Lib.hid hf5
          clear hd5 hf5
          go_upto_region 7 with fail
          go_cut [9, 10] (fun s9 s10 wx => s9 = .int .i64 (smakeF t ⟨kg, kl, kr⟩) ∧ s10 = .bool (sMakeIs t.ps t.fr ⟨kg, kl, kr⟩) ∧ ∃ tag', GR tag' wx p hs most (t.smake p.n ⟨kg, kl, kr⟩) ∧ Mod [2, 6, 7, 9, 10, 11] tag tag' wc wx ∧ Fresh tag' wx)
          case first =>
            go_region_with (go_at_call 57; refine (store_make tag p hs most v5 bs5 t ⟨kg, kl, kr⟩ _ (by with_reducible exact S5.out) (by with_reducible exact F5.out) HMK.out).mono ?_; rintro e w7 ⟨rfl, tag7, H7, hM7, hF7⟩)
            all_goals (go_wp2_with fail; go_meet; exact ⟨rfl, rfl, tag7, H7, ⟨hM7.os, hM7.tape, hM7.output, hM7.size, hM7.tags, hM7.keep⟩, hF7⟩)
          case rest =>
            obtain ⟨rfl, rfl, tag7, H7, hM7, hF7⟩ := hcut
            have hK7 := hK5.mod hM7 (by rw [hfr0]; simp)
            have hM8 : Mod [2, 6, 7, 8, 9, 10, 11, 12, 14, 15] tag tag7 w _ := hM5.trans (hM7.mono (by simp))
            have k0 := hK7.cellv 0 rfl
            rw [HY.out]
            clear S5 F5 HMK
            go_wp2_with fail
            go_ret2
            exact ⟨rfl, tag7, by rw [HE.out, HY.out, HRB.out]; exact H7, hM8, hF7⟩
end Go.Proofs.Ytbmbgicdnegkfaa

/- The guard's walks: kids, Reach and its function values. -/
namespace Go.Proofs.Ytbmbgicdnegkfaa
open Go Go.RowKit Sil

/-- what a call collects: the variable bO (tag 21) holds a row (tag 20) of the numbers xs; nothing else has changed since w0 -/
def AccR (tag : Nat → Nat) (w0 : World) (bO : Nat) (xs : List Int) (W : World) : Prop :=
  ∃ tag' v, tag' bO = 21 ∧ Blk W bO 45 #[v] ∧ Row 20 tag' W 3 1 v xs.length (xs.map (Value.int .i64)) ∧ Mod [20, 21] tag tag' w0 W ∧ Fresh tag' W
theorem AccR.below {tag : Nat → Nat} {w0 W W' : World} {bO : Nat} {xs : List Int} (h : AccR tag w0 bO xs W) (hb : Below W.heap.size W W') : AccR tag w0 bO xs W' := by
  obtain ⟨tag', v, h1, h2, h3, h4, h5⟩ := h
  exact ⟨tag', v, h1, h2.below hb h2.lt, h3.mod (T := []) (Mod.of_below hb) (by simp), h4.trans (Mod.of_below hb), h5.mono hb.size⟩
/-- from a later world on -/
theorem AccR.onto {tag tag1 : Nat → Nat} {w0 w1 W : World} {bO : Nat} {xs : List Int} (hm : Mod [20, 21] tag tag1 w0 w1) (h : AccR tag1 w1 bO xs W) : AccR tag w0 bO xs W := by
  obtain ⟨tag', v, h1, h2, h3, h4, h5⟩ := h
  exact ⟨tag', v, h1, h2, h3, hm.trans h4, h5⟩

theorem run_succ (a : Int) (j : Nat) : run a (j + 1) = run a j ++ [a + j] := by simp [run, List.range_succ]
theorem run_len (a : Int) (j : Nat) : (run a j).length = j := by simp [run]

set_option maxRecDepth 100000 in
theorem reach_add (tag : Nat → Nat) (w0 : World) (bO : Nat) (xs : List Int) (a : Int) (m : Nat) (W : World) (H : AccR tag w0 bO xs W) (hm : m ≤ 64) (hx : xs.length ≤ 100000) (h0 : 0 ≤ a) (h1 : a ≤ 1000) :
    Calls Try.prog 71 #[.int .i64 a, .int .i64 m, .pointer (some ⟨bO, 0, none⟩)] W fun e W' => e = .returned (.tuple #[]) ∧ AccR tag w0 bO (xs ++ run a m) W' := by
  obtain ⟨i0, hi, hz0, hz1, hz2⟩ := info_parts info_int
  go_enter Try.func71, Try.ntmps71
  go_wp2_with fail
  go_loopw [7] (fun k wr => ∃ j : Nat, j ≤ m ∧ k = .int .i64 j ∧ AccR tag w0 bO (xs ++ run a j) wr) (fun k _ => m - (intOf k).toNat)
  case atStart => exact ⟨0, Nat.zero_le _, rfl, by simpa [run] using H⟩
  case round =>
    obtain ⟨j, hj, rfl, tag1, v, ht, hB, hr, hM, hF⟩ := hrel
    by_cases hlt : j < m
    · have hstep : Hid ((xs ++ run a j) ++ [a + j] = xs ++ run a (j + 1)) := Lib.hid (by rw [run_succ, List.append_assoc])
      have hlen : (xs ++ run a j).length ≤ 200000 := by rw [List.length_append, run_len]; omega
      generalize hys : xs ++ run a j = ys at *
      clear hys
      obtain ⟨A, c, rfl⟩ := hr.val
      have c0 := hB.cellv 0 rfl
      have hltB := hB.lt
      have hne : some bO ≠ (Value.slice A ys.length c).ownBlock := fun e => by have := hr.2 bO e.symm; omega
      go_wp2_with (at_builtin; refine wpList_append_own_at _ rfl _ _ 45 rfl 0 3 i0 _ 1 8 Try.underlying45 hi hz0 hz1 hz2 rfl (by decide) _ _ _ rfl (hr.1.alloc _) ⟨wr.heap.size, 0, none⟩ 1 1 [.int .i64 (a + j)] rfl rfl (cell_one_new _ _ _) (by simp [Value.oneCell']) (by unfold maxLen; omega) (by omega) (Nat.zero_le _) ?_; intro v2 w2 hown2 hgrow2 _ hat2; obtain ⟨tag2, hr2, hM2, hF2⟩ := (hr.mod (T := []) ((Mod.refl _ _ _).alloc _) (by simp)).grew (T := [20]) hown2 hat2 hgrow2 rfl; obtain ⟨A2, c2, rfl⟩ := hr2.val; have hB2 := (hB.alloc _).grown hgrow2 hne; have d0 := hB2.cellv 0 rfl; have f0 := hB2.frozen 0)
      go_roundw
      case rel =>
        have ht2 : tag2 bO = 21 := (hM2.tags bO (by simp; omega)).trans ht
        refine ⟨j + 1, by omega, by go_num, tag2, _, ht2, hB2.set_ 0 _, ?_, ((hM.alloc _).trans (hM2.mono (by simp))).setCell (by simp [ht2]) _, ?_⟩
        · rw [← hstep.out]
          have := hr2.mod (T := [21]) ((Mod.refl [21] tag2 w2).setCell (a := ⟨bO, 0, none⟩) (by simp [ht2]) (.slice A2 (ys.length + 1) c2)) (by simp)
          simpa using this
        · exact (hF2 (hF.mono (by simp))).mono (by simp [World.setCell])
      case measure => simp [intOf]; omega
    · have hj' : j = m := by omega
      subst hj'
      go_wp2_with fail
      go_end0
      exact ⟨rfl, tag1, v, ht, hB, hr, hM, hF⟩

set_option maxRecDepth 100000 in
theorem kids_low (c1 c2 c3 c4 : Value) (acc : List (Int × Int) → List Int) (tag : Nat → Nat) (w0 : World) (bO : Nat) (p : Pt) (hs : List Int) (most : Int) (s : St) (pg : Int) (W : World) (H : GR tag w0 p hs most s) (HA : AccR tag w0 bO (acc []) W)
    (hcl : ∀ (pre : List (Int × Int)) (a k : Int) (W' : World), 0 ≤ a → a < 8 → pre.length < 8 → AccR tag w0 bO (acc pre) W' → Calls Try.prog 74 #[.int .i64 a, .int .i64 k, c1, c2, c3, c4] W' fun e W'' => e = .returned (.tuple #[]) ∧ AccR tag w0 bO (acc (pre ++ [(a, k)])) W'') :
    Calls Try.prog 72 #[.pointer (some ⟨p.d, 0, none⟩), .int .i64 pg, .func (.func 74) #[] #[c1, c2, c3, c4]] W fun e W' => e = .returned (.tuple #[]) ∧ AccR tag w0 bO (acc (kidsOf s.ps pg 8)) W' := by
  have HCL := Lib.hid hcl
  clear hcl
  obtain ⟨v, bs, H⟩ := H
  have hpl := H.pl
  go_enter Try.func72, Try.ntmps72
  go_wp2_with fail
  go_loopw [9] (fun k wr => ∃ m : Nat, m ≤ 8 ∧ k = .int .i64 m ∧ AccR tag w0 bO (acc (kidsOf s.ps pg m)) wr) (fun k _ => 8 - (intOf k).toNat)
  case atStart => exact ⟨0, by omega, rfl, by simpa [kidsOf] using HA⟩
  case round =>
    obtain ⟨m, hm, rfl, HAm⟩ := hrel
    by_cases hlt : m < 8
    · have hstep := Lib.hid (kidsOf_succ s.ps pg m)
      have hkl : (kidsOf s.ps pg m).length ≤ m := by
        unfold kidsOf; refine Nat.le_trans (List.length_filterMap_le _ _) ?_; simp
      have HAm0 := HAm
      obtain ⟨tag1, v1, ht1, hB1, hr1, hM1, hF1⟩ := HAm
      have H1 := H.mod hM1 (by simp)
      obtain ⟨vl, hD⟩ := H1.guard
      have d2 := hD.cellv 2 rfl
      clear hr1 hB1 ht1
      obtain ⟨sk, hsk⟩ : ∃ sk, sSlot s.ps pg m = sk := ⟨_, rfl⟩
      have HSK := Lib.hid hsk
      rw [hsk] at hstep
      clear hsk
      obtain ⟨xk, xt, ⟨xw, xu, xx⟩⟩ := sk
      generalize hpre : kidsOf s.ps pg m = pre at *
      clear hpre
      by_cases hk : xk = 1
      · subst hk
        go_wp2_with fail
        refine (store_Slot 6 p.a p.bF p.bL tag1 v s.ps bs pg m _ H1.sf.sh.st (by omega)).mono ?_
        rintro e w2 ⟨rfl, hb2⟩
        rw [HSK.out]
        simp only [Slot.cs]
        have hX := Blk.new w2 62 #[.int .i64 1, .int .i64 xt, .bool xw, .bool xu, .bool xx]
        have x0 := hX.cellv 0 rfl
        have x1 := hX.cellv 1 rfl
        go_wp2_with fail
        refine (HCL.out pre m xt _ (by omega) (by omega) (by omega) (HAm0.below (hb2.alloc hb2.size _))).mono ?_
        rintro e w3 ⟨rfl, HA3⟩
        go_wp2_with fail
        go_roundw
        case rel => exact ⟨m + 1, by omega, by go_num, by rw [hstep.out]; exact HA3⟩
        case measure => simp [intOf]; omega
      · have hkb : (xk == 1) = false := by simp [hk]
        have HKB := Lib.hid hkb
        clear hkb
        go_wp2_with fail
        refine (store_Slot 6 p.a p.bF p.bL tag1 v s.ps bs pg m _ H1.sf.sh.st (by omega)).mono ?_
        rintro e w2 ⟨rfl, hb2⟩
        rw [HSK.out]
        simp only [Slot.cs]
        have hX := Blk.new w2 62 #[.int .i64 xk, .int .i64 xt, .bool xw, .bool xu, .bool xx]
        have x0 := hX.cellv 0 rfl
        go_wp2_with fail
        go_roundw
        case rel => exact ⟨m + 1, by omega, by go_num, by rw [hstep.out]; simp only [HKB.out, Bool.false_eq_true, if_false, List.append_nil]; exact HAm0.below (hb2.alloc hb2.size _)⟩
        case measure => simp [intOf]; omega
    · have hm8 : m = 8 := by omega
      subst hm8
      go_wp2_with fail
      go_end0
      exact ⟨rfl, HAm⟩
set_option maxRecDepth 100000 in
theorem kids_mid (c1 c2 c3 c4 : Value) (acc : List (Int × Int) → List Int) (tag : Nat → Nat) (w0 : World) (bO : Nat) (p : Pt) (hs : List Int) (most : Int) (s : St) (pg : Int) (W : World) (H : GR tag w0 p hs most s) (HA : AccR tag w0 bO (acc []) W)
    (hcl : ∀ (pre : List (Int × Int)) (a k : Int) (W' : World), 0 ≤ a → a < 8 → pre.length < 8 → AccR tag w0 bO (acc pre) W' → Calls Try.prog 73 #[.int .i64 a, .int .i64 k, c1, c2, c3, c4] W' fun e W'' => e = .returned (.tuple #[]) ∧ AccR tag w0 bO (acc (pre ++ [(a, k)])) W'') :
    Calls Try.prog 72 #[.pointer (some ⟨p.d, 0, none⟩), .int .i64 pg, .func (.func 73) #[] #[c1, c2, c3, c4]] W fun e W' => e = .returned (.tuple #[]) ∧ AccR tag w0 bO (acc (kidsOf s.ps pg 8)) W' := by
  have HCL := Lib.hid hcl
  clear hcl
  obtain ⟨v, bs, H⟩ := H
  have hpl := H.pl
  go_enter Try.func72, Try.ntmps72
  go_wp2_with fail
  go_loopw [9] (fun k wr => ∃ m : Nat, m ≤ 8 ∧ k = .int .i64 m ∧ AccR tag w0 bO (acc (kidsOf s.ps pg m)) wr) (fun k _ => 8 - (intOf k).toNat)
  case atStart => exact ⟨0, by omega, rfl, by simpa [kidsOf] using HA⟩
  case round =>
    obtain ⟨m, hm, rfl, HAm⟩ := hrel
    by_cases hlt : m < 8
    · have hstep := Lib.hid (kidsOf_succ s.ps pg m)
      have hkl : (kidsOf s.ps pg m).length ≤ m := by
        unfold kidsOf; refine Nat.le_trans (List.length_filterMap_le _ _) ?_; simp
      have HAm0 := HAm
      obtain ⟨tag1, v1, ht1, hB1, hr1, hM1, hF1⟩ := HAm
      have H1 := H.mod hM1 (by simp)
      obtain ⟨vl, hD⟩ := H1.guard
      have d2 := hD.cellv 2 rfl
      clear hr1 hB1 ht1
      obtain ⟨sk, hsk⟩ : ∃ sk, sSlot s.ps pg m = sk := ⟨_, rfl⟩
      have HSK := Lib.hid hsk
      rw [hsk] at hstep
      clear hsk
      obtain ⟨xk, xt, ⟨xw, xu, xx⟩⟩ := sk
      generalize hpre : kidsOf s.ps pg m = pre at *
      clear hpre
      by_cases hk : xk = 1
      · subst hk
        go_wp2_with fail
        refine (store_Slot 6 p.a p.bF p.bL tag1 v s.ps bs pg m _ H1.sf.sh.st (by omega)).mono ?_
        rintro e w2 ⟨rfl, hb2⟩
        rw [HSK.out]
        simp only [Slot.cs]
        have hX := Blk.new w2 62 #[.int .i64 1, .int .i64 xt, .bool xw, .bool xu, .bool xx]
        have x0 := hX.cellv 0 rfl
        have x1 := hX.cellv 1 rfl
        go_wp2_with fail
        refine (HCL.out pre m xt _ (by omega) (by omega) (by omega) (HAm0.below (hb2.alloc hb2.size _))).mono ?_
        rintro e w3 ⟨rfl, HA3⟩
        go_wp2_with fail
        go_roundw
        case rel => exact ⟨m + 1, by omega, by go_num, by rw [hstep.out]; exact HA3⟩
        case measure => simp [intOf]; omega
      · have hkb : (xk == 1) = false := by simp [hk]
        have HKB := Lib.hid hkb
        clear hkb
        go_wp2_with fail
        refine (store_Slot 6 p.a p.bF p.bL tag1 v s.ps bs pg m _ H1.sf.sh.st (by omega)).mono ?_
        rintro e w2 ⟨rfl, hb2⟩
        rw [HSK.out]
        simp only [Slot.cs]
        have hX := Blk.new w2 62 #[.int .i64 xk, .int .i64 xt, .bool xw, .bool xu, .bool xx]
        have x0 := hX.cellv 0 rfl
        go_wp2_with fail
        go_roundw
        case rel => exact ⟨m + 1, by omega, by go_num, by rw [hstep.out]; simp only [HKB.out, Bool.false_eq_true, if_false, List.append_nil]; exact HAm0.below (hb2.alloc hb2.size _)⟩
        case measure => simp [intOf]; omega
    · have hm8 : m = 8 := by omega
      subst hm8
      go_wp2_with fail
      go_end0
      exact ⟨rfl, HAm⟩
end Go.Proofs.Ytbmbgicdnegkfaa

/- The guard's walk: Reach. -/
namespace Go.Proofs.Ytbmbgicdnegkfaa
open Go Go.RowKit Sil

theorem AccR.keeps {tag : Nat → Nat} {w0 W : World} {bO : Nat} {xs : List Int} (h : AccR tag w0 bO xs W) {g : Nat} {t : TypeId} {cs : Array Value} (hB : Blk w0 g t cs) (ht : tag g = 0) : Blk W g t cs := by
  obtain ⟨tag', v, h1, h2, h3, h4, h5⟩ := h
  exact hB.mod h4 (by rw [ht]; simp)

theorem or8n : ∀ x : Nat, x < 64 → ∀ y : Nat, y < 8 → bits .or .i64 ((x : Int) * 8) (y : Int) = (x : Int) * 8 + y := by decide +kernel
theorem or8 {x y : Int} (h0 : 0 ≤ x) (h1 : x < 64) (h2 : 0 ≤ y) (h3 : y < 8) : bits .or .i64 (x * 8) y = x * 8 + y := by
  obtain ⟨m, rfl⟩ := Int.eq_ofNat_of_zero_le h0
  obtain ⟨n, rfl⟩ := Int.eq_ofNat_of_zero_le h2
  exact or8n m (by omega) n (by omega)

set_option maxRecDepth 100000 in
theorem reach_low (tag : Nat → Nat) (w0 : World) (bO bp bA ba bi : Nat) (pp a ii : Int) (xs : List Int) (b k : Int) (W : World) (H : AccR tag w0 bO xs W) (h0 : 0 ≤ b) (h8 : b < 8) (ha0 : 0 ≤ a) (ha8 : a < 8) (hi0 : 0 ≤ ii) (hi8 : ii < 8) (hx : xs.length ≤ 50000)
    (hp : Blk w0 bp 3 #[.int .i64 pp]) (tp : tag bp = 0) (hA : Blk w0 bA 76 #[.func (.func 71) #[] #[.pointer (some ⟨bO, 0, none⟩)]]) (tA : tag bA = 0) (ha : Blk w0 ba 3 #[.int .i64 a]) (ta : tag ba = 0) (hi : Blk w0 bi 3 #[.int .i64 ii]) (ti : tag bi = 0) :
    Calls Try.prog 74 #[.int .i64 b, .int .i64 k, .pointer (some ⟨bp, 0, none⟩), .pointer (some ⟨bA, 0, none⟩), .pointer (some ⟨ba, 0, none⟩), .pointer (some ⟨bi, 0, none⟩)] W fun e W' =>
      e = .returned (.tuple #[]) ∧ AccR tag w0 bO (xs ++ (if k == pp then run ((a * 8 + b) * 8 + ii) 1 else [])) W' := by
  have cp := (H.keeps hp tp).cellv 0 rfl
  have cA := (H.keeps hA tA).cellv 0 rfl
  have ca := (H.keeps ha ta).cellv 0 rfl
  have ci := (H.keeps hi ti).cellv 0 rfl
  cases hk : (k == pp)
  · go_enter Try.func74, Try.ntmps74
    go_wp2_with fail
    go_end0
    exact ⟨rfl, by simpa using H⟩
  · have o1 : bits .or .i64 (a * 8) b = a * 8 + b := or8 ha0 (by omega) h0 h8
    have o2 : bits .or .i64 ((a * 8 + b) * 8) ii = (a * 8 + b) * 8 + ii := or8 (by omega) (by omega) hi0 hi8
    go_enter Try.func74, Try.ntmps74
    go_wp2_with fail
    refine (reach_add tag w0 bO xs ((a * 8 + b) * 8 + ii) 1 _ H (by omega) (by omega) (by omega) (by omega)).mono ?_
    rintro e W1 ⟨rfl, H1⟩
    go_wp2_with fail
    go_end0
    exact ⟨rfl, by simpa using H1⟩

theorem kids_len (ps : List Page) (p : Int) (m : Nat) : (kidsOf ps p m).length ≤ m := by
  unfold kidsOf; refine Nat.le_trans (List.length_filterMap_le _ _) ?_; simp
theorem low_len (p i a : Int) (l : List (Int × Int)) : (reachLow p i a l).length ≤ l.length := by
  induction l with
  | nil => simp [reachLow]
  | cons x l ih =>
    unfold reachLow at ih ⊢
    rw [List.flatMap_cons, List.length_append, List.length_cons]
    split
    · rw [run_len]; omega
    · simp only [List.length_nil]; omega
theorem mid_len (ps : List Page) (p i : Int) (am : Int × Int) : (reachMid ps p i am).length ≤ 16 := by
  unfold reachMid
  rw [List.length_append]
  have h1 := low_len p i am.1 (kidsOf ps am.2 8)
  have h2 := kids_len ps am.2 8
  split
  · rw [run_len]; omega
  · simp only [List.length_nil]; omega

set_option maxRecDepth 100000 in
theorem reach_mid (tag : Nat → Nat) (w0 : World) (bO bp bA bi bd : Nat) (p : Pt) (hs : List Int) (most : Int) (s : St) (pp ii : Int) (xs : List Int) (a k : Int) (W : World) (HG : GR tag w0 p hs most s) (H : AccR tag w0 bO xs W) (ha0 : 0 ≤ a) (ha8 : a < 8) (hi0 : 0 ≤ ii) (hi8 : ii < 8) (hx : xs.length ≤ 40000)
    (hp : Blk w0 bp 3 #[.int .i64 pp]) (tp : tag bp = 0) (hA : Blk w0 bA 76 #[.func (.func 71) #[] #[.pointer (some ⟨bO, 0, none⟩)]]) (tA : tag bA = 0) (hi : Blk w0 bi 3 #[.int .i64 ii]) (ti : tag bi = 0) (hd : Blk w0 bd 32 #[.pointer (some ⟨p.d, 0, none⟩)]) (td : tag bd = 0) :
    Calls Try.prog 73 #[.int .i64 a, .int .i64 k, .pointer (some ⟨bp, 0, none⟩), .pointer (some ⟨bA, 0, none⟩), .pointer (some ⟨bi, 0, none⟩), .pointer (some ⟨bd, 0, none⟩)] W fun e W' =>
      e = .returned (.tuple #[]) ∧ AccR tag w0 bO (xs ++ reachMid s.ps pp ii (a, k)) W' := by
  have hE : Hid (reachMid s.ps pp ii (a, k) = (if k == pp then run ((a * 8 + ii) * 8) 8 else []) ++ reachLow pp ii a (kidsOf s.ps k 8)) := Lib.hid rfl
  obtain ⟨tag1, v1, t1, b1, r1, m1, f1⟩ := H
  have G1 := HG.mod m1 (by simp)
  -- the variable a
  have hbox := Blk.new W 3 #[.int .i64 a]
  have hm0 : Mod [20, 21] tag1 tag1 W (W.alloc (.cells #[.int .i64 a] 3)) := (Mod.refl _ _ _).alloc _
  have hmW : Mod [20, 21] tag tag1 w0 (W.alloc (.cells #[.int .i64 a] 3)) := m1.trans hm0
  have HA : AccR tag1 (W.alloc (.cells #[.int .i64 a] 3)) bO xs (W.alloc (.cells #[.int .i64 a] 3)) :=
    ⟨tag1, v1, t1, b1.alloc _, r1.mod (T := []) ((Mod.refl _ _ _).alloc _) (by simp), Mod.refl _ _ _, f1.mono (by simp)⟩
  have G2 := G1.mod hm0 (by simp)
  have ta : tag1 W.heap.size = 0 := f1 _ (Nat.le_refl _)
  have hp2 := hp.mod hmW (by rw [tp]; simp)
  have hA2 := hA.mod hmW (by rw [tA]; simp)
  have hi2 := hi.mod hmW (by rw [ti]; simp)
  have hd2 := hd.mod hmW (by rw [td]; simp)
  have tp2 := m1.tagOf hp tp
  have tA2 := m1.tagOf hA tA
  have ti2 := m1.tagOf hi ti
  have td2 := m1.tagOf hd td
  have hlow : ∀ (ys : List Int) (pre : List (Int × Int)) (b l : Int) (W' : World), ys.length ≤ 49000 → 0 ≤ b → b < 8 → pre.length < 8 → AccR tag1 (W.alloc (.cells #[.int .i64 a] 3)) bO (ys ++ reachLow pp ii a pre) W' →
      Calls Try.prog 74 #[.int .i64 b, .int .i64 l, .pointer (some ⟨bp, 0, none⟩), .pointer (some ⟨bA, 0, none⟩), .pointer (some ⟨W.heap.size, 0, none⟩), .pointer (some ⟨bi, 0, none⟩)] W' fun e W'' => e = .returned (.tuple #[]) ∧ AccR tag1 (W.alloc (.cells #[.int .i64 a] 3)) bO (ys ++ reachLow pp ii a (pre ++ [(b, l)])) W'' := by
    intro ys pre b l W' hy h0 h8 hl HW
    have hll := low_len pp ii a pre
    have := reach_low tag1 (W.alloc (.cells #[.int .i64 a] 3)) bO bp bA W.heap.size bi pp a ii (ys ++ reachLow pp ii a pre) b l W' HW h0 h8 ha0 ha8 hi0 hi8 (by rw [List.length_append]; omega) hp2 tp2 hA2 tA2 hbox ta hi2 ti2
    refine this.mono ?_
    rintro e W1 ⟨rfl, H1⟩
    refine ⟨rfl, ?_⟩
    have e1 : reachLow pp ii a (pre ++ [(b, l)]) = reachLow pp ii a pre ++ (if l == pp then run ((a * 8 + b) * 8 + ii) 1 else []) := by
      unfold reachLow; rw [List.flatMap_append, List.flatMap_cons, List.flatMap_nil, List.append_nil]
    rw [e1, ← List.append_assoc]; exact H1
  have HLOW := Lib.hid hlow
  have HBW := Lib.hid hmW
  have HB1 := Lib.hid HA
  have cp := hp2.cellv 0 rfl
  have cA := hA2.cellv 0 rfl
  have ci := hi2.cellv 0 rfl
  have ca := hbox.cellv 0 rfl
  have cd := hd2.cellv 0 rfl
  clear hlow hmW
  cases hk : (k == pp)
  · have HK := Lib.hid hk
    go_enter Try.func73, Try.ntmps73
    go_wp2_with fail
    refine (kids_low (.pointer (some ⟨bp, 0, none⟩)) (.pointer (some ⟨bA, 0, none⟩)) (.pointer (some ⟨W.heap.size, 0, none⟩)) (.pointer (some ⟨bi, 0, none⟩)) (fun l => xs ++ reachLow pp ii a l) tag1 _ bO p hs most s k _ G2 (by simpa [reachLow] using HB1.out) (fun pre a' k' W' h0 h8 hl hW => HLOW.out xs pre a' k' W' (by omega) h0 h8 hl hW)).mono ?_
    rintro e W1 ⟨rfl, H1⟩
    go_wp2_with fail
    go_end0
    refine ⟨rfl, ?_⟩
    rw [hE.out, HK.out]
    exact AccR.onto HBW.out (by simpa using H1)
  · have o1 : bits .or .i64 (a * 8) ii = a * 8 + ii := or8 ha0 (by omega) hi0 hi8
    have HK := Lib.hid hk
    go_enter Try.func73, Try.ntmps73
    go_wp2_with fail
    refine (reach_add tag1 _ bO xs ((a * 8 + ii) * 8) 8 _ HB1.out (by omega) (by omega) (by omega) (by omega)).mono ?_
    rintro e W1 ⟨rfl, H1⟩
    have cp := (H1.keeps hp2 tp2).cellv 0 rfl
    have ci := (H1.keeps hi2 ti2).cellv 0 rfl
    have ca := (H1.keeps hbox ta).cellv 0 rfl
    have cd := (H1.keeps hd2 td2).cellv 0 rfl
    go_wp2_with fail
    refine (kids_low (.pointer (some ⟨bp, 0, none⟩)) (.pointer (some ⟨bA, 0, none⟩)) (.pointer (some ⟨W.heap.size, 0, none⟩)) (.pointer (some ⟨bi, 0, none⟩)) (fun l => (xs ++ run ((a * 8 + ii) * 8) 8) ++ reachLow pp ii a l) tag1 _ bO p hs most s k _ G2 (by simpa [reachLow] using H1) (fun pre a' k' W' h0 h8 hl hW => HLOW.out _ pre a' k' W' (by rw [List.length_append, run_len]; omega) h0 h8 hl hW)).mono ?_
    rintro e W2 ⟨rfl, H2⟩
    go_wp2_with fail
    go_end0
    refine ⟨rfl, ?_⟩
    rw [hE.out, HK.out]
    exact AccR.onto HBW.out (by simpa using H2)

/-- other numbers for blocks that are nobody's, or of a call's own -/
def Tg (tag tag' : Nat → Nat) : Prop := ∀ b, 1 ≤ tag b → tag b < 20 → tag' b = tag b
theorem Tg.to {tag tag' : Nat → Nat} (h : Tg tag tag') {b k : Nat} (hb : tag b = k) (h1 : 1 ≤ k) (h2 : k < 20) : tag' b = k := (h b (by omega) (by omega)).trans hb
theorem Row.tags {k : Nat} {tag tag' : Nat → Nat} {w : World} {e : TypeId} {sz n : Nat} {v : Value} {xs : List Value} (h : Row k tag w e sz v n xs) (ht : Tg tag tag') (h1 : 1 ≤ k) (h2 : k < 20) : Row k tag' w e sz v n xs := ⟨h.1, fun g hg => ht.to (h.2 g hg) h1 h2⟩
theorem GX.tags {tag tag' : Nat → Nat} {w : World} {p : Pt} {hs : List Int} {most : Int} {v : Value} {bs : List Nat} {s : St} (h : GX tag w p hs most v bs s) (ht : Tg tag tag') : GX tag' w p hs most v bs s := by
  obtain ⟨⟨⟨⟨s1, s2, ⟨s3, s4, s5, s6⟩⟩, ⟨d, h1, h2, h3, h4⟩, s7⟩, ⟨fv, fm, f1, f2, f3, f4, f5⟩, s8⟩, ⟨mv, mm, mD, mc, m1, m2, m3, m4, m5, m6⟩, g1, g2, ⟨tv, t1, t2, t3⟩, ⟨gv, d1, d2, d3⟩, pl, ll, hl, mo⟩ := h
  exact ⟨⟨⟨⟨ht.to s1 (by omega) (by omega), s2, ⟨s3, s4, Row.tags s5 ht (by omega) (by omega), fun j b q hb hq => ⟨ht.to (s6 j b q hb hq).1 (by omega) (by omega), (s6 j b q hb hq).2⟩⟩⟩, ⟨d, ht.to h1 (by omega) (by omega), h2, ht.to h3 (by omega) (by omega), h4⟩, s7⟩, ⟨fv, fm, ht.to f1 (by omega) (by omega), f2, Row.tags f3 ht (by omega) (by omega), ht.to f4 (by omega) (by omega), f5⟩, s8⟩,
    ⟨mv, mm, mD, mc, ht.to m1 (by omega) (by omega), m2, Row.tags m3 ht (by omega) (by omega), m4, ht.to m5 (by omega) (by omega), m6⟩, ht.to g1 (by omega) (by omega), g2, ⟨tv, ht.to t1 (by omega) (by omega), t2, Row.tags t3 ht (by omega) (by omega)⟩, ⟨gv, ht.to d1 (by omega) (by omega), d2, Row.tags d3 ht (by omega) (by omega)⟩, pl, ll, hl, mo⟩

set_option maxRecDepth 100000 in
theorem guard_reach (tag : Nat → Nat) (p : Pt) (hs : List Int) (most : Int) (s : St) (root pp ii : Int) (w : World) (H : GR tag w p hs most s) (hF : Fresh tag w) :
    Calls Try.prog 31 #[.pointer (some ⟨p.d, 0, none⟩), .int .i64 root, .int .i64 pp, .int .i64 ii] w fun e w' => ∃ v', e = .returned v' ∧ w'.ownsRow w.heap.size 3 1 v' (reach s.ps root pp ii).length ((reach s.ps root pp ii).map (Value.int .i64)) ∧ Below w.heap.size w w' := by
  obtain ⟨v, bs, H⟩ := H
  have hFt : Fresh (fun b => if tag b < 20 then tag b else 0) w := fun b hb => by have := hF b hb; simp [this]
  have Ht := H.tags (tag' := fun b => if tag b < 20 then tag b else 0) (fun b h1 h2 => by simp only []; rw [if_pos h2])
  have h20 : ∀ b, (fun b => if tag b < 20 then tag b else 0) b < 20 := fun b => by simp only []; split <;> omega
  clear H hF
  generalize (fun b => if tag b < 20 then tag b else 0) = tag at *
  have H := Ht
  have hF := hFt
  obtain ⟨vl, hD⟩ := H.guard
  have hpl := H.pl
  have hb1 : Below w.heap.size w (w.alloc (.cells #[.pointer (some ⟨p.d, 0, none⟩)] 32)) := (Below.refl _ w).alloc (Nat.le_refl _) _
  have hb2 := hb1.alloc hb1.size (.cells #[.int .i64 pp] 3)
  have hb3 := hb2.alloc hb2.size (.cells #[.int .i64 ii] 3)
  have hB4 := ((Blk.new w 32 #[.pointer (some ⟨p.d, 0, none⟩)]).alloc (.cells #[.int .i64 pp] 3)).alloc (.cells #[.int .i64 ii] 3)
  have hB5 := (Blk.new2 w (.cells #[.pointer (some ⟨p.d, 0, none⟩)] 32) 3 #[.int .i64 pp]).alloc (.cells #[.int .i64 ii] 3)
  have hB6 : Blk (((w.alloc (.cells #[.pointer (some ⟨p.d, 0, none⟩)] 32)).alloc (.cells #[.int .i64 pp] 3)).alloc (.cells #[.int .i64 ii] 3)) (w.heap.size + 1 + 1) 3 #[.int .i64 ii] := by
    have := Blk.new2 (w.alloc (.cells #[.pointer (some ⟨p.d, 0, none⟩)] 32)) (.cells #[.int .i64 pp] 3) 3 #[.int .i64 ii]
    rw [World.size_alloc] at this; exact this
  have c2 := ((((hD.alloc (.cells #[.pointer (some ⟨p.d, 0, none⟩)] 32)).alloc (.cells #[.int .i64 pp] 3)).alloc (.cells #[.int .i64 ii] 3))).cellv 2 rfl
  have z4 := hB4.cellv 0 rfl
  have hltd := hD.lt
  cases hfi : sFind s.ps ⟨root, 3, 0⟩ with
  | none =>
    have hre : reach s.ps root pp ii = [] := by unfold reach; rw [hfi]
    rw [hre]
    have HFI := Lib.hid hfi
    clear hfi hre
    go_enter Try.func31, Try.ntmps31
    go_wp2_with fail
    refine (store_find 6 p.a p.bF p.bL tag v s.ps bs ⟨root, 3, 0⟩ _ (H.below hb3).sf.sh.st (by omega)).mono ?_
    rintro e w1 ⟨rfl, hb1⟩
    rw [HFI.out]
    have hb4 := hb3.trans (hb1.mono hb3.size)
    have q4 := hB4.below hb1 hB4.lt
    have q5 := hB5.below hb1 hB5.lt
    have q6 := hB6.below hb1 hB6.lt
    have z4 := q4.cellv 0 rfl
    have z5 := q5.cellv 0 rfl
    have z6 := q6.cellv 0 rfl
    have l4 := q4.lt
    have l5 := q5.lt
    have l6 := q6.lt
    go_wp2_with fail
    go_ret
    exact ⟨_, rfl, World.ownsRow_nil _ _ _ _, hb4⟩
  | some top =>
    by_cases h1 : ii < 0
    · have hre : reach s.ps root pp ii = [] := by unfold reach; rw [hfi]; simp only []; rw [if_neg (by simp; omega)]
      rw [hre]
      have HFI := Lib.hid hfi
      clear hfi hre
      go_enter Try.func31, Try.ntmps31
      go_wp2_with fail
      refine (store_find 6 p.a p.bF p.bL tag v s.ps bs ⟨root, 3, 0⟩ _ (H.below hb3).sf.sh.st (by omega)).mono ?_
      rintro e w1 ⟨rfl, hb1⟩
      rw [HFI.out]
      have hb4 := hb3.trans (hb1.mono hb3.size)
      have q4 := hB4.below hb1 hB4.lt
      have q5 := hB5.below hb1 hB5.lt
      have q6 := hB6.below hb1 hB6.lt
      have z4 := q4.cellv 0 rfl
      have z5 := q5.cellv 0 rfl
      have z6 := q6.cellv 0 rfl
      have l4 := q4.lt
      have l5 := q5.lt
      have l6 := q6.lt
      go_wp2_with fail
      go_ret
      exact ⟨_, rfl, World.ownsRow_nil _ _ _ _, hb4⟩
    by_cases h2 : 8 ≤ ii
    · have hre : reach s.ps root pp ii = [] := by unfold reach; rw [hfi]; simp only []; rw [if_neg (by simp; omega)]
      rw [hre]
      have HFI := Lib.hid hfi
      clear hfi hre
      go_enter Try.func31, Try.ntmps31
      go_wp2_with fail
      refine (store_find 6 p.a p.bF p.bL tag v s.ps bs ⟨root, 3, 0⟩ _ (H.below hb3).sf.sh.st (by omega)).mono ?_
      rintro e w1 ⟨rfl, hb1⟩
      rw [HFI.out]
      have hb4 := hb3.trans (hb1.mono hb3.size)
      have q4 := hB4.below hb1 hB4.lt
      have q5 := hB5.below hb1 hB5.lt
      have q6 := hB6.below hb1 hB6.lt
      have z4 := q4.cellv 0 rfl
      have z5 := q5.cellv 0 rfl
      have z6 := q6.cellv 0 rfl
      have l4 := q4.lt
      have l5 := q5.lt
      have l6 := q6.lt
      go_wp2_with fail
      go_ret
      exact ⟨_, rfl, World.ownsRow_nil _ _ _ _, hb4⟩
    · have hre : reach s.ps root pp ii = reachTop s.ps pp ii top := by unfold reach; rw [hfi]; simp only []; rw [if_pos (by simp; omega)]
      rw [hre]
      have HFI := Lib.hid hfi
      have h3 : 0 ≤ ii := by omega
      have h4 : ii < 8 := by omega
      clear hfi hre h1 h2
      have hE : Hid (reachTop s.ps pp ii top = (if pp == top then run (ii * 64) 64 else []) ++ (kidsOf s.ps top 8).flatMap (reachMid s.ps pp ii)) := Lib.hid rfl
      cases hpt : (pp == top)
      · have HPT := Lib.hid hpt
        go_enter Try.func31, Try.ntmps31
        go_wp2_with fail
        refine (store_find 6 p.a p.bF p.bL tag v s.ps bs ⟨root, 3, 0⟩ _ (H.below hb3).sf.sh.st (by omega)).mono ?_
        rintro e w1 ⟨rfl, hb1⟩
        rw [HFI.out]
        have hb4 := hb3.trans (hb1.mono hb3.size)
        have q4 := hB4.below hb1 hB4.lt
        have q5 := hB5.below hb1 hB5.lt
        have q6 := hB6.below hb1 hB6.lt
        have z4 := q4.cellv 0 rfl
        have z5 := q5.cellv 0 rfl
        have z6 := q6.cellv 0 rfl
        have l4 := q4.lt
        have l5 := q5.lt
        have l6 := q6.lt
        have q4' := (q4.alloc (.cells #[.slice none 0 0] 45)).alloc (.cells #[.func (.func 71) #[] #[.pointer (some ⟨w1.heap.size, 0, none⟩)]] 76)
        have q5' := (q5.alloc (.cells #[.slice none 0 0] 45)).alloc (.cells #[.func (.func 71) #[] #[.pointer (some ⟨w1.heap.size, 0, none⟩)]] 76)
        have q6' := (q6.alloc (.cells #[.slice none 0 0] 45)).alloc (.cells #[.func (.func 71) #[] #[.pointer (some ⟨w1.heap.size, 0, none⟩)]] 76)
        have qA := Blk.new2 w1 (.cells #[.slice none 0 0] 45) 76 #[.func (.func 71) #[] #[.pointer (some ⟨w1.heap.size, 0, none⟩)]]
        have qO := (Blk.new w1 45 #[.slice none 0 0]).alloc (.cells #[.func (.func 71) #[] #[.pointer (some ⟨w1.heap.size, 0, none⟩)]] 76)
        have hm0 : Mod [] tag (upd tag w1.heap.size 21) w1 ((w1.alloc (.cells #[.slice none 0 0] 45)).alloc (.cells #[.func (.func 71) #[] #[.pointer (some ⟨w1.heap.size, 0, none⟩)]] 76)) := (((Mod.refl [] tag w1).alloc _).alloc _).retag (Nat.le_refl _) 21
        obtain ⟨tag0, htag0⟩ : ∃ t, upd tag w1.heap.size 21 = t := ⟨_, rfl⟩
        have hlow : ∀ b, b < w.heap.size → tag0 b < 20 := fun b hb => by rw [← htag0, upd_other (by omega)]; exact h20 b
        have hz : ∀ b, w.heap.size ≤ b → b ≠ w1.heap.size → tag0 b = 0 := fun b hb hne => by rw [← htag0, upd_other hne]; exact hF b hb
        have hO : tag0 w1.heap.size = 21 := by rw [← htag0]; exact upd_same _ _ _
        rw [htag0] at hm0
        have hF0 : Fresh tag0 ((w1.alloc (.cells #[.slice none 0 0] 45)).alloc (.cells #[.func (.func 71) #[] #[.pointer (some ⟨w1.heap.size, 0, none⟩)]] 76)) := fun b hb => hz b (by simp at hb; omega) (by simp at hb; omega)
        have hg0 : GR tag0 _ p hs most s := ⟨v, bs, (H.below hb4).mod hm0 (by simp)⟩
        have ha0 : AccR tag0 _ w1.heap.size [] _ := ⟨tag0, _, hO, qO, Row.nil _ _ _ _ _, Mod.refl _ _ _, hF0⟩
        have HT4 : Hid (tag0 w.heap.size = 0) := Lib.hid (hz _ (Nat.le_refl _) (by omega))
        have hmid : ∀ (ys : List Int) (pre : List (Int × Int)) (a k : Int) (W' : World), ys.length ≤ 100 → 0 ≤ a → a < 8 → pre.length < 8 → AccR tag0 ((w1.alloc (.cells #[.slice none 0 0] 45)).alloc (.cells #[.func (.func 71) #[] #[.pointer (some ⟨w1.heap.size, 0, none⟩)]] 76)) w1.heap.size (ys ++ pre.flatMap (reachMid s.ps pp ii)) W' →
            Calls Try.prog 73 #[.int .i64 a, .int .i64 k, .pointer (some ⟨w.heap.size + 1, 0, none⟩), .pointer (some ⟨w1.heap.size + 1, 0, none⟩), .pointer (some ⟨w.heap.size + 1 + 1, 0, none⟩), .pointer (some ⟨w.heap.size, 0, none⟩)] W' fun e W'' =>
              e = .returned (.tuple #[]) ∧ AccR tag0 ((w1.alloc (.cells #[.slice none 0 0] 45)).alloc (.cells #[.func (.func 71) #[] #[.pointer (some ⟨w1.heap.size, 0, none⟩)]] 76)) w1.heap.size (ys ++ (pre ++ [(a, k)]).flatMap (reachMid s.ps pp ii)) W'' := by
          intro ys pre a k W' hy h0 h8 hl HW
          have hml : ∀ l : List (Int × Int), (l.flatMap (reachMid s.ps pp ii)).length ≤ 16 * l.length := fun l => by
            induction l with
            | nil => simp
            | cons x l ih => rw [List.flatMap_cons, List.length_append, List.length_cons]; have := mid_len s.ps pp ii x; omega
          have hml := hml pre
          refine (reach_mid tag0 _ w1.heap.size (w.heap.size + 1) (w1.heap.size + 1) (w.heap.size + 1 + 1) w.heap.size p hs most s pp ii (ys ++ pre.flatMap (reachMid s.ps pp ii)) a k W' hg0 HW h0 h8 h3 h4 (by rw [List.length_append]; omega) q5' (hz _ (by omega) (by omega)) qA (hz _ (by omega) (by omega)) q6' (hz _ (by omega) (by omega)) q4' HT4.out).mono ?_
          rintro e W1 ⟨rfl, H1⟩
          refine ⟨rfl, ?_⟩
          rw [List.flatMap_append, List.flatMap_cons, List.flatMap_nil, List.append_nil, ← List.append_assoc]
          exact H1
        have HMID := Lib.hid hmid
        have HG0 := Lib.hid hg0
        have HA0 := Lib.hid ha0
        have HLW := Lib.hid hlow
        have hsz : w.heap.size ≤ w1.heap.size := hb4.size
        have HBB : Below w.heap.size w ((w1.alloc (.cells #[.slice none 0 0] 45)).alloc (.cells #[.func (.func 71) #[] #[.pointer (some ⟨w1.heap.size, 0, none⟩)]] 76)) := (hb4.alloc hb4.size _).alloc (by simp; omega) _
        have HB := Lib.hid HBB
        clear hmid hg0 ha0 hlow hz htag0 hm0 HBB
        go_wp2_with fail
        refine (kids_mid (.pointer (some ⟨w.heap.size + 1, 0, none⟩)) (.pointer (some ⟨w1.heap.size + 1, 0, none⟩)) (.pointer (some ⟨w.heap.size + 1 + 1, 0, none⟩)) (.pointer (some ⟨w.heap.size, 0, none⟩)) (fun l => [] ++ l.flatMap (reachMid s.ps pp ii)) tag0 _ w1.heap.size p hs most s top _ HG0.out (by simpa using HA0.out) (fun pre a' k' W' h0 h8 hl hW => HMID.out [] pre a' k' W' (by simp) h0 h8 hl hW)).mono ?_
        rintro e W2 ⟨rfl, H2⟩
        obtain ⟨tag9, v9, t9, b9, r9, m9, f9⟩ := H2
        obtain ⟨A9, c9, rfl⟩ := r9.val
        have z9 := b9.cellv 0 rfl
        go_wp2_with fail
        go_ret
        refine ⟨_, rfl, ?_, HB.out.trans (m9.belowB (B := w.heap.size) HB.out.size (fun b hb => by have := HLW.out b hb; simp; omega))⟩
        rw [hE.out, HPT.out]
        obtain ⟨⟨hl, hr⟩, ht⟩ := r9
        refine ⟨by simp, ?_⟩
        rcases hr with hr | ⟨g, cap, cur, hv, _, hB, r1, r2, r3, r4⟩
        · exact .inl (by simpa using hr)
        · refine .inr ⟨g, cap, cur, by simpa using hv, ?_, hB, by simpa using r1, by simpa using r2, by simpa using r3, by simpa using r4⟩
          rcases Nat.lt_or_ge g w.heap.size with hlt | hge
          · have h1 := ht g (by rw [hv]; rfl)
            have h2 := m9.tags g (Nat.lt_of_lt_of_le hlt HB.out.size)
            have h3 := HLW.out g hlt
            omega
          · exact hge
      · have HPT := Lib.hid hpt
        go_enter Try.func31, Try.ntmps31
        go_wp2_with fail
        refine (store_find 6 p.a p.bF p.bL tag v s.ps bs ⟨root, 3, 0⟩ _ (H.below hb3).sf.sh.st (by omega)).mono ?_
        rintro e w1 ⟨rfl, hb1⟩
        rw [HFI.out]
        have hb4 := hb3.trans (hb1.mono hb3.size)
        have q4 := hB4.below hb1 hB4.lt
        have q5 := hB5.below hb1 hB5.lt
        have q6 := hB6.below hb1 hB6.lt
        have z4 := q4.cellv 0 rfl
        have z5 := q5.cellv 0 rfl
        have z6 := q6.cellv 0 rfl
        have l4 := q4.lt
        have l5 := q5.lt
        have l6 := q6.lt
        have q4' := (q4.alloc (.cells #[.slice none 0 0] 45)).alloc (.cells #[.func (.func 71) #[] #[.pointer (some ⟨w1.heap.size, 0, none⟩)]] 76)
        have q5' := (q5.alloc (.cells #[.slice none 0 0] 45)).alloc (.cells #[.func (.func 71) #[] #[.pointer (some ⟨w1.heap.size, 0, none⟩)]] 76)
        have q6' := (q6.alloc (.cells #[.slice none 0 0] 45)).alloc (.cells #[.func (.func 71) #[] #[.pointer (some ⟨w1.heap.size, 0, none⟩)]] 76)
        have qA := Blk.new2 w1 (.cells #[.slice none 0 0] 45) 76 #[.func (.func 71) #[] #[.pointer (some ⟨w1.heap.size, 0, none⟩)]]
        have qO := (Blk.new w1 45 #[.slice none 0 0]).alloc (.cells #[.func (.func 71) #[] #[.pointer (some ⟨w1.heap.size, 0, none⟩)]] 76)
        have hm0 : Mod [] tag (upd tag w1.heap.size 21) w1 ((w1.alloc (.cells #[.slice none 0 0] 45)).alloc (.cells #[.func (.func 71) #[] #[.pointer (some ⟨w1.heap.size, 0, none⟩)]] 76)) := (((Mod.refl [] tag w1).alloc _).alloc _).retag (Nat.le_refl _) 21
        obtain ⟨tag0, htag0⟩ : ∃ t, upd tag w1.heap.size 21 = t := ⟨_, rfl⟩
        have hlow : ∀ b, b < w.heap.size → tag0 b < 20 := fun b hb => by rw [← htag0, upd_other (by omega)]; exact h20 b
        have hz : ∀ b, w.heap.size ≤ b → b ≠ w1.heap.size → tag0 b = 0 := fun b hb hne => by rw [← htag0, upd_other hne]; exact hF b hb
        have hO : tag0 w1.heap.size = 21 := by rw [← htag0]; exact upd_same _ _ _
        rw [htag0] at hm0
        have hF0 : Fresh tag0 ((w1.alloc (.cells #[.slice none 0 0] 45)).alloc (.cells #[.func (.func 71) #[] #[.pointer (some ⟨w1.heap.size, 0, none⟩)]] 76)) := fun b hb => hz b (by simp at hb; omega) (by simp at hb; omega)
        have hg0 : GR tag0 _ p hs most s := ⟨v, bs, (H.below hb4).mod hm0 (by simp)⟩
        have ha0 : AccR tag0 _ w1.heap.size [] _ := ⟨tag0, _, hO, qO, Row.nil _ _ _ _ _, Mod.refl _ _ _, hF0⟩
        have HT4 : Hid (tag0 w.heap.size = 0) := Lib.hid (hz _ (Nat.le_refl _) (by omega))
        have hmid : ∀ (ys : List Int) (pre : List (Int × Int)) (a k : Int) (W' : World), ys.length ≤ 100 → 0 ≤ a → a < 8 → pre.length < 8 → AccR tag0 ((w1.alloc (.cells #[.slice none 0 0] 45)).alloc (.cells #[.func (.func 71) #[] #[.pointer (some ⟨w1.heap.size, 0, none⟩)]] 76)) w1.heap.size (ys ++ pre.flatMap (reachMid s.ps pp ii)) W' →
            Calls Try.prog 73 #[.int .i64 a, .int .i64 k, .pointer (some ⟨w.heap.size + 1, 0, none⟩), .pointer (some ⟨w1.heap.size + 1, 0, none⟩), .pointer (some ⟨w.heap.size + 1 + 1, 0, none⟩), .pointer (some ⟨w.heap.size, 0, none⟩)] W' fun e W'' =>
              e = .returned (.tuple #[]) ∧ AccR tag0 ((w1.alloc (.cells #[.slice none 0 0] 45)).alloc (.cells #[.func (.func 71) #[] #[.pointer (some ⟨w1.heap.size, 0, none⟩)]] 76)) w1.heap.size (ys ++ (pre ++ [(a, k)]).flatMap (reachMid s.ps pp ii)) W'' := by
          intro ys pre a k W' hy h0 h8 hl HW
          have hml : ∀ l : List (Int × Int), (l.flatMap (reachMid s.ps pp ii)).length ≤ 16 * l.length := fun l => by
            induction l with
            | nil => simp
            | cons x l ih => rw [List.flatMap_cons, List.length_append, List.length_cons]; have := mid_len s.ps pp ii x; omega
          have hml := hml pre
          refine (reach_mid tag0 _ w1.heap.size (w.heap.size + 1) (w1.heap.size + 1) (w.heap.size + 1 + 1) w.heap.size p hs most s pp ii (ys ++ pre.flatMap (reachMid s.ps pp ii)) a k W' hg0 HW h0 h8 h3 h4 (by rw [List.length_append]; omega) q5' (hz _ (by omega) (by omega)) qA (hz _ (by omega) (by omega)) q6' (hz _ (by omega) (by omega)) q4' HT4.out).mono ?_
          rintro e W1 ⟨rfl, H1⟩
          refine ⟨rfl, ?_⟩
          rw [List.flatMap_append, List.flatMap_cons, List.flatMap_nil, List.append_nil, ← List.append_assoc]
          exact H1
        have HMID := Lib.hid hmid
        have HG0 := Lib.hid hg0
        have HA0 := Lib.hid ha0
        have HLW := Lib.hid hlow
        have hsz : w.heap.size ≤ w1.heap.size := hb4.size
        have HBB : Below w.heap.size w ((w1.alloc (.cells #[.slice none 0 0] 45)).alloc (.cells #[.func (.func 71) #[] #[.pointer (some ⟨w1.heap.size, 0, none⟩)]] 76)) := (hb4.alloc hb4.size _).alloc (by simp; omega) _
        have HB := Lib.hid HBB
        clear hmid hg0 ha0 hlow hz htag0 hm0 HBB
        go_wp2_with fail
        refine (reach_add tag0 _ w1.heap.size [] (ii * 64) 64 _ HA0.out (by omega) (by simp) (by omega) (by omega)).mono ?_
        rintro e W1 ⟨rfl, H1⟩
        have z4 := (H1.keeps q4' HT4.out).cellv 0 rfl
        go_wp2_with fail
        refine (kids_mid (.pointer (some ⟨w.heap.size + 1, 0, none⟩)) (.pointer (some ⟨w1.heap.size + 1, 0, none⟩)) (.pointer (some ⟨w.heap.size + 1 + 1, 0, none⟩)) (.pointer (some ⟨w.heap.size, 0, none⟩)) (fun l => run (ii * 64) 64 ++ l.flatMap (reachMid s.ps pp ii)) tag0 _ w1.heap.size p hs most s top _ HG0.out (by simpa using H1) (fun pre a' k' W' h0 h8 hl hW => HMID.out _ pre a' k' W' (by rw [run_len]; omega) h0 h8 hl hW)).mono ?_
        rintro e W2 ⟨rfl, H2⟩
        obtain ⟨tag9, v9, t9, b9, r9, m9, f9⟩ := H2
        obtain ⟨A9, c9, rfl⟩ := r9.val
        have z9 := b9.cellv 0 rfl
        go_wp2_with fail
        go_ret
        refine ⟨_, rfl, ?_, HB.out.trans (m9.belowB (B := w.heap.size) HB.out.size (fun b hb => by have := HLW.out b hb; simp; omega))⟩
        rw [hE.out, HPT.out]
        obtain ⟨⟨hl, hr⟩, ht⟩ := r9
        refine ⟨by simp, ?_⟩
        rcases hr with hr | ⟨g, cap, cur, hv, _, hB, r1, r2, r3, r4⟩
        · exact .inl (by simpa using hr)
        · refine .inr ⟨g, cap, cur, by simpa using hv, ?_, hB, by simpa using r1, by simpa using r2, by simpa using r3, by simpa using r4⟩
          rcases Nat.lt_or_ge g w.heap.size with hlt | hge
          · have h1 := ht g (by rw [hv]; rfl)
            have h2 := m9.tags g (Nat.lt_of_lt_of_le hlt HB.out.size)
            have h3 := HLW.out g hlt
            omega
          · exact hge
end Go.Proofs.Ytbmbgicdnegkfaa
