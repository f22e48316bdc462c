/- GuardLoose: whatever the input, the call returns true, and each argument reads as it did. No condition. -/
import Derived.Test.YtbmbgicdnegkfaaM7
import Derived.Test.YtbmbgicdnegkfaaRows
import Derived.WalkKit
import Derived.ProofKit
import Derived.OpenShut
import Derived.ShutString
import Derived.ChangeOld
import Derived.Below
/- The walk of the law GuardLoose. -/
namespace Go.Proofs.Ytbmbgicdnegkfaa
open Go Go.RowKit Sil
attribute [local go_sem ↓] Go.wp_at_zero Go.wp_at_succ

theorem mod_hLT {tag tag' tag'' : Nat → Nat} {w w' w'' : World} {T : List Nat} (h : Mod hLT tag tag' w w') (k : Mod T tag' tag'' w' w'') (hT : ∀ x ∈ T, x ∈ hLT) : Mod hLT tag tag'' w w'' := h.trans (k.mono hT)

set_option maxRecDepth 100000 in
set_option maxHeartbeats 4000000 in
theorem walk_loose (l : List WPut) (ops : List GOp) (A B : Option Addr) (c d : Nat) (w : World) (hl : Rd 0 (fun _ => 0) w 3 (.slice A l.length c) l.length (l.flatMap WPut.cs)) (ho : Rd 0 (fun _ => 0) w 11 (.slice B ops.length d) ops.length (ops.flatMap GOp.cs))
    (hln : l.length ≤ maxLen) (hon : ops.length ≤ maxLen) (hwf : ∀ o ∈ ops, (Lit.int .i64 o.p).wf = true) :
    Calls Try.prog 3 #[.slice A l.length c, .slice B ops.length d] w fun e w' => e = .returned (.bool true) ∧ Below w.heap.size w w' := by
  have hfin : Hid (∀ (tag : Nat → Nat) (w' : World), Mod hLT (fun _ => 0) tag w w' → Below w.heap.size w w') := Lib.hid (fun tag w' h => h.belowB (Nat.le_refl _) (fun _ _ => by simp [hLT]))
  cases hgr : (decide (600 < l.length) || decide (120 < ops.length))
  · have HGR := Lib.hid hgr
    have hop : ops.length ≤ 120 := by simp at hgr; omega
    clear hgr
    go_enter Try.func3, Try.ntmps3
    go_wp2_with fail
    refine (law_head (fun _ => 0) _ (fun _ _ => rfl)).mono ?_
    rintro e w1 ⟨rfl, tag1, hM1, hF1⟩
    have hl1 := hl.mod hM1 (by simp [hTT])
    go_wp2_with fail
    refine (law_made l A c tag1 _ hl1 hln hF1).mono ?_
    rintro e w2 ⟨p, bW, tag2, rfl, H2, hM2, hF2⟩
    have hM2' : Mod hLT (fun _ => 0) tag2 w w2 := (hM1.mono (by simp [hTT, hLT])).trans (hM2.mono (by simp [hLT]))
    clear hM1 hF1 hl1 hM2
    go_wp2_with fail
    refine (law_great A B l.length ops.length c d _ (by unfold maxLen at hln; exact hln) (by unfold maxLen at hon; exact hon)).mono ?_
    rintro e w3 ⟨rfl, rfl⟩
    rw [HGR.out]
    have hI2 : Hid (LInv (St.made l)) := Lib.hid (LInv.made l)
    generalize St.made l = s0 at *
    obtain ⟨N, hN⟩ : ∃ N, ops.length = N := ⟨_, rfl⟩
    have HN := Lib.hid hN
    rw [hN] at hop ho ⊢
    clear hN
    have ho2 := ho.mod hM2' (by simp [hLT])
    have HWF := Lib.hid hwf
    clear hwf hl ho
    go_wp2_with fail
    go_loopg [7] N (fun gk k wr => ∃ (j : Nat) (tag : Nat → Nat), j ≤ N ∧ gk = N - j ∧ k = .int .i64 j ∧ LawR tag wr p bW (s0.ops (ops.take j)) ∧ Hid (LInv (s0.ops (ops.take j))) ∧ Rd 0 tag wr 11 (.slice B N d) N (ops.flatMap GOp.cs) ∧ Mod hLT (fun _ => 0) tag w wr ∧ Fresh tag wr)
    case atStart => exact ⟨0, tag2, Nat.zero_le _, rfl, rfl, H2, hI2, ho2, hM2', hF2⟩
    case round =>
      clear H2 hI2 ho2 hM2' hF2
      obtain ⟨j, tag, hj, rfl, rfl, Hj, hIj, hoj, hMj, hFj⟩ := hrel
      by_cases hlt : j < N
      · obtain ⟨o, hx⟩ : ∃ o, ops[j]? = some o := ⟨ops[j]'(by rw [HN.out]; exact hlt), by simp [HN.out, hlt]⟩
        have hstep := Lib.hid (ops_succ hx s0)
        have hwo := HWF.out o (List.mem_of_getElem? hx)
        have hoj' := hoj
        rw [← HN.out] at hoj'
        obtain ⟨gB, oB, rfl, hat, hlB⟩ := op_at hoj' hx
        have HX := Lib.hid hx
        generalize hsj : s0.ops (ops.take j) = s at *
        clear hsj hx hoj'
        have c4 := Hj.blk.cellv 4 rfl
        have q6 := hat.2.2.2.2.2.2.1
        have hltB := Hj.blk.lt
        have hat8 : OpAt wr.drew gB (oB + j * 11) o := hat
        clear hat
        go_wp2_with fail
        go_still_tail 9, (by kernel_rfl)
        change wpList _ _ _ _ _ wr.drew
        have H8 : LawR tag wr.drew p bW s := Hj.mod (T := []) ((Mod.refl [] tag wr).drew) (by simp)
        have F8 : Fresh tag wr.drew := hFj
        have M8 := hMj.drew
        have oj8 := hoj.mod (T := []) ((Mod.refl [] tag wr).drew) (by simp)
        generalize wr.drew = w8 at H8 F8 M8 oj8 hat8 ⊢
        clear Hj hoj hMj hFj c4 q6 hltB hlB
        go_wp2_with fail
        refine (guard_loose tag p lawHs 8 s o.to _ H8.gr).mono ?_
        rintro e w9 ⟨rfl, rfl⟩
        obtain ⟨q0, q1, q2, q3, q4, q5, q6, q7, q8, q9, q10⟩ := hat8
        obtain ⟨was, hwas⟩ : ∃ b, s.isLoose o.to = b := ⟨_, rfl⟩
        obtain ⟨is_, his⟩ : ∃ b, s.opIs o = b := ⟨_, rfl⟩
        obtain ⟨lo, hlo⟩ : ∃ b, (s.op o).isLoose o.to = b := ⟨_, rfl⟩
        have HB : Hid (o.what = 8 → (is_ && was) = false ∧ is_ = (lo && !was)) := Lib.hid (by rw [← hwas, ← his, ← hlo]; exact loosen_says s o)
        have HWS := Lib.hid hwas
        have HIS := Lib.hid his
        have HLO := Lib.hid hlo
        rw [HWS.out]
        clear hwas his hlo
        go_wp2_with fail
        refine (law_do tag p bW s o _ H8 F8 hIj.out.inv hIj.out.hl hwo).mono ?_
        rintro e w9 ⟨rfl, tag9, H9, M9, F9⟩
        rw [HIS.out]
        have MM := mod_hLT M8 M9 (by simp [hLT])
        have oj9 := oj8.mod M9 (by simp)
        have hIs := Lib.hid (hIj.out.op o)
        generalize s.op o = s' at *
        clear H8 F8 M8 oj8 M9 q0 q1 q2 q3 q4 q5 q6 q7 q8 q9 q10 hIj
        have oj9' := oj9
        rw [← HN.out] at oj9'
        obtain ⟨g', o', e', hat9, hl9⟩ := op_at oj9' HX.out
        cases e'
        have q0 := hat9.1
        have q6 := hat9.2.2.2.2.2.2.1
        have c4 := H9.blk.cellv 4 rfl
        have hltB := H9.blk.lt
        clear hat9 oj9' HX
        go_upto_region 10 with fail
        go_cut [83] (fun s83 wx => s83 = .bool false ∧ Below w9.heap.size w9 wx)
        case first =>
          by_cases hw : o.what = 8
          · rw [hw] at q0
            obtain ⟨b1, b2⟩ := HB.out hw
            have hq : ∀ n : Nat, Calls Try.prog 13 #[.pointer (some ⟨p.d, 0, none⟩), .int .i64 o.to] (w9.drewN n) fun e w'' => e = .returned (.bool lo) ∧ ∃ m, w'' = w9.drewN m := fun n => by
              refine (guard_loose tag9 p lawHs 8 s' o.to _ (H9.gr.mod (T := []) ((Mod.refl [] tag9 w9).drewN n) (by simp))).mono ?_
              rintro e w' ⟨rfl, rfl⟩
              exact ⟨by rw [HLO.out], n, rfl⟩
            have HQ := Lib.hid hq
            clear hq
            cases is_ <;> cases was <;> cases lo <;> first | (exfalso; revert b1 b2; decide) | skip
            all_goals
              clear b1 b2 HB HIS HWS hw
              go_quiet ((go_at_call 13; exact HQ.out _))
              generalize hwq : World.drewN w9 _ = wq
              have hBq : Below w9.heap.size w9 wq := by rw [← hwq]; exact ⟨rfl, rfl, rfl, Nat.le_refl _, fun _ _ => rfl⟩
              go_wp2_with fail
              go_meet
              exact ⟨rfl, hBq⟩
          · have hw0 : (o.what == 8) = false := by simp [hw]
            clear hw
            go_quiet (fail)
            generalize hwq : World.drewN w9 _ = wq
            have hBq : Below w9.heap.size w9 wq := by rw [← hwq]; exact ⟨rfl, rfl, rfl, Nat.le_refl _, fun _ _ => rfl⟩
            go_wp2_with fail
            go_meet
            exact ⟨rfl, hBq⟩
        case rest =>
          obtain ⟨rfl, hbc⟩ := hcut
          have Hc := H9.below hbc
          have Fc := F9.mono hbc.size
          have Mc := MM.trans (Mod.of_below hbc)
          have ojc := oj9.mod (T := []) (Mod.of_below hbc) (by simp)
          clear H9 F9 MM oj9 hbc q0 q6 c4 hltB HB HIS HWS HLO
          go_wp2_with fail
          go_loopg [11] 16 (fun gm k wi => ∃ i : Nat, i ≤ 16 ∧ gm = 16 - i ∧ k = .int .i64 i ∧ Below wc.heap.size wc wi)
          case atStart => exact ⟨0, by omega, rfl, rfl, Below.refl _ _⟩
          case round =>
            obtain ⟨i, hi, rfl, rfl, hBi⟩ := hrel
            obtain ⟨wi, rfl⟩ : ∃ wi : World, wi = wr := ⟨_, rfl⟩
            by_cases hlt2 : i < 16
            · have Hi := Hc.below hBi
              have Fi := Fc.mono hBi.size
              obtain ⟨v, bs, HG⟩ := law_gx Hi
              have hpl := HG.pl
              have c2 := Hi.blk.cellv 2 rfl
              have hof : (sOf s'.ps i).length ≤ 1000 := by unfold sOf; rw [List.length_map]; exact Nat.le_trans (List.length_filter_le _ _) hpl
              have hpr : Hid (s'.prot i = (!(sOf s'.ps i).isEmpty && !s'.isLoose i)) := Lib.hid rfl
              cases hlo : s'.isLoose i
              · have HLO := Lib.hid hlo
                cases hL : sOf s'.ps i with
                | nil =>
                  have HL := Lib.hid hL
                  have HPR : Hid (s'.prot i = false) := Lib.hid (by rw [hpr.out, hL, hlo]; rfl)
                  clear hlo hL hpr hof
                  go_wp2_with fail
                  refine (store_of 6 p.a p.bF p.bL tag9 v s'.ps bs i _ HG.sf.sh.st (by omega)).mono ?_
                  rintro e w2 ⟨v', rfl, hown, hB2⟩
                  rw [HL.out] at hown
                  obtain ⟨A2, c2', rfl⟩ := own_val hown
                  have hB3 := hB2.alloc hB2.size (.cells #[.int .i64 0, .int .i64 0, .int .i64 0] 37)
                  have H3 := Hi.below hB3
                  have c4 := H3.blk.cellv 4 rfl
                  have hlw := H3.blk.lt
                  clear hown c2 hB2
                  go_wp2_with fail
                  refine (guard_loose tag9 p lawHs 8 s' i _ H3.gr).mono ?_
                  rintro e w4 ⟨rfl, rfl⟩
                  rw [HLO.out]
                  go_wp2_with fail
                  refine (guard_protected tag9 p lawHs 8 s' i _ H3.gr).mono ?_
                  rintro e w5 ⟨rfl, hB5⟩
                  rw [HPR.out]
                  have hBw := hBi.trans ((hB3.trans (hB5.mono hB3.size)).mono hBi.size)
                  go_wp2_with fail
                  go_roundg (16 - (i + 1))
                  case measure => omega
                  case rel => exact ⟨i + 1, by omega, rfl, by go_num, hBw⟩
                | cons f r =>
                  have HPR : Hid (s'.prot i = true) := Lib.hid (by rw [hpr.out, hL, hlo]; rfl)
                  have HL := Lib.hid hL
                  obtain ⟨key, hkey⟩ : ∃ key, sKey s'.ps f = key := ⟨_, rfl⟩
                  have HK := Lib.hid hkey
                  obtain ⟨kg, kl, kr⟩ := key
                  clear hlo hL hpr hkey
                  have hrl : r.length ≤ 1000 := by rw [HL.out] at hof; simp at hof; omega
                  go_wp2_with fail
                  refine (store_of 6 p.a p.bF p.bL tag9 v s'.ps bs i _ HG.sf.sh.st (by omega)).mono ?_
                  rintro e w2 ⟨v', rfl, hown, hB2⟩
                  rw [HL.out] at hown
                  have hrow := Row.of_new hown Fi
                  obtain ⟨A2, c2', rfl⟩ := own_val hown
                  obtain ⟨gL, oL, rfl, qL, hlL⟩ := hrow.rd.at_ (j := 0) (u := .int .i64 f) rfl
                  rw [Nat.add_zero] at qL
                  have hB3 := hB2.alloc hB2.size (.cells #[.int .i64 0, .int .i64 0, .int .i64 0] 37)
                  have hX := Blk.new w2 37 #[.int .i64 0, .int .i64 0, .int .i64 0]
                  have H3 := Hi.below hB3
                  have c2w := (Hi.below hB2).blk.cellv 2 rfl
                  have hlw := (Hi.below hB2).blk.lt
                  obtain ⟨v3, bs3, HG3⟩ := law_gx H3
                  have S3 : StoreX 6 tag9 (w2.alloc (.cells #[.int .i64 0, .int .i64 0, .int .i64 0] 37)).drew p.a p.bF p.bL v3 s'.ps bs3 := HG3.sf.sh.st.heap rfl
                  have HS3 := Lib.hid S3
                  have z0 := hX.cellv 0 rfl
                  have z1 := hX.cellv 1 rfl
                  have z2 := hX.cellv 2 rfl
                  clear S3 HG3 hown c2
                  go_upto_region 18 with fail
                  go_cut [13] (fun s13 wx => s13 = .pointer (some ⟨w2.heap.size, 0, none⟩) ∧ Blk wx w2.heap.size 37 #[.int .i64 kg, .int .i64 kl, .int .i64 kr] ∧ Below wi.heap.size wi wx)
                  case first =>
                    go_region_with (go_at_call 16; refine (store_key 6 p.a p.bF p.bL tag9 v3 s'.ps bs3 f _ (by with_reducible exact HS3.out) (by omega)).mono ?_; rintro e w4 ⟨rfl, hB4⟩; rw [HK.out]; simp only [Key.cs]; have hZ := hX.below (below_drew hB4) hX.lt; have y0 := hZ.cellv 0 rfl; have y1 := hZ.cellv 1 rfl; have y2 := hZ.cellv 2 rfl; have g0 := hZ.frozen 0; have g1 := hZ.frozen 1; have g2 := hZ.frozen 2)
                    all_goals
                      go_wp2_with fail
                      go_meet
                      have hB5 := hB3.trans ((below_drew hB4).mono hB3.size)
                      exact ⟨rfl, ((hZ.set_ 0 _).set_ 1 _).set_ 2 _, ((hB5.setCell hB2.size _).setCell hB2.size _).setCell hB2.size _⟩
                  case rest =>
                    obtain ⟨rfl, hXc, hBw0⟩ := hcut
                    clear HS3 H3 z0 z1 z2 hX hrow
                    have H6 := Hi.below hBw0
                    have c4 := H6.blk.cellv 4 rfl
                    go_wp2_with fail
                    refine (guard_loose tag9 p lawHs 8 s' i _ H6.gr).mono ?_
                    rintro e w4 ⟨rfl, rfl⟩
                    rw [HLO.out]
                    go_wp2_with fail
                    refine (guard_protected tag9 p lawHs 8 s' i _ H6.gr).mono ?_
                    rintro e w5 ⟨rfl, hB5⟩
                    rw [HPR.out]
                    have H7 := H6.below hB5
                    have c4 := H7.blk.cellv 4 rfl
                    have hBw := hBi.trans ((hBw0.trans (hB5.mono hBw0.size)).mono hBi.size)
                    clear H6
                    go_wp2_with fail
                    refine (guard_loose tag9 p lawHs 8 s' i _ H7.gr).mono ?_
                    rintro e w6 ⟨rfl, rfl⟩
                    rw [HLO.out]
                    go_wp2_with fail
                    go_roundg (16 - (i + 1))
                    case measure => omega
                    case rel => exact ⟨i + 1, by omega, rfl, by go_num, hBw⟩
              · have HLO := Lib.hid hlo
                obtain ⟨f, hL, hlev⟩ := loose_one hIs.out.inv hlo
                obtain ⟨r, hr⟩ : ∃ r : List Int, r = [] := ⟨_, rfl⟩
                rw [← hr] at hL
                have HPR : Hid (s'.prot i = false) := Lib.hid (by rw [hpr.out, hlo]; simp)
                have HLV := Lib.hid hlev
                clear hlev
                have HL := Lib.hid hL
                obtain ⟨key, hkey⟩ : ∃ key, sKey s'.ps f = key := ⟨_, rfl⟩
                have HK := Lib.hid hkey
                obtain ⟨kg, kl, kr⟩ := key
                clear hlo hL hpr hkey
                have hrl : r.length ≤ 1000 := by rw [HL.out] at hof; simp at hof; omega
                go_wp2_with fail
                refine (store_of 6 p.a p.bF p.bL tag9 v s'.ps bs i _ HG.sf.sh.st (by omega)).mono ?_
                rintro e w2 ⟨v', rfl, hown, hB2⟩
                rw [HL.out] at hown
                have hrow := Row.of_new hown Fi
                obtain ⟨A2, c2', rfl⟩ := own_val hown
                obtain ⟨gL, oL, rfl, qL, hlL⟩ := hrow.rd.at_ (j := 0) (u := .int .i64 f) rfl
                rw [Nat.add_zero] at qL
                have hB3 := hB2.alloc hB2.size (.cells #[.int .i64 0, .int .i64 0, .int .i64 0] 37)
                have hX := Blk.new w2 37 #[.int .i64 0, .int .i64 0, .int .i64 0]
                have H3 := Hi.below hB3
                have c2w := (Hi.below hB2).blk.cellv 2 rfl
                have hlw := (Hi.below hB2).blk.lt
                obtain ⟨v3, bs3, HG3⟩ := law_gx H3
                have S3 : StoreX 6 tag9 (w2.alloc (.cells #[.int .i64 0, .int .i64 0, .int .i64 0] 37)).drew p.a p.bF p.bL v3 s'.ps bs3 := HG3.sf.sh.st.heap rfl
                have HS3 := Lib.hid S3
                have z0 := hX.cellv 0 rfl
                have z1 := hX.cellv 1 rfl
                have z2 := hX.cellv 2 rfl
                clear S3 HG3 hown c2
                go_upto_region 18 with fail
                go_cut [13] (fun s13 wx => s13 = .pointer (some ⟨w2.heap.size, 0, none⟩) ∧ Blk wx w2.heap.size 37 #[.int .i64 kg, .int .i64 kl, .int .i64 kr] ∧ Below wi.heap.size wi wx)
                case first =>
                  go_region_with (go_at_call 16; refine (store_key 6 p.a p.bF p.bL tag9 v3 s'.ps bs3 f _ (by with_reducible exact HS3.out) (by omega)).mono ?_; rintro e w4 ⟨rfl, hB4⟩; rw [HK.out]; simp only [Key.cs]; have hZ := hX.below (below_drew hB4) hX.lt; have y0 := hZ.cellv 0 rfl; have y1 := hZ.cellv 1 rfl; have y2 := hZ.cellv 2 rfl; have g0 := hZ.frozen 0; have g1 := hZ.frozen 1; have g2 := hZ.frozen 2)
                  all_goals
                    go_wp2_with fail
                    go_meet
                    have hB5 := hB3.trans ((below_drew hB4).mono hB3.size)
                    exact ⟨rfl, ((hZ.set_ 0 _).set_ 1 _).set_ 2 _, ((hB5.setCell hB2.size _).setCell hB2.size _).setCell hB2.size _⟩
                case rest =>
                  obtain ⟨rfl, hXc, hBw0⟩ := hcut
                  clear HS3 H3 z0 z1 z2 hX hrow
                  have hk1 : kl = 1 := by have := HLV.out; rw [HK.out] at this; exact this
                  have hr0 : r = [] := hr
                  subst hk1 hr0
                  have k1 := hXc.cellv 1 rfl
                  have H6 := Hi.below hBw0
                  have c4 := H6.blk.cellv 4 rfl
                  go_wp2_with fail
                  refine (guard_loose tag9 p lawHs 8 s' i _ H6.gr).mono ?_
                  rintro e w4 ⟨rfl, rfl⟩
                  rw [HLO.out]
                  go_wp2_with fail
                  refine (guard_protected tag9 p lawHs 8 s' i _ H6.gr).mono ?_
                  rintro e w5 ⟨rfl, hB5⟩
                  rw [HPR.out]
                  have H7 := H6.below hB5
                  have c4 := H7.blk.cellv 4 rfl
                  have hBw := hBi.trans ((hBw0.trans (hB5.mono hBw0.size)).mono hBi.size)
                  clear H6
                  go_wp2_with fail
                  refine (guard_loose tag9 p lawHs 8 s' i _ H7.gr).mono ?_
                  rintro e w6 ⟨rfl, rfl⟩
                  rw [HLO.out]
                  go_wp2_with fail
                  go_roundg (16 - (i + 1))
                  case measure => omega
                  case rel => exact ⟨i + 1, by omega, rfl, by go_num, hBw⟩
            · have hi' : i = 16 := by omega
              subst hi'
              go_wp2_with fail
              go_roundg (N - (j + 1))
              case measure => omega
              case rel => exact ⟨j + 1, tag9, by omega, rfl, by go_num, by rw [hstep.out]; exact Hc.below hBi, by rw [hstep.out]; exact hIs, ojc.mod (T := []) (Mod.of_below hBi) (by simp), Mc.trans (Mod.of_below hBi), Fc.mono hBi.size⟩
      · have hj' : j = N := by omega
        subst hj'
        go_wp2_with fail
        go_ret
        exact ⟨rfl, hfin.out _ _ hMj⟩
  · have HGR := Lib.hid hgr
    clear hgr
    go_enter Try.func3, Try.ntmps3
    go_wp2_with fail
    refine (law_head (fun _ => 0) _ (fun _ _ => rfl)).mono ?_
    rintro e w1 ⟨rfl, tag1, hM1, hF1⟩
    have hl1 := hl.mod hM1 (by simp [hTT])
    go_wp2_with fail
    refine (law_made l A c tag1 _ hl1 hln hF1).mono ?_
    rintro e w2 ⟨p, bW, tag2, rfl, H2, hM2, hF2⟩
    have hM2' : Mod hLT (fun _ => 0) tag2 w w2 := (hM1.mono (by simp [hTT, hLT])).trans (hM2.mono (by simp [hLT]))
    clear hM1 hF1 hl1 hM2
    go_wp2_with fail
    refine (law_great A B l.length ops.length c d _ (by unfold maxLen at hln; exact hln) (by unfold maxLen at hon; exact hon)).mono ?_
    rintro e w3 ⟨rfl, rfl⟩
    rw [HGR.out]
    go_wp2_with fail
    go_ret
    exact ⟨rfl, hfin.out _ _ hM2'⟩
end Go.Proofs.Ytbmbgicdnegkfaa

/- GuardLoose: whatever the input, the call returns true, and each argument reads as it did. No condition. -/
namespace Go.Proofs.Ytbmbgicdnegkfaa
open Go Go.ChangeShapes Go.WideShapes Go.ChangeAt Go.RowKit Sil

theorem own_loose : ownKnob Try.prog.godebug = none := by kernel_rfl
theorem laid_loose : laidOutB Try.prog = true := by kernel_rfl

set_option maxRecDepth 100000 in
set_option maxHeartbeats 2000000 in
theorem lifted_loose (os : Os) (started : os.Started) (H : Type) (enc : TypeId × Value → H) :
    ReturnsInHanded {} Try.checked os 3 .any (Rows.guardLooseSpec.pre6 enc Try.prog Try.f3 Rows.guardLooseRow.domain false) (Rows.guardLooseSpec.post enc Try.prog Try.f3 false true false false) := by
  refine returnsInHanded_of_change (C := Try.checked) own_loose started (by kernel_rfl) Try.func3
    (ChangeSpec.witness6 (enc := enc) (C := Try.checked) false ⟨#[], #[.slice none 0 0, .slice none 0 0], []⟩ 8 (by kernel_rfl) (by kernel_rfl) (by kernel_rfl) (by kernel_rfl)) ?_
  intro W base args ds gs before hval0 hW hcnd _
  have hval : ∀ (j : Nat) t v, Try.f3.params[j]? = some t → args[j]? = some v → Value.okWide Try.prog W .any base t v := hval0
  have hW' := hW
  obtain ⟨p, q, hA0, hV, rfl, hfz, hnd⟩ := hW
  have hA : DataW.TrodAll enc Try.prog W 0 (fun _ => true) true Try.f3.params.toList args.toList ds p := hA0
  rw [Try.params3] at hA hval
  obtain ⟨v0, vs0, d0, ds0, p0, q0, hargs, rfl, rfl, h0, r0⟩ := trodAll_cons hA
  obtain ⟨v1, vs1, d1, ds1, p1, q1, rfl, rfl, rfl, h1, r1⟩ := trodAll_cons r0
  obtain ⟨rfl, rfl, rfl⟩ := trodAll_nil r1
  obtain rfl : args = #[v0, v1] := by cases args; simp_all
  obtain ⟨rfl, rfl⟩ := trodVars_none hV
  obtain ⟨a0, len0, cap0, rfl⟩ := okWide_slice Try.underlying22 (hval 0 22 v0 rfl rfl)
  obtain ⟨a1, len1, cap1, rfl⟩ := okWide_slice Try.underlying23 (hval 1 23 v1 rfl rfl)
  have k0 := h0
  have k1 := h1
  have lt0 : ∀ x ∈ p0, x.block < W.heap.size := by obtain ⟨m, hm⟩ := k0; exact DataW.trod_lt m _ _ _ hm
  have lt1 : ∀ x ∈ p1, x.block < W.heap.size := by obtain ⟨m, hm⟩ := k1; exact DataW.trod_lt m _ _ _ hm
  obtain ⟨fuel0, hf0⟩ := h0
  obtain ⟨A, c, l, e0, hl, hln, _⟩ := open_puts (v := .slice a0 len0 cap0) (by simpa [Value.cells] using hf0)
  obtain ⟨fuel1, hf1⟩ := h1
  obtain ⟨B, d, ops, e1, ho, hon, hok⟩ := open_gops (v := .slice a1 len1 cap1) (by simpa [Value.cells] using hf1)
  injection e0 with x1 x2 x3
  subst x1 x2 x3
  injection e1 with y1 y2 y3
  subst y1 y2 y3
  clear hA0 hval0
  refine (walk_loose l ops _ _ _ _ W hl ho hln hon (fun o hm => (hok o hm).2.1)).mono fun e W' ⟨he, bel⟩ => ?_
  subst he
  exact ⟨_, rfl, _, _, _, [], _, [], hW', trodAll_mk1 (shut_bool Try.underlying4 _), (trodAll_cons_mk (Below.trod laid_loose (by kernel_rfl) (of_decide_eq_true (by kernel_rfl)) k0 bel lt0) (trodAll_cons_mk (Below.trod laid_loose (by kernel_rfl) (of_decide_eq_true (by kernel_rfl)) k1 bel lt1) trodAll_mk0)), rfl, bel.frame _, fun h => by cases h⟩

theorem over_loose : Rows.guardLooseRow.holds Try.pinned (OpenSpec.ofChange Rows.guardLooseSpec) :=
  OpenClaim.holds_of_wide 3 Try.f3 rfl rfl rfl rfl rfl rfl rfl ⟨rfl, rfl, rfl, rfl, rfl⟩ rfl rfl rfl rfl rfl (by kernel_rfl) Try.func3 (by kernel_rfl)
    (of_decide_eq_true (by kernel_rfl)) (by unfold Func.isWrapper; first | (rw [if_pos (by decide +kernel)]; kernel_rfl) | (rw [if_neg (by decide +kernel)]; exact ⟨rfl, rfl⟩))
    (fun os started H enc _ => lifted_loose os started H enc)

theorem guardLoose_holds : Rows.GuardLooseSaid := over_loose
#print axioms guardLoose_holds
end Go.Proofs.Ytbmbgicdnegkfaa
