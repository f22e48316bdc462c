/- GuardForbids: whatever the input, the call returns true, and each argument reads as it did. No condition. -/
import Derived.Test.YtbmbgicdnegkfaaM7
import Derived.Deep.CutBlock
import Derived.Test.YtbmbgicdnegkfaaRows
import Derived.WalkKit
import Derived.ProofKit
import Derived.OpenShut
import Derived.ShutString
import Derived.ChangeOld
import Derived.Below
import Derived.Lib.SmallJoins
set_option linter.unusedVariables false
set_option linter.unusedSimpArgs false
/- The law's walks: writable; a hit that is put. -/
namespace Go.Proofs.Ytbmbgicdnegkfaa
open Go Go.RowKit Sil
attribute [local go_sem ↓] Go.wp_at_zero Go.wp_at_succ

theorem law_put (tag : Nat → Nat) (p : Pt) (bW : Nat) (s : St) (h : Hit) (w : World) (H : LawR tag w p bW s) (hF : Fresh tag w) (hh : s.hits.length ≤ 8) :
    Calls Try.prog 18 #[.pointer (some ⟨p.bT, 0, none⟩), .agg h.cs.toArray] w fun e w' => e = .returned (.tuple #[]) ∧ ∃ tag', LawR tag' w' p bW (s.put 8 h) ∧ Mod [12, 13] tag tag' w w' ∧ Fresh tag' w' := by
  obtain ⟨v, bs, HG⟩ := law_gx H
  refine (tlb_put 12 p.bT tag 8 s.hits h _ HG.tl (by omega) (by omega) hF (by omega)).mono ?_
  rintro e w3 ⟨rfl, tag3, H3, hM3, hF3⟩
  have hl := tPut_len8 h hh
  exact ⟨rfl, tag3, H.to hM3 (by simp) ⟨v, bs, ⟨HG.sf.mod hM3 (by simp), HG.mp.mod hM3 (by simp) (by simp) (by simp), hM3.tagOf HG.gb HG.gt, HG.gb.mod hM3 (by rw [HG.gt]; simp), H3, HG.gd.mod hM3 (by simp) (by simp), HG.pl, HG.ll, (by show (tPut 8 s.hits h).length ≤ 1000; omega), HG.m1⟩⟩, hM3, hF3⟩

theorem cell_set_far {w : World} {b o c i : Nat} {u : Value} (h : c ≠ b) : (w.setCell ⟨b, o, none⟩ u).cell? ⟨c, i, none⟩ = w.cell? ⟨c, i, none⟩ := World.cell?_of_block (w := w) (Below.heap_setCell w ⟨b, o, none⟩ u c h)
theorem writes_snoc (s : St) (l : List At) (a : At) : writes s (l ++ [a]) = (writes s l || (sSlot s.ps a.g a.i).r.w) := by simp [writes]

set_option maxRecDepth 100000 in
set_option maxHeartbeats 2000000 in
theorem law_writable (tag : Nat → Nat) (p : Pt) (bW : Nat) (s : St) (g : Int) (w : World) (H : LawR tag w p bW s) (hF : Fresh tag w) :
    Calls Try.prog 19 #[.pointer (some ⟨bW, 0, none⟩), .int .i64 g] w fun e w' => e = .returned (.bool (s.writable g)) ∧ Below w.heap.size w w' := by
  have hwd : Hid (s.writable g = writes s (sTold s.ps 2 g)) := Lib.hid rfl
  obtain ⟨v, bs, HG⟩ := law_gx H
  have hpl := HG.pl
  have c2 := H.blk.cellv 2 rfl
  generalize hats : sTold s.ps 2 g = ats at *
  have HATS := Lib.hid hats
  have hN : ats.length ≤ 8000 := by rw [← hats]; unfold sTold; rw [List.length_map]; exact Nat.le_trans (List.length_filter_le _ _) (by rw [stAts_len]; omega)
  clear hats
  go_enter Try.func19, Try.ntmps19
  go_wp2_with fail
  refine (store_leaves p.a p.bF p.bL tag v s.ps bs g _ HG.sf.sh.st (by omega)).mono ?_
  rintro e w1 ⟨v', rfl, hown, hB⟩
  rw [HATS.out] at hown
  have hrow := Row.of_new hown hF
  obtain ⟨A, c, rfl⟩ := own_val hown
  clear hown
  go_wp2_with fail
  go_loopg [6] ats.length (fun gk k wr => ∃ j : Nat, j ≤ ats.length ∧ gk = ats.length - j ∧ k = .int .i64 j ∧ Hid (writes s (ats.take j) = false) ∧ Below w.heap.size w wr ∧ Row 0 tag wr 111 2 (.slice A ats.length c) ats.length (ats.flatMap At.cs))
  case atStart => exact ⟨0, Nat.zero_le _, rfl, rfl, Lib.hid rfl, hB, hrow⟩
  case round =>
    obtain ⟨j, hj, rfl, rfl, hwj, hBj, hrj⟩ := hrel
    by_cases hlt : j < ats.length
    · obtain ⟨x, hx⟩ : ∃ x, ats[j]? = some x := ⟨ats[j], by simp [hlt]⟩
      have hstep : Hid (writes s (ats.take (j + 1)) = (writes s (ats.take j) || (sSlot s.ps x.g x.i).r.w)) := Lib.hid (by
        have := (List.getElem?_eq_some_iff.1 hx).2
        rw [List.take_succ_eq_append_getElem hlt, this, writes_snoc])
      have hmem : Hid (x ∈ ats) := Lib.hid (List.mem_of_getElem? hx)
      have y0 := ats_cell hx 0 (by omega)
      have y1 := ats_cell hx 1 (by omega)
      obtain ⟨ag, ai⟩ := x
      obtain ⟨ga, rfl⟩ : ∃ ga, A = some ⟨ga, 0, none⟩ := by
        rcases hrj.form with ⟨_, h0, _⟩ | ⟨ga, cap, cur, hv, _⟩
        · omega
        · injection hv with hv1; exact ⟨ga, hv1⟩
      obtain ⟨gb0, ob0, eb0, q0, hlq⟩ := hrj.rd.at_ (j := j * 2 + 0) (u := .int .i64 ag) (by rw [y0]; rfl)
      cases eb0
      rw [Nat.zero_add, Nat.add_zero] at q0
      obtain ⟨gb1, ob1, eb1, q1, _⟩ := hrj.rd.at_ (j := j * 2 + 1) (u := .int .i64 ai) (by rw [y1]; rfl)
      cases eb1
      rw [Nat.zero_add] at q1
      clear y0 y1 hx
      have Hj := H.below hBj
      have c2' := Hj.blk.cellv 2 rfl
      have hltd := Hj.blk.lt
      obtain ⟨vj, bsj, Hx⟩ := law_gx Hj
      obtain ⟨sk, hsk⟩ : ∃ sk, sSlot s.ps ag ai = sk := ⟨_, rfl⟩
      have HSK := Lib.hid hsk
      rw [hsk] at hstep
      clear hsk
      obtain ⟨xk, xt, ⟨xw, xu, xx⟩⟩ := sk
      have hb1 : Below wr.heap.size wr (wr.alloc (.cells #[.int .i64 0, .int .i64 0, .bool false, .bool false, .bool false] 62)) := (Below.refl _ wr).alloc (Nat.le_refl _) _
      have s1 : StoreX 6 tag wr.drew p.a p.bF p.bL vj s.ps bsj := Hx.sf.sh.st.heap rfl
      have s2 : StoreX 6 tag (wr.alloc (.cells #[.int .i64 0, .int .i64 0, .bool false, .bool false, .bool false] 62)).drew p.a p.bF p.bL vj s.ps bsj := (Hx.below hb1).sf.sh.st.heap rfl
      have zb : ∀ w2, Below (wr.alloc (.cells #[.int .i64 0, .int .i64 0, .bool false, .bool false, .bool false] 62)).drew.heap.size (wr.alloc (.cells #[.int .i64 0, .int .i64 0, .bool false, .bool false, .bool false] 62)).drew w2 → Blk w2 wr.heap.size 62 #[.int .i64 0, .int .i64 0, .bool false, .bool false, .bool false] := fun w2 hb2 => (held_set hb2).1
      have ZB := Lib.hid zb
      clear zb hb1
      have k1 : (wr.drew.cell? ⟨bW, 2, none⟩ = some (.pointer (some ⟨p.a, 0, none⟩)) ∧ wr.drew.cell? ⟨ga, j * 2, none⟩ = some (.int .i64 ag) ∧ wr.drew.cell? ⟨ga, j * 2 + 1, none⟩ = some (.int .i64 ai)) := ⟨c2', q0, q1⟩
      have k2 : ((wr.alloc (.cells #[.int .i64 0, .int .i64 0, .bool false, .bool false, .bool false] 62)).drew.cell? ⟨bW, 2, none⟩ = some (.pointer (some ⟨p.a, 0, none⟩)) ∧ (wr.alloc (.cells #[.int .i64 0, .int .i64 0, .bool false, .bool false, .bool false] 62)).drew.cell? ⟨ga, j * 2, none⟩ = some (.int .i64 ag) ∧ (wr.alloc (.cells #[.int .i64 0, .int .i64 0, .bool false, .bool false, .bool false] 62)).drew.cell? ⟨ga, j * 2 + 1, none⟩ = some (.int .i64 ai)) := ⟨(Hj.blk.alloc _).cellv 2 rfl, (World.cell?_alloc_some wr _ _ (by rw [q0]; rfl)).trans q0, (World.cell?_alloc_some wr _ _ (by rw [q1]; rfl)).trans q1⟩
      have k3 : ∀ w2, Below wr.drew.heap.size wr.drew w2 → (w2.cell? ⟨bW, 2, none⟩ = some (.pointer (some ⟨p.a, 0, none⟩)) ∧ w2.cell? ⟨ga, j * 2, none⟩ = some (.int .i64 ag) ∧ w2.cell? ⟨ga, j * 2 + 1, none⟩ = some (.int .i64 ai)) := fun w2 hb2 => ⟨(hb2.cell (p := ⟨bW, 2, none⟩) hltd).trans k1.1, (hb2.cell (p := ⟨ga, j * 2, none⟩) hlq).trans k1.2.1, (hb2.cell (p := ⟨ga, j * 2 + 1, none⟩) hlq).trans k1.2.2⟩
      have k4 : ∀ w2, Below (wr.alloc (.cells #[.int .i64 0, .int .i64 0, .bool false, .bool false, .bool false] 62)).drew.heap.size (wr.alloc (.cells #[.int .i64 0, .int .i64 0, .bool false, .bool false, .bool false] 62)).drew w2 → (w2.cell? ⟨bW, 2, none⟩ = some (.pointer (some ⟨p.a, 0, none⟩)) ∧ w2.cell? ⟨ga, j * 2, none⟩ = some (.int .i64 ag) ∧ w2.cell? ⟨ga, j * 2 + 1, none⟩ = some (.int .i64 ai)) := fun w2 hb2 => ⟨(hb2.cell (p := ⟨bW, 2, none⟩) (by simp; omega)).trans k2.1, (hb2.cell (p := ⟨ga, j * 2, none⟩) (by simp; omega)).trans k2.2.1, (hb2.cell (p := ⟨ga, j * 2 + 1, none⟩) (by simp; omega)).trans k2.2.2⟩
      have k5 : ∀ (W : World) (o : Obj), (W.cell? ⟨bW, 2, none⟩ = some (.pointer (some ⟨p.a, 0, none⟩)) ∧ W.cell? ⟨ga, j * 2, none⟩ = some (.int .i64 ag) ∧ W.cell? ⟨ga, j * 2 + 1, none⟩ = some (.int .i64 ai)) → ((W.alloc o).cell? ⟨bW, 2, none⟩ = some (.pointer (some ⟨p.a, 0, none⟩)) ∧ (W.alloc o).cell? ⟨ga, j * 2, none⟩ = some (.int .i64 ag) ∧ (W.alloc o).cell? ⟨ga, j * 2 + 1, none⟩ = some (.int .i64 ai)) := fun W o h => ⟨(World.cell?_alloc_some W _ o (by rw [h.1]; rfl)).trans h.1, (World.cell?_alloc_some W _ o (by rw [h.2.1]; rfl)).trans h.2.1, (World.cell?_alloc_some W _ o (by rw [h.2.2]; rfl)).trans h.2.2⟩
      have k6 : ∀ (W : World) (u0 u1 u2 u3 u4 : Value), (W.cell? ⟨bW, 2, none⟩ = some (.pointer (some ⟨p.a, 0, none⟩)) ∧ W.cell? ⟨ga, j * 2, none⟩ = some (.int .i64 ag) ∧ W.cell? ⟨ga, j * 2 + 1, none⟩ = some (.int .i64 ai)) → ((((((W.setCell ⟨wr.heap.size, 0, none⟩ u0).setCell ⟨wr.heap.size, 1, none⟩ u1).setCell ⟨wr.heap.size, 2, none⟩ u2).setCell ⟨wr.heap.size, 3, none⟩ u3).setCell ⟨wr.heap.size, 4, none⟩ u4).cell? ⟨bW, 2, none⟩ = some (.pointer (some ⟨p.a, 0, none⟩)) ∧ (((((W.setCell ⟨wr.heap.size, 0, none⟩ u0).setCell ⟨wr.heap.size, 1, none⟩ u1).setCell ⟨wr.heap.size, 2, none⟩ u2).setCell ⟨wr.heap.size, 3, none⟩ u3).setCell ⟨wr.heap.size, 4, none⟩ u4).cell? ⟨ga, j * 2, none⟩ = some (.int .i64 ag) ∧ (((((W.setCell ⟨wr.heap.size, 0, none⟩ u0).setCell ⟨wr.heap.size, 1, none⟩ u1).setCell ⟨wr.heap.size, 2, none⟩ u2).setCell ⟨wr.heap.size, 3, none⟩ u3).setCell ⟨wr.heap.size, 4, none⟩ u4).cell? ⟨ga, j * 2 + 1, none⟩ = some (.int .i64 ai)) := fun W u0 u1 u2 u3 u4 h => by
        have hne1 : bW ≠ wr.heap.size := by omega
        have hne2 : ga ≠ wr.heap.size := by omega
        simp only [cell_set_far hne1, cell_set_far hne2]
        exact h
      have K6 := Lib.hid k6
      have K1 := Lib.hid k1
      have K2 := Lib.hid k2
      have K3 := Lib.hid k3
      have K4 := Lib.hid k4
      have K5 := Lib.hid k5
      clear k1 k2 k3 k4 k5 k6
      go_upto_region 5 with fail
      go_cut [7] (fun s7 wx => ∃ b : Nat, s7 = .pointer (some ⟨b, 0, none⟩) ∧ Blk wx b 62 #[.int .i64 xk, .int .i64 xt, .bool xw, .bool xu, .bool xx] ∧ Below wr.heap.size wr wx)
      case first =>
        go_region_held3 (fun w' => w'.cell? ⟨bW, 2, none⟩ = some (.pointer (some ⟨p.a, 0, none⟩)) ∧ w'.cell? ⟨ga, j * 2, none⟩ = some (.int .i64 ag) ∧ w'.cell? ⟨ga, j * 2 + 1, none⟩ = some (.int .i64 ai)) (first | with_reducible exact K1.out | with_reducible exact K2.out | with_reducible exact hk | with_reducible exact K5.out _ _ hk | with_reducible exact K6.out _ _ _ _ _ _ hk) ((go_at_call 27; refine (store_Slot 6 p.a p.bF p.bL tag vj s.ps bsj ag ai _ (by first | with_reducible exact s1 | with_reducible exact s2) (by omega)).mono ?_; rintro e w2 ⟨rfl, hb2⟩; rw [HSK.out]; simp only [Slot.cs]; (first | (have hk := K3.out w2 (by with_reducible exact hb2)) | (have hk := K4.out w2 (by with_reducible exact hb2); have hZ2 : Blk w2 wr.heap.size 62 #[.int .i64 0, .int .i64 0, .bool false, .bool false, .bool false] := ZB.out w2 hb2; have z0 := hZ2.cellv 0 rfl; have z1 := hZ2.cellv 1 rfl; have z2 := hZ2.cellv 2 rfl; have z3 := hZ2.cellv 3 rfl; have z4 := hZ2.cellv 4 rfl; have g0 := hZ2.frozen 0; have g1 := hZ2.frozen 1; have g2 := hZ2.frozen 2; have g3 := hZ2.frozen 3; have g4 := hZ2.frozen 4))))
        all_goals (go_wp2_with fail; go_meet)
        all_goals first
          | (have hh := held_new (W0 := wr) (t := 62) (C := #[.int .i64 xk, .int .i64 xt, .bool xw, .bool xu, .bool xx]) (by with_reducible exact hb2); exact ⟨_, rfl, hh⟩)
          | (have hh := held_set5 (W0 := wr) (t := 62) (H := wr.heap.size) (.int .i64 xk) (.int .i64 xt) (.bool xw) (.bool xu) (.bool xx) rfl (by with_reducible exact hb2); exact ⟨_, rfl, hh⟩)
      case rest =>
        obtain ⟨b, rfl, hX, hbw⟩ := hcut
        have x2 := hX.cellv 2 rfl
        have hBc := hBj.trans (hbw.mono hBj.size)
        clear K1 K2 K3 K4 K5 K6 ZB s1 s2 Hj Hx q0 q1 c2'
        cases xw
        · have HS : Hid (writes s (ats.take (j + 1)) = false) := Lib.hid (by rw [hstep.out, hwj.out]; rfl)
          go_wp2_with fail
          go_roundg (ats.length - (j + 1))
          case measure => omega
          case rel => exact ⟨j + 1, by omega, rfl, by go_num, HS, hBc, hrj.mod (T := []) (Mod.of_below hbw) (by simp)⟩
        · have hw : Hid (s.writable g = true) := Lib.hid (by
            rw [hwd.out]; unfold writes; rw [List.any_eq_true]
            exact ⟨_, hmem.out, by rw [HSK.out]⟩)
          go_wp2_with fail
          go_ret
          exact ⟨by rw [hw.out]; rfl, hBc⟩
    · have hj' : j = ats.length := by omega
      subst hj'
      have hw : Hid (s.writable g = false) := Lib.hid (by have := hwj.out; rw [List.take_length] at this; rw [hwd.out]; exact this)
      go_wp2_with fail
      go_ret
      exact ⟨by rw [hw.out]; rfl, hBj⟩
end Go.Proofs.Ytbmbgicdnegkfaa

/- The walk of the law GuardForbids. -/
namespace Go.Proofs.Ytbmbgicdnegkfaa
open Go Go.RowKit Sil
attribute [local go_sem ↓] Go.wp_at_zero Go.wp_at_succ
theorem or_false2 : ∀ {a b : Bool}, (a || b) = false → a = false ∧ b = false := by decide
theorem or_true2 : ∀ {a b : Bool}, (a || b) = true → a = true ∨ (a = false ∧ b = true) := by decide
set_option maxRecDepth 100000 in
set_option maxHeartbeats 16000000 in
theorem walk_forbids (l : List WPut) (ops : List GOp) (key : Key) (A B : Option Addr) (c d : Nat) (w : World) (hl : Rd 0 (fun _ => 0) w 3 (.slice A l.length c) l.length (l.flatMap WPut.cs)) (ho : Rd 0 (fun _ => 0) w 11 (.slice B ops.length d) ops.length (ops.flatMap GOp.cs))
    (hln : l.length ≤ maxLen) (hon : ops.length ≤ maxLen) (hwf : ∀ o ∈ ops, (Lit.int .i64 o.p).wf = true) :
    Calls Try.prog 4 #[.slice A l.length c, .slice B ops.length d, .agg key.cs.toArray] w fun e w' => e = .returned (.bool true) ∧ Below w.heap.size w w' := by
  obtain ⟨kg, kl, kr⟩ := key
  simp only [Key.cs]
  have hb0 : Below w.heap.size w (w.alloc (.cells #[.int .i64 kg, .int .i64 kl, .int .i64 kr] 37)) := (Below.refl _ w).alloc (Nat.le_refl _) _
  have hK0 := Blk.new w 37 #[.int .i64 kg, .int .i64 kl, .int .i64 kr]
  have hl0 := hl.mod (T := []) (Mod.of_below hb0) (by simp)
  have ho0 := ho.mod (T := []) (Mod.of_below hb0) (by simp)
  have HLS := Lib.hid hl0
  have HOS := Lib.hid ho0
  obtain ⟨bK, hbK⟩ : ∃ b, w.heap.size = b := ⟨_, rfl⟩
  have HBK := Lib.hid hbK
  clear hl ho hl0 ho0 hbK
  cases hgr : (decide (600 < l.length) || decide (120 < ops.length))
  · 
    have HGR := Lib.hid hgr
    have hop : ops.length ≤ 120 := by simp at hgr; omega
    clear hgr
    go_enter Try.func4, Try.ntmps4
    go_wp2_with fail
    generalize (w.alloc (.cells #[.int .i64 kg, .int .i64 kl, .int .i64 kr] 37)) = wS at hb0 hK0 HLS HOS ⊢
    rw [HBK.out] at hK0 ⊢
    have hl := HLS.out
    have ho := HOS.out
    have hfin : Hid (∀ (tag : Nat → Nat) (w' : World), Mod hLT (fun _ => 0) tag wS w' → Below w.heap.size w w') := Lib.hid (fun tag w' h => hb0.trans (h.belowB hb0.size (fun _ _ => by simp [hLT])))
    clear hb0 HLS HOS
    refine (law_head (fun _ => 0) _ (fun _ _ => rfl)).mono ?_
    rintro e w1 ⟨rfl, tag1, hM1, hF1⟩
    have hl1 := hl.mod hM1 (by simp [hTT])
    go_wp2_with fail
    refine (law_made l A c tag1 _ hl1 hln hF1).mono ?_
    rintro e w2 ⟨p, bW, tag2, rfl, H2, hM2, hF2⟩
    have hM2' : Mod hLT (fun _ => 0) tag2 wS w2 := (hM1.mono (by simp [hTT, hLT])).trans (hM2.mono (by simp [hLT]))
    clear hM1 hF1 hl1 hM2
    go_wp2_with fail
    refine (law_great A B l.length ops.length c d _ (by unfold maxLen at hln; exact hln) (by unfold maxLen at hon; exact hon)).mono ?_
    rintro e w3 ⟨rfl, rfl⟩
    rw [HGR.out]
    have hI2 : Hid (LInv (St.made l)) := Lib.hid (LInv.made l)
    generalize St.made l = s0 at *
    obtain ⟨N, hN⟩ : ∃ N, ops.length = N := ⟨_, rfl⟩
    have HN := Lib.hid hN
    rw [hN] at hop ho ⊢
    clear hN
    have ho2 := ho.mod hM2' (by simp [hLT])
    have HWF := Lib.hid hwf
    clear hwf hl ho
    go_upto_block 0 with fail
    go_cut [9] (fun s9 wx => ∃ tag : Nat → Nat, LawR tag wx p bW (s0.ops ops) ∧ Mod hLT (fun _ => 0) tag wS wx ∧ Fresh tag wx)
    case first =>
      go_wp2_with fail
      go_loopg [9] N (fun gk k wr => ∃ (j : Nat) (tag : Nat → Nat), j ≤ N ∧ gk = N - j ∧ k = .int .i64 j ∧ LawR tag wr p bW (s0.ops (ops.take j)) ∧ Hid (LInv (s0.ops (ops.take j))) ∧ Rd 0 tag wr 11 (.slice B N d) N (ops.flatMap GOp.cs) ∧ Mod hLT (fun _ => 0) tag wS wr ∧ Fresh tag wr)
      case atStart => exact ⟨0, tag2, Nat.zero_le _, rfl, rfl, H2, hI2, ho2, hM2', hF2⟩
      case round =>
        clear H2 hI2 ho2 hM2' hF2
        obtain ⟨j, tag, hj, rfl, rfl, Hj, hIj, hoj, hMj, hFj⟩ := hrel
        by_cases hlt : j < N
        · obtain ⟨o, hx⟩ : ∃ o, ops[j]? = some o := ⟨ops[j]'(by rw [HN.out]; exact hlt), by simp [HN.out, hlt]⟩
          have hstep := Lib.hid (ops_succ hx s0)
          have hwo := HWF.out o (List.mem_of_getElem? hx)
          have hoj' := hoj
          rw [← HN.out] at hoj'
          obtain ⟨gB, oB, rfl, hat, hlB⟩ := op_at hoj' hx
          generalize hsj : s0.ops (ops.take j) = s at *
          clear hsj hx hoj'
          obtain ⟨q0, q1, q2, q3, q4, q5, q6, q7, q8, q9, q10⟩ := hat
          go_wp2_with fail
          refine (law_do tag p bW s o _ Hj hFj hIj.out.inv hIj.out.hl hwo).mono ?_
          rintro e w9 ⟨rfl, tag9, H9, M9, F9⟩
          have MM := hMj.trans (M9.mono (T' := hLT) (by simp [hLT]))
          have oj9 := hoj.mod M9 (by simp)
          have hIs := Lib.hid (hIj.out.op o)
          clear q0 q1 q2 q3 q4 q5 q6 q7 q8 q9 q10
          go_wp2_with fail
          go_roundg (N - (j + 1))
          case measure => omega
          case rel => exact ⟨j + 1, tag9, by omega, rfl, by go_num, by rw [hstep.out]; exact H9, by rw [hstep.out]; exact hIs, oj9, MM, F9⟩
        · have hj' : j = N := by omega
          subst hj'
          have hl : Hid (ops.take j = ops) := Lib.hid (by rw [List.take_of_length_le]; rw [HN.out]; exact Nat.le_refl _)
          go_wp2_with fail
          go_meet
          rw [hl.out] at Hj
          exact ⟨tag, Hj, hMj, hFj⟩
    case rest =>
      obtain ⟨tag, HL, ML, FL⟩ := hcut
      have hIL : Hid (LInv (s0.ops ops)) := Lib.hid (hI2.out.ops ops)
      clear H2 hI2 ho2 hM2' hF2
      have hIL1 : Hid (LInv ((s0.ops ops).put 8 ⟨0, 5, 0, Rt.none, false⟩)) := Lib.hid (hIL.out.put _)
      generalize s0.ops ops = s at *
      have c3 := HL.blk.cellv 3 rfl
      go_wp2_with fail
      refine (law_put tag p bW s ⟨0, 5, 0, Rt.none, false⟩ _ HL FL hIL.out.hl).mono ?_
      rintro e w4 ⟨rfl, tag4, H4, M4, F4⟩
      have ML4 := ML.trans (M4.mono (T' := hLT) (by simp [hLT]))
      clear HL ML FL M4 c3
      generalize hs1 : s.put 8 ⟨0, 5, 0, Rt.none, false⟩ = s1 at *
      clear hs1 hIL s
      have hK4 := hK0.mod ML4 (by simp [hLT])
      have k0 := hK4.cellv 0 rfl
      go_wp2_with fail
      refine (law_writable tag4 p bW s1 kg _ H4 F4).mono ?_
      rintro e w5 ⟨rfl, hB5⟩
      have H5 := H4.below hB5
      have F5 := F4.mono hB5.size
      have ML5 := ML4.trans (Mod.of_below hB5)
      clear H4 F4 ML4 hB5 hK4 k0
      have hK5 := hK0.mod ML5 (by simp [hLT])
      have k0 := hK5.cellv 0 rfl
      have k1 := hK5.cellv 1 rfl
      have k2 := hK5.cellv 2 rfl
      have c2 := H5.blk.cellv 2 rfl
      have hltd := H5.blk.lt
      have hltk := hK5.lt
      obtain ⟨v5, bs5, HG5⟩ := law_gx H5
      have hpl5 := HG5.pl
      have S5 : StoreX 6 tag4 w5.drew p.a p.bF p.bL v5 s1.ps bs5 := HG5.sf.sh.st.heap rfl
      have SX := Lib.hid S5
      clear S5 HG5
      obtain ⟨th, hth⟩ : ∃ b, (sFind s1.ps ⟨kg, kl, kr⟩).isSome = b := ⟨_, rfl⟩
      obtain ⟨had, hhad⟩ : ∃ b, s1.writable kg = b := ⟨_, rfl⟩
      obtain ⟨lo, hlo⟩ : ∃ b, s1.isLoose kg = b := ⟨_, rfl⟩
      have HTH := Lib.hid hth
      have HHAD := Lib.hid hhad
      have HLO := Lib.hid hlo
      rw [HHAD.out]
      clear hth hhad hlo
      go_upto_region 11 with fail
      go_cut [12] (fun s12 wx => s12 = .bool th ∧ Below w5.heap.size w5 wx)
      case first =>
        go_region_with (go_at_call 20; refine (store_find 6 p.a p.bF p.bL tag4 v5 s1.ps bs5 ⟨kg, kl, kr⟩ _ (by with_reducible exact SX.out) (by omega)).mono ?_; rintro e w6 ⟨rfl, hB6⟩; rw [HTH.out])
        all_goals (go_wp2_with fail; go_meet; exact ⟨rfl, below_drew hB6⟩)
      case rest =>
        obtain ⟨rfl, hbc⟩ := hcut
        have H6 := H5.below hbc
        have F6 := F5.mono hbc.size
        have ML6 := ML5.trans (Mod.of_below hbc)
        have hK6 := hK5.below hbc hK5.lt
        clear H5 F5 ML5 hK5 k0 k1 k2 c2 hltd hltk SX hbc
        have k0 := hK6.cellv 0 rfl
        have c4 := H6.blk.cellv 4 rfl
        go_wp2_with fail
        go_still_tail 6, (by kernel_rfl)
        change wpList _ _ _ _ _ wc.drew
        have H7 : LawR tag4 wc.drew p bW s1 := H6.mod (T := []) ((Mod.refl [] tag4 wc).drew) (by simp)
        have F7 : Fresh tag4 wc.drew := F6
        have ML7 := ML6.drew
        have hK7 := hK6.drew
        generalize wc.drew = w7 at H7 F7 ML7 hK7 ⊢
        clear H6 F6 ML6 hK6 k0 c4
        go_wp2_with fail
        refine (guard_loose tag4 p lawHs 8 s1 kg _ H7.gr).mono ?_
        rintro e w8 ⟨rfl, rfl⟩
        rw [HLO.out]
        have k0 := hK7.cellv 0 rfl
        have k1 := hK7.cellv 1 rfl
        have k2 := hK7.cellv 2 rfl
        have c4 := H7.blk.cellv 4 rfl
        have hltd := H7.blk.lt
        have hltk := hK7.lt
        have hn := H7.n40
        have HD : Hid (LawR tag4 w7.drew p bW s1) := Lib.hid (H7.mod (T := []) ((Mod.refl [] tag4 w7).drew) (by simp))
        have FD : Hid (Fresh tag4 w7.drew) := Lib.hid F7
        have MD : Hid (Mod hLT (fun _ => 0) tag4 wS w7.drew) := Lib.hid ML7.drew
        have HMK := Lib.hid (hIL1.out.inv.mk_ok ⟨kg, kl, kr⟩)
        obtain ⟨is_, his⟩ : ∃ b, s1.makeIs 40 lawHs ⟨kg, kl, kr⟩ = b := ⟨_, rfl⟩
        have HIS := Lib.hid his
        clear his
        go_upto_region 13 with fail
        go_cut [15] (fun s15 wx => s15 = .bool is_ ∧ ∃ tag8 : Nat → Nat, LawR tag8 wx p bW (s1.make 40 lawHs ⟨kg, kl, kr⟩) ∧ Mod hLT (fun _ => 0) tag8 wS wx ∧ Fresh tag8 wx)
        case first =>
          go_region_with (go_at_call 21; refine (guard_make tag4 p lawHs 8 s1 ⟨kg, kl, kr⟩ _ (by with_reducible exact HD.out.gr) (by with_reducible exact FD.out) (by rw [hn]; exact HMK.out)).mono ?_; rintro e w8 ⟨rfl, tag8, G8, M8, F8⟩; rw [hn] at G8 ⊢; rw [HIS.out])
          all_goals
            go_wp2_with fail
            go_meet
            exact ⟨rfl, tag8, HD.out.to M8 (by simp) G8, MD.out.trans (M8.mono (by simp [hLT])), F8⟩
        case rest =>
          obtain ⟨rfl, tag8, H8, ML8, F8⟩ := hcut
          have hI8 : Hid (LInv (s1.make 40 lawHs ⟨kg, kl, kr⟩)) := Lib.hid (hIL1.out.make _)
          have HFM : Hid (th = false → is_ = true → kr = 0 → (s1.make 40 lawHs ⟨kg, kl, kr⟩).writable kg = false ∧ ((had || lo) = true → (s1.make 40 lawHs ⟨kg, kl, kr⟩).hits = [])) := Lib.hid (fun h1 h2 h3 => by
            have := forbids_make hIL1.out.inv (k := ⟨kg, kl, kr⟩) (HTH.out.trans h1) (HIS.out.trans h2) h3
            rw [HHAD.out, HLO.out] at this; exact this)
          clear H7 F7 ML7 HD FD MD HMK hK7 k0 k1 k2 c4 hltd hltk HTH HHAD HLO HIS hIL1
          generalize s1.make 40 lawHs ⟨kg, kl, kr⟩ = s2 at *
          have hK8 := hK0.mod ML8 (by simp [hLT])
          have k0 := hK8.cellv 0 rfl
          have k2 := hK8.cellv 2 rfl
          have c3 := H8.blk.cellv 3 rfl
          go_upto_region 14 with fail
          go_cut [109] (fun s109 wx => s109 = .bool false ∧ Below wc.heap.size wc wx)
          case first =>
            cases th
            · cases is_
              · go_wp2_with fail
                go_meet
                exact ⟨rfl, Below.refl _ _⟩
              · by_cases hr : kr = 0
                · subst hr
                  obtain ⟨hw, hh⟩ := HFM.out rfl rfl rfl
                  have HWR := Lib.hid hw
                  clear hw
                  cases hhl : (had || lo)
                  · obtain ⟨e1, e2⟩ := or_false2 hhl
                    subst e1 e2
                    clear hh hhl
                    go_wp2_with fail
                    refine (law_writable tag8 p bW s2 kg _ H8 F8).mono ?_
                    rintro e w9 ⟨rfl, hB9⟩
                    rw [HWR.out]
                    go_wp2_with fail
                    go_meet
                    exact ⟨rfl, hB9⟩
                  · have HH := Lib.hid (hh hhl)
                    have hcase := or_true2 hhl
                    clear hh hhl
                    rcases hcase with e1 | ⟨e1, e2⟩
                    · subst e1
                      go_wp2_with fail
                      refine (law_writable tag8 p bW s2 kg _ H8 F8).mono ?_
                      rintro e w9 ⟨rfl, hB9⟩
                      rw [HWR.out]
                      have H9 := H8.below hB9
                      have c3 := H9.blk.cellv 3 rfl
                      obtain ⟨v9, bs9, HG9⟩ := law_gx H9
                      go_wp2_with fail
                      refine (tlb_many 12 p.bT tag8 8 s2.hits _ HG9.tl).mono ?_
                      rintro e w10 ⟨rfl, rfl⟩
                      rw [HH.out]
                      go_wp2_with fail
                      go_meet
                      exact ⟨rfl, hB9⟩
                    · subst e1 e2
                      go_wp2_with fail
                      refine (law_writable tag8 p bW s2 kg _ H8 F8).mono ?_
                      rintro e w9 ⟨rfl, hB9⟩
                      rw [HWR.out]
                      have H9 := H8.below hB9
                      have c3 := H9.blk.cellv 3 rfl
                      obtain ⟨v9, bs9, HG9⟩ := law_gx H9
                      go_wp2_with fail
                      refine (tlb_many 12 p.bT tag8 8 s2.hits _ HG9.tl).mono ?_
                      rintro e w10 ⟨rfl, rfl⟩
                      rw [HH.out]
                      go_wp2_with fail
                      go_meet
                      exact ⟨rfl, hB9⟩
                · have hr0 : (kr == 0) = false := by simp [hr]
                  clear hr
                  go_wp2_with fail
                  go_meet
                  exact ⟨rfl, Below.refl _ _⟩
            · go_wp2_with fail
              go_meet
              exact ⟨rfl, Below.refl _ _⟩
          case rest =>
            obtain ⟨rfl, hbc⟩ := hcut
            have H9 := H8.below hbc
            have F9 := F8.mono hbc.size
            have ML9 := ML8.trans (Mod.of_below hbc)
            clear H8 F8 ML8 hbc k0 k2 c3 hK8 HFM
            have c4 := H9.blk.cellv 4 rfl
            go_wp2_with fail
            refine (guard_list tag8 p lawHs 8 s2 _ H9.gr).mono ?_
            rintro e w10 ⟨v', rfl, hown, hB10⟩
            have hrow := Row.of_new hown F9
            obtain ⟨AL, cL, rfl⟩ := own_val hown
            have H10 := H9.below hB10
            have F10 := F9.mono hB10.size
            have ML10 := ML9.trans (Mod.of_below hB10)
            clear H9 F9 ML9 hB10 hown c4
            have hll : s2.loose.length ≤ 8 := by
              have h1 := hI8.out.inv.looseLen
              have h2 := hI8.out.inv.sizes
              have h8 : (8 : Int).toNat = 8 := rfl
              rw [h8] at h2; omega
            have HFB : Hid (∀ n, n ≤ s2.loose.length → PInv 4 8 (fbAt s2 n) ∧ (fbAt s2 n).loose = s2.loose.drop n ∧ (fbAt s2 n).ws.length = s2.ws.length) := Lib.hid (fbAt_ok hI8.out.inv)
            have HF0 : Hid (fbAt s2 0 = s2) := Lib.hid (by simp [fbAt])
            have HFS : Hid (∀ n (hn : n < s2.loose.length), fbAt s2 (n + 1) = fbRound (fbAt s2 n) s2.loose[n]) := Lib.hid (fun n hn => fbAt_succ s2 hn)
            obtain ⟨LL, hLL⟩ : ∃ LL, s2.loose = LL := ⟨_, rfl⟩
            have HLL := Lib.hid hLL
            rw [hLL] at hrow hll ⊢
            clear hLL
            go_wp2_with fail
            go_loopg [17] LL.length (fun gk k wr => ∃ (n : Nat) (tag : Nat → Nat), n ≤ LL.length ∧ gk = LL.length - n ∧ k = .int .i64 n ∧ LawR tag wr p bW (fbAt s2 n) ∧ Hid (LInv (fbAt s2 n)) ∧ Mod hLT (fun _ => 0) tag wS wr ∧ Fresh tag wr ∧ Row 0 tag wr 3 1 (.slice AL LL.length cL) LL.length (LL.map (Value.int .i64)))
            case atStart => exact ⟨0, tag8, Nat.zero_le _, rfl, rfl, by rw [HF0.out]; exact H10, by rw [HF0.out]; exact hI8, ML10, F10, hrow⟩
            case round =>
              obtain ⟨n, tag, hn', rfl, rfl, Hn, hIn, Mn, Fn, hrn⟩ := hrel
              by_cases hlt : n < LL.length
              · obtain ⟨x, hx⟩ : ∃ x, LL[n]? = some x := ⟨LL[n], by simp [hlt]⟩
                have hstep : Hid (fbAt s2 (n + 1) = fbRound (fbAt s2 n) x) := Lib.hid (by
                  have h1 := HFS.out n (by rw [HLL.out]; exact hlt)
                  rw [h1]; congr 1
                  have := (List.getElem?_eq_some_iff.1 hx).2
                  rw [← this]; congr 1)
                have hmem : Hid (x ∈ (fbAt s2 n).loose) := Lib.hid (by
                  have h1 := (HFB.out n (by rw [HLL.out]; omega)).2.1
                  rw [h1, HLL.out]
                  obtain ⟨h2, h3⟩ := List.getElem?_eq_some_iff.1 hx
                  rw [List.drop_eq_getElem_cons h2, h3]; simp)
                generalize fbAt s2 n = sa at *
                have hn40 := Hn.n40
                have c3 := Hn.blk.cellv 3 rfl
                go_wp2_with fail
                refine (law_put tag p bW sa ⟨0, 5, 0, Rt.none, false⟩ _ Hn Fn hIn.out.hl).mono ?_
                rintro e w4 ⟨rfl, tag4, H4, M4, F4⟩
                have M4' := Mn.trans (M4.mono (T' := hLT) (by simp [hLT]))
                have r4 := hrn.mod M4 (by simp)
                have hIb := Lib.hid (hIn.out.put ⟨0, 5, 0, Rt.none, false⟩)
                have hmb : x ∈ (sa.put 8 ⟨0, 5, 0, Rt.none, false⟩).loose := hmem.out
                have hfr : Hid (fbRound sa x = (sa.put 8 ⟨0, 5, 0, Rt.none, false⟩).look 40 lawHs x) := Lib.hid rfl
                clear Hn Fn hIn Mn hrn c3 M4 hmem
                generalize sa.put 8 ⟨0, 5, 0, Rt.none, false⟩ = sb at *
                have hIc := Lib.hid (hIb.out.look x)
                obtain ⟨hf1, hf2, hf3⟩ := forbids_look hIb.out.inv hmb
                have HLB : Hid (sb.isLoose x = true) := Lib.hid ((isLoose_iff sb x).2 hmb)
                obtain ⟨sc, hsc⟩ : ∃ sc, sb.look 40 lawHs x = sc := ⟨_, rfl⟩
                rw [hsc] at hf1 hf2 hf3 hIc hfr
                have HSC := Lib.hid hsc
                have HWR := Lib.hid hf1
                have HHT := Lib.hid hf2
                have HLX := Lib.hid hf3
                clear hf1 hf2 hf3 hmb hsc
                obtain ⟨gL, oL, rfl, q0, hlq⟩ := r4.rd.at_ (j := n) (u := .int .i64 x) (by simp [hx])
                have c4 := H4.blk.cellv 4 rfl
                have hltd := H4.blk.lt
                have HD : Hid (LawR tag4 w4.drew p bW sb) := Lib.hid (H4.mod (T := []) ((Mod.refl [] tag4 w4).drew) (by simp))
                have FD : Hid (Fresh tag4 w4.drew) := Lib.hid F4
                have MD : Hid (Mod hLT (fun _ => 0) tag4 wS w4.drew) := Lib.hid M4'.drew
                have RD : Hid (Row 0 tag4 w4.drew 3 1 (.slice (some ⟨gL, oL, none⟩) LL.length cL) LL.length (LL.map (Value.int .i64))) := Lib.hid (r4.mod (T := []) ((Mod.refl [] tag4 w4).drew) (by simp))
                have QR : Hid (∀ w', Row 0 tag4 w' 3 1 (.slice (some ⟨gL, oL, none⟩) LL.length cL) LL.length (LL.map (Value.int .i64)) → w'.cell? ⟨gL, oL + n, none⟩ = some (.int .i64 x)) := Lib.hid (fun w' hr => by
                  obtain ⟨g', o', e', q', _⟩ := hr.rd.at_ (j := n) (u := .int .i64 x) (by simp [hx])
                  cases e'; exact q')
                have KK : Hid (∀ w', LawR tag4 w' p bW sc → Row 0 tag4 w' 3 1 (.slice (some ⟨gL, oL, none⟩) LL.length cL) LL.length (LL.map (Value.int .i64)) → (w'.cell? ⟨bW, 4, none⟩ = some (.pointer (some ⟨p.d, 0, none⟩)) ∧ w'.cell? ⟨bW, 3, none⟩ = some (.pointer (some ⟨p.bT, 0, none⟩)) ∧ w'.cell? ⟨gL, oL + n, none⟩ = some (.int .i64 x))) := Lib.hid (fun w' h hr => ⟨h.blk.cellv 4 rfl, h.blk.cellv 3 rfl, QR.out w' hr⟩)
                have KD : Hid (w4.drew.cell? ⟨bW, 4, none⟩ = some (.pointer (some ⟨p.d, 0, none⟩)) ∧ w4.drew.cell? ⟨bW, 3, none⟩ = some (.pointer (some ⟨p.bT, 0, none⟩)) ∧ w4.drew.cell? ⟨gL, oL + n, none⟩ = some (.int .i64 x)) := Lib.hid ⟨H4.blk.cellv 4 rfl, H4.blk.cellv 3 rfl, q0⟩
                clear hx
                go_upto_region 21 with fail
                go_cut [163] (fun s163 wx => s163 = .bool false ∧ ∃ tag' : Nat → Nat, LawR tag' wx p bW sc ∧ Mod hLT (fun _ => 0) tag' wS wx ∧ Fresh tag' wx ∧ Row 0 tag' wx 3 1 (.slice (some ⟨gL, oL, none⟩) LL.length cL) LL.length (LL.map (Value.int .i64)))
                case first =>
                  go_region_held3 (fun w' => w'.cell? ⟨bW, 4, none⟩ = some (.pointer (some ⟨p.d, 0, none⟩)) ∧ w'.cell? ⟨bW, 3, none⟩ = some (.pointer (some ⟨p.bT, 0, none⟩)) ∧ w'.cell? ⟨gL, oL + n, none⟩ = some (.int .i64 x)) (first | with_reducible exact hk7 | with_reducible exact hk6 | with_reducible exact KD.out) (first | (go_at_call 24; refine (guard_look tag4 p lawHs 8 sb x _ (by with_reducible exact HD.out.gr) (by with_reducible exact FD.out)).mono ?_; rintro e w6 ⟨rfl, G6, M6⟩; rw [hn40, HSC.out] at G6; rw [HLB.out]; have H6 := HD.out.to M6 (by simp) G6; have F6 := FD.out.mono M6.size; have r6 := RD.out.mod M6 (by simp); have hk6 := KK.out w6 H6 r6) | (go_at_call 19; refine (law_writable tag4 p bW sc x _ H6 F6).mono ?_; rintro e w7 ⟨rfl, hB7⟩; rw [HWR.out]; have H7 := H6.below hB7; have F7 := F6.mono hB7.size; have r7 := r6.mod (T := []) (Mod.of_below hB7) (by simp); have hk7 := KK.out w7 H7 r7) | (go_at_call 22; obtain ⟨v7, bs7, HG7⟩ := law_gx H7; refine (tlb_many 12 p.bT tag4 8 sc.hits _ HG7.tl).mono ?_; rintro e w8 ⟨rfl, rfl⟩; rw [HHT.out]) | (go_at_call 13; refine (guard_loose tag4 p lawHs 8 sc x _ H7.gr).mono ?_; rintro e w9 ⟨rfl, rfl⟩; rw [HLX.out]))
                  all_goals
                    go_wp2_with fail
                    go_meet
                    exact ⟨rfl, tag4, H7, (MD.out.trans (M6.mono (by simp [hLT]))).trans (Mod.of_below hB7), F7, r7⟩
                case rest =>
                  obtain ⟨rfl, tag6, H6, M6, F6, r6⟩ := hcut
                  go_wp2_with fail
                  go_roundg (LL.length - (n + 1))
                  case measure => omega
                  case rel => exact ⟨n + 1, tag6, by omega, rfl, by go_num, by rw [hstep.out, hfr.out]; exact H6, by rw [hstep.out, hfr.out]; exact hIc, M6, F6, r6⟩
              · have hn2 : n = LL.length := by omega
                subst hn2
                have hem : Hid ((fbAt s2 LL.length).loose = []) := Lib.hid (by
                  have := (HFB.out LL.length (by rw [HLL.out]; exact Nat.le_refl _)).2.1
                  rw [this, HLL.out]; simp)
                have c4 := Hn.blk.cellv 4 rfl
                go_wp2_with fail
                refine (guard_list tag p lawHs 8 _ _ Hn.gr).mono ?_
                rintro e w12 ⟨v2, rfl, hown2, hB12⟩
                rw [hem.out] at hown2
                obtain ⟨A12, c12, rfl⟩ := own_val hown2
                go_wp2_with fail
                go_ret
                exact ⟨rfl, hfin.out _ _ (Mn.trans (Mod.of_below hB12))⟩
  · have HGR := Lib.hid hgr
    clear hgr
    go_enter Try.func4, Try.ntmps4
    go_wp2_with fail
    generalize (w.alloc (.cells #[.int .i64 kg, .int .i64 kl, .int .i64 kr] 37)) = wS at hb0 hK0 HLS HOS ⊢
    have hl := HLS.out
    have hfin : Hid (∀ (tag : Nat → Nat) (w' : World), Mod hLT (fun _ => 0) tag wS w' → Below w.heap.size w w') := Lib.hid (fun tag w' h => hb0.trans (h.belowB hb0.size (fun _ _ => by simp [hLT])))
    refine (law_head (fun _ => 0) _ (fun _ _ => rfl)).mono ?_
    rintro e w1 ⟨rfl, tag1, hM1, hF1⟩
    have hl1 := hl.mod hM1 (by simp [hTT])
    go_wp2_with fail
    refine (law_made l A c tag1 _ hl1 hln hF1).mono ?_
    rintro e w2 ⟨p, bW, tag2, rfl, H2, hM2, hF2⟩
    have hM2' : Mod hLT (fun _ => 0) tag2 wS w2 := (hM1.mono (by simp [hTT, hLT])).trans (hM2.mono (by simp [hLT]))
    clear hM1 hF1 hl1 hM2
    go_wp2_with fail
    refine (law_great A B l.length ops.length c d _ (by unfold maxLen at hln; exact hln) (by unfold maxLen at hon; exact hon)).mono ?_
    rintro e w3 ⟨rfl, rfl⟩
    rw [HGR.out]
    go_wp2_with fail
    go_ret
    exact ⟨rfl, hfin.out _ _ hM2'⟩
end Go.Proofs.Ytbmbgicdnegkfaa

/- GuardForbids: whatever the input, the call returns true, and each argument reads as it did. No condition. -/
namespace Go.Proofs.Ytbmbgicdnegkfaa
open Go Go.ChangeShapes Go.WideShapes Go.ChangeAt Go.RowKit Go.Joins Sil

theorem own_forbids : ownKnob Try.prog.godebug = none := by kernel_rfl
theorem laid_forbids : laidOutB Try.prog = true := by kernel_rfl

set_option maxRecDepth 100000 in
set_option maxHeartbeats 4000000 in
theorem lifted_forbids (os : Os) (started : os.Started) (H : Type) (enc : TypeId × Value → H) :
    ReturnsInHanded {} Try.checked os 4 .any (Rows.guardForbidsSpec.pre6 enc Try.prog Try.f4 Rows.guardForbidsRow.domain false) (Rows.guardForbidsSpec.post enc Try.prog Try.f4 false true false false) := by
  refine returnsInHanded_of_change (C := Try.checked) own_forbids started (by kernel_rfl) Try.func4
    (ChangeSpec.witness6 (enc := enc) (C := Try.checked) false ⟨#[], #[.slice none 0 0, .slice none 0 0, .agg #[.int .i64 0, .int .i64 0, .int .i64 0]], []⟩ 8 (by kernel_rfl) (by kernel_rfl) (by kernel_rfl) (by kernel_rfl)) ?_
  intro W base args ds gs before hval0 hW hcnd _
  have hval : ∀ (j : Nat) t v, Try.f4.params[j]? = some t → args[j]? = some v → Value.okWide Try.prog W .any base t v := hval0
  have hW' := hW
  obtain ⟨p, q, hA0, hV, rfl, hfz, hnd⟩ := hW
  have hA : DataW.TrodAll enc Try.prog W 0 (fun _ => true) true Try.f4.params.toList args.toList ds p := hA0
  rw [Try.params4] at hA hval
  obtain ⟨v0, vs0, d0, ds0, p0, q0, hargs, rfl, rfl, h0, r0⟩ := trodAll_cons hA
  obtain ⟨v1, vs1, d1, ds1, p1, q1, rfl, rfl, rfl, h1, r1⟩ := trodAll_cons r0
  obtain ⟨v2, vs2, d2, ds2, p2, q2, rfl, rfl, rfl, h2, r2⟩ := trodAll_cons r1
  obtain ⟨rfl, rfl, rfl⟩ := trodAll_nil r2
  obtain rfl : args = #[v0, v1, v2] := by cases args; simp_all
  obtain ⟨rfl, rfl⟩ := trodVars_none hV
  obtain ⟨a0, len0, cap0, rfl⟩ := okWide_slice Try.underlying22 (hval 0 22 v0 rfl rfl)
  have k0 := h0
  have lt0 : ∀ x ∈ p0, x.block < W.heap.size := by obtain ⟨m, hm⟩ := k0; exact DataW.trod_lt m _ _ _ hm
  obtain ⟨a1, len1, cap1, rfl⟩ := okWide_slice Try.underlying23 (hval 1 23 v1 rfl rfl)
  have k1 := h1
  have lt1 : ∀ x ∈ p1, x.block < W.heap.size := by obtain ⟨m, hm⟩ := k1; exact DataW.trod_lt m _ _ _ hm
  have k2 := h2
  have lt2 : ∀ x ∈ p2, x.block < W.heap.size := by obtain ⟨m, hm⟩ := k2; exact DataW.trod_lt m _ _ _ hm
  obtain ⟨fuel0, hf0⟩ := h0
  obtain ⟨A0, c0, l0, e0, hl0, hn0, ok0⟩ := open_puts (v := .slice a0 len0 cap0) (by simpa [Value.cells] using hf0)
  injection e0 with x0 y0 z0
  subst x0 y0 z0
  obtain ⟨fuel1, hf1⟩ := h1
  obtain ⟨A1, c1, l1, e1, hl1, hn1, ok1⟩ := open_gops (v := .slice a1 len1 cap1) (by simpa [Value.cells] using hf1)
  injection e1 with x1 y1 z1
  subst x1 y1 z1
  have hkey2 : ∃ key : Key, v2 = .agg key.cs.toArray := by
    have hcs : Try.prog.cellsOf 37 = 3 := by kernel_rfl
    obtain ⟨b0, b1, b2, y0, y1, y2, m, hv, _, _, g0, g1, g2⟩ := open_agg3 Try.underlying37 (by kernel_rfl) hcs (hval 2 37 v2 rfl rfl) h2
    obtain ⟨n0, i0, _, _⟩ := DataW.trod_int Try.underlying3 g0
    obtain ⟨n1, i1, _, _⟩ := DataW.trod_int Try.underlying3 g1
    obtain ⟨n2, i2, _, _⟩ := DataW.trod_int Try.underlying3 g2
    simp at i0 i1 i2
    subst i0 i1 i2
    exact ⟨⟨n0, n1, n2⟩, hv⟩
  obtain ⟨key2, rfl⟩ := hkey2
  clear hA0 hval0
  refine (walk_forbids l0 l1 key2 _ _ _ _ W hl0 hl1 hn0 hn1 (fun o hm => (ok1 o hm).2.1)).mono fun e W' ⟨he, bel⟩ => ?_
  subst he
  exact ⟨_, rfl, _, _, _, [], _, [], hW', trodAll_mk1 (shut_bool Try.underlying4 _), (trodAll_cons_mk (Below.trod laid_forbids (by kernel_rfl) (of_decide_eq_true (by kernel_rfl)) k0 bel lt0) (trodAll_cons_mk (Below.trod laid_forbids (by kernel_rfl) (of_decide_eq_true (by kernel_rfl)) k1 bel lt1) (trodAll_cons_mk (Below.trod laid_forbids (by kernel_rfl) (of_decide_eq_true (by kernel_rfl)) k2 bel lt2) trodAll_mk0))), rfl, bel.frame _, fun h => by cases h⟩

theorem over_forbids : Rows.guardForbidsRow.holds Try.pinned (OpenSpec.ofChange Rows.guardForbidsSpec) :=
  OpenClaim.holds_of_wide 4 Try.f4 rfl rfl rfl rfl rfl rfl rfl ⟨rfl, rfl, rfl, rfl, rfl⟩ rfl rfl rfl rfl rfl (by kernel_rfl) Try.func4 (by kernel_rfl)
    (of_decide_eq_true (by kernel_rfl)) (by unfold Func.isWrapper; first | (rw [if_pos (by decide +kernel)]; kernel_rfl) | (rw [if_neg (by decide +kernel)]; exact ⟨rfl, rfl⟩))
    (fun os started H enc _ => lifted_forbids os started H enc)

theorem guardForbids_holds : Rows.GuardForbidsSaid := over_forbids
#print axioms guardForbids_holds
end Go.Proofs.Ytbmbgicdnegkfaa
