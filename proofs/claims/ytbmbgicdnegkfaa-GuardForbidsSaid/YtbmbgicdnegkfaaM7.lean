/- The walks of the laws' own helpers, and how their arguments read. -/
import Derived.Test.YtbmbgicdnegkfaaM6
import Derived.Laws.Bits128
import Derived.Deep.MidRow
import Derived.Test.YtbmbgicdnegkfaaProg
import Derived.KernelRfl
set_option linter.unusedVariables false
set_option linter.unusedSimpArgs false
/- The law's call: do. -/
namespace Go.Proofs.Ytbmbgicdnegkfaa
open Go Go.RowKit Sil
attribute [local go_sem ↓] Go.wp_at_zero Go.wp_at_succ

theorem wpStill_load {P : Program} {ops : Array Oper} {w : World} {Q : Act → Prop} {rest : List Oper} {op : Oper} {a : Act} (hwt : Region.wanted op (yielded ops a.tmps) = true) (ty : TypeId) (x : Operand) (ho : op.op = .load ty x)
    (b o : Nat) (hx : a.eval x = .pointer (some ⟨b, o, none⟩)) (cs : List Value) (d : TypeDesc) (hc : w.rangeAt b o cs) (hu : P.underlying ty = some d) (hd : d.isRow = true) (hi : (P.info? ty).map (·.size) = some cs.length)
    (h : wpStill P ops w Q rest (a.put op.dst (.agg cs.toArray))) : wpStill P ops w Q (op :: rest) a := by
  unfold wpStill
  rw [if_pos hwt]
  unfold Oper.still
  simp only [execOp, ho, hx, Instr.loadAt, Instr.sureAddr, Sem.run_bind, Sem.run_pure, Result.andThen_ok, run_loadVar_mid w b o ty cs d hc hu hd hi]
  rw [Oper.stillUpon_value]
  exact h

/-- the law's world: the struct's block (tag 17) and all that it holds -/
structure LawR (tag : Nat → Nat) (w : World) (p : Pt) (bW : Nat) (s : St) : Prop where
  tw : tag bW = 17
  blk : Blk w bW 34 #[.pointer (some ⟨p.bF, 0, none⟩), .pointer (some ⟨p.bG, 0, none⟩), .pointer (some ⟨p.a, 0, none⟩), .pointer (some ⟨p.bT, 0, none⟩), .pointer (some ⟨p.d, 0, none⟩)]
  gr : GR tag w p lawHs 8 s
  n40 : p.n = 40
theorem LawR.mod {tag tag' : Nat → Nat} {w w' : World} {p : Pt} {bW : Nat} {s : St} {T : List Nat} (h : LawR tag w p bW s) (hm : Mod T tag tag' w w') (hT : ∀ x ∈ T, x = 0 ∨ 20 ≤ x) : LawR tag' w' p bW s :=
  ⟨hm.tagOf h.blk h.tw, h.blk.mod hm (by rw [h.tw]; intro hx; have := hT _ hx; omega), h.gr.mod hm hT, h.n40⟩
theorem LawR.below {tag : Nat → Nat} {w w' : World} {p : Pt} {bW : Nat} {s : St} (h : LawR tag w p bW s) (hb : Below w.heap.size w w') : LawR tag w' p bW s := h.mod (T := []) (Mod.of_below hb) (by simp)
/-- the state is another one -/
theorem LawR.to {tag tag' : Nat → Nat} {w w' : World} {p : Pt} {bW : Nat} {s s' : St} {T : List Nat} (h : LawR tag w p bW s) (hm : Mod T tag tag' w w') (hT : 17 ∉ T) (hg : GR tag' w' p lawHs 8 s') : LawR tag' w' p bW s' :=
  ⟨hm.tagOf h.blk h.tw, h.blk.mod hm (by rw [h.tw]; exact hT), hg, h.n40⟩

theorem GOp.len (o : GOp) : o.cs.length = 11 := rfl

theorem and15 (n : Int) : bits .and .i64 n 15 = n % 16 := by
  have h15 : (BitVec.ofInt 64 15).toNat = 2 ^ 4 - 1 := by decide
  have key : (BitVec.ofInt 64 n &&& BitVec.ofInt 64 15).toNat = (n % ((2 ^ 64 : Nat) : Int)).toNat % 2 ^ 4 := by
    rw [BitVec.toNat_and, BitVec.toNat_ofInt, h15, Nat.and_two_pow_sub_one_eq_mod]
  show IntKind.i64.wrap ((BitVec.ofInt 64 n &&& BitVec.ofInt 64 15).toNat : Nat) = n % 16
  rw [key, IntKind.wrap_i64]
  omega

theorem _root_.Sil.PInv.freeOk {s : St} (h : PInv 4 8 s) : FreeOk s.fr := by
  have h1 := h.sizes
  have ht := nodup_le s.fr.taken (s.ps.map (·.f)) h.tk (fun x hx => (h.tm x).1 hx)
  rw [List.length_map] at ht
  have h8 : (8 : Int).toNat = 8 := rfl
  rw [h8] at h1
  refine ⟨by rw [h.ff]; omega, by rw [h.ff]; omega, by rw [h.fm]; omega, h.f0, by have := h.f1; omega, fun x hx => ?_, by omega, by omega⟩
  have := h.rg x (List.mem_append_left _ hx)
  have := h.f1
  omega
theorem _root_.Sil.PInv.lev {first many : Int} {s : St} (h : PInv first many s) : ∀ q ∈ s.ps, -1000 ≤ q.key.lev ∧ q.key.lev ≤ 1000 := by
  intro q hq
  have := h.key q hq
  unfold keyRight at this
  simp only [Bool.and_eq_true, decide_eq_true_eq] at this
  omega
theorem _root_.Sil.PInv.mk_ok {s : St} (h : PInv 4 8 s) (k : Key) : sMakeIs (s.pre 40 lawHs k).ps (s.pre 40 lawHs k).fr k = true → (∀ f, (s.pre 40 lawHs k).fr.next = some f → hok 40 f 0 = true) ∧ FreeOk (s.pre 40 lawHs k).fr.took ∧ (s.pre 40 lawHs k).ps.length < 1000 := by
  intro hm
  have h1 := h.pre 40 lawHs k
  have h2 := h1.smake 40 k (pre_not h 40 lawHs k)
  have hs := h1.sizes
  have h8 : (8 : Int).toNat = 8 := rfl
  rw [h8] at hs
  refine ⟨fun f hf => ?_, ?_, by omega⟩
  · obtain ⟨_, a2, a3, _⟩ := h1.nextNew hf
    have b1 : 0 ≤ f := by omega
    have b2 : f < 40 := by omega
    simp [hok, b1, b2]
  · have := h2.freeOk
    unfold St.smake at this
    rw [if_pos hm] at this
    exact this
theorem _root_.Sil.PInv.drop_ok {s : St} (h : PInv 4 8 s) (f : Int) (hp : (sPage s.ps f).isSome = true) : FreeOk (s.fr.given f) := by
  have h1 := (h.drop 40 f).freeOk
  unfold St.drop at h1
  rw [if_pos hp] at h1
  have e : ({ (s.preD f).sdrop 40 f with hits := [] } : St).fr = s.fr.given f := by
    unfold St.sdrop
    rw [(preD_ps s f).2.2.1]
  rw [e] at h1
  exact h1

/-- slots and words alone are others -/
theorem GX.sh {tag : Nat → Nat} {w w' : World} {p : Pt} {hs : List Int} {most : Int} {v : Value} {bs : List Nat} {s : St} {ps' : List Page} {ws' : List Int} (H : GX tag w p hs most v bs s) (h3 : SH tag w' p.a p.bF p.bL v ps' bs p.n ws') (hM : Mod [2, 8] tag tag w w') (hl : ps'.length = s.ps.length) :
    GX tag w' p hs most v bs { s with ps := ps', ws := ws' } :=
  ⟨⟨h3, H.sf.frr.mod hM (by simp) (by simp) (by simp), H.sf.ok⟩, H.mp.mod hM (by simp) (by simp) (by simp), hM.tagOf H.gb H.gt, H.gb.mod hM (by rw [H.gt]; simp), H.tl.mod hM (by simp) (by simp), H.gd.mod hM (by simp) (by simp), by show ps'.length ≤ _; rw [hl]; exact H.pl, H.ll, H.hl, H.m1⟩
theorem sChild_len (ps : List Page) (f i c : Int) (r : Rt) : (sChild ps f i c r).length = ps.length := by unfold sChild; split <;> simp [setAt_len]

/-- what a call of do gives -/
def DoPost (tag : Nat → Nat) (w : World) (p : Pt) (bW : Nat) (s : St) (o : GOp) (e : Ending) (w' : World) : Prop :=
  e = .returned (.tuple #[.int .i64 (s.opF o), .bool (s.opIs o)]) ∧ ∃ tag', LawR tag' w' p bW (s.op o) ∧ Mod [2, 6, 7, 8, 9, 10, 11, 12, 13, 14, 15] tag tag' w w' ∧ Fresh tag' w'

set_option maxRecDepth 100000 in
theorem do_make0 (tag : Nat → Nat) (p : Pt) (bW : Nat) (s : St) (o : GOp) (w : World) (H : LawR tag w p bW s) (hF : Fresh tag w) (hI : PInv 4 8 s) (ho : o.what = 0) :
    Calls Try.prog 14 #[.pointer (some ⟨bW, 0, none⟩), .agg o.cs.toArray] w (DoPost tag w p bW s o) := by
  obtain ⟨ow, ⟨kg, kl, kr⟩, op, oi, ot, ⟨rw_, ru, rx⟩, ov⟩ := o
  simp only at ho
  subst ho
  simp only [GOp.cs]
  have hn := H.n40
  have hfr0 : tag w.heap.size = 0 := hF _ (Nat.le_refl _)
  have hX := Blk.new w 42 #[.int .i64 0, .int .i64 kg, .int .i64 kl, .int .i64 kr, .int .i64 op, .int .i64 oi, .int .i64 ot, .bool rw_, .bool ru, .bool rx, .int .u64 ov]
  have hWx := H.blk.alloc (.cells #[.int .i64 0, .int .i64 kg, .int .i64 kl, .int .i64 kr, .int .i64 op, .int .i64 oi, .int .i64 ot, .bool rw_, .bool ru, .bool rx, .int .u64 ov] 42)
  have hb0 : Below w.heap.size w (w.alloc (.cells #[.int .i64 0, .int .i64 kg, .int .i64 kl, .int .i64 kr, .int .i64 op, .int .i64 oi, .int .i64 ot, .bool rw_, .bool ru, .bool rx, .int .u64 ov] 42)) := (Below.refl _ w).alloc (Nat.le_refl _) _
  have x0 := hX.cellv 0 rfl
  go_enter Try.func14, Try.ntmps14
  go_wp2_with fail
  generalize (w.alloc (.cells #[.int .i64 0, .int .i64 kg, .int .i64 kl, .int .i64 kr, .int .i64 op, .int .i64 oi, .int .i64 ot, .bool rw_, .bool ru, .bool rx, .int .u64 ov] 42)) = wA at hX hWx hb0 ⊢
  clear x0
  have x1 := hX.cellv 1 rfl
  have x2 := hX.cellv 2 rfl
  have x3 := hX.cellv 3 rfl
  have x4 := hX.cellv 4 rfl
  have x5 := hX.cellv 5 rfl
  have x6 := hX.cellv 6 rfl
  have x7 := hX.cellv 7 rfl
  have x8 := hX.cellv 8 rfl
  have x9 := hX.cellv 9 rfl
  have x10 := hX.cellv 10 rfl
  have c1 := hWx.cellv 1 rfl
  have c2 := hWx.cellv 2 rfl
  have c3 := hWx.cellv 3 rfl
  have c4 := hWx.cellv 4 rfl
  have hbd := hb0.drew
  have Hd := H.below hbd
  have hFd := hF.mono hbd.size
  have HD := Lib.hid Hd
  have HFD := Lib.hid hFd
  have HBD := Lib.hid hbd
  have HMK := Lib.hid (hI.mk_ok ⟨kg, kl, kr⟩)
  clear hbd Hd hFd
  go_region_with (go_at_call 21; refine (guard_make tag p lawHs 8 s ⟨kg, kl, kr⟩ _ (by with_reducible exact HD.out.gr) (by with_reducible exact HFD.out) (by rw [hn]; exact HMK.out)).mono ?_; rintro e w3 ⟨rfl, tag3, H3, hM3, hF3⟩; rw [hn] at H3 ⊢)
  all_goals
    go_wp2_with fail
    go_ret2
    exact ⟨rfl, tag3, HD.out.to hM3 (by simp) H3, (Mod.of_below HBD.out).trans (hM3.mono (by simp)), hF3⟩
set_option maxRecDepth 100000 in
theorem do_make1 (tag : Nat → Nat) (p : Pt) (bW : Nat) (s : St) (o : GOp) (w : World) (H : LawR tag w p bW s) (hF : Fresh tag w) (hI : PInv 4 8 s) (ho : o.what = 1) :
    Calls Try.prog 14 #[.pointer (some ⟨bW, 0, none⟩), .agg o.cs.toArray] w (DoPost tag w p bW s o) := by
  obtain ⟨ow, ⟨kg, kl, kr⟩, op, oi, ot, ⟨rw_, ru, rx⟩, ov⟩ := o
  simp only at ho
  subst ho
  simp only [GOp.cs]
  have hn := H.n40
  have hfr0 : tag w.heap.size = 0 := hF _ (Nat.le_refl _)
  have hX := Blk.new w 42 #[.int .i64 1, .int .i64 kg, .int .i64 kl, .int .i64 kr, .int .i64 op, .int .i64 oi, .int .i64 ot, .bool rw_, .bool ru, .bool rx, .int .u64 ov]
  have hWx := H.blk.alloc (.cells #[.int .i64 1, .int .i64 kg, .int .i64 kl, .int .i64 kr, .int .i64 op, .int .i64 oi, .int .i64 ot, .bool rw_, .bool ru, .bool rx, .int .u64 ov] 42)
  have hb0 : Below w.heap.size w (w.alloc (.cells #[.int .i64 1, .int .i64 kg, .int .i64 kl, .int .i64 kr, .int .i64 op, .int .i64 oi, .int .i64 ot, .bool rw_, .bool ru, .bool rx, .int .u64 ov] 42)) := (Below.refl _ w).alloc (Nat.le_refl _) _
  have x0 := hX.cellv 0 rfl
  go_enter Try.func14, Try.ntmps14
  go_wp2_with fail
  generalize (w.alloc (.cells #[.int .i64 1, .int .i64 kg, .int .i64 kl, .int .i64 kr, .int .i64 op, .int .i64 oi, .int .i64 ot, .bool rw_, .bool ru, .bool rx, .int .u64 ov] 42)) = wA at hX hWx hb0 ⊢
  clear x0
  have x1 := hX.cellv 1 rfl
  have x2 := hX.cellv 2 rfl
  have x3 := hX.cellv 3 rfl
  have x4 := hX.cellv 4 rfl
  have x5 := hX.cellv 5 rfl
  have x6 := hX.cellv 6 rfl
  have x7 := hX.cellv 7 rfl
  have x8 := hX.cellv 8 rfl
  have x9 := hX.cellv 9 rfl
  have x10 := hX.cellv 10 rfl
  have c1 := hWx.cellv 1 rfl
  have c2 := hWx.cellv 2 rfl
  have c3 := hWx.cellv 3 rfl
  have c4 := hWx.cellv 4 rfl
  have hbd := hb0.drew
  have Hd := H.below hbd
  have hFd := hF.mono hbd.size
  have HD := Lib.hid Hd
  have HFD := Lib.hid hFd
  have HBD := Lib.hid hbd
  have HMK := Lib.hid (hI.mk_ok ⟨kg, kl, kr⟩)
  clear hbd Hd hFd
  go_region_with (go_at_call 21; refine (guard_make tag p lawHs 8 s ⟨kg, kl, kr⟩ _ (by with_reducible exact HD.out.gr) (by with_reducible exact HFD.out) (by rw [hn]; exact HMK.out)).mono ?_; rintro e w3 ⟨rfl, tag3, H3, hM3, hF3⟩; rw [hn] at H3 ⊢)
  all_goals
    go_wp2_with fail
    go_ret2
    exact ⟨rfl, tag3, HD.out.to hM3 (by simp) H3, (Mod.of_below HBD.out).trans (hM3.mono (by simp)), hF3⟩
set_option maxRecDepth 100000 in
theorem do_child2 (tag : Nat → Nat) (p : Pt) (bW : Nat) (s : St) (o : GOp) (w : World) (H : LawR tag w p bW s) (hF : Fresh tag w) (hI : PInv 4 8 s) (ho : o.what = 2) :
    Calls Try.prog 14 #[.pointer (some ⟨bW, 0, none⟩), .agg o.cs.toArray] w (DoPost tag w p bW s o) := by
  obtain ⟨ow, ⟨kg, kl, kr⟩, op, oi, ot, ⟨rw_, ru, rx⟩, ov⟩ := o
  simp only at ho
  subst ho
  simp only [GOp.cs]
  have hn := H.n40
  have hfr0 : tag w.heap.size = 0 := hF _ (Nat.le_refl _)
  have hX := Blk.new w 42 #[.int .i64 2, .int .i64 kg, .int .i64 kl, .int .i64 kr, .int .i64 op, .int .i64 oi, .int .i64 ot, .bool rw_, .bool ru, .bool rx, .int .u64 ov]
  have hWx := H.blk.alloc (.cells #[.int .i64 2, .int .i64 kg, .int .i64 kl, .int .i64 kr, .int .i64 op, .int .i64 oi, .int .i64 ot, .bool rw_, .bool ru, .bool rx, .int .u64 ov] 42)
  have hb0 : Below w.heap.size w (w.alloc (.cells #[.int .i64 2, .int .i64 kg, .int .i64 kl, .int .i64 kr, .int .i64 op, .int .i64 oi, .int .i64 ot, .bool rw_, .bool ru, .bool rx, .int .u64 ov] 42)) := (Below.refl _ w).alloc (Nat.le_refl _) _
  have x0 := hX.cellv 0 rfl
  go_enter Try.func14, Try.ntmps14
  go_wp2_with fail
  generalize (w.alloc (.cells #[.int .i64 2, .int .i64 kg, .int .i64 kl, .int .i64 kr, .int .i64 op, .int .i64 oi, .int .i64 ot, .bool rw_, .bool ru, .bool rx, .int .u64 ov] 42)) = wA at hX hWx hb0 ⊢
  clear x0
  have x1 := hX.cellv 1 rfl
  have x2 := hX.cellv 2 rfl
  have x3 := hX.cellv 3 rfl
  have x4 := hX.cellv 4 rfl
  have x5 := hX.cellv 5 rfl
  have x6 := hX.cellv 6 rfl
  have x7 := hX.cellv 7 rfl
  have x8 := hX.cellv 8 rfl
  have x9 := hX.cellv 9 rfl
  have x10 := hX.cellv 10 rfl
  have c1 := hWx.cellv 1 rfl
  have c2 := hWx.cellv 2 rfl
  have c3 := hWx.cellv 3 rfl
  have c4 := hWx.cellv 4 rfl
  go_still_tail 12, (by kernel_rfl)
  change wpList _ _ _ _ _ wA.drew
  have hbd := hb0.drew
  have Hd := H.below hbd
  have hFd := hF.mono hbd.size
  generalize wA.drew = wB at hbd Hd hFd ⊢
  clear x1 x2 x3 x4 x5 x6 x7 x8 x9 x10 c1 c2 c3 c4 hX hWx hb0
  go_wp2_with fail
  obtain ⟨v, bs, HG⟩ := Hd.gr
  refine (store_child p.a p.bF p.bL p.n tag v s.ps bs s.ws op oi ot ⟨rw_, ru, rx⟩ _ HG.sf.sh hI.lev).mono ?_
  rintro e w3 ⟨rfl, H3, hM3⟩
  rw [hn] at H3 ⊢
  go_wp2_with fail
  go_ret2
  exact ⟨rfl, tag, Hd.to hM3 (by simp) ⟨v, bs, HG.sh (by rw [hn]; exact H3) hM3 (sChild_len _ _ _ _ _)⟩, (Mod.of_below hbd).trans (hM3.mono (by simp)), hFd.mono hM3.size⟩
set_option maxRecDepth 100000 in
theorem do_child3 (tag : Nat → Nat) (p : Pt) (bW : Nat) (s : St) (o : GOp) (w : World) (H : LawR tag w p bW s) (hF : Fresh tag w) (hI : PInv 4 8 s) (ho : o.what = 3) :
    Calls Try.prog 14 #[.pointer (some ⟨bW, 0, none⟩), .agg o.cs.toArray] w (DoPost tag w p bW s o) := by
  obtain ⟨ow, ⟨kg, kl, kr⟩, op, oi, ot, ⟨rw_, ru, rx⟩, ov⟩ := o
  simp only at ho
  subst ho
  simp only [GOp.cs]
  have hn := H.n40
  have hfr0 : tag w.heap.size = 0 := hF _ (Nat.le_refl _)
  have hX := Blk.new w 42 #[.int .i64 3, .int .i64 kg, .int .i64 kl, .int .i64 kr, .int .i64 op, .int .i64 oi, .int .i64 ot, .bool rw_, .bool ru, .bool rx, .int .u64 ov]
  have hWx := H.blk.alloc (.cells #[.int .i64 3, .int .i64 kg, .int .i64 kl, .int .i64 kr, .int .i64 op, .int .i64 oi, .int .i64 ot, .bool rw_, .bool ru, .bool rx, .int .u64 ov] 42)
  have hb0 : Below w.heap.size w (w.alloc (.cells #[.int .i64 3, .int .i64 kg, .int .i64 kl, .int .i64 kr, .int .i64 op, .int .i64 oi, .int .i64 ot, .bool rw_, .bool ru, .bool rx, .int .u64 ov] 42)) := (Below.refl _ w).alloc (Nat.le_refl _) _
  have x0 := hX.cellv 0 rfl
  go_enter Try.func14, Try.ntmps14
  go_wp2_with fail
  generalize (w.alloc (.cells #[.int .i64 3, .int .i64 kg, .int .i64 kl, .int .i64 kr, .int .i64 op, .int .i64 oi, .int .i64 ot, .bool rw_, .bool ru, .bool rx, .int .u64 ov] 42)) = wA at hX hWx hb0 ⊢
  clear x0
  have x1 := hX.cellv 1 rfl
  have x2 := hX.cellv 2 rfl
  have x3 := hX.cellv 3 rfl
  have x4 := hX.cellv 4 rfl
  have x5 := hX.cellv 5 rfl
  have x6 := hX.cellv 6 rfl
  have x7 := hX.cellv 7 rfl
  have x8 := hX.cellv 8 rfl
  have x9 := hX.cellv 9 rfl
  have x10 := hX.cellv 10 rfl
  have c1 := hWx.cellv 1 rfl
  have c2 := hWx.cellv 2 rfl
  have c3 := hWx.cellv 3 rfl
  have c4 := hWx.cellv 4 rfl
  go_still_tail 12, (by kernel_rfl)
  change wpList _ _ _ _ _ wA.drew
  have hbd := hb0.drew
  have Hd := H.below hbd
  have hFd := hF.mono hbd.size
  generalize wA.drew = wB at hbd Hd hFd ⊢
  clear x1 x2 x3 x4 x5 x6 x7 x8 x9 x10 c1 c2 c3 c4 hX hWx hb0
  go_wp2_with fail
  obtain ⟨v, bs, HG⟩ := Hd.gr
  refine (store_child p.a p.bF p.bL p.n tag v s.ps bs s.ws op oi ot ⟨rw_, ru, rx⟩ _ HG.sf.sh hI.lev).mono ?_
  rintro e w3 ⟨rfl, H3, hM3⟩
  rw [hn] at H3 ⊢
  go_wp2_with fail
  go_ret2
  exact ⟨rfl, tag, Hd.to hM3 (by simp) ⟨v, bs, HG.sh (by rw [hn]; exact H3) hM3 (sChild_len _ _ _ _ _)⟩, (Mod.of_below hbd).trans (hM3.mono (by simp)), hFd.mono hM3.size⟩
set_option maxRecDepth 100000 in
theorem do_leaf4 (tag : Nat → Nat) (p : Pt) (bW : Nat) (s : St) (o : GOp) (w : World) (H : LawR tag w p bW s) (hF : Fresh tag w) (hI : PInv 4 8 s) (ho : o.what = 4) :
    Calls Try.prog 14 #[.pointer (some ⟨bW, 0, none⟩), .agg o.cs.toArray] w (DoPost tag w p bW s o) := by
  obtain ⟨ow, ⟨kg, kl, kr⟩, op, oi, ot, ⟨rw_, ru, rx⟩, ov⟩ := o
  simp only at ho
  subst ho
  simp only [GOp.cs]
  have hn := H.n40
  have hfr0 : tag w.heap.size = 0 := hF _ (Nat.le_refl _)
  have hX := Blk.new w 42 #[.int .i64 4, .int .i64 kg, .int .i64 kl, .int .i64 kr, .int .i64 op, .int .i64 oi, .int .i64 ot, .bool rw_, .bool ru, .bool rx, .int .u64 ov]
  have hWx := H.blk.alloc (.cells #[.int .i64 4, .int .i64 kg, .int .i64 kl, .int .i64 kr, .int .i64 op, .int .i64 oi, .int .i64 ot, .bool rw_, .bool ru, .bool rx, .int .u64 ov] 42)
  have hb0 : Below w.heap.size w (w.alloc (.cells #[.int .i64 4, .int .i64 kg, .int .i64 kl, .int .i64 kr, .int .i64 op, .int .i64 oi, .int .i64 ot, .bool rw_, .bool ru, .bool rx, .int .u64 ov] 42)) := (Below.refl _ w).alloc (Nat.le_refl _) _
  have x0 := hX.cellv 0 rfl
  go_enter Try.func14, Try.ntmps14
  go_wp2_with fail
  generalize (w.alloc (.cells #[.int .i64 4, .int .i64 kg, .int .i64 kl, .int .i64 kr, .int .i64 op, .int .i64 oi, .int .i64 ot, .bool rw_, .bool ru, .bool rx, .int .u64 ov] 42)) = wA at hX hWx hb0 ⊢
  clear x0
  have x1 := hX.cellv 1 rfl
  have x2 := hX.cellv 2 rfl
  have x3 := hX.cellv 3 rfl
  have x4 := hX.cellv 4 rfl
  have x5 := hX.cellv 5 rfl
  have x6 := hX.cellv 6 rfl
  have x7 := hX.cellv 7 rfl
  have x8 := hX.cellv 8 rfl
  have x9 := hX.cellv 9 rfl
  have x10 := hX.cellv 10 rfl
  have c1 := hWx.cellv 1 rfl
  have c2 := hWx.cellv 2 rfl
  have c3 := hWx.cellv 3 rfl
  have c4 := hWx.cellv 4 rfl
  have h15 := and15 ot
  go_still_tail 16, (by kernel_rfl)
  change wpList _ _ _ _ _ wA.drew
  have hbd := hb0.drew
  have Hd := H.below hbd
  have hFd := hF.mono hbd.size
  generalize wA.drew = wB at hbd Hd hFd ⊢
  clear x1 x2 x3 x4 x5 x6 x7 x8 x9 x10 c1 c2 c3 c4 hX hWx hb0
  go_wp2_with fail
  obtain ⟨v, bs, HG⟩ := Hd.gr
  refine (store_leaf p.a p.bF p.bL p.n tag v s.ps bs s.ws op oi ot (24 + ot % 16) ⟨rw_, ru, rx⟩ _ HG.sf.sh).mono ?_
  rintro e w3 ⟨rfl, H3, hM3⟩
  rw [hn] at H3 ⊢
  go_wp2_with fail
  go_ret2
  exact ⟨rfl, tag, Hd.to hM3 (by simp) ⟨v, bs, HG.sh (by rw [hn]; exact H3) hM3 (sLeaf_len _ _ _ _ _ _ _)⟩, (Mod.of_below hbd).trans (hM3.mono (by simp)), hFd.mono hM3.size⟩
set_option maxRecDepth 100000 in
theorem do_leaf5 (tag : Nat → Nat) (p : Pt) (bW : Nat) (s : St) (o : GOp) (w : World) (H : LawR tag w p bW s) (hF : Fresh tag w) (hI : PInv 4 8 s) (ho : o.what = 5) :
    Calls Try.prog 14 #[.pointer (some ⟨bW, 0, none⟩), .agg o.cs.toArray] w (DoPost tag w p bW s o) := by
  obtain ⟨ow, ⟨kg, kl, kr⟩, op, oi, ot, ⟨rw_, ru, rx⟩, ov⟩ := o
  simp only at ho
  subst ho
  simp only [GOp.cs]
  have hn := H.n40
  have hfr0 : tag w.heap.size = 0 := hF _ (Nat.le_refl _)
  have hX := Blk.new w 42 #[.int .i64 5, .int .i64 kg, .int .i64 kl, .int .i64 kr, .int .i64 op, .int .i64 oi, .int .i64 ot, .bool rw_, .bool ru, .bool rx, .int .u64 ov]
  have hWx := H.blk.alloc (.cells #[.int .i64 5, .int .i64 kg, .int .i64 kl, .int .i64 kr, .int .i64 op, .int .i64 oi, .int .i64 ot, .bool rw_, .bool ru, .bool rx, .int .u64 ov] 42)
  have hb0 : Below w.heap.size w (w.alloc (.cells #[.int .i64 5, .int .i64 kg, .int .i64 kl, .int .i64 kr, .int .i64 op, .int .i64 oi, .int .i64 ot, .bool rw_, .bool ru, .bool rx, .int .u64 ov] 42)) := (Below.refl _ w).alloc (Nat.le_refl _) _
  have x0 := hX.cellv 0 rfl
  go_enter Try.func14, Try.ntmps14
  go_wp2_with fail
  generalize (w.alloc (.cells #[.int .i64 5, .int .i64 kg, .int .i64 kl, .int .i64 kr, .int .i64 op, .int .i64 oi, .int .i64 ot, .bool rw_, .bool ru, .bool rx, .int .u64 ov] 42)) = wA at hX hWx hb0 ⊢
  clear x0
  have x1 := hX.cellv 1 rfl
  have x2 := hX.cellv 2 rfl
  have x3 := hX.cellv 3 rfl
  have x4 := hX.cellv 4 rfl
  have x5 := hX.cellv 5 rfl
  have x6 := hX.cellv 6 rfl
  have x7 := hX.cellv 7 rfl
  have x8 := hX.cellv 8 rfl
  have x9 := hX.cellv 9 rfl
  have x10 := hX.cellv 10 rfl
  have c1 := hWx.cellv 1 rfl
  have c2 := hWx.cellv 2 rfl
  have c3 := hWx.cellv 3 rfl
  have c4 := hWx.cellv 4 rfl
  have h15 := and15 ot
  go_still_tail 16, (by kernel_rfl)
  change wpList _ _ _ _ _ wA.drew
  have hbd := hb0.drew
  have Hd := H.below hbd
  have hFd := hF.mono hbd.size
  generalize wA.drew = wB at hbd Hd hFd ⊢
  clear x1 x2 x3 x4 x5 x6 x7 x8 x9 x10 c1 c2 c3 c4 hX hWx hb0
  go_wp2_with fail
  obtain ⟨v, bs, HG⟩ := Hd.gr
  refine (store_leaf p.a p.bF p.bL p.n tag v s.ps bs s.ws op oi ot (24 + ot % 16) ⟨rw_, ru, rx⟩ _ HG.sf.sh).mono ?_
  rintro e w3 ⟨rfl, H3, hM3⟩
  rw [hn] at H3 ⊢
  go_wp2_with fail
  go_ret2
  exact ⟨rfl, tag, Hd.to hM3 (by simp) ⟨v, bs, HG.sh (by rw [hn]; exact H3) hM3 (sLeaf_len _ _ _ _ _ _ _)⟩, (Mod.of_below hbd).trans (hM3.mono (by simp)), hFd.mono hM3.size⟩
end Go.Proofs.Ytbmbgicdnegkfaa

/- The law's call: do, the other operations. -/
namespace Go.Proofs.Ytbmbgicdnegkfaa
open Go Go.RowKit Sil
attribute [local go_sem ↓] Go.wp_at_zero Go.wp_at_succ


theorem tPut_len {most : Int} {hs : List Hit} (h : Hit) (hl : (hs.length : Int) ≤ most) : ((tPut most hs h).length : Int) ≤ most ∨ most < 1 := by
  unfold tPut
  simp only []
  have h1 := List.length_eraseP_le (p := hitIs h.asid h.page) (l := hs)
  generalize hs.eraseP (hitIs h.asid h.page) = l at *
  split
  · rename_i e
    rw [List.length_append, List.length_singleton]
    by_cases hp : 0 < l.length
    · rw [List.length_eraseIdx_of_lt hp]; omega
    · right; omega
  · rw [List.length_append, List.length_singleton]; omega

set_option maxRecDepth 100000 in
theorem do_zap (tag : Nat → Nat) (p : Pt) (bW : Nat) (s : St) (o : GOp) (w : World) (H : LawR tag w p bW s) (hF : Fresh tag w) (hI : PInv 4 8 s) (hh : s.hits.length ≤ 8) (hwf : (Lit.int .i64 o.p).wf = true) (ho : o.what = 6) :
    Calls Try.prog 14 #[.pointer (some ⟨bW, 0, none⟩), .agg o.cs.toArray] w (DoPost tag w p bW s o) := by
  obtain ⟨ow, ⟨kg, kl, kr⟩, op, oi, ot, ⟨rw_, ru, rx⟩, ov⟩ := o
  simp only at ho
  subst ho
  simp only [GOp.cs]
  have hn := H.n40
  have hfr0 : tag w.heap.size = 0 := hF _ (Nat.le_refl _)
  have hX := Blk.new w 42 #[.int .i64 6, .int .i64 kg, .int .i64 kl, .int .i64 kr, .int .i64 op, .int .i64 oi, .int .i64 ot, .bool rw_, .bool ru, .bool rx, .int .u64 ov]
  have hWx := H.blk.alloc (.cells #[.int .i64 6, .int .i64 kg, .int .i64 kl, .int .i64 kr, .int .i64 op, .int .i64 oi, .int .i64 ot, .bool rw_, .bool ru, .bool rx, .int .u64 ov] 42)
  have hb0 : Below w.heap.size w (w.alloc (.cells #[.int .i64 6, .int .i64 kg, .int .i64 kl, .int .i64 kr, .int .i64 op, .int .i64 oi, .int .i64 ot, .bool rw_, .bool ru, .bool rx, .int .u64 ov] 42)) := (Below.refl _ w).alloc (Nat.le_refl _) _
  have x0 := hX.cellv 0 rfl
  go_enter Try.func14, Try.ntmps14
  go_wp2_with fail
  generalize (w.alloc (.cells #[.int .i64 6, .int .i64 kg, .int .i64 kl, .int .i64 kr, .int .i64 op, .int .i64 oi, .int .i64 ot, .bool rw_, .bool ru, .bool rx, .int .u64 ov] 42)) = wA at hX hWx hb0 ⊢
  clear x0
  have x1 := hX.cellv 1 rfl
  have x2 := hX.cellv 2 rfl
  have x3 := hX.cellv 3 rfl
  have x4 := hX.cellv 4 rfl
  have x5 := hX.cellv 5 rfl
  have x6 := hX.cellv 6 rfl
  have x7 := hX.cellv 7 rfl
  have x8 := hX.cellv 8 rfl
  have x9 := hX.cellv 9 rfl
  have x10 := hX.cellv 10 rfl
  have c1 := hWx.cellv 1 rfl
  have c2 := hWx.cellv 2 rfl
  have c3 := hWx.cellv 3 rfl
  have c4 := hWx.cellv 4 rfl
  go_still_tail 8, (by kernel_rfl)
  change wpList _ _ _ _ _ wA.drew
  have hbd := hb0.drew
  have Hd := H.below hbd
  have hFd := hF.mono hbd.size
  generalize wA.drew = wB at hbd Hd hFd ⊢
  clear x1 x2 x3 x4 x5 x6 x7 x8 x9 x10 c1 c2 c3 c4 hX hWx hb0
  go_wp2_with fail
  refine (guard_zap tag p lawHs 8 s op oi _ Hd.gr).mono ?_
  rintro e w3 ⟨rfl, H3, hM3⟩
  rw [hn] at H3 ⊢
  go_wp2_with fail
  go_ret2
  exact ⟨rfl, tag, Hd.to hM3 (by simp) H3, (Mod.of_below hbd).trans (hM3.mono (by simp)), hFd.mono hM3.size⟩
set_option maxRecDepth 100000 in
theorem do_word (tag : Nat → Nat) (p : Pt) (bW : Nat) (s : St) (o : GOp) (w : World) (H : LawR tag w p bW s) (hF : Fresh tag w) (hI : PInv 4 8 s) (hh : s.hits.length ≤ 8) (hwf : (Lit.int .i64 o.p).wf = true) (ho : o.what = 7) :
    Calls Try.prog 14 #[.pointer (some ⟨bW, 0, none⟩), .agg o.cs.toArray] w (DoPost tag w p bW s o) := by
  obtain ⟨ow, ⟨kg, kl, kr⟩, op, oi, ot, ⟨rw_, ru, rx⟩, ov⟩ := o
  simp only at ho
  subst ho
  simp only [GOp.cs]
  have hn := H.n40
  have hfr0 : tag w.heap.size = 0 := hF _ (Nat.le_refl _)
  have hX := Blk.new w 42 #[.int .i64 7, .int .i64 kg, .int .i64 kl, .int .i64 kr, .int .i64 op, .int .i64 oi, .int .i64 ot, .bool rw_, .bool ru, .bool rx, .int .u64 ov]
  have hWx := H.blk.alloc (.cells #[.int .i64 7, .int .i64 kg, .int .i64 kl, .int .i64 kr, .int .i64 op, .int .i64 oi, .int .i64 ot, .bool rw_, .bool ru, .bool rx, .int .u64 ov] 42)
  have hb0 : Below w.heap.size w (w.alloc (.cells #[.int .i64 7, .int .i64 kg, .int .i64 kl, .int .i64 kr, .int .i64 op, .int .i64 oi, .int .i64 ot, .bool rw_, .bool ru, .bool rx, .int .u64 ov] 42)) := (Below.refl _ w).alloc (Nat.le_refl _) _
  have x0 := hX.cellv 0 rfl
  go_enter Try.func14, Try.ntmps14
  go_wp2_with fail
  generalize (w.alloc (.cells #[.int .i64 7, .int .i64 kg, .int .i64 kl, .int .i64 kr, .int .i64 op, .int .i64 oi, .int .i64 ot, .bool rw_, .bool ru, .bool rx, .int .u64 ov] 42)) = wA at hX hWx hb0 ⊢
  clear x0
  have x1 := hX.cellv 1 rfl
  have x2 := hX.cellv 2 rfl
  have x3 := hX.cellv 3 rfl
  have x4 := hX.cellv 4 rfl
  have x5 := hX.cellv 5 rfl
  have x6 := hX.cellv 6 rfl
  have x7 := hX.cellv 7 rfl
  have x8 := hX.cellv 8 rfl
  have x9 := hX.cellv 9 rfl
  have x10 := hX.cellv 10 rfl
  have c1 := hWx.cellv 1 rfl
  have c2 := hWx.cellv 2 rfl
  have c3 := hWx.cellv 3 rfl
  have c4 := hWx.cellv 4 rfl
  go_still_tail 8, (by kernel_rfl)
  change wpList _ _ _ _ _ wA.drew
  have hbd := hb0.drew
  have Hd := H.below hbd
  have hFd := hF.mono hbd.size
  generalize wA.drew = wB at hbd Hd hFd ⊢
  clear x1 x2 x3 x4 x5 x6 x7 x8 x9 x10 c1 c2 c3 c4 hX hWx hb0
  go_wp2_with fail
  refine (guard_word tag p lawHs 8 s ot oi _ Hd.gr hFd).mono ?_
  rintro e w3 ⟨rfl, H3, hM3⟩
  rw [hn] at H3
  go_wp2_with fail
  go_ret2
  exact ⟨rfl, tag, Hd.to hM3 (by simp) H3, (Mod.of_below hbd).trans (hM3.mono (by simp)), hFd.mono hM3.size⟩
set_option maxRecDepth 100000 in
theorem do_loosen (tag : Nat → Nat) (p : Pt) (bW : Nat) (s : St) (o : GOp) (w : World) (H : LawR tag w p bW s) (hF : Fresh tag w) (hI : PInv 4 8 s) (hh : s.hits.length ≤ 8) (hwf : (Lit.int .i64 o.p).wf = true) (ho : o.what = 8) :
    Calls Try.prog 14 #[.pointer (some ⟨bW, 0, none⟩), .agg o.cs.toArray] w (DoPost tag w p bW s o) := by
  obtain ⟨ow, ⟨kg, kl, kr⟩, op, oi, ot, ⟨rw_, ru, rx⟩, ov⟩ := o
  simp only at ho
  subst ho
  simp only [GOp.cs]
  have hn := H.n40
  have hfr0 : tag w.heap.size = 0 := hF _ (Nat.le_refl _)
  have hX := Blk.new w 42 #[.int .i64 8, .int .i64 kg, .int .i64 kl, .int .i64 kr, .int .i64 op, .int .i64 oi, .int .i64 ot, .bool rw_, .bool ru, .bool rx, .int .u64 ov]
  have hWx := H.blk.alloc (.cells #[.int .i64 8, .int .i64 kg, .int .i64 kl, .int .i64 kr, .int .i64 op, .int .i64 oi, .int .i64 ot, .bool rw_, .bool ru, .bool rx, .int .u64 ov] 42)
  have hb0 : Below w.heap.size w (w.alloc (.cells #[.int .i64 8, .int .i64 kg, .int .i64 kl, .int .i64 kr, .int .i64 op, .int .i64 oi, .int .i64 ot, .bool rw_, .bool ru, .bool rx, .int .u64 ov] 42)) := (Below.refl _ w).alloc (Nat.le_refl _) _
  have x0 := hX.cellv 0 rfl
  go_enter Try.func14, Try.ntmps14
  go_wp2_with fail
  generalize (w.alloc (.cells #[.int .i64 8, .int .i64 kg, .int .i64 kl, .int .i64 kr, .int .i64 op, .int .i64 oi, .int .i64 ot, .bool rw_, .bool ru, .bool rx, .int .u64 ov] 42)) = wA at hX hWx hb0 ⊢
  clear x0
  have x1 := hX.cellv 1 rfl
  have x2 := hX.cellv 2 rfl
  have x3 := hX.cellv 3 rfl
  have x4 := hX.cellv 4 rfl
  have x5 := hX.cellv 5 rfl
  have x6 := hX.cellv 6 rfl
  have x7 := hX.cellv 7 rfl
  have x8 := hX.cellv 8 rfl
  have x9 := hX.cellv 9 rfl
  have x10 := hX.cellv 10 rfl
  have c1 := hWx.cellv 1 rfl
  have c2 := hWx.cellv 2 rfl
  have c3 := hWx.cellv 3 rfl
  have c4 := hWx.cellv 4 rfl
  go_still_tail 6, (by kernel_rfl)
  change wpList _ _ _ _ _ wA.drew
  have hbd := hb0.drew
  have Hd := H.below hbd
  have hFd := hF.mono hbd.size
  generalize wA.drew = wB at hbd Hd hFd ⊢
  clear x1 x2 x3 x4 x5 x6 x7 x8 x9 x10 c1 c2 c3 c4 hX hWx hb0
  go_wp2_with fail
  have hll := hI.looseLen
  have hsz := hI.sizes
  have h8 : (8 : Int).toNat = 8 := rfl
  rw [h8] at hsz
  refine (guard_loosen tag p lawHs 8 s ot _ Hd.gr hFd (by omega)).mono ?_
  rintro e w3 ⟨rfl, tag3, H3, hM3, hF3⟩
  clear hll hsz h8
  go_wp2_with fail
  go_ret2
  exact ⟨rfl, tag3, Hd.to hM3 (by simp) H3, (Mod.of_below hbd).trans (hM3.mono (by simp)), hF3⟩
set_option maxRecDepth 100000 in
theorem do_look (tag : Nat → Nat) (p : Pt) (bW : Nat) (s : St) (o : GOp) (w : World) (H : LawR tag w p bW s) (hF : Fresh tag w) (hI : PInv 4 8 s) (hh : s.hits.length ≤ 8) (hwf : (Lit.int .i64 o.p).wf = true) (ho : o.what = 9) :
    Calls Try.prog 14 #[.pointer (some ⟨bW, 0, none⟩), .agg o.cs.toArray] w (DoPost tag w p bW s o) := by
  obtain ⟨ow, ⟨kg, kl, kr⟩, op, oi, ot, ⟨rw_, ru, rx⟩, ov⟩ := o
  simp only at ho
  subst ho
  simp only [GOp.cs]
  have hn := H.n40
  have hfr0 : tag w.heap.size = 0 := hF _ (Nat.le_refl _)
  have hX := Blk.new w 42 #[.int .i64 9, .int .i64 kg, .int .i64 kl, .int .i64 kr, .int .i64 op, .int .i64 oi, .int .i64 ot, .bool rw_, .bool ru, .bool rx, .int .u64 ov]
  have hWx := H.blk.alloc (.cells #[.int .i64 9, .int .i64 kg, .int .i64 kl, .int .i64 kr, .int .i64 op, .int .i64 oi, .int .i64 ot, .bool rw_, .bool ru, .bool rx, .int .u64 ov] 42)
  have hb0 : Below w.heap.size w (w.alloc (.cells #[.int .i64 9, .int .i64 kg, .int .i64 kl, .int .i64 kr, .int .i64 op, .int .i64 oi, .int .i64 ot, .bool rw_, .bool ru, .bool rx, .int .u64 ov] 42)) := (Below.refl _ w).alloc (Nat.le_refl _) _
  have x0 := hX.cellv 0 rfl
  go_enter Try.func14, Try.ntmps14
  go_wp2_with fail
  generalize (w.alloc (.cells #[.int .i64 9, .int .i64 kg, .int .i64 kl, .int .i64 kr, .int .i64 op, .int .i64 oi, .int .i64 ot, .bool rw_, .bool ru, .bool rx, .int .u64 ov] 42)) = wA at hX hWx hb0 ⊢
  clear x0
  have x1 := hX.cellv 1 rfl
  have x2 := hX.cellv 2 rfl
  have x3 := hX.cellv 3 rfl
  have x4 := hX.cellv 4 rfl
  have x5 := hX.cellv 5 rfl
  have x6 := hX.cellv 6 rfl
  have x7 := hX.cellv 7 rfl
  have x8 := hX.cellv 8 rfl
  have x9 := hX.cellv 9 rfl
  have x10 := hX.cellv 10 rfl
  have c1 := hWx.cellv 1 rfl
  have c2 := hWx.cellv 2 rfl
  have c3 := hWx.cellv 3 rfl
  have c4 := hWx.cellv 4 rfl
  go_still_tail 6, (by kernel_rfl)
  change wpList _ _ _ _ _ wA.drew
  have hbd := hb0.drew
  have Hd := H.below hbd
  have hFd := hF.mono hbd.size
  generalize wA.drew = wB at hbd Hd hFd ⊢
  clear x1 x2 x3 x4 x5 x6 x7 x8 x9 x10 c1 c2 c3 c4 hX hWx hb0
  go_wp2_with fail
  refine (guard_look tag p lawHs 8 s ot _ Hd.gr hFd).mono ?_
  rintro e w3 ⟨rfl, H3, hM3⟩
  rw [hn] at H3
  go_wp2_with fail
  go_ret2
  exact ⟨rfl, tag, Hd.to hM3 (by simp) H3, (Mod.of_below hbd).trans (hM3.mono (by simp)), hFd.mono hM3.size⟩
set_option maxRecDepth 100000 in
theorem do_all (tag : Nat → Nat) (p : Pt) (bW : Nat) (s : St) (o : GOp) (w : World) (H : LawR tag w p bW s) (hF : Fresh tag w) (hI : PInv 4 8 s) (hh : s.hits.length ≤ 8) (hwf : (Lit.int .i64 o.p).wf = true) (ho : o.what = 10) :
    Calls Try.prog 14 #[.pointer (some ⟨bW, 0, none⟩), .agg o.cs.toArray] w (DoPost tag w p bW s o) := by
  obtain ⟨ow, ⟨kg, kl, kr⟩, op, oi, ot, ⟨rw_, ru, rx⟩, ov⟩ := o
  simp only at ho
  subst ho
  simp only [GOp.cs]
  have hn := H.n40
  have hb0 : Below w.heap.size w (w.alloc (.cells #[.int .i64 10, .int .i64 kg, .int .i64 kl, .int .i64 kr, .int .i64 op, .int .i64 oi, .int .i64 ot, .bool rw_, .bool ru, .bool rx, .int .u64 ov] 42)) := (Below.refl _ w).alloc (Nat.le_refl _) _
  have Hd := H.below hb0
  have hFd := hF.mono hb0.size
  have c4 := H.blk.cellv 4 rfl
  have hlt := H.blk.lt
  go_enter Try.func14, Try.ntmps14
  go_wp2_with fail
  refine (guard_all tag p lawHs 8 s _ Hd.gr hFd).mono ?_
  rintro e w3 ⟨rfl, H3, hM3⟩
  rw [hn] at H3
  go_wp2_with fail
  go_ret2
  exact ⟨rfl, tag, Hd.to hM3 (by simp) H3, (Mod.of_below hb0).trans (hM3.mono (by simp)), hFd.mono hM3.size⟩
set_option maxRecDepth 100000 in
theorem do_drop (tag : Nat → Nat) (p : Pt) (bW : Nat) (s : St) (o : GOp) (w : World) (H : LawR tag w p bW s) (hF : Fresh tag w) (hI : PInv 4 8 s) (hh : s.hits.length ≤ 8) (hwf : (Lit.int .i64 o.p).wf = true) (ho : o.what = 11) :
    Calls Try.prog 14 #[.pointer (some ⟨bW, 0, none⟩), .agg o.cs.toArray] w (DoPost tag w p bW s o) := by
  obtain ⟨ow, ⟨kg, kl, kr⟩, op, oi, ot, ⟨rw_, ru, rx⟩, ov⟩ := o
  simp only at ho
  subst ho
  simp only [GOp.cs]
  have hn := H.n40
  have hfr0 : tag w.heap.size = 0 := hF _ (Nat.le_refl _)
  have hX := Blk.new w 42 #[.int .i64 11, .int .i64 kg, .int .i64 kl, .int .i64 kr, .int .i64 op, .int .i64 oi, .int .i64 ot, .bool rw_, .bool ru, .bool rx, .int .u64 ov]
  have hWx := H.blk.alloc (.cells #[.int .i64 11, .int .i64 kg, .int .i64 kl, .int .i64 kr, .int .i64 op, .int .i64 oi, .int .i64 ot, .bool rw_, .bool ru, .bool rx, .int .u64 ov] 42)
  have hb0 : Below w.heap.size w (w.alloc (.cells #[.int .i64 11, .int .i64 kg, .int .i64 kl, .int .i64 kr, .int .i64 op, .int .i64 oi, .int .i64 ot, .bool rw_, .bool ru, .bool rx, .int .u64 ov] 42)) := (Below.refl _ w).alloc (Nat.le_refl _) _
  have x0 := hX.cellv 0 rfl
  go_enter Try.func14, Try.ntmps14
  go_wp2_with fail
  generalize (w.alloc (.cells #[.int .i64 11, .int .i64 kg, .int .i64 kl, .int .i64 kr, .int .i64 op, .int .i64 oi, .int .i64 ot, .bool rw_, .bool ru, .bool rx, .int .u64 ov] 42)) = wA at hX hWx hb0 ⊢
  clear x0
  have x1 := hX.cellv 1 rfl
  have x2 := hX.cellv 2 rfl
  have x3 := hX.cellv 3 rfl
  have x4 := hX.cellv 4 rfl
  have x5 := hX.cellv 5 rfl
  have x6 := hX.cellv 6 rfl
  have x7 := hX.cellv 7 rfl
  have x8 := hX.cellv 8 rfl
  have x9 := hX.cellv 9 rfl
  have x10 := hX.cellv 10 rfl
  have c1 := hWx.cellv 1 rfl
  have c2 := hWx.cellv 2 rfl
  have c3 := hWx.cellv 3 rfl
  have c4 := hWx.cellv 4 rfl
  go_still_tail 6, (by kernel_rfl)
  change wpList _ _ _ _ _ wA.drew
  have hbd := hb0.drew
  have Hd := H.below hbd
  have hFd := hF.mono hbd.size
  generalize wA.drew = wB at hbd Hd hFd ⊢
  clear x1 x2 x3 x4 x5 x6 x7 x8 x9 x10 c1 c2 c3 c4 hX hWx hb0
  go_wp2_with fail
  refine (guard_drop tag p lawHs 8 s op _ Hd.gr hFd hwf hI.tk (hI.drop_ok op)).mono ?_
  rintro e w3 ⟨rfl, tag3, H3, hM3, hF3⟩
  rw [hn] at H3
  go_wp2_with fail
  go_ret2
  exact ⟨rfl, tag3, Hd.to hM3 (by simp) H3, (Mod.of_below hbd).trans (hM3.mono (by simp)), hF3⟩
set_option maxRecDepth 100000 in
theorem do_set (tag : Nat → Nat) (p : Pt) (bW : Nat) (s : St) (o : GOp) (w : World) (H : LawR tag w p bW s) (hF : Fresh tag w) (hI : PInv 4 8 s) (hh : s.hits.length ≤ 8) (hwf : (Lit.int .i64 o.p).wf = true) (ho : o.what = 12) :
    Calls Try.prog 14 #[.pointer (some ⟨bW, 0, none⟩), .agg o.cs.toArray] w (DoPost tag w p bW s o) := by
  obtain ⟨ow, ⟨kg, kl, kr⟩, op, oi, ot, ⟨rw_, ru, rx⟩, ov⟩ := o
  simp only at ho
  subst ho
  simp only [GOp.cs]
  have hn := H.n40
  have hfr0 : tag w.heap.size = 0 := hF _ (Nat.le_refl _)
  have hX := Blk.new w 42 #[.int .i64 12, .int .i64 kg, .int .i64 kl, .int .i64 kr, .int .i64 op, .int .i64 oi, .int .i64 ot, .bool rw_, .bool ru, .bool rx, .int .u64 ov]
  have hWx := H.blk.alloc (.cells #[.int .i64 12, .int .i64 kg, .int .i64 kl, .int .i64 kr, .int .i64 op, .int .i64 oi, .int .i64 ot, .bool rw_, .bool ru, .bool rx, .int .u64 ov] 42)
  have hb0 : Below w.heap.size w (w.alloc (.cells #[.int .i64 12, .int .i64 kg, .int .i64 kl, .int .i64 kr, .int .i64 op, .int .i64 oi, .int .i64 ot, .bool rw_, .bool ru, .bool rx, .int .u64 ov] 42)) := (Below.refl _ w).alloc (Nat.le_refl _) _
  have x0 := hX.cellv 0 rfl
  go_enter Try.func14, Try.ntmps14
  go_wp2_with fail
  generalize (w.alloc (.cells #[.int .i64 12, .int .i64 kg, .int .i64 kl, .int .i64 kr, .int .i64 op, .int .i64 oi, .int .i64 ot, .bool rw_, .bool ru, .bool rx, .int .u64 ov] 42)) = wA at hX hWx hb0 ⊢
  clear x0
  have x1 := hX.cellv 1 rfl
  have x2 := hX.cellv 2 rfl
  have x3 := hX.cellv 3 rfl
  have x4 := hX.cellv 4 rfl
  have x5 := hX.cellv 5 rfl
  have x6 := hX.cellv 6 rfl
  have x7 := hX.cellv 7 rfl
  have x8 := hX.cellv 8 rfl
  have x9 := hX.cellv 9 rfl
  have x10 := hX.cellv 10 rfl
  have c1 := hWx.cellv 1 rfl
  have c2 := hWx.cellv 2 rfl
  have c3 := hWx.cellv 3 rfl
  have c4 := hWx.cellv 4 rfl
  go_still_tail 10, (by kernel_rfl)
  change wpList _ _ _ _ _ wA.drew
  have hbd := hb0.drew
  have Hd := H.below hbd
  have hFd := hF.mono hbd.size
  generalize wA.drew = wB at hbd Hd hFd ⊢
  clear x1 x2 x3 x4 x5 x6 x7 x8 x9 x10 c1 c2 c3 c4 hX hWx hb0
  go_wp2_with fail
  obtain ⟨v, bs, HG⟩ := Hd.gr
  refine (guest_set 1 3 p.bG p.bM p.bF p.n tag lawHs s.ws ot oi ov _ HG.gb HG.mp HG.sf.sh.ho).mono ?_
  rintro e w3 ⟨rfl, H3, hM3⟩
  rw [hn] at H3 ⊢
  go_wp2_with fail
  go_ret2
  have hG3 : GX tag w3 p lawHs 8 v bs { s with ps := s.ps, ws := guset 40 lawHs s.ws ot oi ov } := HG.sh ⟨HG.sf.sh.st.mod hM3 (by simp) (by simp) (by simp), by rw [hn]; exact H3, HG.sf.sh.hn⟩ (hM3.mono (by simp)) rfl
  exact ⟨rfl, tag, Hd.to hM3 (by simp) ⟨v, bs, hG3⟩, (Mod.of_below hbd).trans (hM3.mono (by simp)), hFd.mono hM3.size⟩
set_option maxRecDepth 100000 in
theorem do_put (tag : Nat → Nat) (p : Pt) (bW : Nat) (s : St) (o : GOp) (w : World) (H : LawR tag w p bW s) (hF : Fresh tag w) (hI : PInv 4 8 s) (hh : s.hits.length ≤ 8) (hwf : (Lit.int .i64 o.p).wf = true) (ho : o.what = 13) :
    Calls Try.prog 14 #[.pointer (some ⟨bW, 0, none⟩), .agg o.cs.toArray] w (DoPost tag w p bW s o) := by
  obtain ⟨ow, ⟨kg, kl, kr⟩, op, oi, ot, ⟨rw_, ru, rx⟩, ov⟩ := o
  simp only at ho
  subst ho
  simp only [GOp.cs]
  have hn := H.n40
  have hfr0 : tag w.heap.size = 0 := hF _ (Nat.le_refl _)
  have hX := Blk.new w 42 #[.int .i64 13, .int .i64 kg, .int .i64 kl, .int .i64 kr, .int .i64 op, .int .i64 oi, .int .i64 ot, .bool rw_, .bool ru, .bool rx, .int .u64 ov]
  have hWx := H.blk.alloc (.cells #[.int .i64 13, .int .i64 kg, .int .i64 kl, .int .i64 kr, .int .i64 op, .int .i64 oi, .int .i64 ot, .bool rw_, .bool ru, .bool rx, .int .u64 ov] 42)
  have hb0 : Below w.heap.size w (w.alloc (.cells #[.int .i64 13, .int .i64 kg, .int .i64 kl, .int .i64 kr, .int .i64 op, .int .i64 oi, .int .i64 ot, .bool rw_, .bool ru, .bool rx, .int .u64 ov] 42)) := (Below.refl _ w).alloc (Nat.le_refl _) _
  have x0 := hX.cellv 0 rfl
  go_enter Try.func14, Try.ntmps14
  go_wp2_with fail
  generalize (w.alloc (.cells #[.int .i64 13, .int .i64 kg, .int .i64 kl, .int .i64 kr, .int .i64 op, .int .i64 oi, .int .i64 ot, .bool rw_, .bool ru, .bool rx, .int .u64 ov] 42)) = wA at hX hWx hb0 ⊢
  clear x0
  have x1 := hX.cellv 1 rfl
  have x2 := hX.cellv 2 rfl
  have x3 := hX.cellv 3 rfl
  have x4 := hX.cellv 4 rfl
  have x5 := hX.cellv 5 rfl
  have x6 := hX.cellv 6 rfl
  have x7 := hX.cellv 7 rfl
  have x8 := hX.cellv 8 rfl
  have x9 := hX.cellv 9 rfl
  have x10 := hX.cellv 10 rfl
  have c1 := hWx.cellv 1 rfl
  have c2 := hWx.cellv 2 rfl
  have c3 := hWx.cellv 3 rfl
  have c4 := hWx.cellv 4 rfl
  go_still_tail 9, (by kernel_rfl)
  change wpList _ _ _ _ _ wA.drew
  have hbd := hb0.drew
  have Hd := H.below hbd
  have hFd := hF.mono hbd.size
  generalize wA.drew = wB at hbd Hd hFd ⊢
  clear x1 x2 x3 x4 x5 x6 x7 x8 x9 x10 c1 c2 c3 c4 hX hWx hb0
  go_wp2_with fail
  obtain ⟨v, bs, HG⟩ := Hd.gr
  refine (tlb_put 12 p.bT tag 8 s.hits ⟨0, oi, op, Rt.none, false⟩ _ HG.tl (by omega) (by omega) hFd (by omega)).mono ?_
  rintro e w3 ⟨rfl, tag3, H3, hM3, hF3⟩
  go_wp2_with fail
  go_ret2
  have hl : (tPut 8 s.hits ⟨0, oi, op, Rt.none, false⟩).length ≤ 1000 := by
    rcases tPut_len (most := 8) (hs := s.hits) ⟨0, oi, op, Rt.none, false⟩ (by omega) with h | h <;> omega
  exact ⟨rfl, tag3, Hd.to hM3 (by simp) ⟨v, bs, ⟨HG.sf.mod hM3 (by simp), HG.mp.mod hM3 (by simp) (by simp) (by simp), hM3.tagOf HG.gb HG.gt, HG.gb.mod hM3 (by rw [HG.gt]; simp), H3, HG.gd.mod hM3 (by simp) (by simp), HG.pl, HG.ll, hl, HG.m1⟩⟩, (Mod.of_below hbd).trans (hM3.mono (by simp)), hF3⟩

set_option maxRecDepth 100000 in
theorem do_none (tag : Nat → Nat) (p : Pt) (bW : Nat) (s : St) (o : GOp) (w : World) (H : LawR tag w p bW s) (hF : Fresh tag w) (h0 : o.what ≠ 0) (h1 : o.what ≠ 1) (h2 : o.what ≠ 2) (h3 : o.what ≠ 3) (h4 : o.what ≠ 4) (h5 : o.what ≠ 5) (h6 : o.what ≠ 6) (h7 : o.what ≠ 7) (h8 : o.what ≠ 8) (h9 : o.what ≠ 9) (h10 : o.what ≠ 10) (h11 : o.what ≠ 11) (h12 : o.what ≠ 12) (h13 : o.what ≠ 13) :
    Calls Try.prog 14 #[.pointer (some ⟨bW, 0, none⟩), .agg o.cs.toArray] w (DoPost tag w p bW s o) := by
  have e1 : s.op o = s := by unfold St.op; simp [h0, h1, h2, h3, h4, h5, h6, h7, h8, h9, h10, h11, h12, h13]
  have e2 : s.opF o = 0 := by unfold St.opF; simp [h0, h1]
  have e3 : s.opIs o = true := by unfold St.opIs; simp [h0, h1, h2, h3, h4, h5, h6, h8, h9, h11, h12]
  have hpost : Hid (∀ w', Below w.heap.size w w' → DoPost tag w p bW s o (.returned (.tuple #[.int .i64 0, .bool true])) w') := Lib.hid (fun w' hb => ⟨by rw [e2, e3], tag, by rw [e1]; exact H.below hb, Mod.of_below hb, hF.mono hb.size⟩)
  obtain ⟨ow, ⟨kg, kl, kr⟩, op, oi, ot, ⟨rw_, ru, rx⟩, ov⟩ := o
  simp only [GOp.cs]
  simp only at h0 h1 h2 h3 h4 h5 h6 h7 h8 h9 h10 h11 h12 h13
  have b0 : (ow == 0) = false := by simp [h0]
  have b1 : (ow == 1) = false := by simp [h1]
  have b2 : (ow == 2) = false := by simp [h2]
  have b3 : (ow == 3) = false := by simp [h3]
  have b4 : (ow == 4) = false := by simp [h4]
  have b5 : (ow == 5) = false := by simp [h5]
  have b6 : (ow == 6) = false := by simp [h6]
  have b7 : (ow == 7) = false := by simp [h7]
  have b8 : (ow == 8) = false := by simp [h8]
  have b9 : (ow == 9) = false := by simp [h9]
  have b10 : (ow == 10) = false := by simp [h10]
  have b11 : (ow == 11) = false := by simp [h11]
  have b12 : (ow == 12) = false := by simp [h12]
  have b13 : (ow == 13) = false := by simp [h13]
  clear h0 h1 h2 h3 h4 h5 h6 h7 h8 h9 h10 h11 h12 h13 e1 e2 e3
  go_enter Try.func14, Try.ntmps14
  go_wp2_with fail
  go_ret2
  exact hpost.out _ ((Below.refl _ w).alloc (Nat.le_refl _) _)

theorem law_do (tag : Nat → Nat) (p : Pt) (bW : Nat) (s : St) (o : GOp) (w : World) (H : LawR tag w p bW s) (hF : Fresh tag w) (hI : PInv 4 8 s) (hh : s.hits.length ≤ 8) (hwf : (Lit.int .i64 o.p).wf = true) :
    Calls Try.prog 14 #[.pointer (some ⟨bW, 0, none⟩), .agg o.cs.toArray] w (DoPost tag w p bW s o) := by
  by_cases h0 : o.what = 0; · exact do_make0 tag p bW s o w H hF hI h0
  by_cases h1 : o.what = 1; · exact do_make1 tag p bW s o w H hF hI h1
  by_cases h2 : o.what = 2; · exact do_child2 tag p bW s o w H hF hI h2
  by_cases h3 : o.what = 3; · exact do_child3 tag p bW s o w H hF hI h3
  by_cases h4 : o.what = 4; · exact do_leaf4 tag p bW s o w H hF hI h4
  by_cases h5 : o.what = 5; · exact do_leaf5 tag p bW s o w H hF hI h5
  by_cases h6 : o.what = 6; · exact do_zap tag p bW s o w H hF hI hh hwf h6
  by_cases h7 : o.what = 7; · exact do_word tag p bW s o w H hF hI hh hwf h7
  by_cases h8 : o.what = 8; · exact do_loosen tag p bW s o w H hF hI hh hwf h8
  by_cases h9 : o.what = 9; · exact do_look tag p bW s o w H hF hI hh hwf h9
  by_cases h10 : o.what = 10; · exact do_all tag p bW s o w H hF hI hh hwf h10
  by_cases h11 : o.what = 11; · exact do_drop tag p bW s o w H hF hI hh hwf h11
  by_cases h12 : o.what = 12; · exact do_set tag p bW s o w H hF hI hh hwf h12
  by_cases h13 : o.what = 13; · exact do_put tag p bW s o w H hF hI hh hwf h13
  exact do_none tag p bW s o w H hF h0 h1 h2 h3 h4 h5 h6 h7 h8 h9 h10 h11 h12 h13
end Go.Proofs.Ytbmbgicdnegkfaa

/- The walks of gmap.New and of the law's list. -/
namespace Go.Proofs.Ytbmbgicdnegkfaa
open Go Go.RowKit Sil

/-- a map whose keys are the first j of a list, at their places -/
def MapD (hs : List Int) (j : Nat) (D : DataW Unit) : Prop :=
  Maps.Tidy D ∧ Maps.size D = j ∧ (∀ x : Int, Maps.has D (.int .i64 x) = decide (x ∈ hs.take j)) ∧ ∀ (i : Nat) (h : Int), i < j → hs[i]? = some h → D.atKey (.int .i64 h) (.lit (.int .i64 0)) = .lit (.int .i64 i)
theorem MapD.step {hs : List Int} {j : Nat} {D : DataW Unit} {x : Int} (h : MapD hs j D) (hn : hs.Nodup) (hx : hs[j]? = some x) : MapD hs (j + 1) (D.put (.int .i64 x) (.lit (.int .i64 j))) := by
  obtain ⟨h1, h2, h3, h4⟩ := h
  obtain ⟨hlt, he⟩ := List.getElem?_eq_some_iff.1 hx
  have hnot : x ∉ hs.take j := by
    intro hm
    obtain ⟨i, hi, e⟩ := List.mem_iff_getElem.1 hm
    rw [List.length_take] at hi
    rw [List.getElem_take] at e
    have := (List.getElem_inj (h₀ := (by omega : i < hs.length)) (h₁ := hlt) hn).1 (e.trans he.symm)
    omega
  have hf : Maps.has D (.int .i64 x) = false := by rw [h3]; simp [hnot]
  refine ⟨h1.put (isKey_int x) _, by rw [Maps.size_put h1, hf, h2]; rfl, fun y => ?_, fun i y hi hy => ?_⟩
  · rw [List.take_succ_eq_append_getElem hlt, he]
    by_cases e : y = x
    · subst e; rw [Maps.has_put_same h1.isMap (isKey_int y)]; simp
    · rw [Maps.has_put_other (by intro h; exact e (by injection h)), h3]; simp [e]
  · by_cases e : y = x
    · subst e
      rw [Maps.atKey_put_same h1.isMap (isKey_int y)]
      obtain ⟨hi', he'⟩ := List.getElem?_eq_some_iff.1 hy
      have := (List.getElem_inj (h₀ := hi') (h₁ := hlt) hn).1 (he'.trans he.symm)
      rw [this]
    · rw [Maps.atKey_put_other (by intro h; exact e (by injection h))]
      refine h4 i y ?_ hy
      have hne : i ≠ j := by rintro rfl; rw [hx] at hy; cases hy; exact e rfl
      omega

set_option maxRecDepth 100000 in
theorem gmap_new (n : Nat) (hs : List Int) (A : Option Addr) (c : Nat) (tag : Nat → Nat) (w : World) (hr : Rd 0 tag w 1 (.slice A hs.length c) hs.length (hs.map (Value.int .i64))) (hn : hs.Nodup) (h1 : 1 ≤ hs.length) (h2 : hs.length ≤ 64) (h3 : 1 ≤ n) (h4 : n ≤ 256) (hb : ∀ x ∈ hs, 0 ≤ x ∧ x < n) (hF : Fresh tag w) :
    Calls Try.prog 42 #[.slice A hs.length c, .int .i64 n] w fun e w' => ∃ (a : Nat) (tag' : Nat → Nat), e = .returned (.pointer (some ⟨a, 0, none⟩)) ∧ MapR 3 tag' w' a hs ∧ Mod [] tag tag' w w' ∧ Fresh tag' w' := by
  obtain ⟨N, hN⟩ : ∃ N, hs.length = N := ⟨_, rfl⟩
  rw [hN] at hr h1 h2 ⊢
  have hmm : ∀ W : World, (Instr.makeMap 132 (some (.int .i64 N))).run Try.prog W = .ok (.map (some W.heap.size)) (W.alloc (.map #[] 0)) := by
    intro W
    have : ¬ ((N : Int) < 0) := by omega
    simp [Instr.makeMap, asIntOf, asInt]
  go_enter Try.func42, Try.ntmps42
  go_wp2_with fail
  have hm0 : (w.alloc (.map #[] 0)).ownsMap Try.prog 3 (plainElem Try.prog 3) w.heap.size 0 (.map [] : DataW Unit) := World.ownsMap_made w _ _ _
  have hD0 : MapD hs 0 (.map []) := ⟨Maps.tidy_empty, rfl, fun x => by simp [Maps.has], fun i h hi => by omega⟩
  have hB0 : Below w.heap.size w (w.alloc (.map #[] 0)) := (Below.refl _ w).alloc (Nat.le_refl _) _
  generalize hw1 : w.alloc (.map #[] 0) = w1 at *
  clear hw1 hmm
  have HD0 := Lib.hid hD0
  have HBB := Lib.hid hb
  clear hD0 hb
  go_loopw [29] (fun k wr => ∃ (j : Nat) (D : DataW Unit), j ≤ N ∧ k = .int .i64 j ∧ wr.ownsMap Try.prog 3 (plainElem Try.prog 3) w.heap.size j D ∧ Hid (MapD hs j D) ∧ Below w.heap.size w wr) (fun k _ => N - (intOf k).toNat)
  case atStart => exact ⟨0, .map [], Nat.zero_le _, rfl, hm0, HD0, hB0⟩
  case round =>
    obtain ⟨j, D, hj, rfl, hown, HD, hB⟩ := hrel
    by_cases hlt : j < N
    · obtain ⟨x, hx⟩ : ∃ x, hs[j]? = some x := ⟨hs[j], by simp [hN, hlt]⟩
      have hxb := HBB.out x (List.mem_of_getElem? hx)
      have hxb1 := hxb.1
      have hxb2 := hxb.2
      obtain ⟨g', off, rfl, q0, _⟩ := (hr.mod (T := []) (Mod.of_below hB) (by simp)).at_ (j := j) (u := .int .i64 x) (by simp [hx])
      have hkey : keyOf Try.prog 3 (.int .i64 x) = some (.int .i64 x) := Maps.keyOf_int_mk Try.underlying3 (wf_small (by omega) (by omega))
      have HS := Lib.hid (HD.out.step hn hx)
      clear hx hxb
      go_wp2_with (at_mapUpdate; refine wpList_mapUpdate_own _ rfl _ _ _ 132 rfl 3 3 law_int Try.underlying132 _ w.heap.size _ _ rfl hown (by unfold maxLen; omega) _ _ _ rfl rfl hkey _ [] (plainElem_int Try.underlying3 (wf_small (by omega) (by omega))) ?_; intro w2 hown2 hgrow2)
      go_roundw
      case rel => exact ⟨j + 1, _, by omega, by go_num, hown2, HS, hB.grown hgrow2 hB.size (fun g hg => by cases hg; exact Nat.le_refl _)⟩
      case measure => simp [intOf]; omega
    · have hj' : j = N := by omega
      subst hj'
      have hr1 := hr.mod (T := []) (Mod.of_below hB) (by simp)
      have hsz : Hid (Maps.size D = j) := Lib.hid HD.out.2.1
      go_wp2_with (at_len; refine wpList_len_own _ rfl _ 132 rfl 3 3 Try.underlying132 _ w.heap.size _ _ rfl hown ?_; rw [hsz.out])
      refine (clone_int 0 A c j (hs.map (Value.int .i64)) _ tag hr1 (by simp [Value.oneCell']) (by omega)).mono ?_
      rintro e w3 ⟨v', rfl, hown3, hB3, _⟩
      obtain ⟨A3, c3, rfl⟩ := own_val hown3
      go_wp2_with fail
      go_ret
      have hltm : w.heap.size < wr.heap.size := hown.lt
      have hFr := hF.mono hB.size
      have hMr : Mod [] tag (upd tag w.heap.size 5) w wr := (Mod.of_below hB).retag (Nat.le_refl _) 5
      have hFr5 := hFr.upd_ (k := 5) hltm
      have ht5 : upd tag w.heap.size 5 w.heap.size = 5 := upd_same _ _ _
      generalize upd tag w.heap.size 5 = tag1 at hMr hFr5 ht5
      obtain ⟨tag2, hr2, hM2, hF2⟩ := Row.claim hown3 hFr5 hB3 [] 4
      obtain ⟨d1, d2, d3, d4⟩ := HD.out
      have hmS : Mod [] tag2 (upd tag2 w3.heap.size 3) w3 (w3.alloc (.cells #[.slice A3 j c3, .map (some w.heap.size)] 134)) := ((Mod.refl [] tag2 w3).alloc _).retag (Nat.le_refl _) 3
      have hmA := hM2.trans hmS
      refine ⟨w3.heap.size, upd tag2 w3.heap.size 3, rfl, ⟨_, w.heap.size, D, j, upd_same _ _ _, Blk.new _ _ _, ?_, by omega, ?_, ?_, ?_, ?_⟩, hMr.trans hmA, (hF2.mono (by simp)).upd_ (by simp)⟩
      · rw [hN]; exact hr2.mod hmS (by simp)
      · exact (hmA.tags _ hltm).trans ht5
      · exact ownsMap_block hown (hmA.keep _ hltm (by simp))
      · intro x; rw [d3, ← hN, List.take_length]
      · intro i h hi; exact d4 i h (by rw [← hN]; exact (List.getElem?_eq_some_iff.1 hi).1) hi

/-- the law's list of the guest's frames -/
theorem lawHs_at : ∀ j : Nat, j < 16 → lawHs[j]? = some (24 + (j : Int)) := by decide
set_option maxRecDepth 100000 in
theorem law_list (w : World) :
    Calls Try.prog 43 #[] w fun e w' => ∃ v', e = .returned v' ∧ w'.ownsRow w.heap.size 3 1 v' 16 (lawHs.map (Value.int .i64)) ∧ Below w.heap.size w w' := by
  obtain ⟨i0, hi, hz0, hz1, hz2⟩ := info_parts info_int
  have htl : Hid (lawHs.take 16 = lawHs) := Lib.hid rfl
  have hst : Hid (∀ j : Nat, j < 16 → lawHs.take (j + 1) = lawHs.take j ++ [24 + (j : Int)]) := Lib.hid (fun j hj => by
    have h1 := lawHs_at j hj
    obtain ⟨h2, h3⟩ := List.getElem?_eq_some_iff.1 h1
    rw [List.take_succ_eq_append_getElem h2, h3])
  have hl0 : Hid (∀ j : Nat, j ≤ 16 → (lawHs.take j).length = j) := Lib.hid (fun j hj => by rw [List.length_take]; have : lawHs.length = 16 := rfl; omega)
  go_enter Try.func43, Try.ntmps43
  go_wp2_with fail
  go_loopw [1, 2] (fun v k wr => ∃ j : Nat, j ≤ 16 ∧ k = .int .i64 j ∧ wr.ownsRow w.heap.size 3 1 v j ((lawHs.take j).map (Value.int .i64)) ∧ Below w.heap.size w wr) (fun _ k _ => 16 - (intOf k).toNat)
  case atStart => exact ⟨0, by omega, rfl, World.ownsRow_nil _ _ _ _, Below.refl _ _⟩
  case round =>
    obtain ⟨j, hj, rfl, hown, hB⟩ := hrel
    obtain ⟨A, c, rfl⟩ := own_val hown
    by_cases hlt : j < 16
    · have HS := Lib.hid (hst.out j hlt)
      have hsz := hB.size
      go_wp2_with (at_builtin; refine wpList_append_own _ rfl _ _ 45 rfl w.heap.size 3 i0 _ 1 8 Try.underlying45 hi hz0 hz1 hz2 rfl (by decide) _ _ _ rfl (hown.alloc _) ⟨wr.heap.size, 0, none⟩ 1 1 [.int .i64 (24 + j)] rfl rfl (cell_one_new _ _ _) (by simp [Value.oneCell']) (by unfold maxLen; omega) (by omega) (by simp; omega) ?_; intro v1 w1 hown1 hgrow1 _)
      go_roundw
      case rel => exact ⟨j + 1, by omega, by go_num, by rw [HS.out]; simpa using hown1, (hB.alloc hsz _).grown hgrow1 (by simp; omega) (fun g hg => (hown.lt g hg).1)⟩
      case measure => simp [intOf]; omega
    · have hj' : j = 16 := by omega
      subst hj'
      rw [htl.out] at hown
      go_wp2_with fail
      go_ret
      exact ⟨_, rfl, hown, hB⟩
end Go.Proofs.Ytbmbgicdnegkfaa

/- The law's walk: Made. -/
namespace Go.Proofs.Ytbmbgicdnegkfaa
open Go Go.RowKit Sil
attribute [local go_sem ↓] Go.wp_at_zero Go.wp_at_succ

theorem wput_cell {l : List WPut} {i : Nat} {x : WPut} (hi : l[i]? = some x) (j : Nat) (hj : j < 3) : (l.flatMap WPut.cs)[i * 3 + j]? = x.cs[j]? := by
  rw [flatMap_at WPut.cs (sz := 3) (fun _ => rfl) l i j hj (List.getElem?_eq_some_iff.1 hi).1, hi]; rfl
theorem made_snoc (l : List WPut) (x : WPut) : St.made (l ++ [x]) = { St.made l with ws := guset 40 lawHs (St.made l).ws x.g x.i x.v } := by
  unfold St.made St.set0
  rw [setWs_snoc]
theorem made_nil : St.made [] = St.start := rfl

set_option maxRecDepth 100000 in
set_option maxHeartbeats 1000000 in
theorem law_made (l : List WPut) (A : Option Addr) (c : Nat) (tag : Nat → Nat) (w : World) (hr : Rd 0 tag w 3 (.slice A l.length c) l.length (l.flatMap WPut.cs)) (hlen : l.length ≤ maxLen) (hF : Fresh tag w) :
    Calls Try.prog 11 #[.slice A l.length c] w fun e w' => ∃ (p : Pt) (bW : Nat) (tag' : Nat → Nat), e = .returned (.pointer (some ⟨bW, 0, none⟩)) ∧ LawR tag' w' p bW (St.made l) ∧ Mod [2] tag tag' w w' ∧ Fresh tag' w' := by
  unfold maxLen at hlen
  have hst : Hid (St.start.ws = List.replicate (8 * 40) 0) := Lib.hid rfl
  have hsp : Hid (St.start.ps = [] ∧ St.start.fr = ⟨4, 8, 0, [], []⟩ ∧ St.start.hits = [] ∧ St.start.loose = []) := Lib.hid ⟨rfl, rfl, rfl, rfl⟩
  obtain ⟨N, hN⟩ : ∃ N, l.length = N := ⟨_, rfl⟩
  rw [hN] at hr hlen ⊢
  have HN := Lib.hid hN
  clear hN
  go_enter Try.func11, Try.ntmps11
  go_wp2_with fail
  refine (frame_new 40 tag _ (by omega) (by omega) hF).mono ?_
  rintro e w1 ⟨bF, tag1, rfl, hH1, hM1, hF1⟩
  go_wp2_with fail
  refine (law_list _).mono ?_
  rintro e w2 ⟨vL, rfl, hown2, hB2⟩
  have hH2 := hH1.mod (T := []) (Mod.of_below hB2) (by simp) (by simp)
  have hM2 : Mod [] tag tag1 w w2 := hM1.trans (Mod.of_below hB2)
  have hF2 := hF1.mono hB2.size
  have hrow := (Row.of_new hown2 hF1).rd
  obtain ⟨AL, cL, rfl⟩ := own_val hown2
  clear hown2 hB2 hH1 hM1 hF1
  go_wp2_with fail
  refine (gmap_new 40 lawHs AL cL tag1 _ hrow (by decide) (by decide) (by decide) (by omega) (by omega) (by decide) hF2).mono ?_
  rintro e w3 ⟨bM, tag3, rfl, hG3, hM3, hF3⟩
  have hH3 := hH2.mod hM3 (by simp) (by simp)
  have hM3' := hM2.trans hM3
  clear hH2 hM2 hF2 hrow hM3
  go_wp2_with fail
  refine (tlb_new 8 tag3 _ (by omega) (by omega) hF3).mono ?_
  rintro e w4 ⟨bT, tag4, rfl, hT4, hM4, hF4⟩
  have hH4 := hH3.mod hM4 (by simp) (by simp)
  have hG4 := hG3.mod hM4 (by simp) (by simp) (by simp)
  have hM4' := hM3'.trans hM4
  clear hH3 hG3 hM3' hM4 hF3
  go_wp2_with fail
  refine (store_new bF 40 4 8 tag4 _ _ hH4 (by omega) hF4).mono ?_
  rintro e w5 ⟨bS, bL, tag5, rfl, hS5, hM5, hF5⟩
  have hG5 := hG4.mod hM5 (by simp) (by simp) (by simp)
  have hT5 := hT4.mod hM5 (by simp) (by simp)
  have hM5' := hM4'.trans hM5
  clear hH4 hG4 hT4 hM4' hM5 hF4
  go_wp2_with fail
  refine (guest_new bF bM tag5 _ hF5).mono ?_
  rintro e w6 ⟨bG, tag6, rfl, ⟨tG6, hb6⟩, hM6, hF6⟩
  have hG6 := hG5.mod hM6 (by simp) (by simp) (by simp)
  have hT6 := hT5.mod hM6 (by simp) (by simp)
  have hS6 := hS5.mod hM6 (by simp)
  have hM6' := hM5'.trans hM6
  clear hG5 hT5 hS5 hM5' hM6 hF5
  go_wp2_with fail
  refine (guard_new bG bM bS bT tag6 _ hF6).mono ?_
  rintro e w7 ⟨bD, tag7, rfl, hD7, hM7, hF7⟩
  have hX7 : GX tag7 w7 ⟨bD, bG, bM, bS, bF, bL, bT, 40⟩ lawHs 8 (.slice none 0 0) [] St.start := by
    obtain ⟨e1, e2, e3, e4⟩ := hsp.out
    have e0 := hst.out
    generalize St.start = s0 at *
    obtain ⟨sw, sf, sp, sh, sl⟩ := s0
    simp only at e0 e1 e2 e3 e4
    subst e0 e1 e2 e3 e4
    exact ⟨hS6.mod hM7 (by simp), hG6.mod hM7 (by simp) (by simp) (by simp), hM7.tagOf hb6 tG6, hb6.mod hM7 (by simp), hT6.mod hM7 (by simp) (by simp), hD7, by simp, by simp, by simp, by omega⟩
  have hM7' := hM6'.trans hM7
  have hr7 := hr.mod hM7' (by simp)
  have hX0 : GR tag7 w7 ⟨bD, bG, bM, bS, bF, bL, bT, 40⟩ lawHs 8 (St.made []) := ⟨_, _, hX7⟩
  clear hG6 hT6 hS6 hM6' hM7 hF6 hD7 tG6 hb6 hX7
  generalize hp : (⟨bD, bG, bM, bS, bF, bL, bT, 40⟩ : Pt) = p at hX0
  have p1 : p.n = 40 := by rw [← hp]
  have p2 : p.bG = bG := by rw [← hp]
  have HP : Hid (p.bF = bF ∧ p.bG = bG ∧ p.a = bS ∧ p.bT = bT ∧ p.d = bD) := Lib.hid (by rw [← hp]; exact ⟨rfl, rfl, rfl, rfl, rfl⟩)
  have HP1 := Lib.hid p1
  subst p2
  clear hp p1
  go_wp2_with fail
  go_loopg [9] N (fun gk k wr => ∃ j : Nat, j ≤ N ∧ gk = N - j ∧ k = .int .i64 j ∧ GR tag7 wr p lawHs 8 (St.made (l.take j)) ∧ Mod [2] tag7 tag7 w7 wr)
  case atStart => exact ⟨0, Nat.zero_le _, rfl, rfl, hX0, Mod.refl _ _ _⟩
  case round =>
    obtain ⟨j, hj, rfl, rfl, Hj, hMj⟩ := hrel
    by_cases hlt : j < N
    · obtain ⟨x, hx⟩ : ∃ x, l[j]? = some x := ⟨l[j]'(by rw [HN.out]; exact hlt), by simp [HN.out, hlt]⟩
      have hstep : Hid (St.made (l.take (j + 1)) = { St.made (l.take j) with ws := guset 40 lawHs (St.made (l.take j)).ws x.g x.i x.v }) := Lib.hid (by
        obtain ⟨h1, h2⟩ := List.getElem?_eq_some_iff.1 hx
        rw [List.take_succ_eq_append_getElem h1, h2, made_snoc])
      have y0 := wput_cell hx 0 (by omega)
      have y1 := wput_cell hx 1 (by omega)
      have y2 := wput_cell hx 2 (by omega)
      obtain ⟨xg, xi, xv⟩ := x
      have hrj := hr7.mod hMj (by simp)
      obtain ⟨ga, go_, rfl, q0, _⟩ := hrj.at_ (j := j * 3 + 0) (u := .int .i64 xg) (by rw [y0]; rfl)
      obtain ⟨g1, o1, e1, q1, _⟩ := hrj.at_ (j := j * 3 + 1) (u := .int .i64 xi) (by rw [y1]; rfl)
      obtain ⟨g2, o2, e2, q2, _⟩ := hrj.at_ (j := j * 3 + 2) (u := .int .u64 xv) (by rw [y2]; rfl)
      cases e1; cases e2
      rw [Nat.add_zero] at q0
      rw [← Nat.add_assoc] at q1 q2
      clear y0 y1 y2 hx hrj
      go_wp2_with fail
      go_still_tail 16, (by kernel_rfl)
      change wpList _ _ _ _ _ wr.drew
      have Hd : GR tag7 wr.drew p lawHs 8 (St.made (l.take j)) := Hj.mod ((Mod.refl [] tag7 wr).drew) (by simp)
      have hMd := hMj.drew
      generalize wr.drew = w8 at Hd hMd ⊢
      clear q0 q1 q2 Hj hMj
      obtain ⟨v, bs, HG⟩ := Hd
      go_wp2_with fail
      refine (guest_set 1 3 p.bG p.bM p.bF p.n tag7 lawHs _ xg xi xv _ HG.gb HG.mp HG.sf.sh.ho).mono ?_
      rintro e w9 ⟨rfl, H9, hM9⟩
      have H9' := H9
      rw [HP1.out] at H9
      go_wp2_with fail
      go_roundg (N - (j + 1))
      case measure => omega
      case rel =>
        refine ⟨j + 1, by omega, rfl, by go_num, ?_, hMd.trans hM9⟩
        rw [hstep.out]
        generalize St.made (l.take j) = s0 at *
        exact ⟨v, bs, HG.sh (ps' := s0.ps) ⟨HG.sf.sh.st.mod hM9 (by simp) (by simp) (by simp), by rw [HP1.out]; exact H9, HG.sf.sh.hn⟩ (hM9.mono (by simp)) rfl⟩
    · have hj' : j = N := by omega
      subst hj'
      have hl : Hid (l.take j = l) := Lib.hid (by rw [List.take_of_length_le]; rw [HN.out]; exact Nat.le_refl _)
      go_wp2_with fail
      go_ret
      have hMw : Mod [2] tag tag7 w wr := (hM7'.mono (by simp)).trans hMj
      have hMs : Mod [] tag7 (upd tag7 wr.heap.size 17) wr (wr.alloc (.cells #[.pointer (some ⟨bF, 0, none⟩), .pointer (some ⟨p.bG, 0, none⟩), .pointer (some ⟨bS, 0, none⟩), .pointer (some ⟨bT, 0, none⟩), .pointer (some ⟨bD, 0, none⟩)] 34)) := ((Mod.refl [] tag7 wr).alloc _).retag (Nat.le_refl _) 17
      obtain ⟨a1, a2, a3, a4, a5⟩ := HP.out
      subst a1 a3 a4 a5
      rw [hl.out] at Hj
      exact ⟨p, wr.heap.size, upd tag7 wr.heap.size 17, rfl, ⟨upd_same _ _ _, Blk.new _ _ _, Hj.mod hMs (by simp), HP1.out⟩, hMw.trans (hMs.mono (by simp)), ((hF7.mono hMj.size).mono (by simp)).upd_ (by simp)⟩
end Go.Proofs.Ytbmbgicdnegkfaa

/- The walks of small functions of the document's: SameInts, SameWords. -/
namespace Go.Proofs.Ytbmbgicdnegkfaa
open Go Go.RowKit Sil

set_option maxRecDepth 100000 in
theorem same_ints (k1 k2 : Nat) (xs ys : List Int) (A B : Option Addr) (c d : Nat) (tag : Nat → Nat) (w : World) (hx : Rd k1 tag w 1 (.slice A xs.length c) xs.length (xs.map (Value.int .i64))) (hy : Rd k2 tag w 1 (.slice B ys.length d) ys.length (ys.map (Value.int .i64))) (hl : xs.length ≤ 1000000) (hl2 : ys.length ≤ 1000000) :
    Calls Try.prog 40 #[.slice A xs.length c, .slice B ys.length d] w fun e w' => e = .returned (.bool (decide (xs = ys))) ∧ Below w.heap.size w w' := by
  obtain ⟨N, hN⟩ : ∃ N, xs.length = N := ⟨_, rfl⟩
  obtain ⟨M, hM⟩ : ∃ M, ys.length = M := ⟨_, rfl⟩
  rw [hN] at hx hl ⊢
  rw [hM] at hy hl2 ⊢
  by_cases hNM : N = M
  · subst hNM
    have HN := Lib.hid hN
    have HM := Lib.hid hM
    clear hN hM
    go_enter Try.func40, Try.ntmps40
    go_wp2_with fail
    go_loopw [5] (fun k wr => ∃ j : Nat, j ≤ N ∧ k = .int .i64 j ∧ Hid (xs.take j = ys.take j) ∧ Below w.heap.size w wr) (fun k _ => N - (intOf k).toNat)
    case atStart => exact ⟨0, Nat.zero_le _, rfl, Lib.hid rfl, Below.refl _ _⟩
    case round =>
      obtain ⟨j, hj, rfl, HE, hB⟩ := hrel
      by_cases hlt : j < N
      · obtain ⟨x, hx1⟩ : ∃ x, xs[j]? = some x := ⟨xs[j]'(by rw [HN.out]; exact hlt), by simp [HN.out, hlt]⟩
        obtain ⟨y, hy1⟩ : ∃ x, ys[j]? = some x := ⟨ys[j]'(by rw [HM.out]; exact hlt), by simp [HM.out, hlt]⟩
        obtain ⟨g1, o1, rfl, q1, _⟩ := (hx.mod (T := []) (Mod.of_below hB) (by simp)).at_ (j := j) (u := .int .i64 x) (by simp [hx1])
        obtain ⟨g2, o2, rfl, q2, _⟩ := (hy.mod (T := []) (Mod.of_below hB) (by simp)).at_ (j := j) (u := .int .i64 y) (by simp [hy1])
        by_cases hxy : x = y
        · subst hxy
          have hb1 : (x != x) = false := by simp
          have HS : Hid (xs.take (j + 1) = ys.take (j + 1)) := Lib.hid (by
            obtain ⟨h1, h2⟩ := List.getElem?_eq_some_iff.1 hx1
            obtain ⟨h3, h4⟩ := List.getElem?_eq_some_iff.1 hy1
            rw [List.take_succ_eq_append_getElem h1, List.take_succ_eq_append_getElem h3, HE.out, h2, h4])
          clear hx1 hy1
          go_wp2_with fail
          go_quiet (fail)
          generalize hwq : World.drewN wr _ = wq
          have hBq : Below w.heap.size w wq := by rw [← hwq]; exact ⟨hB.os, hB.tape, hB.output, hB.size, hB.block⟩
          clear hwq q1 q2 hB
          go_wp2_with fail
          go_roundw
          case rel => exact ⟨j + 1, by omega, by go_num, HS, hBq⟩
          case measure => simp [intOf]; omega
        · have hb1 : (x != y) = true := by simp [hxy]
          have hb2 : (x == y) = false := by simp [hxy]
          have HS : Hid (decide (xs = ys) = false) := Lib.hid (by
            rw [decide_eq_false_iff_not]
            rintro rfl
            rw [hx1] at hy1; cases hy1; exact hxy rfl)
          clear hx1 hy1 hxy
          go_wp2_with fail
          go_quiet (fail)
          generalize hwq : World.drewN wr _ = wq
          have hBq : Below w.heap.size w wq := by rw [← hwq]; exact ⟨hB.os, hB.tape, hB.output, hB.size, hB.block⟩
          clear hwq q1 q2 hB
          go_wp2_with fail
          go_ret
          exact ⟨by rw [HS.out]; rfl, hBq⟩
      · have hj' : j = N := by omega
        subst hj'
        have HS : Hid (decide (xs = ys) = true) := Lib.hid (by
          have := HE.out
          rw [List.take_of_length_le (by rw [HN.out]; exact Nat.le_refl _), List.take_of_length_le (by rw [HM.out]; exact Nat.le_refl _)] at this
          simp [this])
        go_wp2_with fail
        go_ret
        exact ⟨by rw [HS.out]; rfl, hB⟩
  · have HS : Hid (decide (xs = ys) = false) := Lib.hid (by
      rw [decide_eq_false_iff_not]
      rintro rfl
      exact hNM (hN.symm.trans hM))
    rw [HS.out]
    have hb1 : ((N : Int) != (M : Int)) = true := by simp; omega
    have hb2 : ((N : Int) == (M : Int)) = false := by simp; omega
    clear hN hM hNM
    obtain ⟨_, A', c', e1, _⟩ := hx
    go_enter Try.func40, Try.ntmps40
    go_wp2_with fail
    go_ret
    exact ⟨rfl, Below.refl _ _⟩
set_option maxRecDepth 100000 in
theorem same_words (k1 k2 : Nat) (xs ys : List Int) (A B : Option Addr) (c d : Nat) (tag : Nat → Nat) (w : World) (hx : Rd k1 tag w 1 (.slice A xs.length c) xs.length (xs.map (Value.int .u64))) (hy : Rd k2 tag w 1 (.slice B ys.length d) ys.length (ys.map (Value.int .u64))) (hl : xs.length ≤ 1000000) (hl2 : ys.length ≤ 1000000) :
    Calls Try.prog 36 #[.slice A xs.length c, .slice B ys.length d] w fun e w' => e = .returned (.bool (decide (xs = ys))) ∧ Below w.heap.size w w' := by
  obtain ⟨N, hN⟩ : ∃ N, xs.length = N := ⟨_, rfl⟩
  obtain ⟨M, hM⟩ : ∃ M, ys.length = M := ⟨_, rfl⟩
  rw [hN] at hx hl ⊢
  rw [hM] at hy hl2 ⊢
  by_cases hNM : N = M
  · subst hNM
    have HN := Lib.hid hN
    have HM := Lib.hid hM
    clear hN hM
    go_enter Try.func36, Try.ntmps36
    go_wp2_with fail
    go_loopw [5] (fun k wr => ∃ j : Nat, j ≤ N ∧ k = .int .i64 j ∧ Hid (xs.take j = ys.take j) ∧ Below w.heap.size w wr) (fun k _ => N - (intOf k).toNat)
    case atStart => exact ⟨0, Nat.zero_le _, rfl, Lib.hid rfl, Below.refl _ _⟩
    case round =>
      obtain ⟨j, hj, rfl, HE, hB⟩ := hrel
      by_cases hlt : j < N
      · obtain ⟨x, hx1⟩ : ∃ x, xs[j]? = some x := ⟨xs[j]'(by rw [HN.out]; exact hlt), by simp [HN.out, hlt]⟩
        obtain ⟨y, hy1⟩ : ∃ x, ys[j]? = some x := ⟨ys[j]'(by rw [HM.out]; exact hlt), by simp [HM.out, hlt]⟩
        obtain ⟨g1, o1, rfl, q1, _⟩ := (hx.mod (T := []) (Mod.of_below hB) (by simp)).at_ (j := j) (u := .int .u64 x) (by simp [hx1])
        obtain ⟨g2, o2, rfl, q2, _⟩ := (hy.mod (T := []) (Mod.of_below hB) (by simp)).at_ (j := j) (u := .int .u64 y) (by simp [hy1])
        by_cases hxy : x = y
        · subst hxy
          have hb1 : (x != x) = false := by simp
          have HS : Hid (xs.take (j + 1) = ys.take (j + 1)) := Lib.hid (by
            obtain ⟨h1, h2⟩ := List.getElem?_eq_some_iff.1 hx1
            obtain ⟨h3, h4⟩ := List.getElem?_eq_some_iff.1 hy1
            rw [List.take_succ_eq_append_getElem h1, List.take_succ_eq_append_getElem h3, HE.out, h2, h4])
          clear hx1 hy1
          go_wp2_with fail
          go_quiet (fail)
          generalize hwq : World.drewN wr _ = wq
          have hBq : Below w.heap.size w wq := by rw [← hwq]; exact ⟨hB.os, hB.tape, hB.output, hB.size, hB.block⟩
          clear hwq q1 q2 hB
          go_wp2_with fail
          go_roundw
          case rel => exact ⟨j + 1, by omega, by go_num, HS, hBq⟩
          case measure => simp [intOf]; omega
        · have hb1 : (x != y) = true := by simp [hxy]
          have hb2 : (x == y) = false := by simp [hxy]
          have HS : Hid (decide (xs = ys) = false) := Lib.hid (by
            rw [decide_eq_false_iff_not]
            rintro rfl
            rw [hx1] at hy1; cases hy1; exact hxy rfl)
          clear hx1 hy1 hxy
          go_wp2_with fail
          go_quiet (fail)
          generalize hwq : World.drewN wr _ = wq
          have hBq : Below w.heap.size w wq := by rw [← hwq]; exact ⟨hB.os, hB.tape, hB.output, hB.size, hB.block⟩
          clear hwq q1 q2 hB
          go_wp2_with fail
          go_ret
          exact ⟨by rw [HS.out]; rfl, hBq⟩
      · have hj' : j = N := by omega
        subst hj'
        have HS : Hid (decide (xs = ys) = true) := Lib.hid (by
          have := HE.out
          rw [List.take_of_length_le (by rw [HN.out]; exact Nat.le_refl _), List.take_of_length_le (by rw [HM.out]; exact Nat.le_refl _)] at this
          simp [this])
        go_wp2_with fail
        go_ret
        exact ⟨by rw [HS.out]; rfl, hB⟩
  · have HS : Hid (decide (xs = ys) = false) := Lib.hid (by
      rw [decide_eq_false_iff_not]
      rintro rfl
      exact hNM (hN.symm.trans hM))
    rw [HS.out]
    have hb1 : ((N : Int) != (M : Int)) = true := by simp; omega
    have hb2 : ((N : Int) == (M : Int)) = false := by simp; omega
    clear hN hM hNM
    obtain ⟨_, A', c', e1, _⟩ := hx
    go_enter Try.func36, Try.ntmps36
    go_wp2_with fail
    go_ret
    exact ⟨rfl, Below.refl _ _⟩
end Go.Proofs.Ytbmbgicdnegkfaa

/- The law's walk: head, the live question. -/
namespace Go.Proofs.Ytbmbgicdnegkfaa
open Go Go.RowKit Sil

theorem law_gx {tag : Nat → Nat} {w : World} {p : Pt} {bW : Nat} {s : St} (h : LawR tag w p bW s) : ∃ v bs, GX tag w p lawHs 8 v bs s := h.gr
def hTT : List Nat := [2, 6, 7, 8, 9, 10, 11, 12, 13, 14, 15]

set_option maxRecDepth 100000 in
set_option maxHeartbeats 4000000 in
theorem law_head (tag : Nat → Nat) (w : World) (hF : Fresh tag w) :
    Calls Try.prog 10 #[] w fun e w' => e = .returned (.bool true) ∧ ∃ tag', Mod hTT tag tag' w w' ∧ Fresh tag' w' := by
  have HDM := Lib.hid hd_made
  have HDR := Lib.hid hd_reach
  have HDP := Lib.hid hd_prot
  have HDS := Lib.hid hd_slots
  have HDE := Lib.hid hd_end
  have hr0 : Rd 0 tag (w.alloc (.cells #[.int .i64 3, .int .i64 0, .int .u64 36903, .int .i64 3, .int .i64 1, .int .u64 40999] 59)) 3 (.slice (some ⟨w.heap.size, 0, none⟩) hdPuts.length 2) hdPuts.length (hdPuts.flatMap WPut.cs) := by
    refine ⟨rfl, _, _, rfl, Nat.le_refl _, fun _ => ⟨_, 0, rfl, hF _ (Nat.le_refl _), by simp, fun j u hu => ?_⟩⟩
    rw [Nat.zero_add]
    exact ((Blk.new w 59 #[.int .i64 3, .int .i64 0, .int .u64 36903, .int .i64 3, .int .i64 1, .int .u64 40999]).cell j).trans (by simpa [hdPuts, WPut.cs] using hu)
  have hb0 : Below w.heap.size w (w.alloc (.cells #[.int .i64 3, .int .i64 0, .int .u64 36903, .int .i64 3, .int .i64 1, .int .u64 40999] 59)) := (Below.refl _ w).alloc (Nat.le_refl _) _
  go_enter Try.func10, Try.ntmps10
  go_wp2_with fail
  refine (law_made hdPuts (some ⟨w.heap.size, 0, none⟩) 2 tag _ hr0 (by decide) (hF.mono hb0.size)).mono ?_
  rintro e w0 ⟨p, bW, tag0, rfl, H0', M', F0⟩
  have H0 : LawR tag0 w0 p bW hd0 := H0'
  have hn := H0.n40
  have M0 : Mod hTT tag tag0 w w0 := (Mod.of_below hb0).trans (M'.mono (by simp [hTT]))
  clear H0' M' hr0 hb0
  have c4 := H0.blk.cellv 4 rfl
  go_wp2_with fail
  refine (guard_make tag0 p lawHs 8 hd0 ⟨1, 3, 0⟩ _ H0.gr F0 (by rw [hn]; exact hI0.mk_ok _)).mono ?_
  rintro e w1 ⟨rfl, tag1, G, M', F1⟩
  rw [hn] at G ⊢
  rw [HDM.out.1, HDM.out.2.1]
  have H1 : LawR tag1 w1 p bW hd1 := H0.to M' (by simp) G
  have M1 : Mod hTT tag tag1 w w1 := M0.trans (M'.mono (by simp [hTT]))
  clear H0 F0 M0 M' G c4
  have c4 := H1.blk.cellv 4 rfl
  go_wp2_with fail
  refine (guard_make tag1 p lawHs 8 hd1 ⟨2, 2, 0⟩ _ H1.gr F1 (by rw [hn]; exact hI1.mk_ok _)).mono ?_
  rintro e w2 ⟨rfl, tag2, G, M', F2⟩
  rw [hn] at G ⊢
  rw [HDM.out.2.2.1, HDM.out.2.2.2.1]
  have H2 : LawR tag2 w2 p bW hd2 := H1.to M' (by simp) G
  have M2 : Mod hTT tag tag2 w w2 := M1.trans (M'.mono (by simp [hTT]))
  clear H1 F1 M1 M' G c4
  have c4 := H2.blk.cellv 4 rfl
  go_wp2_with fail
  refine (guard_make tag2 p lawHs 8 hd2 ⟨3, 1, 0⟩ _ H2.gr F2 (by rw [hn]; exact hI2.mk_ok _)).mono ?_
  rintro e w3 ⟨rfl, tag3, G, M', F3⟩
  rw [hn] at G ⊢
  rw [HDM.out.2.2.2.2.1, HDM.out.2.2.2.2.2]
  have H3 : LawR tag3 w3 p bW hd3 := H2.to M' (by simp) G
  have M3 : Mod hTT tag tag3 w w3 := M2.trans (M'.mono (by simp [hTT]))
  clear H2 F2 M2 M' G c4
  have c2 := H3.blk.cellv 2 rfl
  obtain ⟨v, bs, HG⟩ := law_gx H3
  go_wp2_with fail
  refine (store_child p.a p.bF p.bL p.n tag3 v hd3.ps bs hd3.ws 4 0 5 ⟨true, true, true⟩ _ HG.sf.sh hI3.lev).mono ?_
  rintro e w4 ⟨rfl, HSH, M'⟩
  rw [hn] at HSH ⊢
  have H4 : LawR tag3 w4 p bW hd4 := H3.to M' (by simp) ⟨v, bs, HG.sh (by rw [hn]; exact HSH) M' (sChild_len _ _ _ _ _)⟩
  have M4 : Mod hTT tag tag3 w w4 := M3.trans (M'.mono (by simp [hTT]))
  have F4 : Fresh tag3 w4 := F3.mono M'.size
  obtain ⟨tag4, htag⟩ : ∃ t, t = tag3 := ⟨_, rfl⟩
  subst htag
  clear H3 F3 M3 M' HSH HG c2
  have c2 := H4.blk.cellv 2 rfl
  obtain ⟨v, bs, HG⟩ := law_gx H4
  go_wp2_with fail
  refine (store_child p.a p.bF p.bL p.n tag4 v hd4.ps bs hd4.ws 5 2 6 ⟨true, true, true⟩ _ HG.sf.sh hI4.lev).mono ?_
  rintro e w5 ⟨rfl, HSH, M'⟩
  rw [hn] at HSH ⊢
  have H5 : LawR tag4 w5 p bW hd5 := H4.to M' (by simp) ⟨v, bs, HG.sh (by rw [hn]; exact HSH) M' (sChild_len _ _ _ _ _)⟩
  have M5 : Mod hTT tag tag4 w w5 := M4.trans (M'.mono (by simp [hTT]))
  have F5 : Fresh tag4 w5 := F4.mono M'.size
  obtain ⟨tag5, htag⟩ : ∃ t, t = tag4 := ⟨_, rfl⟩
  subst htag
  clear H4 F4 M4 M' HSH HG c2
  have c2 := H5.blk.cellv 2 rfl
  obtain ⟨v, bs, HG⟩ := law_gx H5
  go_wp2_with fail
  refine (store_leaf p.a p.bF p.bL p.n tag5 v hd5.ps bs hd5.ws 6 0 9 33 ⟨false, true, true⟩ _ HG.sf.sh).mono ?_
  rintro e w6 ⟨rfl, HSH, M'⟩
  rw [hn] at HSH ⊢
  have H6 : LawR tag5 w6 p bW hd6 := H5.to M' (by simp) ⟨v, bs, HG.sh (by rw [hn]; exact HSH) M' (sLeaf_len _ _ _ _ _ _ _)⟩
  have M6 : Mod hTT tag tag5 w w6 := M5.trans (M'.mono (by simp [hTT]))
  have F6 : Fresh tag5 w6 := F5.mono M'.size
  obtain ⟨tag6, htag⟩ : ∃ t, t = tag5 := ⟨_, rfl⟩
  subst htag
  clear H5 F5 M5 M' HSH HG c2
  have c2 := H6.blk.cellv 2 rfl
  obtain ⟨v, bs, HG⟩ := law_gx H6
  go_wp2_with fail
  refine (store_leaf p.a p.bF p.bL p.n tag6 v hd6.ps bs hd6.ws 6 1 9 33 ⟨false, true, true⟩ _ HG.sf.sh).mono ?_
  rintro e w7 ⟨rfl, HSH, M'⟩
  rw [hn] at HSH ⊢
  have H7 : LawR tag6 w7 p bW hd7 := H6.to M' (by simp) ⟨v, bs, HG.sh (by rw [hn]; exact HSH) M' (sLeaf_len _ _ _ _ _ _ _)⟩
  have M7 : Mod hTT tag tag6 w w7 := M6.trans (M'.mono (by simp [hTT]))
  have F7 : Fresh tag6 w7 := F6.mono M'.size
  obtain ⟨tag7, htag⟩ : ∃ t, t = tag6 := ⟨_, rfl⟩
  subst htag
  clear H6 F6 M6 M' HSH HG c2
  have c2 := H7.blk.cellv 2 rfl
  obtain ⟨v, bs, HG⟩ := law_gx H7
  go_wp2_with fail
  refine (store_leaf p.a p.bF p.bL p.n tag7 v hd7.ps bs hd7.ws 6 2 3 27 ⟨true, false, false⟩ _ HG.sf.sh).mono ?_
  rintro e w8 ⟨rfl, HSH, M'⟩
  rw [hn] at HSH ⊢
  have H8 : LawR tag7 w8 p bW hd8 := H7.to M' (by simp) ⟨v, bs, HG.sh (by rw [hn]; exact HSH) M' (sLeaf_len _ _ _ _ _ _ _)⟩
  have M8 : Mod hTT tag tag7 w w8 := M7.trans (M'.mono (by simp [hTT]))
  have F8 : Fresh tag7 w8 := F7.mono M'.size
  obtain ⟨tag8, htag⟩ : ∃ t, t = tag7 := ⟨_, rfl⟩
  subst htag
  clear H7 F7 M7 M' HSH HG c2
  have c4 := H8.blk.cellv 4 rfl
  go_wp2_with fail
  refine (guard_reach tag8 p lawHs 8 hd8 1 6 1 _ H8.gr F8).mono ?_
  rintro e w9 ⟨vr, rfl, hown, hB⟩
  rw [HDR.out] at hown
  have hR := Row.of_new hown F8
  obtain ⟨AR, cR, rfl⟩ := own_val hown
  have H9 := H8.below hB
  have F9 := F8.mono hB.size
  have M9 := M8.trans (Mod.of_below hB)
  clear H8 F8 M8 hB hown c4
  have c4 := H9.blk.cellv 4 rfl
  go_wp2_with fail
  refine (guard_protected tag8 p lawHs 8 hd8 3 _ H9.gr).mono ?_
  rintro e w10 ⟨rfl, hB⟩
  rw [HDP.out.1]
  have H10 := H9.below hB
  have F10 := F9.mono hB.size
  have M10 := M9.trans (Mod.of_below hB)
  have hR10 := hR.mod (T := []) (Mod.of_below hB) (by simp)
  clear H9 F9 M9 hB hR c4
  have c4 := H10.blk.cellv 4 rfl
  go_wp2_with fail
  refine (guard_loosen tag8 p lawHs 8 hd8 3 _ H10.gr F10 (by decide)).mono ?_
  rintro e w11 ⟨rfl, tag11, G, M', F11⟩
  rw [HDP.out.2.1]
  have H11 : LawR tag11 w11 p bW hd9 := H10.to M' (by simp) G
  have M11 : Mod hTT tag tag11 w w11 := M10.trans (M'.mono (by simp [hTT]))
  have hR11 := hR10.mod M' (by simp)
  clear H10 F10 M10 M' G hR10 c4
  have c4 := H11.blk.cellv 4 rfl
  go_wp2_with fail
  refine (guard_loosen tag11 p lawHs 8 hd9 1 _ H11.gr F11 (by decide)).mono ?_
  rintro e w12 ⟨rfl, tag12, G, M', F12⟩
  rw [HDP.out.2.2.1]
  have H12 : LawR tag12 w12 p bW hd10 := H11.to M' (by simp) G
  have M12 : Mod hTT tag tag12 w w12 := M11.trans (M'.mono (by simp [hTT]))
  have hR12 := hR11.mod M' (by simp)
  clear H11 F11 M11 M' G hR11 c4
  have c4 := H12.blk.cellv 4 rfl
  go_wp2_with fail
  refine (guard_protected tag12 p lawHs 8 hd10 3 _ H12.gr).mono ?_
  rintro e w13 ⟨rfl, hB⟩
  rw [HDP.out.2.2.2.1]
  have H13 := H12.below hB
  have F13 := F12.mono hB.size
  have M13 := M12.trans (Mod.of_below hB)
  have hR13 := hR12.mod (T := []) (Mod.of_below hB) (by simp)
  clear H12 F12 M12 hB hR12 c4
  have c4 := H13.blk.cellv 4 rfl
  go_wp2_with fail
  refine (guard_look tag12 p lawHs 8 hd10 3 _ H13.gr F13).mono ?_
  rintro e w14 ⟨rfl, G, M'⟩
  rw [hn] at G
  rw [HDP.out.2.2.2.2]
  have H14 : LawR tag12 w14 p bW hd11 := H13.to M' (by simp) G
  have M14 : Mod hTT tag tag12 w w14 := M13.trans (M'.mono (by simp [hTT]))
  have F14 := F13.mono M'.size
  have hR14 := hR13.mod M' (by simp)
  clear H13 F13 M13 M' G hR13 c4
  have c2 := H14.blk.cellv 2 rfl
  obtain ⟨v, bs, HG⟩ := law_gx H14
  obtain ⟨sk0, hsk⟩ : ∃ x, sSlot hd11.ps 6 0 = x := ⟨_, rfl⟩
  have hk0 : Hid (sk0.kind = 2) := Lib.hid (by rw [← hsk]; exact HDS.out.1)
  have HSK := Lib.hid hsk
  clear hsk
  obtain ⟨k0, t0, ⟨a0, b0, d0⟩⟩ := sk0
  go_wp2_with fail
  refine (store_Slot 6 p.a p.bF p.bL tag12 v hd11.ps bs 6 0 _ HG.sf.sh.st (by have := HG.pl; omega)).mono ?_
  rintro e w15 ⟨rfl, hB⟩
  rw [HSK.out]
  simp only [Slot.cs]
  have qx := Blk.new w15 62 #[.int .i64 k0, .int .i64 t0, .bool a0, .bool b0, .bool d0]
  have hB2 := hB.alloc hB.size (.cells #[.int .i64 k0, .int .i64 t0, .bool a0, .bool b0, .bool d0] 62)
  have H15 := H14.below hB2
  have F15 := F14.mono hB2.size
  have M15 := M14.trans (Mod.of_below hB2)
  have hR15 := hR14.mod (T := []) (Mod.of_below hB2) (by simp)
  have hB15 := hB2
  clear H14 F14 M14 hB hB2 hR14 c2 HG HSK
  have c2 := H15.blk.cellv 2 rfl
  obtain ⟨v, bs, HG⟩ := law_gx H15
  obtain ⟨sk1, hsk⟩ : ∃ x, sSlot hd11.ps 6 1 = x := ⟨_, rfl⟩
  have hk1 : Hid (sk1.kind = 0) := Lib.hid (by rw [← hsk]; exact HDS.out.2.1)
  have HSK := Lib.hid hsk
  clear hsk
  obtain ⟨k1, t1, ⟨a1, b1, d1⟩⟩ := sk1
  go_wp2_with fail
  refine (store_Slot 6 p.a p.bF p.bL tag12 v hd11.ps bs 6 1 _ HG.sf.sh.st (by have := HG.pl; omega)).mono ?_
  rintro e w16 ⟨rfl, hB⟩
  rw [HSK.out]
  simp only [Slot.cs]
  have qy := Blk.new w16 62 #[.int .i64 k1, .int .i64 t1, .bool a1, .bool b1, .bool d1]
  have hB2 := hB.alloc hB.size (.cells #[.int .i64 k1, .int .i64 t1, .bool a1, .bool b1, .bool d1] 62)
  have H16 := H15.below hB2
  have F16 := F15.mono hB2.size
  have M16 := M15.trans (Mod.of_below hB2)
  have hR16 := hR15.mod (T := []) (Mod.of_below hB2) (by simp)
  have hB16 := hB2
  clear H15 F15 M15 hB hB2 hR15 c2 HG HSK
  have c2 := H16.blk.cellv 2 rfl
  obtain ⟨v, bs, HG⟩ := law_gx H16
  obtain ⟨sk2, hsk⟩ : ∃ x, sSlot hd11.ps 6 2 = x := ⟨_, rfl⟩
  have hk2 : Hid (sk2.kind = 0) := Lib.hid (by rw [← hsk]; exact HDS.out.2.2.1)
  have HSK := Lib.hid hsk
  clear hsk
  obtain ⟨k2, t2, ⟨a2, b2, d2⟩⟩ := sk2
  go_wp2_with fail
  refine (store_Slot 6 p.a p.bF p.bL tag12 v hd11.ps bs 6 2 _ HG.sf.sh.st (by have := HG.pl; omega)).mono ?_
  rintro e w17 ⟨rfl, hB⟩
  rw [HSK.out]
  simp only [Slot.cs]
  have qz := Blk.new w17 62 #[.int .i64 k2, .int .i64 t2, .bool a2, .bool b2, .bool d2]
  have hB2 := hB.alloc hB.size (.cells #[.int .i64 k2, .int .i64 t2, .bool a2, .bool b2, .bool d2] 62)
  have H17 := H16.below hB2
  have F17 := F16.mono hB2.size
  have M17 := M16.trans (Mod.of_below hB2)
  have hR17 := hR16.mod (T := []) (Mod.of_below hB2) (by simp)
  have hB17 := hB2
  clear H16 F16 M16 hB hB2 hR16 c2 HG HSK
  have qx2 := (qx.below hB16 qx.lt).below hB17 (by have := (qx.below hB16 qx.lt).lt; exact this)
  have qy2 := qy.below hB17 qy.lt
  have hx0 : k0 = 2 := hk0.out
  have hy0 : k1 = 0 := hk1.out
  have hz0 : k2 = 0 := hk2.out
  subst hx0 hy0 hz0
  obtain ⟨wz, hwz⟩ : ∃ wz, w17.alloc (.cells #[.int .i64 0, .int .i64 t2, .bool a2, .bool b2, .bool d2] 62) = wz := ⟨_, rfl⟩
  have HW := Lib.hid hwz
  have x0 := qx2.cellv 0 rfl
  have y0 := qy2.cellv 0 rfl
  have z0 := qz.cellv 0 rfl
  have lx := qx2.lt
  have ly := qy2.lt
  have c4 := H17.blk.cellv 4 rfl
  have lw := H17.blk.lt
  have hRd : Rd 0 tag12 ((w17.alloc (.cells #[.int .i64 0, .int .i64 t2, .bool a2, .bool b2, .bool d2] 62)).alloc (.cells #[.int .i64 17] 3)) 1 (.slice (some ⟨w17.heap.size + 1, 0, none⟩) [(17 : Int)].length 1) [(17 : Int)].length ([(17 : Int)].map (Value.int .i64)) := by
    refine ⟨rfl, _, _, rfl, Nat.le_refl _, fun _ => ⟨_, 0, rfl, F17 _ (by simp), by simp, fun j u hu => ?_⟩⟩
    rw [Nat.zero_add]
    exact ((Blk.new2 w17 (.cells #[.int .i64 0, .int .i64 t2, .bool a2, .bool b2, .bool d2] 62) 3 #[.int .i64 17]).cell j).trans (by simpa using hu)
  have hR18 := hR17.mod (T := []) ((Mod.refl [] tag12 _).alloc (.cells #[.int .i64 17] 3)) (by simp)
  have hb18 := (Below.refl _ (w17.alloc (.cells #[.int .i64 0, .int .i64 t2, .bool a2, .bool b2, .bool d2] 62))).alloc (Nat.le_refl _) (.cells #[.int .i64 17] 3)
  clear hwz hk0 hk1 hk2 HDM HDR HDP
  go_wp2_with fail
  refine (same_ints 0 0 [17] [17] AR (some ⟨w17.heap.size + 1, 0, none⟩) cR 1 tag12 _ hR18.rd hRd (by decide) (by decide)).mono ?_
  rintro e w19 ⟨rfl, hB19⟩
  have hbb := hb18.trans (hB19.mono hb18.size)
  have H19 := H17.below hbb
  have F19 := F17.mono hbb.size
  have M19 := M17.trans (Mod.of_below hbb)
  have x0 := (qx2.below hbb qx2.lt).cellv 0 rfl
  have y0 := (qy2.below hbb qy2.lt).cellv 0 rfl
  have z0 := (qz.below hbb qz.lt).cellv 0 rfl
  clear hRd hR18 hR17 HW H17 F17 M17 hB16 hB17 hB15 qx qx2 qy qy2 qz lx ly lw c4 hb18 hB19
  have c4 := H19.blk.cellv 4 rfl
  have hdt : Hid (decide ([(17 : Int)] = [17]) = true) := Lib.hid (by decide)
  rw [hdt.out]
  go_wp2_with fail
  refine (guard_protected tag12 p lawHs 8 hd11 3 _ H19.gr).mono ?_
  rintro e w20 ⟨rfl, hB⟩
  rw [HDS.out.2.2.2.1]
  have H20 := H19.below hB
  have F20 := F19.mono hB.size
  have M20 := M19.trans (Mod.of_below hB)
  clear H19 F19 M19 hB c4 x0 y0 z0
  have c4 := H20.blk.cellv 4 rfl
  go_wp2_with fail
  refine (guard_list tag12 p lawHs 8 hd11 _ H20.gr).mono ?_
  rintro e w21 ⟨vl, rfl, hown, hB⟩
  rw [HDS.out.2.2.2.2] at hown
  obtain ⟨A21, c21, rfl⟩ := own_val hown
  have H21 := H20.below hB
  have F21 := F20.mono hB.size
  have M21 := M20.trans (Mod.of_below hB)
  clear H20 F20 M20 hB c4 hown
  have c4 := H21.blk.cellv 4 rfl
  go_wp2_with fail
  refine (guard_reach tag12 p lawHs 8 hd11 1 4 1 _ H21.gr F21).mono ?_
  rintro e w22 ⟨vl, rfl, hown, hB⟩
  rw [HDE.out.1] at hown
  obtain ⟨A22, c22, rfl⟩ := own_val hown
  have H22 := H21.below hB
  have F22 := F21.mono hB.size
  have M22 := M21.trans (Mod.of_below hB)
  clear H21 F21 M21 hB c4 hown
  have c4 := H22.blk.cellv 4 rfl
  go_wp2_with fail
  refine (guard_drop tag12 p lawHs 8 hd11 6 _ H22.gr F22 (by decide) hI11.tk (hI11.drop_ok 6)).mono ?_
  rintro e w23 ⟨rfl, tag23, G, M', F23⟩
  rw [hn] at G
  rw [HDE.out.2.1]
  have H23 : LawR tag23 w23 p bW hd12 := H22.to M' (by simp) G
  have M23 : Mod hTT tag tag23 w w23 := M22.trans (M'.mono (by simp [hTT]))
  clear H22 F22 M22 M' G c4
  have c4 := H23.blk.cellv 4 rfl
  go_wp2_with fail
  refine (guard_protected tag23 p lawHs 8 hd12 3 _ H23.gr).mono ?_
  rintro e w24 ⟨rfl, hB⟩
  rw [HDE.out.2.2]
  go_wp2_with fail
  go_ret
  exact ⟨rfl, tag23, M23.trans (Mod.of_below hB), F23.mono hB.size⟩
end Go.Proofs.Ytbmbgicdnegkfaa

/- What the guard's laws share: Great, the words of a list of operations, the law's frame. -/
namespace Go.Proofs.Ytbmbgicdnegkfaa
open Go Go.RowKit Sil

theorem law_great (A B : Option Addr) (n m c d : Nat) (w : World) (hn : n ≤ 9223372036854775807) (hm : m ≤ 9223372036854775807) :
    Calls Try.prog 12 #[.slice A n c, .slice B m d] w fun e w' => e = .returned (.bool (decide (600 < n) || decide (120 < m))) ∧ w = w' := by
  by_cases h1 : 600 < n
  · have h1' : (600 : Int) < (n : Int) := by omega
    have e1 : (decide (600 < n) || decide (120 < m)) = true := by simp [h1]
    rw [e1]
    clear h1 e1
    go_enter Try.func12, Try.ntmps12
    go_wp2
    go_ret
    exact ⟨rfl, rfl⟩
  · have h1' : ¬ (600 : Int) < (n : Int) := by omega
    by_cases h2 : 120 < m
    · have h2' : (120 : Int) < (m : Int) := by omega
      have e1 : (decide (600 < n) || decide (120 < m)) = true := by simp [h2]
      rw [e1]
      clear h1 h2 e1
      go_enter Try.func12, Try.ntmps12
      go_wp2
      go_ret
      exact ⟨rfl, rfl⟩
    · have h2' : ¬ (120 : Int) < (m : Int) := by omega
      have e1 : (decide (600 < n) || decide (120 < m)) = false := by simp [h1, h2]
      rw [e1]
      clear h1 h2 e1
      go_enter Try.func12, Try.ntmps12
      go_wp2
      go_ret
      exact ⟨rfl, rfl⟩

def hLT : List Nat := [2, 6, 7, 8, 9, 10, 11, 12, 13, 14, 15, 17]
theorem gop_cell {l : List GOp} {i : Nat} {x : GOp} (hi : l[i]? = some x) (j : Nat) (hj : j < 11) : (l.flatMap GOp.cs)[i * 11 + j]? = x.cs[j]? := by
  rw [flatMap_at GOp.cs (sz := 11) (fun _ => rfl) l i j hj (List.getElem?_eq_some_iff.1 hi).1, hi]; rfl
/-- an operation's cells in a world -/
def OpAt (w : World) (g o : Nat) (x : GOp) : Prop :=
  w.cell? ⟨g, o, none⟩ = some (.int .i64 x.what) ∧ w.cell? ⟨g, o + 1, none⟩ = some (.int .i64 x.k.g) ∧ w.cell? ⟨g, o + 2, none⟩ = some (.int .i64 x.k.lev) ∧ w.cell? ⟨g, o + 3, none⟩ = some (.int .i64 x.k.role) ∧ w.cell? ⟨g, o + 4, none⟩ = some (.int .i64 x.p) ∧
  w.cell? ⟨g, o + 5, none⟩ = some (.int .i64 x.i) ∧ w.cell? ⟨g, o + 6, none⟩ = some (.int .i64 x.to) ∧ w.cell? ⟨g, o + 7, none⟩ = some (.bool x.r.w) ∧ w.cell? ⟨g, o + 8, none⟩ = some (.bool x.r.u) ∧ w.cell? ⟨g, o + 9, none⟩ = some (.bool x.r.x) ∧ w.cell? ⟨g, o + 10, none⟩ = some (.int .u64 x.v)
theorem op_at {k : Nat} {tag : Nat → Nat} {w : World} {A : Option Addr} {c : Nat} {l : List GOp} (h : Rd k tag w 11 (.slice A l.length c) l.length (l.flatMap GOp.cs)) {j : Nat} {x : GOp} (hx : l[j]? = some x) : ∃ g o, A = some ⟨g, o, none⟩ ∧ OpAt w g (o + j * 11) x ∧ g < w.heap.size := by
  obtain ⟨hlt, _⟩ := List.getElem?_eq_some_iff.1 hx
  obtain ⟨g, o, rfl, _, hg⟩ := h.at_ (j := j * 11 + 0) (u := .int .i64 x.what) (by rw [gop_cell hx 0 (by omega)]; rfl)
  refine ⟨g, o, rfl, ?_, hg⟩
  have q : ∀ (i : Nat) (u : Value), i < 11 → x.cs[i]? = some u → w.cell? ⟨g, o + j * 11 + i, none⟩ = some u := by
    intro i u hi hu
    obtain ⟨g', o', e, hc, _⟩ := h.at_ (j := j * 11 + i) (u := u) (by rw [gop_cell hx i hi]; exact hu)
    cases e
    rw [Nat.add_assoc]; exact hc
  exact ⟨q 0 _ (by omega) rfl, q 1 _ (by omega) rfl, q 2 _ (by omega) rfl, q 3 _ (by omega) rfl, q 4 _ (by omega) rfl, q 5 _ (by omega) rfl, q 6 _ (by omega) rfl, q 7 _ (by omega) rfl, q 8 _ (by omega) rfl, q 9 _ (by omega) rfl, q 10 _ (by omega) rfl⟩
theorem ops_succ {l : List GOp} {j : Nat} {x : GOp} (hx : l[j]? = some x) (s : St) : s.ops (l.take (j + 1)) = (s.ops (l.take j)).op x := by
  obtain ⟨h1, h2⟩ := List.getElem?_eq_some_iff.1 hx
  rw [List.take_succ_eq_append_getElem h1, h2, St.ops_snoc]
end Go.Proofs.Ytbmbgicdnegkfaa

/- How the laws' arguments read: slices of words to be written and of operations. -/
namespace Go.Proofs.Ytbmbgicdnegkfaa
open Go Go.RowKit Go.ChangeShapes Go.WideShapes Go.Deep Sil

section
variable {H : Type} {enc : TypeId × Value → H} {w : World} {base : Nat} {spare : Nat → Bool} {held : Bool}
theorem get_some {α : Type} {l : List α} {n i : Nat} (hl : l.length = n) (hi : i < n) : ∃ y, l[i]? = some y := ⟨l[i]'(by omega), List.getElem?_eq_getElem (by omega)⟩

theorem len3 {α : Type} {l : List α} (h : l.length = 3) : ∃ a b c, l = [a, b, c] := by
  match l, h with
  | [a, b, c], _ => exact ⟨a, b, c, rfl⟩
theorem len11 {α : Type} {l : List α} (h : l.length = 11) : ∃ a b c d e f g i j k m, l = [a, b, c, d, e, f, g, i, j, k, m] := by
  match l, h with
  | [a, b, c, d, e, f, g, i, j, k, m], _ => exact ⟨a, b, c, d, e, f, g, i, j, k, m, rfl⟩
theorem read_put (n : Nat) (cs : List Value) (z : DataW H × List MemPlace) (h : DataW.trod enc Try.prog w base spare held n 59 cs = some z) (hl : cs.length = 3) : ∃ y : WPut, cs = y.cs ∧ (Lit.int .u64 y.v).wf = true := by
  obtain ⟨xs, m, _, _, _, hx, hf⟩ := DataW.trod_struct Try.underlying59 h
  obtain ⟨c0, c1, c2, rfl⟩ := len3 hl
  have k3 : Try.prog.cellsOf 3 = 1 := by kernel_rfl
  have k40 : Try.prog.cellsOf 40 = 1 := by kernel_rfl
  obtain ⟨y0, e0⟩ := get_some (i := 0) hx (by decide)
  obtain ⟨y1, e1⟩ := get_some (i := 1) hx (by decide)
  obtain ⟨y2, e2⟩ := get_some (i := 2) hx (by decide)
  have f0 : DataW.trod enc Try.prog w base spare held m 3 ((([c0, c1, c2] : List Value).drop 0).take (Try.prog.cellsOf 3)) = xs[0]? := hf 0 _ rfl
  rw [k3] at f0
  have f1 : DataW.trod enc Try.prog w base spare held m 3 ((([c0, c1, c2] : List Value).drop 1).take (Try.prog.cellsOf 3)) = xs[1]? := hf 1 _ rfl
  rw [k3] at f1
  have f2 : DataW.trod enc Try.prog w base spare held m 40 ((([c0, c1, c2] : List Value).drop 2).take (Try.prog.cellsOf 40)) = xs[2]? := hf 2 _ rfl
  rw [k40] at f2
  rw [e0] at f0; rw [e1] at f1; rw [e2] at f2
  obtain ⟨a, ha, _, _⟩ := DataW.trod_int Try.underlying3 f0
  obtain ⟨b, hb, _, _⟩ := DataW.trod_int Try.underlying3 f1
  obtain ⟨v, hv, _, wv⟩ := DataW.trod_int Try.underlying40 f2
  simp at ha hb hv
  subst ha hb hv
  exact ⟨⟨a, b, v⟩, rfl, wv⟩

/-- what is known of an operation that came in -/
def GOk (o : GOp) : Prop := (Lit.int .i64 o.what).wf = true ∧ (Lit.int .i64 o.p).wf = true ∧ (Lit.int .i64 o.to).wf = true ∧ (Lit.int .u64 o.v).wf = true

theorem read_op (n : Nat) (cs : List Value) (z : DataW H × List MemPlace) (h : DataW.trod enc Try.prog w base spare held n 42 cs = some z) (hl : cs.length = 11) : ∃ y : GOp, cs = y.cs ∧ GOk y := by
  obtain ⟨xs, m, _, _, _, hx, hf⟩ := DataW.trod_struct Try.underlying42 h
  obtain ⟨c0, c1, c2, c3, c4, c5, c6, c7, c8, c9, c10, rfl⟩ := len11 hl
  have k3 : Try.prog.cellsOf 3 = 1 := by kernel_rfl
  have k4 : Try.prog.cellsOf 4 = 1 := by kernel_rfl
  have k40 : Try.prog.cellsOf 40 = 1 := by kernel_rfl
  have kK : Try.prog.cellsOf 37 = 3 := by kernel_rfl
  have kR : Try.prog.cellsOf 39 = 3 := by kernel_rfl
  obtain ⟨y0, e0⟩ := get_some (i := 0) hx (by decide)
  obtain ⟨y1, e1⟩ := get_some (i := 1) hx (by decide)
  obtain ⟨y2, e2⟩ := get_some (i := 2) hx (by decide)
  obtain ⟨y3, e3⟩ := get_some (i := 3) hx (by decide)
  obtain ⟨y4, e4⟩ := get_some (i := 4) hx (by decide)
  obtain ⟨y5, e5⟩ := get_some (i := 5) hx (by decide)
  obtain ⟨y6, e6⟩ := get_some (i := 6) hx (by decide)
  have f0 : DataW.trod enc Try.prog w base spare held m 3 ((([c0, c1, c2, c3, c4, c5, c6, c7, c8, c9, c10] : List Value).drop 0).take (Try.prog.cellsOf 3)) = xs[0]? := hf 0 _ rfl
  rw [k3] at f0
  have f1 : DataW.trod enc Try.prog w base spare held m 37 ((([c0, c1, c2, c3, c4, c5, c6, c7, c8, c9, c10] : List Value).drop 1).take (Try.prog.cellsOf 37)) = xs[1]? := hf 1 _ rfl
  rw [kK] at f1
  have f2 : DataW.trod enc Try.prog w base spare held m 3 ((([c0, c1, c2, c3, c4, c5, c6, c7, c8, c9, c10] : List Value).drop 4).take (Try.prog.cellsOf 3)) = xs[2]? := hf 2 _ rfl
  rw [k3] at f2
  have f3 : DataW.trod enc Try.prog w base spare held m 3 ((([c0, c1, c2, c3, c4, c5, c6, c7, c8, c9, c10] : List Value).drop 5).take (Try.prog.cellsOf 3)) = xs[3]? := hf 3 _ rfl
  rw [k3] at f3
  have f4 : DataW.trod enc Try.prog w base spare held m 3 ((([c0, c1, c2, c3, c4, c5, c6, c7, c8, c9, c10] : List Value).drop 6).take (Try.prog.cellsOf 3)) = xs[4]? := hf 4 _ rfl
  rw [k3] at f4
  have f5 : DataW.trod enc Try.prog w base spare held m 39 ((([c0, c1, c2, c3, c4, c5, c6, c7, c8, c9, c10] : List Value).drop 7).take (Try.prog.cellsOf 39)) = xs[5]? := hf 5 _ rfl
  rw [kR] at f5
  have f6 : DataW.trod enc Try.prog w base spare held m 40 ((([c0, c1, c2, c3, c4, c5, c6, c7, c8, c9, c10] : List Value).drop 10).take (Try.prog.cellsOf 40)) = xs[6]? := hf 6 _ rfl
  rw [k40] at f6
  rw [e0] at f0; rw [e1] at f1; rw [e2] at f2; rw [e3] at f3; rw [e4] at f4; rw [e5] at f5; rw [e6] at f6
  obtain ⟨a0, h0, _, w0⟩ := DataW.trod_int Try.underlying3 f0
  obtain ⟨a2, h2, _, w2⟩ := DataW.trod_int Try.underlying3 f2
  obtain ⟨a3, h3, _, _⟩ := DataW.trod_int Try.underlying3 f3
  obtain ⟨a4, h4, _, w4⟩ := DataW.trod_int Try.underlying3 f4
  obtain ⟨a6, h6, _, w6⟩ := DataW.trod_int Try.underlying40 f6
  obtain ⟨ks, mk, _, _, _, hkx, hkf⟩ := DataW.trod_struct Try.underlying37 f1
  obtain ⟨ky0, ke0⟩ := get_some (i := 0) hkx (by decide)
  obtain ⟨ky1, ke1⟩ := get_some (i := 1) hkx (by decide)
  obtain ⟨ky2, ke2⟩ := get_some (i := 2) hkx (by decide)
  have g0 : DataW.trod enc Try.prog w base spare held mk 3 ((((([c0, c1, c2, c3, c4, c5, c6, c7, c8, c9, c10] : List Value).drop 1).take 3).drop 0).take (Try.prog.cellsOf 3)) = ks[0]? := hkf 0 _ rfl
  rw [k3] at g0
  have g1 : DataW.trod enc Try.prog w base spare held mk 3 ((((([c0, c1, c2, c3, c4, c5, c6, c7, c8, c9, c10] : List Value).drop 1).take 3).drop 1).take (Try.prog.cellsOf 3)) = ks[1]? := hkf 1 _ rfl
  rw [k3] at g1
  have g2 : DataW.trod enc Try.prog w base spare held mk 3 ((((([c0, c1, c2, c3, c4, c5, c6, c7, c8, c9, c10] : List Value).drop 1).take 3).drop 2).take (Try.prog.cellsOf 3)) = ks[2]? := hkf 2 _ rfl
  rw [k3] at g2
  rw [ke0] at g0; rw [ke1] at g1; rw [ke2] at g2
  obtain ⟨b0, i0, _, _⟩ := DataW.trod_int Try.underlying3 g0
  obtain ⟨b1, i1, _, _⟩ := DataW.trod_int Try.underlying3 g1
  obtain ⟨b2, i2, _, _⟩ := DataW.trod_int Try.underlying3 g2
  obtain ⟨rs, mr, _, _, _, hrx, hrf⟩ := DataW.trod_struct Try.underlying39 f5
  obtain ⟨ry0, re0⟩ := get_some (i := 0) hrx (by decide)
  obtain ⟨ry1, re1⟩ := get_some (i := 1) hrx (by decide)
  obtain ⟨ry2, re2⟩ := get_some (i := 2) hrx (by decide)
  have r0 : DataW.trod enc Try.prog w base spare held mr 4 ((((([c0, c1, c2, c3, c4, c5, c6, c7, c8, c9, c10] : List Value).drop 7).take 3).drop 0).take (Try.prog.cellsOf 4)) = rs[0]? := hrf 0 _ rfl
  rw [k4] at r0
  have r1 : DataW.trod enc Try.prog w base spare held mr 4 ((((([c0, c1, c2, c3, c4, c5, c6, c7, c8, c9, c10] : List Value).drop 7).take 3).drop 1).take (Try.prog.cellsOf 4)) = rs[1]? := hrf 1 _ rfl
  rw [k4] at r1
  have r2 : DataW.trod enc Try.prog w base spare held mr 4 ((((([c0, c1, c2, c3, c4, c5, c6, c7, c8, c9, c10] : List Value).drop 7).take 3).drop 2).take (Try.prog.cellsOf 4)) = rs[2]? := hrf 2 _ rfl
  rw [k4] at r2
  rw [re0] at r0; rw [re1] at r1; rw [re2] at r2
  obtain ⟨c0', j0, _⟩ := DataW.trod_bool Try.underlying4 r0
  obtain ⟨c1', j1, _⟩ := DataW.trod_bool Try.underlying4 r1
  obtain ⟨c2', j2, _⟩ := DataW.trod_bool Try.underlying4 r2
  simp at h0 h2 h3 h4 h6 i0 i1 i2 j0 j1 j2
  subst h0 h2 h3 h4 h6 i0 i1 i2 j0 j1 j2
  exact ⟨⟨a0, ⟨b0, b1, b2⟩, a2, a3, a4, ⟨c0', c1', c2'⟩, a6⟩, rfl, w0, w2, w4, w6⟩

instance : Inhabited WPut := ⟨⟨0, 0, 0⟩⟩
instance : Inhabited GOp := ⟨⟨0, ⟨0, 0, 0⟩, 0, 0, 0, ⟨false, false, false⟩, 0⟩⟩
theorem open_puts {fuel : Nat} {v : Value} {x : DataW H × List MemPlace} (h : DataW.trod enc Try.prog w base spare held fuel 22 [v] = some x) :
    ∃ (A : Option Addr) (c : Nat) (l : List WPut), v = .slice A l.length c ∧ Rd 0 (fun _ => 0) w 3 (.slice A l.length c) l.length (l.flatMap WPut.cs) ∧ l.length ≤ maxLen ∧ ∀ x ∈ l, (Lit.int .u64 x.v).wf = true := by
  obtain ⟨v', ys, e, hr, hy, hl⟩ := open_rd WPut.cs (fun y => (Lit.int .u64 y.v).wf = true) Try.underlying22 (sz := 3) (by kernel_rfl) (fun _ => rfl) (by decide) (fun n cs' z h hl => read_put n cs' z h hl) h
  have e' : v = v' := by simpa using e
  subst e'
  obtain ⟨_, A, c, hv, _⟩ := id hr
  subst hv
  exact ⟨A, c, ys, rfl, hr, hl, hy⟩
theorem open_gops {fuel : Nat} {v : Value} {x : DataW H × List MemPlace} (h : DataW.trod enc Try.prog w base spare held fuel 23 [v] = some x) :
    ∃ (A : Option Addr) (c : Nat) (l : List GOp), v = .slice A l.length c ∧ Rd 0 (fun _ => 0) w 11 (.slice A l.length c) l.length (l.flatMap GOp.cs) ∧ l.length ≤ maxLen ∧ ∀ x ∈ l, GOk x := by
  obtain ⟨v', ys, e, hr, hy, hl⟩ := open_rd GOp.cs GOk Try.underlying23 (sz := 11) (by kernel_rfl) (fun _ => rfl) (by decide) (fun n cs' z h hl => read_op n cs' z h hl) h
  have e' : v = v' := by simpa using e
  subst e'
  obtain ⟨_, A, c, hv, _⟩ := id hr
  subst hv
  exact ⟨A, c, ys, rfl, hr, hl, hy⟩
end
end Go.Proofs.Ytbmbgicdnegkfaa
