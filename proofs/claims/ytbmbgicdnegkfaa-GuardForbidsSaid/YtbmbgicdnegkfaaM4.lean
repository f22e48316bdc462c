/- The walks of shadow pages: the iterator, Make, Drop, and the constructors. -/
import Derived.Test.YtbmbgicdnegkfaaM3
import Derived.RangeFuncNested
import Derived.RangeFuncBound
import Derived.RangeFuncCalls
import Derived.RangeFuncLeaves
import Derived.Shelf.Abstract
import Derived.Shelf.RegionOpen
import Derived.OwnWalkIn
import Derived.TacticsInMore
import Derived.LoopNIn
import Derived.LoopIn
import Derived.WalkMore
import Derived.Deep.MidRow
import Derived.Stop.RegionWithIn
import Derived.Sort.QuietIn
import Derived.Deep.AppendLies
import Derived.Deep.RegionLaw
import Derived.Deep.RegionWith
set_option linter.unusedVariables false
set_option linter.unusedSimpArgs false
/- The walk of store.all's closure: an iterator over all slots. -/
namespace Go.Proofs.Ytbmbgicdnegkfaa
open Go Go.RowKit Go.Shelf Sil
attribute [local go_sem] Oper.semAt_some

theorem wpListIn_load_mid {F : Fence} {n : Nat} {P : Program} {ops : Array Oper} {rest : List Oper} {op : Oper} {a : Act} {w : World} {Q : Exit → Act → World → Prop} (hgd : op.guard = none) (ty : TypeId) (x : Operand) (ho : op.op = .load ty x)
    (b o : Nat) (hx : a.eval x = .pointer (some ⟨b, o, none⟩)) (cs : List Value) (d : TypeDesc) (hc : w.rangeAt b o cs)
    (hu : P.underlying ty = some d) (hd : d.isRow = true) (hi : (P.info? ty).map (·.size) = some cs.length)
    (h : wpListIn F n P ops Q rest (a.put op.dst (.agg cs.toArray)) w) : wpListIn F n P ops Q (op :: rest) a w := by
  refine wpListIn_plain hgd fun K hK' => ?_
  unfold Oper.wpIn
  refine ⟨?_, ?_⟩
  · simp [Oper.about, ho]
  · rw [Oper.semAt_plain F _ _ (by rw [ho]; intro c hc'; cases hc')]
    simp only [execOp, ho, hx, Instr.loadAt, Instr.sureAddr, Sem.run_bind, Sem.run_pure, Result.andThen_ok, run_loadVar_mid w b o ty cs d hc hu hd hi]
    exact hK' _ _ h

/-- the i-th element of an array value whose elements are rows -/
theorem wpListIn_index {F : Fence} {n : Nat} {P : Program} {ops : Array Oper} {rest : List Oper} {op : Oper} {a : Act} {w : World} {Q : Exit → Act → World → Prop} (hgd : op.guard = none) (ty : TypeId) (x ix : Operand) (ho : op.op = .index ty x ix)
    (cs : Array Value) (i : Nat) (hx : a.eval x = .agg cs) (hix : a.eval ix = .int .i64 i) (len : Nat) (elem : TypeId) (hu : P.underlying ty = some (.array len elem)) (hlt : i < len) (sz : Nat) (d : TypeDesc) (hd : P.underlying elem = some d) (hr : d.isRow = true) (hi : (P.info? elem).map (·.size) = some sz) (cs' : Array Value) (hcs : cs.extract (i * sz) (i * sz + sz) = cs')
    (h : wpListIn F n P ops Q rest (a.put op.dst (.agg cs')) w) : wpListIn F n P ops Q (op :: rest) a w := by
  refine wpListIn_plain hgd fun K hK' => ?_
  unfold Oper.wpIn
  refine ⟨?_, ?_⟩
  · simp [Oper.about, ho]
  · rw [Oper.semAt_plain F _ _ (by rw [ho]; intro c hc'; cases hc')]
    cases hq : P.info? elem with
    | none => simp [hq] at hi
    | some inf =>
      have hs : inf.size = sz := by simpa [hq] using hi
      have hagg : (isAgg elem).run P w = .ok true w := by
        unfold isAgg
        rw [Sem.run_bind, run_underlying hd w]
        cases d <;> simp_all
      have hrun : (Instr.index ty (.agg cs) (.int .i64 i)).run P w = .ok (.agg cs') w := by
        simp [Instr.index, asIntOf, run_underlying hu, hlt, sizeOf, typeInfo, hq, hs, part, hagg, hcs]
      simp only [execOp, ho, hx, hix, Sem.run_bind, hrun, Sem.run_pure, Result.andThen_ok]
      exact hK' _ _ h

def encAt (x : At × Slot) : Array Value := #[.agg x.1.cs.toArray, .agg x.2.cs.toArray]

set_option maxRecDepth 100000 in
set_option maxHeartbeats 2000000 in
theorem all1_in (n l Bs n₀ a bF bL : Nat) (hn1 : 1 ≤ n) (tag : Nat → Nat) (v : Value) (ps : List Page) (bs : List Nat) (J Jx : List (At × Slot) → World → Prop) (w0 W : World)
    (H : StoreX 6 tag w0 a bF bL v ps bs) (hn : ps.length ≤ 1000000) (hn₀ : n₀ = w0.heap.size) (hW : Below n₀ w0 W) (hBs : W.cell? ⟨Bs, 0, none⟩ = some (.pointer (some ⟨a, 0, none⟩)))
    (hY : ∀ pre x W, J pre W → pre.length < 8 * ps.length → YieldAt Fence.wide (n - 1) Try.prog l (encAt x) W fun e W' =>
      (e = .returned (.bool true) ∧ J (pre ++ [x]) W' ∧ Below n₀ W W') ∨ (e = .returned (.bool false) ∧ Jx (pre ++ [x]) W')) (h0 : J [] W)
    (hJa : ∀ pre W o, J pre W → J pre (W.alloc o)) (hJd : ∀ pre (W : World), J pre W → J pre W.drew) :
    CallsIn Fence.wide n Try.prog 102 #[.func (.yield l) #[] #[], .pointer (some ⟨Bs, 0, none⟩)] W fun e W' => (∃ v, e = .returned v) ∧
      ((∃ ys, ys = stAts ps ∧ J ys W') ∨ (∃ pre, pre <+: stAts ps ∧ Jx pre W')) := by
  obtain ⟨A, c, rfl⟩ := H.pgs.row.val
  have c2 := (H.blk.below hW (by rw [hn₀]; exact H.blk.lt)).cellv 2 rfl
  refine callsIn_of_wp Try.func102 rfl trivial ?_ rfl
  simp only [Try.ntmps102, List.size_toArray, List.length_cons, List.length_nil, Nat.reduceAdd, Nat.reduceSub, Array.replicate_succ, Array.replicate_zero, List.push_toArray, List.append_toArray, List.nil_append, List.cons_append]
  have HY := Lib.hid hY
  have HJA := Lib.hid hJa
  have HJD := Lib.hid hJd
  clear hY hJa hJd
  refine (wpIn_wide (n := n)).2 (wp_scope_straight ((wpIn_wide (n := n)).1 ?_))
  refine wpIn_seq_k fun K hK => ?_
  apply wpIn_label
  refine hK _ _ ?_
  clear hK K
  gi_wp2
  gi_loopw [12] (fun i wr => ∃ j : Nat, j ≤ ps.length ∧ i = .int .i64 j ∧ J (stAts (ps.take j)) wr ∧ Below n₀ W wr) (fun i _ => ps.length - (intOf i).toNat)
  case atStart => exact ⟨0, Nat.zero_le _, rfl, h0, Below.refl _ _⟩
  case round =>
    obtain ⟨j, hj, rfl, hJs, hnx⟩ := hrel
    by_cases hlt : j < ps.length
    · obtain ⟨p, hp?⟩ : ∃ p, ps[j]? = some p := ⟨ps[j]'hlt, by simp [hlt]⟩
      have hp : Hid (p = ps[j]'hlt) := Lib.hid (by have := (List.getElem?_eq_some_iff.1 hp?).2; exact this.symm)
      obtain ⟨b, hb⟩ : ∃ b, bs[j]? = some b := ⟨bs[j]'(by rw [H.pgs.len]; exact hlt), by simp [H.pgs.len, hlt]⟩
      obtain ⟨_, hblk, h8⟩ := H.pgs.pg j b p hb hp?
      obtain ⟨g, off, rfl, hcell, hg⟩ := H.pgs.row.rd.at_ (j := j) (u := .pointer (some ⟨b, 0, none⟩)) (by simp [hb])
      have hnw := hW.trans hnx
      have hcell' := (hnw.cell (p := ⟨g, off + j, none⟩) (by show g < n₀; omega)).trans hcell
      have hltb := hblk.lt
      have hblk' := hblk.below (hnw.mono (by omega)) hltb
      clear hp? hb hcell
      have hl40 : (p.slots.flatMap Slot.cs).length = 40 := by
        have := page_cs p h8; simp [Page.cs] at this ⊢; omega
      have hrg : wr.rangeAt b 4 (p.slots.flatMap Slot.cs) := by
        intro i u hu
        refine hblk'.cellv (4 + i) ?_
        rw [show 4 + i = i + 1 + 1 + 1 + 1 by omega]
        simpa [Page.cs] using hu
      gi_wp2_with (refine wpListIn_load_mid rfl 101 _ rfl b 4 rfl _ _ hrg Try.underlying101 rfl (by rw [hl40]; kernel_rfl) ?_)
      gi_loopw [20] (fun i wi => ∃ m : Nat, m ≤ 8 ∧ i = .int .i64 m ∧ J (stAts (ps.take j) ++ pgAts p m) wi ∧ Below n₀ W wi) (fun i _ => 8 - (intOf i).toNat)
      case atStart => exact ⟨0, Nat.zero_le _, rfl, by simpa [pgAts] using hJs, hnx⟩
      case round =>
        obtain ⟨m, hm, rfl, hJm, hnm⟩ := hrel
        by_cases hm8 : m < 8
        · obtain ⟨x, hx⟩ : ∃ x, p.slots[m]? = some x := ⟨p.slots[m]'(by omega), by simp [h8, hm8]⟩
          have hxd : p.slots.getD m Slot.empty = x := by simp [List.getD, hx]
          have hex : (p.slots.flatMap Slot.cs).toArray.extract (m * 5) (m * 5 + 5) = x.cs.toArray := by
            apply Array.toList_inj.1
            rw [Array.toList_extract]
            apply List.ext_getElem?
            intro k
            simp only [List.extract_eq_take_drop]
            by_cases hk : k < 5
            · rw [List.getElem?_take_of_lt (by omega), List.getElem?_drop]
              exact slots_cell hx k hk
            · rw [List.getElem?_eq_none (by simp; omega), List.getElem?_eq_none (by simp [Slot.cs]; omega)]
          have hlen : (stAts (ps.take j) ++ pgAts p m).length < 8 * ps.length := by
            rw [List.length_append, stAts_len, List.length_take]; simp [pgAts]; omega
          obtain ⟨xk, xt, ⟨xw, xu, xx⟩⟩ := x
          simp only [Slot.cs] at hex
          have hJ2 := HJA.out _ _ (.cells #[.int .i64 xk, .int .i64 xt, .bool xw, .bool xu, .bool xx] 62) hJm
          have hnmw := hW.trans hnm
          have hltw : b < wr.heap.size := (hblk.below (hnmw.mono (by omega)) hltb).lt
          have q0 : wr.cell? ⟨b, 0, none⟩ = some (.int .i64 p.f) := (hblk.below (hnmw.mono (by omega)) hltb).cellv 0 rfl
          gi_wp2_with (refine wpListIn_index rfl 101 _ _ rfl _ m rfl rfl 8 62 Try.underlying101 hm8 5 _ Try.underlying62 rfl (by kernel_rfl) _ hex ?_)
          obtain ⟨fn, tmps, assign, body, hy, hR⟩ := HY.out _ (⟨p.f, m⟩, ⟨xk, xt, ⟨xw, xu, xx⟩⟩) _ (HJD.out _ _ hJ2) hlen
          simp only [encAt, At.cs, Slot.cs] at hy
          have hR' := hR.mono (R' := fun e W' => ∃ t : Bool, e = .returned (.bool t) ∧ Hid ((t = true ∧ J (stAts (ps.take j) ++ pgAts p m ++ [(⟨p.f, m⟩, ⟨xk, xt, ⟨xw, xu, xx⟩⟩)]) W' ∧ Below n₀ (wr.alloc (.cells #[.int .i64 xk, .int .i64 xt, .bool xw, .bool xu, .bool xx] 62)).drew W') ∨ (t = false ∧ Jx (stAts (ps.take j) ++ pgAts p m ++ [(⟨p.f, m⟩, ⟨xk, xt, ⟨xw, xu, xx⟩⟩)]) W'))) (by
            rintro e W' (⟨rfl, h1, h2⟩ | ⟨rfl, h1⟩)
            · exact ⟨true, rfl, Lib.hid (.inl ⟨rfl, h1, h2⟩)⟩
            · exact ⟨false, rfl, Lib.hid (.inr ⟨rfl, h1⟩)⟩)
          clear hR
          gi_region_with (refine hR'.mono ?_; rintro e W3 ⟨t, rfl, ht⟩)
          all_goals
            rcases ht.out with ⟨rfl, hJ3, hB3⟩ | ⟨rfl, hJx3⟩
            · have hn0 : n₀ ≤ wr.heap.size := by have := hnmw.size; omega
              have hB4 := (((Below.refl n₀ wr).alloc hn0 (.cells #[.int .i64 xk, .int .i64 xt, .bool xw, .bool xu, .bool xx] 62)).drew).trans hB3
              gi_wp2
              go_roundw
              case rel => exact ⟨m + 1, by omega, by simp, by rw [pgAts_succ, hxd, ← List.append_assoc]; exact hJ3, hnm.trans hB4⟩
              case measure => simp [intOf]; omega
            · gi_wp2
              refine bodyPost_end (results_none rfl _ _ _) rfl ?_
              refine ⟨⟨_, rfl⟩, .inr ⟨_, ?_, hJx3⟩⟩
              obtain ⟨r, hr⟩ := pgAts_pre p (i := m + 1) (by omega)
              refine ⟨r ++ stAts (ps.drop (j + 1)), ?_⟩
              have e1 : stAts ps = stAts (ps.take (j + 1)) ++ stAts (ps.drop (j + 1)) := by unfold stAts; rw [← List.flatMap_append, List.take_append_drop]
              rw [e1, stAts_take hlt, ← hp.out, hr, pgAts_succ, hxd]
              simp [List.append_assoc]
        · obtain rfl : m = 8 := by omega
          gi_wp2
          go_roundw
          case rel => exact ⟨j + 1, by omega, by simp, by rw [stAts_take hlt, ← hp.out]; exact hJm, hnm⟩
          case measure => simp [intOf]; omega
    · obtain rfl : j = ps.length := by omega
      gi_wp2
      rw [List.take_length] at hJs
      rw [Exit.noGoto_normal]
      refine bodyPost_end (results_none rfl _ _ _) rfl ?_
      exact ⟨⟨_, rfl⟩, .inl ⟨_, rfl, hJs⟩⟩

theorem store_all_it (a : Nat) (w : World) :
    Calls Try.prog 100 #[.pointer (some ⟨a, 0, none⟩)] w fun e w' => e = .returned (.func (.func 102) #[] #[.pointer (some ⟨w.heap.size, 0, none⟩)]) ∧ w' = w.alloc (.cells #[.pointer (some ⟨a, 0, none⟩)] 30) := by
  go_enter Try.func100, Try.ntmps100
  go_wp2_with fail
  go_ret
  exact ⟨rfl, rfl⟩

theorem abides_alloc {β : Type} {J : β → World → Prop} {B : Nat} (h : AbidesFrom B J) : ∀ pre W o, J pre W → J pre (W.alloc o) := fun pre W o hJ => h pre W _ none hJ (World.grownBy_alloc W o none) (fun r e => by cases e)
theorem abides_drew {β : Type} {J : β → World → Prop} {B : Nat} (h : AbidesFrom B J) : ∀ pre (W : World), J pre W → J pre W.drew := fun pre W hJ => h pre W _ none hJ ⟨rfl, rfl, rfl, Nat.le_refl _, fun _ _ _ => rfl⟩ (fun r e => by cases e)

theorem all_stops (n Bs a bF bL : Nat) (hn1 : 1 ≤ n) (tag : Nat → Nat) (v : Value) (ps : List Page) (bs : List Nat) (w0 w : World) (H : StoreX 6 tag w0 a bF bL v ps bs) (hb : Below w0.heap.size w0 w) (hn : ps.length ≤ 1000000)
    (hBs : w.cell? ⟨Bs, 0, none⟩ = some (.pointer (some ⟨a, 0, none⟩))) (hlt : Bs < w.heap.size) :
    SeqStopsK Fence.wide n Try.prog 102 #[.pointer (some ⟨Bs, 0, none⟩)] encAt (Below w0.heap.size) (fun ys => ys = stAts ps) (fun pre => pre <+: stAts ps) (8 * ps.length) w := fun l J Jx W hW hJ _ hY h0 =>
  all1_in n l Bs w0.heap.size a bF bL hn1 tag v ps bs J Jx w0 W H hn rfl (hb.trans (hW.mono hb.size)) ((hW.cell (p := ⟨Bs, 0, none⟩) hlt).trans hBs) hY h0 (abides_alloc hJ) (abides_drew hJ)
end Go.Proofs.Ytbmbgicdnegkfaa

/- The walks of store.told, Parents, Leaves. -/
namespace Go.Proofs.Ytbmbgicdnegkfaa
open Go Go.RowKit Go.Shelf Sil
attribute [local go_sem] Oper.semAt_some

theorem info_at : (Try.prog.info? 111).map (fun i => (i.zero, i.size, i.bytes)) = some (some (.agg #[.int .i64 0, .int .i64 0]), 2, 16) := by kernel_rfl

theorem blk_own {β : Type} (B : Nat) (t : TypeId) (f : β → Array Value) : Own (fun s W => Blk W B t (f s)) := fun s X Y row hs hg hrow =>
  (hg.block B hs.lt (fun e' => by obtain ⟨o, ho, hc⟩ := hrow B e'.symm; rw [show X.heap[B]? = _ from hs] at ho; cases ho; cases hc)).trans hs

def toldOf (kind to : Int) (l : List (At × Slot)) : List At := (l.filter (fun x => x.2.kind == kind && x.2.to == to)).map (·.1)
theorem toldOf_len (kind to : Int) (l : List (At × Slot)) : (toldOf kind to l).length ≤ l.length := by unfold toldOf; rw [List.length_map]; exact List.length_filter_le _ _
theorem toldOf_snoc (kind to : Int) (l : List (At × Slot)) (x : At × Slot) : toldOf kind to (l ++ [x]) = toldOf kind to l ++ (if x.2.kind == kind && x.2.to == to then [x.1] else []) := by
  unfold toldOf; rw [List.filter_append, List.map_append]
  cases h : (x.2.kind == kind && x.2.to == to) <;> simp [h]

set_option maxRecDepth 100000 in
set_option maxHeartbeats 2000000 in
theorem told_in (n a bF bL : Nat) (hn3 : 3 ≤ n) (tag : Nat → Nat) (v : Value) (ps : List Page) (bs : List Nat) (kind to : Int) (w : World) (H : StoreX 6 tag w a bF bL v ps bs) (hn : ps.length ≤ 100000) :
    CallsIn Fence.wide n Try.prog 86 #[.pointer (some ⟨a, 0, none⟩), .int .i64 kind, .int .i64 to] w fun e w' =>
      ∃ v', e = .returned v' ∧ w'.ownsRow w.heap.size 111 2 v' (sTold ps kind to).length ((sTold ps kind to).flatMap At.cs) ∧ Below w.heap.size w w' := by
  have h1 : 1 ≤ n := by omega
  obtain ⟨i0, hi, hz0, hz1, hz2⟩ := info_parts info_at
  refine callsIn_of_wp_marks Try.func86 rfl trivial ?_ rfl
  simp only [Try.ntmps86, List.size_toArray, List.length_cons, List.length_nil, Nat.reduceAdd, Nat.reduceSub, Array.replicate_succ, Array.replicate_zero, List.push_toArray, List.append_toArray, List.nil_append, List.cons_append]
  gi_wp2_with (refine ⟨trivial, ?_⟩; gi_at_call 100; refine (callsIn_wide.2 (store_all_it a _)).mono ?_; rintro e w' ⟨rfl, rfl⟩)
  have bK := (((Boxed.new w 3 (.int .i64 kind)).alloc (.cells #[.int .i64 to] 3)).alloc (.cells #[.slice none 0 0] 108)).alloc (.cells #[.pointer (some ⟨a, 0, none⟩)] 30)
  have bT := ((Boxed.new (w.alloc (.cells #[.int .i64 kind] 3)) 3 (.int .i64 to)).alloc (.cells #[.slice none 0 0] 108)).alloc (.cells #[.pointer (some ⟨a, 0, none⟩)] 30)
  have bO := (Boxed.new ((w.alloc (.cells #[.int .i64 kind] 3)).alloc (.cells #[.int .i64 to] 3)) 108 (.slice none 0 0)).alloc (.cells #[.pointer (some ⟨a, 0, none⟩)] 30)
  have bS := Boxed.new (((w.alloc (.cells #[.int .i64 kind] 3)).alloc (.cells #[.int .i64 to] 3)).alloc (.cells #[.slice none 0 0] 108)) 30 (.pointer (some ⟨a, 0, none⟩))
  simp only [World.size_alloc] at bT bO bS
  have hB0 : Below w.heap.size w ((((w.alloc (.cells #[.int .i64 kind] 3)).alloc (.cells #[.int .i64 to] 3)).alloc (.cells #[.slice none 0 0] 108)).alloc (.cells #[.pointer (some ⟨a, 0, none⟩)] 30)) := ((((Below.refl _ w).alloc (Nat.le_refl _) _).alloc (by simp) _).alloc (by simp; omega) _).alloc (by simp; omega) _
  have hsz : ((((w.alloc (.cells #[.int .i64 kind] 3)).alloc (.cells #[.int .i64 to] 3)).alloc (.cells #[.slice none 0 0] 108)).alloc (.cells #[.pointer (some ⟨a, 0, none⟩)] 30)).heap.size = w.heap.size + 4 := by simp
  obtain ⟨W0, hW0⟩ : ∃ W0, (((w.alloc (.cells #[.int .i64 kind] 3)).alloc (.cells #[.int .i64 to] 3)).alloc (.cells #[.slice none 0 0] 108)).alloc (.cells #[.pointer (some ⟨a, 0, none⟩)] 30) = W0 := ⟨_, rfl⟩
  rw [hW0] at bK bT bO bS hB0 hsz ⊢
  clear hW0
  refine wpIn_rangeFunc_ownH rfl h1 (gf := 102) (lb := #[.pointer (some ⟨w.heap.size + 1 + 1 + 1, 0, none⟩)]) rfl trivial (enters_of Try.func102 (by kernel_rfl) rfl)
    (all_stops (n - 1) (w.heap.size + 1 + 1 + 1) a bF bL (by omega) tag v ps bs w W0 H hB0 (by omega) bS.cell bS.lt) belowK_t (belowK_b (by omega)) (Below.refl _ _) (fun _ => rfl)
    (fun pre W => ((∃ v, Boxed W (w.heap.size + 1 + 1) 108 v ∧ W.ownsRow w.heap.size 111 2 v (toldOf kind to pre).length ((toldOf kind to pre).flatMap At.cs) ∧ True) ∧ (Boxed W w.heap.size 3 (.int .i64 kind) ∧ (Boxed W (w.heap.size + 1) 3 (.int .i64 to) ∧ w.heap.size + 3 < W.heap.size))) ∧ Below w.heap.size w W)
    (fun _ _ _ => False)
    (OwnFrom.and (OwnFrom.and (Own.from (holdsRow_own w.heap.size (w.heap.size + 1 + 1) 108 111 2 (fun pre => (toldOf kind to pre).length) (fun pre => (toldOf kind to pre).flatMap At.cs) (fun _ _ => True)) _) (OwnFrom.and (Own.from (boxed_own _ _ _) _) (OwnFrom.and (Own.from (boxed_own _ _ _) _) (fun _ _ _ _ hs hg _ => Nat.lt_of_lt_of_le hs hg.size)))) (ownFrom_below (Nat.le_refl _) (by omega)))
    (fun _ _ _ _ _ hs _ _ => hs)
    ⟨⟨⟨_, bO, by simpa [toldOf] using World.ownsRow_nil _ _ _ _, trivial⟩, bK, bT, by omega⟩, hB0⟩
    (fun x a' W => ∃ B1 B2, w.heap.size + 3 < B1 ∧ w.heap.size + 3 < B2 ∧ B1 < W.heap.size ∧ B2 < W.heap.size ∧ Blk W B1 111 x.1.cs.toArray ∧ Blk W B2 62 x.2.cs.toArray ∧ a' = { tmps := #[.pointer (some ⟨a, 0, none⟩), .int .i64 kind, .int .i64 to, undef, .pointer (some ⟨w.heap.size, 0, none⟩), .pointer (some ⟨w.heap.size + 1, 0, none⟩), .slice none 0 0, .pointer (some ⟨w.heap.size + 1 + 1, 0, none⟩), .pointer (some ⟨B1, 0, none⟩), .pointer (some ⟨B2, 0, none⟩), .pointer (some ⟨a, 0, none⟩), .func (.func 102) #[] #[.pointer (some ⟨w.heap.size + 1 + 1 + 1, 0, none⟩)], .agg x.1.cs.toArray, .agg x.2.cs.toArray, undef, undef, undef, undef, undef, undef, undef, undef, undef, undef, undef, undef, undef, undef, undef], defers := [] })
    (fun x a' _ X Y row hs hg hr => by
      obtain ⟨B1, B2, h1, h2, h3, h4, h5, h6, h7⟩ := hs
      exact ⟨B1, B2, h1, h2, Nat.lt_of_lt_of_le h3 hg.size, Nat.lt_of_lt_of_le h4 hg.size, blk_own B1 _ (fun (_ : Unit) => x.1.cs.toArray) () X Y row h5 hg (fun r e => (hr r e).2), blk_own B2 _ (fun (_ : Unit) => x.2.cs.toArray) () X Y row h6 hg (fun r e => (hr r e).2), h7⟩)
    ?assign ?body ?done ?stop
  case assign =>
    rintro l pre ⟨⟨ag, ai⟩, ⟨xk, xt, ⟨xw, xu, xx⟩⟩⟩ W K ⟨⟨⟨v1, bO1, hr1, _⟩, bK1, bT1, hs1⟩, hB1⟩ hK
    simp only [encAt, At.cs, Slot.cs]
    have hltO := bO1.lt
    gi_wp2
    have hal1 : ∀ o : Obj, (W.alloc o).ownsRow w.heap.size 111 2 v1 (toldOf kind to pre).length ((toldOf kind to pre).flatMap At.cs) := fun o => hr1.alloc o
    refine hK _ _ (((KeepsOthers.alloc _ _).trans (KeepsOthers.alloc _ _)).from _) (((Below.refl _ W).alloc hB1.size _).alloc (by have := hB1.size; simp; omega) _) ⟨⟨⟨v1, (bO1.alloc _).alloc _, (hal1 _).alloc _, trivial⟩, (bK1.alloc _).alloc _, (bT1.alloc _).alloc _, by simp; omega⟩, (hB1.alloc hB1.size _).alloc (by have := hB1.size; simp; omega) _⟩ ⟨W.heap.size, W.heap.size + 1, by omega, by omega, by simp; omega, by simp, (Blk.new W 111 #[.int .i64 ag, .int .i64 ai]).alloc _, Blk.new2 W _ 62 #[.int .i64 xk, .int .i64 xt, .bool xw, .bool xu, .bool xx], rfl⟩
  case body =>
    rintro l pre ⟨⟨ag, ai⟩, ⟨xk, xt, ⟨xw, xu, xx⟩⟩⟩ a' W hl ⟨r, hr⟩ ⟨⟨⟨v1, bO1, hr1, _⟩, bK1, bT1, hs1⟩, hB1⟩ ⟨B1, B2, h1, h2, h3, h4, h5, h6, rfl⟩ hlt
    have hpl := toldOf_len kind to pre
    have cO := bO1.cell
    have cK := bK1.cell
    have cT := bT1.cell
    have p0 : W.cell? ⟨B1, 0, none⟩ = some (.int .i64 ag) := h5.cellv 0 rfl
    have p1 : W.cell? ⟨B1, 1, none⟩ = some (.int .i64 ai) := h5.cellv 1 rfl
    have q0 : W.cell? ⟨B2, 0, none⟩ = some (.int .i64 xk) := h6.cellv 0 rfl
    have q1 : W.cell? ⟨B2, 1, none⟩ = some (.int .i64 xt) := h6.cellv 1 rfl
    have hst := Lib.hid (toldOf_snoc kind to pre (⟨ag, ai⟩, ⟨xk, xt, ⟨xw, xu, xx⟩⟩))
    simp only [At.cs, Slot.cs]
    by_cases e1 : xk = kind
    · by_cases e2 : xt = to
      · subst e1 e2
        gi_wp2_with (gi_at_builtin; refine wpListIn_append_own _ rfl _ _ 108 rfl w.heap.size 111 i0 _ 2 16 Try.underlying108 hi hz0 hz1 hz2 rfl (by decide) _ _ _ rfl (hr1.alloc _) ⟨W.heap.size, 0, none⟩ 1 1 [.int .i64 ag, .int .i64 ai] rfl rfl (World.news_of_block (cs := #[.int .i64 ag, .int .i64 ai]) (t := 111) (fr := (0, 0)) (heap_alloc_new W _)) (by simp [Value.oneCell']) (by unfold maxLen; omega) (by omega) (by have := hB1.size; simp; omega) ?_; intro v' w1 hown' hgrow _; obtain ⟨g', cap', rfl⟩ := ownsRow_succ hown'; obtain ⟨hv1, hv2, hr2, hk2, hb2⟩ := bO1.appended (by decide) hr1 hB1.size (by omega) hown' hgrow; have hc1 := hv1.cell; have hf1 := hv1.frozen)
        refine ⟨hk2.from _, hb2, ⟨⟨_, hv2, ?_⟩, ((bK1.alloc _).kept hgrow (bK1.not_row (by decide) hr1)).other (by omega) _, ((bT1.alloc _).kept hgrow (bT1.not_row (by decide) hr1)).other (by omega) _, Nat.lt_of_lt_of_le hs1 hk2.size⟩, hB1.trans hb2⟩
        have h := hst.out
        simp only [beq_self_eq_true, Bool.and_self, if_true] at h
        rw [h, List.length_append, List.flatMap_append]
        exact hr2
      · subst e1
        have hst' : toldOf xk to (pre ++ [(⟨ag, ai⟩, ⟨xk, xt, ⟨xw, xu, xx⟩⟩)]) = toldOf xk to pre := by rw [hst.out]; simp [e2]
        gi_wp2
        exact ⟨KeepsFrom.refl _ _, Below.refl _ _, ⟨⟨v1, bO1, by rw [hst']; exact hr1⟩, bK1, bT1, hs1⟩, hB1⟩
    · have hst' : toldOf kind to (pre ++ [(⟨ag, ai⟩, ⟨xk, xt, ⟨xw, xu, xx⟩⟩)]) = toldOf kind to pre := by rw [hst.out]; simp [e1]
      gi_wp2
      exact ⟨KeepsFrom.refl _ _, Below.refl _ _, ⟨⟨v1, bO1, by rw [hst']; exact hr1⟩, bK1, bT1, hs1⟩, hB1⟩
  case done =>
    rintro D ys W hD rfl ⟨⟨⟨v1, bO1, hr1, _⟩, bK1, bT1, hs1⟩, hB1⟩ hK
    have hc := bO1.cell
    gi_wp2
    refine ⟨by simp, .inl ⟨_, _, rfl, run_takeDeferred hK, ?_⟩⟩
    exact ⟨_, results_tmp rfl _ _ _, v1, rfl, ownsRow_putObj hr1 _ hK rfl, hB1.trans (belowK_b (w := w) (Nat.le_refl _) W D _ _ (by omega) hK rfl rfl)⟩
  case stop =>
    rintro D c pre W _ _ h _
    exact h.elim

theorem store_told (a bF bL : Nat) (tag : Nat → Nat) (v : Value) (ps : List Page) (bs : List Nat) (kind to : Int) (w : World) (H : StoreX 6 tag w a bF bL v ps bs) (hn : ps.length ≤ 100000) :
    Calls Try.prog 86 #[.pointer (some ⟨a, 0, none⟩), .int .i64 kind, .int .i64 to] w fun e w' =>
      ∃ v', e = .returned v' ∧ w'.ownsRow w.heap.size 111 2 v' (sTold ps kind to).length ((sTold ps kind to).flatMap At.cs) ∧ Below w.heap.size w w' :=
  callsIn_wide.1 (told_in 3 a bF bL (by omega) tag v ps bs kind to w H hn)

theorem store_parents (a bF bL : Nat) (tag : Nat → Nat) (v : Value) (ps : List Page) (bs : List Nat) (f : Int) (w : World) (H : StoreX 6 tag w a bF bL v ps bs) (hn : ps.length ≤ 100000) :
    Calls Try.prog 80 #[.pointer (some ⟨a, 0, none⟩), .int .i64 f] w fun e w' =>
      ∃ v', e = .returned v' ∧ w'.ownsRow w.heap.size 111 2 v' (sTold ps 1 f).length ((sTold ps 1 f).flatMap At.cs) ∧ Below w.heap.size w w' := by
  go_enter Try.func80, Try.ntmps80
  go_wp2_with fail
  refine (store_told a bF bL tag v ps bs 1 f _ H hn).mono ?_
  rintro e W ⟨v', rfl, hown, hB⟩
  go_wp2_with fail
  go_ret
  exact ⟨_, rfl, hown, hB⟩
theorem store_leaves (a bF bL : Nat) (tag : Nat → Nat) (v : Value) (ps : List Page) (bs : List Nat) (f : Int) (w : World) (H : StoreX 6 tag w a bF bL v ps bs) (hn : ps.length ≤ 100000) :
    Calls Try.prog 56 #[.pointer (some ⟨a, 0, none⟩), .int .i64 f] w fun e w' =>
      ∃ v', e = .returned v' ∧ w'.ownsRow w.heap.size 111 2 v' (sTold ps 2 f).length ((sTold ps 2 f).flatMap At.cs) ∧ Below w.heap.size w w' := by
  go_enter Try.func56, Try.ntmps56
  go_wp2_with fail
  refine (store_told a bF bL tag v ps bs 2 f _ H hn).mono ?_
  rintro e W ⟨v', rfl, hown, hB⟩
  go_wp2_with fail
  go_ret
  exact ⟨_, rfl, hown, hB⟩
end Go.Proofs.Ytbmbgicdnegkfaa

/- The walk of frame.Fill. -/
namespace Go.Proofs.Ytbmbgicdnegkfaa
open Go Go.RowKit Sil


def setRun (l : List Int) (o : Nat) : List Int → List Int
  | [] => l
  | x :: xs => setRun (l.set o x) (o + 1) xs
theorem setRun_eq (xs : List Int) : ∀ (l : List Int) (o : Nat), o + xs.length ≤ l.length → setRun l o xs = l.take o ++ xs ++ l.drop (o + xs.length) := by
  induction xs with
  | nil => intro l o _; simp [setRun]
  | cons x xs ih =>
    intro l o h
    simp only [List.length_cons] at h
    have h1 : (l.set o x).take (o + 1) = l.take o ++ [x] := by
      rw [List.take_add_one, List.take_set_of_le (Nat.le_refl _)]
      simp [show o < l.length by omega]
    have h2 : (l.set o x).drop (o + 1 + xs.length) = l.drop (o + (xs.length + 1)) := by
      rw [List.drop_set_of_lt (by omega)]; congr 1; omega
    rw [setRun, ih _ _ (by simp; omega), h1, h2]
    simp

/-- eight cells of one block are laid anew -/
theorem set8 {w : World} {b o : Nat} {t : TypeId} {cs : Array Value} (h : Blk w b t cs) (u0 u1 u2 u3 u4 u5 u6 u7 : Value) :
    ∃ w2, (((((((w.setCell ⟨b, o, none⟩ u0).setCell ⟨b, o + 1, none⟩ u1).setCell ⟨b, o + 2, none⟩ u2).setCell ⟨b, o + 3, none⟩ u3).setCell ⟨b, o + 4, none⟩ u4).setCell ⟨b, o + 5, none⟩ u5).setCell ⟨b, o + 6, none⟩ u6).setCell ⟨b, o + 7, none⟩ u7 = w2 ∧
    Only b w w2 ∧ Blk w2 b t ((((((((cs.setIfInBounds o u0).setIfInBounds (o + 1) u1).setIfInBounds (o + 2) u2).setIfInBounds (o + 3) u3).setIfInBounds (o + 4) u4).setIfInBounds (o + 5) u5).setIfInBounds (o + 6) u6).setIfInBounds (o + 7) u7) := by
  generalize h1 : w.setCell ⟨b, o, none⟩ u0 = w1
  generalize h2 : w1.setCell ⟨b, o + 1, none⟩ u1 = w2
  generalize h3 : w2.setCell ⟨b, o + 2, none⟩ u2 = w3
  generalize h4 : w3.setCell ⟨b, o + 3, none⟩ u3 = w4
  generalize h5 : w4.setCell ⟨b, o + 4, none⟩ u4 = w5
  generalize h6 : w5.setCell ⟨b, o + 5, none⟩ u5 = w6
  generalize h7 : w6.setCell ⟨b, o + 6, none⟩ u6 = w7
  generalize h8 : w7.setCell ⟨b, o + 7, none⟩ u7 = w8
  have b1 := h.set_ o u0
  rw [h1] at b1
  have b2 := b1.set_ (o + 1) u1
  rw [h2] at b2
  have b3 := b2.set_ (o + 2) u2
  rw [h3] at b3
  have b4 := b3.set_ (o + 3) u3
  rw [h4] at b4
  have b5 := b4.set_ (o + 4) u4
  rw [h5] at b5
  have b6 := b5.set_ (o + 5) u5
  rw [h6] at b6
  have b7 := b6.set_ (o + 6) u6
  rw [h7] at b7
  have b8 := b7.set_ (o + 7) u7
  rw [h8] at b8
  have o1 : Only b w w1 := by rw [← h1]; exact (Only.refl b w).set_ o u0
  have o2 : Only b w w2 := by rw [← h2]; exact o1.set_ (o + 1) u1
  have o3 : Only b w w3 := by rw [← h3]; exact o2.set_ (o + 2) u2
  have o4 : Only b w w4 := by rw [← h4]; exact o3.set_ (o + 3) u3
  have o5 : Only b w w5 := by rw [← h5]; exact o4.set_ (o + 4) u4
  have o6 : Only b w w6 := by rw [← h6]; exact o5.set_ (o + 5) u5
  have o7 : Only b w w7 := by rw [← h7]; exact o6.set_ (o + 6) u6
  have o8 : Only b w w8 := by rw [← h8]; exact o7.set_ (o + 7) u7
  exact ⟨w8, rfl, o8, b8⟩

set_option maxRecDepth 100000 in
set_option maxHeartbeats 1000000 in
theorem frame_fill_zero (k a n : Nat) (tag : Nat → Nat) (ws : List Int) (f : Int) (g c : Nat) (w : World) (H : HostR k tag w a n ws) (hok : hok n f 0 = true)
    (hG : Blk w g 40 #[.int .u64 0, .int .u64 0, .int .u64 0, .int .u64 0, .int .u64 0, .int .u64 0, .int .u64 0, .int .u64 0]) (hg : tag g ≠ k ∧ tag g ≠ k + 1) :
    Calls Try.prog 89 #[.pointer (some ⟨a, 0, none⟩), .int .i64 f, .slice (some ⟨g, 0, none⟩) 8 8] w fun e w' =>
      e = .returned (.bool true) ∧ HostR k tag w' a n (hfill n ws f zero8) ∧ Mod [k + 1] tag tag w w' := by
  obtain ⟨d, ha, hA, hd, hD, hl, hn⟩ := H
  have c0 := hA.cellv 0 rfl
  have hda : d ≠ a := by rintro rfl; omega
  have hf : 0 ≤ f ∧ f < n := by simp only [Sil.hok, Bool.and_eq_true, decide_eq_true_eq] at hok; omega
  obtain ⟨F, rfl⟩ := Int.eq_ofNat_of_zero_le hf.1
  have hF : F < n := by omega
  obtain ⟨p0, p1, p2, p3, p4, p5, p6, p7⟩ : _ ∧ _ ∧ _ ∧ _ ∧ _ ∧ _ ∧ _ ∧ _ := ⟨hG.cellv 0 rfl, hG.cellv 1 rfl, hG.cellv 2 rfl, hG.cellv 3 rfl, hG.cellv 4 rfl, hG.cellv 5 rfl, hG.cellv 6 rfl, hG.cellv 7 rfl⟩
  have hE : ∀ j, j < 8 → ∃ u, w.cell? ⟨d, F * 8 + j, none⟩ = some (.int .u64 u) := by
    intro j hj
    refine ⟨ws[F * 8 + j]'(by omega), hD.cellv _ ?_⟩
    simp [show F * 8 + j < ws.length by omega]
  obtain ⟨u0, e0⟩ := hE 0 (by omega)
  obtain ⟨u1, e1⟩ := hE 1 (by omega)
  obtain ⟨u2, e2⟩ := hE 2 (by omega)
  obtain ⟨u3, e3⟩ := hE 3 (by omega)
  obtain ⟨u4, e4⟩ := hE 4 (by omega)
  obtain ⟨u5, e5⟩ := hE 5 (by omega)
  obtain ⟨u6, e6⟩ := hE 6 (by omega)
  obtain ⟨u7, e7⟩ := hE 7 (by omega)
  clear hE
  rw [Nat.add_zero] at e0
  have f0 := hD.frozen (F * 8)
  have f1 := hD.frozen (F * 8 + 1)
  have f2 := hD.frozen (F * 8 + 2)
  have f3 := hD.frozen (F * 8 + 3)
  have f4 := hD.frozen (F * 8 + 4)
  have f5 := hD.frozen (F * 8 + 5)
  have f6 := hD.frozen (F * 8 + 6)
  have f7 := hD.frozen (F * 8 + 7)
  have hAA : ∀ W : World, (Instr.arrayAt 154 (.slice (some ⟨g, 0, none⟩) 8 8)).run Try.prog W = .ok (.pointer (some ⟨g, 0, none⟩)) W := by
    intro W
    simp [Instr.arrayAt, run_underlying Try.underlying154]
  go_enter Try.func89, Try.ntmps89
  go_wp2_with fail
  refine (word_ok a d n F 0 w c0 hn hok).mono ?_
  rintro e w1 ⟨rfl, rfl⟩
  go_wp2_with fail
  go_region
  clear c0 p0 p1 p2 p3 p4 p5 p6 p7 e0 e1 e2 e3 e4 e5 e6 e7 f0 f1 f2 f3 f4 f5 f6 f7 hAA
  obtain ⟨w2, hw2, hO, hD2⟩ := set8 (o := F * 8) hD (.int .u64 0) (.int .u64 0) (.int .u64 0) (.int .u64 0) (.int .u64 0) (.int .u64 0) (.int .u64 0) (.int .u64 0)
  rw [hw2]
  clear hw2
  have hM : Mod [k + 1] tag tag w w2 := hO.mod (Below.refl _ _) (by simp [hd])
  have hA2 := hO.far hA (Ne.symm hda)
  have hws : hfill n ws F zero8 = setRun ws (F * 8) zero8 := by
    unfold hfill; rw [hok, setRun_eq _ _ _ (by simp [zero8]; omega)]; rfl
  have hD3 : Blk w2 d 154 ((hfill n ws F zero8).map (Value.int .u64)).toArray := by
    rw [hws]
    simpa [setRun, zero8] using hD2
  have hlen : (hfill n ws F zero8).length = 8 * n := by rw [hws]; simp [setRun, zero8, hl]
  go_wp2_with fail
  go_ret
  exact ⟨rfl, ⟨d, ha, hA2, hd, hD3, hlen, hn⟩, hM.drew⟩
end Go.Proofs.Ytbmbgicdnegkfaa

/- The walk of store.Make. -/
namespace Go.Proofs.Ytbmbgicdnegkfaa
open Go Go.RowKit Sil

theorem info_ppage : (Try.prog.info? 99).map (fun i => (i.zero, i.size, i.bytes)) = some (some (.pointer none), 1, 8) := by kernel_rfl

/-- a store, its host's memory and its free frames -/
structure SF (tag : Nat → Nat) (w : World) (a bF bL : Nat) (v : Value) (ps : List Page) (bs : List Nat) (n : Nat) (ws : List Int) (fr : Free) : Prop where
  sh : SH tag w a bF bL v ps bs n ws
  frr : FreeR 9 tag w bL fr
  ok : FreeOk fr
theorem SF.mod {tag tag' : Nat → Nat} {w w' : World} {a bF bL n : Nat} {v : Value} {ps : List Page} {bs : List Nat} {ws : List Int} {fr : Free} {T : List Nat} (h : SF tag w a bF bL v ps bs n ws fr) (hm : Mod T tag tag' w w')
    (hT : ∀ x ∈ T, x ≠ 1 ∧ x ≠ 2 ∧ x ≠ 6 ∧ x ≠ 7 ∧ x ≠ 8 ∧ x ≠ 9 ∧ x ≠ 10 ∧ x ≠ 11) : SF tag' w' a bF bL v ps bs n ws fr :=
  ⟨h.sh.mod hm (fun x hx => by have := hT x hx; omega), h.frr.mod hm (fun h => (hT _ h).2.2.2.2.2.1 rfl) (fun h => (hT _ h).2.2.2.2.2.2.1 rfl) (fun h => (hT _ h).2.2.2.2.2.2.2 rfl), h.ok⟩
theorem SF.below {tag : Nat → Nat} {w w' : World} {a bF bL n : Nat} {v : Value} {ps : List Page} {bs : List Nat} {ws : List Int} {fr : Free} (h : SF tag w a bF bL v ps bs n ws fr) (hb : Below w.heap.size w w') : SF tag w' a bF bL v ps bs n ws fr :=
  h.mod (T := []) (Mod.of_below hb) (by simp)

set_option maxRecDepth 100000 in
theorem store_make_no (a bF bL n : Nat) (tag : Nat → Nat) (v : Value) (ps : List Page) (bs : List Nat) (ws : List Int) (fr : Free) (key : Key) (w : World) (H : SF tag w a bF bL v ps bs n ws fr) (hF : Fresh tag w) (hno : sMakeIs ps fr key = false) :
    Calls Try.prog 57 #[.pointer (some ⟨a, 0, none⟩), .agg key.cs.toArray] w fun e w' =>
      e = .returned (.tuple #[.int .i64 0, .bool false]) ∧ SF tag w' a bF bL v ps bs n ws fr ∧ Mod [9, 10, 11] tag tag w w' ∧ Fresh tag w' := by
  have hn := H.sh.hn
  obtain ⟨kg, kl, kr⟩ := key
  simp only [Key.cs]
  have hb0 : Below w.heap.size w (w.alloc (.cells #[.int .i64 kg, .int .i64 kl, .int .i64 kr] 37)) := (Below.refl _ w).alloc (Nat.le_refl _) _
  have hK0 := Blk.new w 37 #[.int .i64 kg, .int .i64 kl, .int .i64 kr]
  have H0 := H.below hb0
  unfold sMakeIs at hno
  cases e1 : sFind ps ⟨kg, kl, kr⟩ with
  | some g =>
    have E1 := Lib.hid e1
    clear e1 hno
    go_enter Try.func57, Try.ntmps57
    go_wp2_with fail
    refine (store_find 6 a bF bL tag v ps bs ⟨kg, kl, kr⟩ _ H0.sh.st hn).mono ?_
    rintro e w1 ⟨rfl, hb1⟩
    rw [E1.out]
    have H1 := H0.below hb1
    have hK1 := hK0.below hb1 hK0.lt
    have hbw1 := hb0.trans (hb1.mono hb0.size)
    have k0 := hK1.cellv 0 rfl
    have k1 := hK1.cellv 1 rfl
    have k2 := hK1.cellv 2 rfl
    clear H0 hK0 hb1
    go_wp2_with fail
    go_ret2
    exact ⟨rfl, H1, Mod.of_below hbw1, hF.mono hbw1.size⟩
  | none =>
    rw [e1] at hno
    have E1 := Lib.hid e1
    clear e1
    cases e2 : keyRight ⟨kg, kl, kr⟩
    · have E2 := Lib.hid e2
      clear e2 hno
      go_enter Try.func57, Try.ntmps57
      go_wp2_with fail
      refine (store_find 6 a bF bL tag v ps bs ⟨kg, kl, kr⟩ _ H0.sh.st hn).mono ?_
      rintro e w1 ⟨rfl, hb1⟩
      rw [E1.out]
      have H1 := H0.below hb1
      have hK1 := hK0.below hb1 hK0.lt
      have hbw1 := hb0.trans (hb1.mono hb0.size)
      have k0 := hK1.cellv 0 rfl
      have k1 := hK1.cellv 1 rfl
      have k2 := hK1.cellv 2 rfl
      clear H0 hK0 hb1
      go_wp2_with fail
      refine (store_right ⟨kg, kl, kr⟩ _).mono ?_
      rintro e w2 ⟨rfl, hb2⟩
      rw [E2.out]
      go_wp2_with fail
      go_ret2
      have hbw2 := hbw1.trans (hb2.mono hbw1.size)
      exact ⟨rfl, H.below hbw2, Mod.of_below hbw2, hF.mono hbw2.size⟩
    · have E2 := Lib.hid e2
      have e3 : fr.next.isSome = false := by rw [e2] at hno; simpa using hno
      have e4 : fr.took = fr := by
        unfold Free.next at e3; unfold Free.took
        split at e3
        · cases e3
        · rename_i h; rw [if_neg h]
          split at e3
          · cases e3
          · rename_i h2; rw [if_neg h2]
      have E3 := Lib.hid e3
      have E4 := Lib.hid e4
      clear e2 e3 e4 hno
      go_enter Try.func57, Try.ntmps57
      go_wp2_with fail
      refine (store_find 6 a bF bL tag v ps bs ⟨kg, kl, kr⟩ _ H0.sh.st hn).mono ?_
      rintro e w1 ⟨rfl, hb1⟩
      rw [E1.out]
      have H1 := H0.below hb1
      have hK1 := hK0.below hb1 hK0.lt
      have hbw1 := hb0.trans (hb1.mono hb0.size)
      have k0 := hK1.cellv 0 rfl
      have k1 := hK1.cellv 1 rfl
      have k2 := hK1.cellv 2 rfl
      clear H0 hK0 hb1
      go_wp2_with fail
      refine (store_right ⟨kg, kl, kr⟩ _).mono ?_
      rintro e w2 ⟨rfl, hb2⟩
      rw [E2.out]
      have H2 := H1.below hb2
      have hbw2 := hbw1.trans (hb2.mono hbw1.size)
      have a1 := H2.sh.st.blk.cellv 1 rfl
      go_wp2_with fail
      refine (free_take 9 bL tag fr _ H2.frr H2.ok).mono ?_
      rintro e w3 ⟨rfl, hfr, hM⟩
      rw [E3.out]
      rw [E4.out] at hfr
      go_wp2_with fail
      go_ret2
      refine ⟨rfl, ⟨H2.sh.mod hM (by simp), hfr, H2.ok⟩, (Mod.of_below hbw2).trans hM, (hF.mono hbw2.size).mono hM.size⟩

theorem info_u64 : (Try.prog.info? 40).map (fun i => (i.zero, i.size, i.bytes)) = some (some (.int .u64 0), 1, 8) := by kernel_rfl
theorem make8 (W : World) : (Instr.makeSlice 79 (.int .i64 8) (.int .i64 8)).run Try.prog W = .ok (.slice (some ⟨W.heap.size, 0, none⟩) 8 8) (W.alloc (.cells #[.int .u64 0, .int .u64 0, .int .u64 0, .int .u64 0, .int .u64 0, .int .u64 0, .int .u64 0, .int .u64 0] 40)) := by
  obtain ⟨i0, hi0, hz0, hz1, hz2⟩ := info_parts info_u64
  have h := run_makeSlice (P := Try.prog) (w := W) 79 40 i0 _ Try.underlying79 hi0 hz0 .i64 .i64 8 8 (by omega) (by omega) (by rw [hz1]; decide) (by rw [hz2]; decide) (by omega)
  rw [hz1] at h
  have e : madeCells (Value.int .u64 0).cells (Int.toNat 8 * 1) = #[.int .u64 0, .int .u64 0, .int .u64 0, .int .u64 0, .int .u64 0, .int .u64 0, .int .u64 0, .int .u64 0] := by kernel_rfl
  rw [e] at h
  exact h

theorem make_fin {tag : Nat → Nat} {w3 w4 : World} {a bF bL n N gg cp c : Nat} {A : Option Addr} {ps : List Page} {bs : List Nat} {ws : List Int} {p : Page} {SB : Array Value} {tS : TypeId} (H : SH tag w3 a bF bL (.slice A N c) ps bs n ws) (hF : Fresh tag w3) (hN : ps.length = N) (h8 : p.slots.length = 8) (hlen : N < 1000000)
    (hown : w4.ownsRow 0 99 1 (.slice (some ⟨gg, 0, none⟩) (N + 1) cp) (N + 1) (bs.map (fun b => Value.pointer (some ⟨b, 0, none⟩)) ++ [.pointer (some ⟨w3.heap.size, 0, none⟩)]))
    (hgrow : (((w3.alloc (.cells p.cs.toArray 103)).alloc (.cells SB tS)).drew).grownBy w4 (Value.slice A N c).ownBlock) (hat : (Value.slice A N c).ownBlock = some gg ∨ gg = w3.heap.size + 2) :
    ∃ tag', SH tag' (w4.setCell ⟨a, 2, none⟩ (.slice (some ⟨gg, 0, none⟩) (N + 1) cp)) a bF bL (.slice (some ⟨gg, 0, none⟩) (N + 1) cp) (ps ++ [p]) (bs ++ [w3.heap.size]) n ws ∧
      Mod [6, 7] tag tag' w3 (w4.setCell ⟨a, 2, none⟩ (.slice (some ⟨gg, 0, none⟩) (N + 1) cp)) ∧ Fresh tag' (w4.setCell ⟨a, 2, none⟩ (.slice (some ⟨gg, 0, none⟩) (N + 1) cp)) := by
  have hM1 : Mod [] tag (upd tag w3.heap.size 8) w3 ((w3.alloc (.cells p.cs.toArray 103)).alloc (.cells SB tS)).drew := ((((Mod.refl [] tag w3).alloc _).alloc _).drew).retag (Nat.le_refl _) 8
  have hr1 := H.st.pgs.row.mod hM1 (by simp)
  rw [hN] at hr1
  have hsz : ((w3.alloc (.cells p.cs.toArray 103)).alloc (.cells SB tS)).drew.heap.size = w3.heap.size + 2 := by simp
  obtain ⟨tag', hr4, hM4, hF4⟩ := hr1.grew (T := [7]) hown (by rcases hat with h | h; exact .inl h.symm; exact .inr (by rw [hsz, h]; rfl)) hgrow rfl
  have hF1 : Fresh (upd tag w3.heap.size 8) ((w3.alloc (.cells p.cs.toArray 103)).alloc (.cells SB tS)).drew := (hF.mono (by rw [hsz]; omega)).upd_ (by rw [hsz]; omega)
  have hB1 : Blk ((w3.alloc (.cells p.cs.toArray 103)).alloc (.cells SB tS)).drew w3.heap.size 103 p.cs.toArray := (Blk.new w3 103 p.cs.toArray).alloc _
  have hB4 := hB1.mod hM4 (by rw [upd_same]; simp)
  have ht4 : tag' w3.heap.size = 8 := (hM4.tags _ hB1.lt).trans (upd_same _ _ _)
  have hMw : Mod [7] tag tag' w3 w4 := (hM1.mono (by simp)).trans hM4
  have hst4 := H.st.blk.mod hMw (by rw [H.st.ta]; simp)
  have hta : tag' a = 6 := hMw.tagOf H.st.blk H.st.ta
  have hlta := H.st.blk.lt
  have hM5 : Mod [6] tag' tag' w4 (w4.setCell ⟨a, 2, none⟩ (.slice (some ⟨gg, 0, none⟩) (N + 1) cp)) := (Mod.refl [6] tag' w4).setCell (a := ⟨a, 2, none⟩) (by simp [hta]) _
  have hMt : Mod [6, 7] tag tag' w3 (w4.setCell ⟨a, 2, none⟩ (.slice (some ⟨gg, 0, none⟩) (N + 1) cp)) := (hMw.mono (by simp)).trans (hM5.mono (by simp))
  have hblt : ∀ b ∈ bs, b < w3.heap.size := by
    intro b hb
    obtain ⟨j, hj, rfl⟩ := List.getElem_of_mem hb
    exact (H.st.pgs.pg j _ (ps[j]'(by rw [← H.st.pgs.len]; exact hj)) (by simp [hj]) (by simp [show j < ps.length by rw [← H.st.pgs.len]; exact hj])).2.1.lt
  refine ⟨tag', ⟨⟨hta, hst4.set_ 2 _, ⟨by simp [H.st.pgs.len], ?_, ?_, ?_⟩⟩, H.ho.mod hMt (by simp) (by simp), by rw [List.length_append, hN]; simp; omega⟩, hMt, (hF4 hF1).mono hM5.size⟩
  · rw [List.nodup_append]
    refine ⟨H.st.pgs.nd, by simp, ?_⟩
    intro x hx y hy
    have := hblt x hx
    simp only [List.mem_singleton] at hy
    omega
  · have := hr4.mod hM5 (by simp)
    rw [List.length_append, hN, List.map_append]
    exact this
  · intro j b q hb hq
    by_cases hj : j < ps.length
    · rw [List.getElem?_append_left (by rw [H.st.pgs.len]; exact hj)] at hb
      rw [List.getElem?_append_left hj] at hq
      obtain ⟨t1, t2, t3⟩ := H.st.pgs.pg j b q hb hq
      exact ⟨hMt.tagOf t2 t1, t2.mod hMt (by rw [t1]; simp), t3⟩
    · have hj2 : j = ps.length := by
        have := (List.getElem?_eq_some_iff.1 hq).1
        simp at this; omega
      subst hj2
      have e1 : b = w3.heap.size := by
        rw [List.getElem?_append_right (by rw [H.st.pgs.len]; exact Nat.le_refl _), H.st.pgs.len] at hb
        simp at hb; exact hb.symm
      have e2 : q = p := by
        rw [List.getElem?_append_right (Nat.le_refl _)] at hq
        simp at hq; exact hq.symm
      subst e1 e2
      exact ⟨ht4, hB4.mod hM5 (by rw [ht4]; simp), h8⟩

set_option maxRecDepth 100000 in
set_option maxHeartbeats 2000000 in
theorem store_make_yes (a bF bL n : Nat) (tag : Nat → Nat) (v : Value) (ps : List Page) (bs : List Nat) (ws : List Int) (fr : Free) (key : Key) (w : World) (H : SF tag w a bF bL v ps bs n ws fr) (hF : Fresh tag w) (hyes : sMakeIs ps fr key = true)
    (hfo : ∀ f, fr.next = some f → hok n f 0 = true) (hok' : FreeOk fr.took) (hn1 : ps.length < 1000000) :
    Calls Try.prog 57 #[.pointer (some ⟨a, 0, none⟩), .agg key.cs.toArray] w fun e w' =>
      e = .returned (.tuple #[.int .i64 (fr.next.getD 0), .bool true]) ∧ ∃ tag' v' bs', SF tag' w' a bF bL v' (ps ++ [pageNew (fr.next.getD 0) key]) bs' n (hfill n ws (fr.next.getD 0) zero8) fr.took ∧ Mod [2, 6, 7, 9, 10, 11] tag tag' w w' ∧ Fresh tag' w' := by
  have hn := H.sh.hn
  obtain ⟨i0, hi0, hz0, hz1, hz2⟩ := info_parts info_ppage
  obtain ⟨kg, kl, kr⟩ := key
  simp only [Key.cs]
  have hb0 : Below w.heap.size w (w.alloc (.cells #[.int .i64 kg, .int .i64 kl, .int .i64 kr] 37)) := (Below.refl _ w).alloc (Nat.le_refl _) _
  have hK0 := Blk.new w 37 #[.int .i64 kg, .int .i64 kl, .int .i64 kr]
  have H0 := H.below hb0
  unfold sMakeIs at hyes
  simp only [Bool.and_eq_true, Option.isNone_iff_eq_none] at hyes
  obtain ⟨⟨e1, e2⟩, e3⟩ := hyes
  have E1 := Lib.hid e1
  have E2 := Lib.hid e2
  have E3 := Lib.hid e3
  obtain ⟨f, hf⟩ := Option.isSome_iff_exists.1 e3
  have hfok := hfo f hf
  rw [hf, Option.getD_some]
  have E4 := Lib.hid hf
  have HOK := Lib.hid hok'
  clear e1 e2 e3 hf hfo hok'
  go_enter Try.func57, Try.ntmps57
  go_wp2_with fail
  refine (store_find 6 a bF bL tag v ps bs ⟨kg, kl, kr⟩ _ H0.sh.st hn).mono ?_
  rintro e w1 ⟨rfl, hb1⟩
  rw [E1.out]
  have H1 := H0.below hb1
  have hK1 := hK0.below hb1 hK0.lt
  have hbw1 := hb0.trans (hb1.mono hb0.size)
  have k0 := hK1.cellv 0 rfl
  have k1 := hK1.cellv 1 rfl
  have k2 := hK1.cellv 2 rfl
  clear H0 hK0 hb1
  go_wp2_with fail
  refine (store_right ⟨kg, kl, kr⟩ _).mono ?_
  rintro e w2 ⟨rfl, hb2⟩
  rw [E2.out]
  have H2 := H1.below hb2
  have hK2 := hK1.below hb2 hK1.lt
  have hbw2 := hbw1.trans (hb2.mono hbw1.size)
  have a1 := H2.sh.st.blk.cellv 1 rfl
  have hKlt : w.heap.size < w2.heap.size := by have := hK2.lt; omega
  have hFK : tag w.heap.size = 0 := hF _ (Nat.le_refl _)
  clear H1 hK1 hb2 k0 k1 k2 hbw1
  go_wp2_with fail
  refine (free_take 9 bL tag fr _ H2.frr H2.ok).mono ?_
  rintro e w3 ⟨rfl, hfr, hM⟩
  rw [E4.out, Option.getD_some, Option.isSome_some]
  have hS3 := H2.sh.mod hM (by simp)
  have hK3 := hK2.mod hM (by rw [hFK]; simp)
  have hMw3 : Mod [9, 10, 11] tag tag w w3 := (Mod.of_below hbw2).trans hM
  have hF3 : Fresh tag w3 := (hF.mono hbw2.size).mono hM.size
  clear H2 hK2 hM a1
  obtain ⟨A, c, rfl⟩ := hS3.st.pgs.row.val
  have hA3 := hS3.st.blk
  have hr3 := hS3.st.pgs.row
  have k0 := hK3.cellv 0 rfl
  have k1 := hK3.cellv 1 rfl
  have k2 := hK3.cellv 2 rfl
  have c2 := hA3.cellv 2 rfl
  have hlta := hA3.lt
  have hltk := hK3.lt
  have ha := hS3.st.ta
  have hne : some a ≠ (Value.slice A ps.length c).ownBlock := fun e => by have := hr3.2 a e.symm; omega
  have hnew : (((w3.alloc (.cells #[.int .i64 f, .int .i64 kg, .int .i64 kl, .int .i64 kr, .int .i64 0, .int .i64 0, .bool false, .bool false, .bool false, .int .i64 0, .int .i64 0, .bool false, .bool false, .bool false, .int .i64 0, .int .i64 0, .bool false, .bool false, .bool false, .int .i64 0, .int .i64 0, .bool false, .bool false, .bool false, .int .i64 0, .int .i64 0, .bool false, .bool false, .bool false, .int .i64 0, .int .i64 0, .bool false, .bool false, .bool false, .int .i64 0, .int .i64 0, .bool false, .bool false, .bool false, .int .i64 0, .int .i64 0, .bool false, .bool false, .bool false] 103)).alloc (.cells #[.pointer (some ⟨w3.heap.size, 0, none⟩)] 99))).heap[w3.heap.size + 1]? = some (.cells #[.pointer (some ⟨w3.heap.size, 0, none⟩)] 99 (0, 0)) := by
    have := heap_alloc_new (w3.alloc (.cells #[.int .i64 f, .int .i64 kg, .int .i64 kl, .int .i64 kr, .int .i64 0, .int .i64 0, .bool false, .bool false, .bool false, .int .i64 0, .int .i64 0, .bool false, .bool false, .bool false, .int .i64 0, .int .i64 0, .bool false, .bool false, .bool false, .int .i64 0, .int .i64 0, .bool false, .bool false, .bool false, .int .i64 0, .int .i64 0, .bool false, .bool false, .bool false, .int .i64 0, .int .i64 0, .bool false, .bool false, .bool false, .int .i64 0, .int .i64 0, .bool false, .bool false, .bool false, .int .i64 0, .int .i64 0, .bool false, .bool false, .bool false] 103)) (.cells #[.pointer (some ⟨w3.heap.size, 0, none⟩)] 99)
    rwa [World.size_alloc] at this
  go_wp2_with fail
  go_region_law (refine step_append_lies _ rfl (.tmp 36) (.tmp 41) 113 rfl 0 99 i0 _ 1 8 Try.underlying113 hi0 hz0 hz1 hz2 rfl (by decide) (.slice A ps.length c) ps.length (bs.map (fun b => Value.pointer (some ⟨b, 0, none⟩))) (by simp [Act.eval, Act.put]) (((hr3.1.alloc _).alloc _).drew) ⟨w3.heap.size + 1, 0, none⟩ 1 1 [.pointer (some ⟨w3.heap.size, 0, none⟩)] (by simp [Act.eval, Act.put]) rfl (World.news_of_block (cs := #[.pointer (some ⟨w3.heap.size, 0, none⟩)]) (t := 99) (fr := (0, 0)) hnew) (by simp [Value.oneCell']) (by omega) (by unfold maxLen; omega) (by omega) (Nat.zero_le _) (w3.heap.size + 2) (by simp) ?_; intro gg cp w4 hown4 hgrow4 hat4 hlt4; have hA4 := (((hA3.alloc (.cells #[.int .i64 f, .int .i64 kg, .int .i64 kl, .int .i64 kr, .int .i64 0, .int .i64 0, .bool false, .bool false, .bool false, .int .i64 0, .int .i64 0, .bool false, .bool false, .bool false, .int .i64 0, .int .i64 0, .bool false, .bool false, .bool false, .int .i64 0, .int .i64 0, .bool false, .bool false, .bool false, .int .i64 0, .int .i64 0, .bool false, .bool false, .bool false, .int .i64 0, .int .i64 0, .bool false, .bool false, .bool false, .int .i64 0, .int .i64 0, .bool false, .bool false, .bool false, .int .i64 0, .int .i64 0, .bool false, .bool false, .bool false] 103)).alloc (.cells #[.pointer (some ⟨w3.heap.size, 0, none⟩)] 99)).drew).grown hgrow4 hne; have c2' := hA4.cellv 2 rfl; have f2' := hA4.frozen 2)
  all_goals
    obtain ⟨tag4, hS4, hM4, hF4⟩ := make_fin (p := pageNew f ⟨kg, kl, kr⟩) hS3 hF3 rfl rfl hn1 hown4 hgrow4 hat4
    have hfr4 := hfr.mod hM4 (by simp) (by simp) (by simp)
    clear hgrow4 hown4 hA4 c2' f2' hnew hat4
    generalize w4.setCell ⟨a, 2, none⟩ (.slice (some ⟨gg, 0, none⟩) (ps.length + 1) cp) = w5 at *
    have a0 := hS4.st.blk.cellv 0 rfl
    have hlta5 := hS4.st.blk.lt
    have hmk := make8
    have hg0 : tag4 w5.heap.size = 0 := hF4 _ (Nat.le_refl _)
    have hz5 := Blk.new w5 40 #[.int .u64 0, .int .u64 0, .int .u64 0, .int .u64 0, .int .u64 0, .int .u64 0, .int .u64 0, .int .u64 0]
    go_wp2_with fail
    go_region_with (go_at_call 89; refine (frame_fill_zero 1 bF n tag4 ws f w5.heap.size 8 _ (by exact (hS4.ho.mod (T := []) (((Mod.refl [] tag4 w5).alloc _).drew) (by simp) (by simp))) hfok (by exact hz5) ⟨by rw [hg0]; decide, by rw [hg0]; decide⟩).mono ?_; rintro e w6 ⟨rfl, hH6, hM6⟩)
    all_goals
      have hM56 : Mod [2] tag4 tag4 w5 w6 := ((((Mod.refl [] tag4 w5).alloc _).drew).mono (by simp)).trans hM6
      have hMt := ((hMw3.mono (T' := [2, 6, 7, 9, 10, 11]) (by simp)).trans (hM4.mono (by simp))).trans (hM56.mono (by simp))
      go_wp2_with fail
      go_ret2
      exact ⟨rfl, tag4, _, _, ⟨⟨hS4.st.mod hM56 (by simp) (by simp) (by simp), hH6, hS4.hn⟩, hfr4.mod hM56 (by simp) (by simp) (by simp), HOK.out⟩, hMt, hF4.mono hM56.size⟩
end Go.Proofs.Ytbmbgicdnegkfaa

/- The walk of store.Drop. -/
namespace Go.Proofs.Ytbmbgicdnegkfaa
open Go Go.RowKit Sil

/-- free.Give -/
theorem free_give (k a : Nat) (tag : Nat → Nat) (f : Free) (x : Int) (w : World) (H : FreeR k tag w a f) (hx : (Lit.int .i64 x).wf = true) (hF : Fresh tag w) (hnd : f.taken.Nodup) (hbl : f.back.length ≤ 1000000) :
    Calls Try.prog 95 #[.pointer (some ⟨a, 0, none⟩), .int .i64 x] w fun e w' => e = .returned (.bool (decide (x ∈ f.taken))) ∧ ∃ tag', FreeR k tag' w' a (f.given x) ∧ Mod [k, k + 1, k + 2] tag tag' w w' ∧ Fresh tag' w' := by
  by_cases h : x ∈ f.taken
  · have e1 : f.given x = { f with back := f.back ++ [x], taken := f.taken.erase x } := by unfold Free.given; rw [if_pos h]
    rw [e1, decide_eq_true h]
    exact free_give_yes k a tag f x w H hx h hF hnd hbl
  · have e1 : f.given x = f := by unfold Free.given; rw [if_neg h]
    rw [e1, decide_eq_false h]
    refine (free_give_no k a tag f x w H hx h).mono ?_
    rintro e w' ⟨rfl, rfl⟩
    exact ⟨rfl, tag, H, Mod.refl _ _ _, hF⟩

theorem store_drop_no (a bF bL : Nat) (tag : Nat → Nat) (v : Value) (ps : List Page) (bs : List Nat) (f : Int) (w : World) (H : StoreX 6 tag w a bF bL v ps bs) (hn : ps.length ≤ 1000000) (hf : sPage ps f = none) :
    Calls Try.prog 76 #[.pointer (some ⟨a, 0, none⟩), .int .i64 f] w fun e w' => e = .returned (.bool false) ∧ Below w.heap.size w w' := by
  have hb0 : Below w.heap.size w (w.alloc (.cells #[.int .i64 f] 3)) := (Below.refl _ w).alloc (Nat.le_refl _) _
  have H0 := H.below hb0
  have e1 : pgAt ps bs f = none := by
    rcases pgAt_case H.pgs f with ⟨h, _⟩ | ⟨j, b, p, _, h, _⟩
    · exact h
    · rw [h] at hf; cases hf
  have E1 := Lib.hid e1
  clear e1
  go_enter Try.func76, Try.ntmps76
  go_wp2_with fail
  refine (store_page 6 a bF bL tag v ps bs f _ H0 hn).mono ?_
  rintro e w1 ⟨rfl, hb1⟩
  rw [E1.out]
  go_wp2_with fail
  go_ret
  exact ⟨rfl, hb0.trans (hb1.mono hb0.size)⟩

def encPB (x : Page × Nat) : Value := .pointer (some ⟨x.2, 0, none⟩)
theorem zip_enc {ps : List Page} {bs : List Nat} (h : bs.length = ps.length) : (ps.zip bs).map encPB = bs.map (fun b => Value.pointer (some ⟨b, 0, none⟩)) := by
  have : (ps.zip bs).map (fun x => (fun b => Value.pointer (some ⟨b, 0, none⟩)) x.2) = ((ps.zip bs).map Prod.snd).map (fun b => Value.pointer (some ⟨b, 0, none⟩)) := by rw [List.map_map]; rfl
  rw [← List.map_snd_zip (l₁ := ps) (l₂ := bs) (by omega)] 
  conv => rhs; rw [← this]
  simp only [List.map_snd_zip (l₁ := ps) (l₂ := bs) (by omega : bs.length ≤ ps.length)]
  rfl
def keepB (f : Int) (ps : List Page) (bs : List Nat) : List (Page × Nat) := (ps.zip bs).filter (fun x => !(x.1.f == f))
theorem keepB_fst (f : Int) {ps : List Page} {bs : List Nat} (h : bs.length = ps.length) : (keepB f ps bs).map Prod.fst = ps.filter (fun p => !(p.f == f)) := by
  have e : ps = (ps.zip bs).map Prod.fst := (List.map_fst_zip (by omega)).symm
  conv => rhs; rw [e, List.filter_map]
  rfl
theorem drop_fin {tag : Nat → Nat} {w w4 : World} {a bF bL : Nat} {v v4 : Value} {ps : List Page} {bs : List Nat} {f : Int} (H : StoreX 6 tag w a bF bL v ps bs) (hM : Mod [7] tag tag w w4)
    (hr : Row 7 tag w4 99 1 v4 (keepB f ps bs).length ((keepB f ps bs).map encPB)) :
    StoreX 6 tag (w4.setCell ⟨a, 2, none⟩ v4) a bF bL v4 (ps.filter (fun p => !(p.f == f))) ((keepB f ps bs).map Prod.snd) := by
  have hfst := keepB_fst f H.pgs.len
  have hlen : (keepB f ps bs).length = (ps.filter (fun p => !(p.f == f))).length := by rw [← hfst, List.length_map]
  have hM5 : Mod [6] tag tag w4 (w4.setCell ⟨a, 2, none⟩ v4) := (Mod.refl [6] tag w4).setCell (a := ⟨a, 2, none⟩) (by simp [H.ta]) _
  have hA4 := H.blk.mod hM (by rw [H.ta]; simp)
  refine ⟨H.ta, hA4.set_ 2 _, ⟨by rw [List.length_map, hlen], ?_, ?_, ?_⟩⟩
  · have h1 : ((keepB f ps bs).map Prod.snd).Sublist ((ps.zip bs).map Prod.snd) := (List.filter_sublist).map _
    rw [List.map_snd_zip (by rw [H.pgs.len]; exact Nat.le_refl _)] at h1
    exact H.pgs.nd.sublist h1
  · rw [← hlen, List.map_map]
    exact hr.mod hM5 (by simp)
  · intro j b p hb hp
    rw [← hfst, List.getElem?_map] at hp
    rw [List.getElem?_map] at hb
    obtain ⟨x, hx, rfl⟩ := Option.map_eq_some_iff.1 hb
    rw [hx] at hp
    have hxp : x.1 = p := by simpa using hp
    subst hxp
    have hmem : x ∈ ps.zip bs := (List.mem_filter.1 (List.mem_of_getElem? hx)).1
    obtain ⟨i, hi⟩ := List.getElem?_of_mem hmem
    rw [List.getElem?_zip_eq_some] at hi
    obtain ⟨t1, t2, t3⟩ := H.pgs.pg i x.2 x.1 hi.2 hi.1
    exact ⟨t1, (t2.mod hM (by rw [t1]; simp)).mod hM5 (by rw [t1]; simp), t3⟩

set_option maxRecDepth 100000 in
set_option maxHeartbeats 2000000 in
theorem store_drop (a bF bL n : Nat) (tag : Nat → Nat) (v : Value) (ps : List Page) (bs : List Nat) (ws : List Int) (fr : Free) (f : Int) (w : World) (H : SF tag w a bF bL v ps bs n ws fr) (hF : Fresh tag w) (hn2 : ps.length ≤ 10000) (hf : (sPage ps f).isSome = true)
    (hwf : (Lit.int .i64 f).wf = true) (hnd : fr.taken.Nodup) (hok' : FreeOk (fr.given f)) :
    Calls Try.prog 76 #[.pointer (some ⟨a, 0, none⟩), .int .i64 f] w fun e w' => e = .returned (.bool (decide (f ∈ fr.taken))) ∧
      ∃ tag' v' bs', SF tag' w' a bF bL v' (sDrop n ps ws f) bs' n (wDrop n ps ws f) (fr.given f) ∧ Mod [2, 6, 7, 8, 9, 10, 11] tag tag' w w' ∧ Fresh tag' w' := by
  have hb0 : Below w.heap.size w (w.alloc (.cells #[.int .i64 f] 3)) := (Below.refl _ w).alloc (Nat.le_refl _) _
  have H0 := H.below hb0
  have hX0 := Blk.new w 3 #[.int .i64 f]
  have hX0t : tag w.heap.size = 0 := hF _ (Nat.le_refl _)
  obtain ⟨A, e1⟩ : ∃ A, pgAt ps bs f = some A := by
    rcases pgAt_case H.sh.st.pgs f with ⟨_, h⟩ | ⟨j, b, p, h, _⟩
    · rw [h] at hf; cases hf
    · exact ⟨_, h⟩
  have E1 := Lib.hid e1
  clear e1
  go_enter Try.func76, Try.ntmps76
  go_wp2_with fail
  refine (store_page 6 a bF bL tag v ps bs f _ H0.sh.st H0.sh.hn).mono ?_
  rintro e w1 ⟨rfl, hb1⟩
  rw [E1.out]
  have H1 := H0.below hb1
  have hX1 := hX0.below hb1 hX0.lt
  have hbw1 := hb0.trans (hb1.mono hb0.size)
  have x0 := hX1.cellv 0 rfl
  clear H0 hX0 hb1 hb0
  go_wp2_with fail
  refine (store_parents a bF bL tag v ps bs f _ H1.sh.st (by omega)).mono ?_
  rintro e w2 ⟨v', rfl, hown, hb2⟩
  have H2 := H1.below hb2
  have hX2 := hX1.below hb2 hX1.lt
  have hbw2 := hbw1.trans (hb2.mono hbw1.size)
  have hrow := Row.of_new hown (hF.mono hbw1.size)
  generalize hats : sTold ps 1 f = ats at *
  have HATS := Lib.hid hats
  have hN : ats.length ≤ 80000 := by rw [← hats]; unfold sTold; rw [List.length_map]; exact Nat.le_trans (List.length_filter_le _ _) (by rw [stAts_len]; omega)
  obtain ⟨A2, c2, rfl⟩ := hrow.val
  clear H1 hX1 hb2 x0 hbw1 hown hats
  go_wp2_with fail
  go_loopw [16] (fun i wr => ∃ j : Nat, j ≤ ats.length ∧ i = .int .i64 j ∧ SF tag wr a bF bL v (clrs n (ps, ws) (ats.take j)).1 bs n (clrs n (ps, ws) (ats.take j)).2 fr ∧ Row 0 tag wr 111 2 (.slice A2 ats.length c2) ats.length (ats.flatMap At.cs) ∧ Blk wr w.heap.size 3 #[.int .i64 f] ∧ Mod [2, 8] tag tag w wr) (fun i _ => ats.length - (intOf i).toNat)
  case atStart => exact ⟨0, Nat.zero_le _, rfl, by simpa [clrs] using H2, hrow, hX2, Mod.of_below hbw2⟩
  case round =>
    obtain ⟨j, hj, rfl, Hj, hrj, hXj, hMj⟩ := hrel
    by_cases hlt : j < ats.length
    · obtain ⟨x, hx⟩ : ∃ x, ats[j]? = some x := ⟨ats[j], by simp [hlt]⟩
      have hstep : Hid (clrs n (ps, ws) (ats.take (j + 1)) = clr n (clrs n (ps, ws) (ats.take j)) x) := Lib.hid (by
        have := (List.getElem?_eq_some_iff.1 hx).2
        rw [List.take_succ_eq_append_getElem hlt, this, clrs_snoc])
      have y0 := ats_cell hx 0 (by omega)
      have y1 := ats_cell hx 1 (by omega)
      obtain ⟨ag, ai⟩ := x
      rcases hrj.form with ⟨_, h0, _⟩ | ⟨g, cap, cur, hv, htg, hBg, _, _, _, hcur⟩
      · omega
      injection hv with hv1 hv2 hv3
      subst hv1 hv3
      have q0 : wr.cell? ⟨g, j * 2, none⟩ = some (.int .i64 ag) := by
        have := hrj.rd.at_ (j := j * 2 + 0) (u := .int .i64 ag) (by rw [y0]; rfl)
        obtain ⟨g', off, e, h, _⟩ := this
        cases e; simpa using h
      have q1 : wr.cell? ⟨g, j * 2 + 1, none⟩ = some (.int .i64 ai) := by
        have := hrj.rd.at_ (j := j * 2 + 1) (u := .int .i64 ai) (by rw [y1]; rfl)
        obtain ⟨g', off, e, h, _⟩ := this
        cases e; simpa using h
      clear y0 y1 hx hcur hBg
      have hMal : Mod [2, 8] tag tag w (wr.alloc (.cells #[.int .i64 ag, .int .i64 ai] 111)) := hMj.alloc _
      have Hal := Hj.below ((Below.refl _ wr).alloc (Nat.le_refl _) (.cells #[.int .i64 ag, .int .i64 ai] 111))
      have hral := hrj.mod (T := []) ((Mod.refl [] tag wr).alloc (.cells #[.int .i64 ag, .int .i64 ai] 111)) (by simp)
      have hXal := hXj.alloc (.cells #[.int .i64 ag, .int .i64 ai] 111)
      go_wp2_with fail
      refine (store_clear a bF bL n tag v _ bs _ ag ai _ Hal.sh).mono ?_
      rintro e w3 ⟨rfl, H3, hM3⟩
      go_wp2_with fail
      go_roundw
      case rel =>
        exact ⟨j + 1, by omega, by go_num, by rw [hstep.out]; exact ⟨H3, Hal.frr.mod hM3 (by simp) (by simp) (by simp), Hal.ok⟩, hral.mod hM3 (by simp), hXal.mod hM3 (by rw [hX0t]; simp), hMal.trans hM3⟩
      case measure => simp [intOf]; omega
    · have hj' : j = ats.length := by omega
      subst hj'
      rw [List.take_length] at Hj
      generalize hs1 : clrs n (ps, ws) ats = s1 at *
      have HS1 := Lib.hid hs1
      have hl1 : s1.1.length = ps.length := by rw [← hs1, clrs_len]
      clear hs1 hrj hlt hj
      go_wp2_with fail
      go_loopw [27] (fun i wr => ∃ m : Nat, m ≤ 8 ∧ i = .int .i64 m ∧ SF tag wr a bF bL v (clrs n s1 (rowAts f m)).1 bs n (clrs n s1 (rowAts f m)).2 fr ∧ Blk wr w.heap.size 3 #[.int .i64 f] ∧ Mod [2, 8] tag tag w wr) (fun i _ => 8 - (intOf i).toNat)
      case atStart => exact ⟨0, Nat.zero_le _, rfl, by simpa [clrs, rowAts] using Hj, hXj, hMj⟩
      case round =>
        obtain ⟨m, hm, rfl, Hm, hXm, hMm⟩ := hrel
        by_cases hm8 : m < 8
        · have x0 := hXm.cellv 0 rfl
          go_wp2_with fail
          refine (store_clear a bF bL n tag v _ bs _ f m _ Hm.sh).mono ?_
          rintro e w3 ⟨rfl, H3, hM3⟩
          go_wp2_with fail
          go_roundw
          case rel =>
            exact ⟨m + 1, by omega, by go_num, by rw [rowAts_succ, clrs_snoc]; exact ⟨H3, Hm.frr.mod hM3 (by simp) (by simp) (by simp), Hm.ok⟩, hXm.mod hM3 (by rw [hX0t]; simp), hMm.trans hM3⟩
          case measure => simp [intOf]; omega
        · have hm' : m = 8 := by omega
          subst hm'
          generalize hs2 : clrs n s1 (rowAts f 8) = s2 at *
          have HS2 := Lib.hid hs2
          have hl2 : s2.1.length = ps.length := by rw [← hs2, clrs_len]; exact hl1
          obtain ⟨hSH, hfr, hfok⟩ := Hm
          have hlen := hSH.st.pgs.len
          have hzl : (s2.1.zip bs).length = s2.1.length := by rw [List.length_zip, hlen]; simp
          have hrow := hSH.st.pgs.row
          rw [← zip_enc hlen] at hrow
          have c2 := hSH.st.blk.cellv 2 rfl
          have hcall : ∀ (j : Nat) (hj : j < (s2.1.zip bs).length) (W : World), Mod [7] tag tag wr W →
              Calls Try.prog 94 #[encPB (s2.1.zip bs)[j], .pointer (some ⟨w.heap.size, 0, none⟩)] W fun e W' => e = .returned (.bool ((fun x : Page × Nat => x.1.f == f) (s2.1.zip bs)[j])) ∧ Below W.heap.size W W' := by
            intro j hj W hMW
            obtain ⟨x, hx⟩ : ∃ x, x = (s2.1.zip bs)[j] := ⟨_, rfl⟩
            have hx? : (s2.1.zip bs)[j]? = some x := by rw [hx]; exact List.getElem?_eq_getElem hj
            rw [← hx]
            rw [List.getElem?_zip_eq_some] at hx?
            obtain ⟨t1, t2, _⟩ := hSH.st.pgs.pg j x.2 x.1 hx?.2 hx?.1
            exact page_is_drop x.2 w.heap.size x.1.f f W ((t2.mod hMW (by rw [t1]; simp)).cellv 0 rfl) ((hXm.mod hMW (by rw [hX0t]; simp)).cellv 0 rfl)
          have HC := Lib.hid hcall
          clear hcall hs2 hl1
          go_wp2_with fail
          refine (deleteFunc_pageDrop encPB (fun y => ⟨_, rfl⟩) (s2.1.zip bs) s2.1.length hzl (fun x => x.1.f == f) (.pointer (some ⟨w.heap.size, 0, none⟩)) 7 v _ tag hrow (by omega) HC.out).mono ?_
          rintro e w4 ⟨v4, rfl, hr4, hM4⟩
          obtain ⟨A4, c4, rfl⟩ := hr4.val
          have hSt5 := drop_fin hSH.st hM4 hr4
          have hA4 := hSH.st.blk.mod hM4 (by rw [hSH.st.ta]; simp)
          have a2 := hA4.cellv 2 rfl
          have g2 := hA4.frozen 2
          have hX4 := hXm.mod hM4 (by rw [hX0t]; simp)
          have hM5 := ((hMm.mono (T' := [2, 6, 7, 8]) (by simp)).trans (hM4.mono (by simp))).setCell (a := ⟨a, 2, none⟩) (by simp [hSH.st.ta]) (.slice A4 ((List.filter (fun y => !(y.1.f == f)) (s2.1.zip bs)).length) c4)
          have hfr5 := ((hfr.mod hM4 (by simp) (by simp) (by simp)).mod (T := [6]) ((Mod.refl [6] tag w4).setCell (a := ⟨a, 2, none⟩) (by simp [hSH.st.ta]) (.slice A4 ((List.filter (fun y => !(y.1.f == f)) (s2.1.zip bs)).length) c4)) (by simp) (by simp) (by simp))
          have hho5 := ((hSH.ho.mod hM4 (by simp) (by simp)).mod (T := [6]) ((Mod.refl [6] tag w4).setCell (a := ⟨a, 2, none⟩) (by simp [hSH.st.ta]) (.slice A4 ((List.filter (fun y => !(y.1.f == f)) (s2.1.zip bs)).length) c4)) (by simp) (by simp))
          have hX5 := hX4.mod (T := [6]) ((Mod.refl [6] tag w4).setCell (a := ⟨a, 2, none⟩) (by simp [hSH.st.ta]) (.slice A4 ((List.filter (fun y => !(y.1.f == f)) (s2.1.zip bs)).length) c4)) (by rw [hX0t]; simp)
          have hF5 := hF.mono hM5.size
          go_wp2_with fail
          clear hA4 a2 g2 hX4 c2 hr4 hM4 hrow hXm hMm hSH HC
          generalize w4.setCell ⟨a, 2, none⟩ (.slice A4 ((List.filter (fun y => !(y.1.f == f)) (s2.1.zip bs)).length) c4) = w5 at *
          have a1 := hSt5.blk.cellv 1 rfl
          have x5 := hX5.cellv 0 rfl
          have hdone : SF tag w5 a bF bL (.slice A4 ((List.filter (fun y => !(y.1.f == f)) (s2.1.zip bs)).length) c4) (sDrop n ps ws f) ((keepB f s2.1 bs).map Prod.snd) n (wDrop n ps ws f) fr := by
            have e1 : dropState n ps ws f = s2 := by unfold dropState; rw [HATS.out, HS1.out, HS2.out]
            unfold sDrop wDrop
            rw [e1]
            exact ⟨⟨hSt5, hho5, Nat.le_trans (List.length_filter_le _ _) (by omega)⟩, hfr5, hfok⟩
          go_region_with (go_at_call 95; refine (free_give 9 bL tag fr f _ (by exact (hfr5.mod (T := []) ((Mod.refl [] tag w5).drew) (by simp) (by simp) (by simp))) hwf (by exact hF5) hnd hfok.bl).mono ?_; rintro e w6 ⟨rfl, tag6, hfr6, hM6, hF6⟩)
          all_goals
            go_wp2_with fail
            go_ret
            have hM56 : Mod [9, 10, 11] tag tag6 w5 w6 := ((Mod.refl [9, 10, 11] tag w5).drew).trans hM6
            exact ⟨rfl, tag6, _, _, ⟨hdone.sh.mod hM56 (by simp), hfr6, hok'⟩, (hM5.mono (by simp)).trans (hM56.mono (by simp)), hF6⟩
end Go.Proofs.Ytbmbgicdnegkfaa

/- The walks of the constructors: frame.New, tlb.New, free.New, store.New, guest.New, guard.New. -/
namespace Go.Proofs.Ytbmbgicdnegkfaa
open Go Go.RowKit Sil

theorem info_frame : (Try.prog.info? 154).map (fun i => (i.zero, i.size, i.bytes)) = some (some (.agg #[.int .u64 0, .int .u64 0, .int .u64 0, .int .u64 0, .int .u64 0, .int .u64 0, .int .u64 0, .int .u64 0]), 8, 64) := by kernel_rfl
theorem made_zero (m : Nat) : madeCells #[.int .u64 0, .int .u64 0, .int .u64 0, .int .u64 0, .int .u64 0, .int .u64 0, .int .u64 0, .int .u64 0] m = ((List.replicate m (0 : Int)).map (Value.int .u64)).toArray := by
  apply Array.toList_inj.1
  simp only [madeCells, Array.toList_map, Array.toList_range]
  apply List.ext_getElem
  · simp
  · intro i h1 h2
    simp only [List.getElem_map, List.getElem_range, List.getElem_replicate]
    have hlt : i % 8 < 8 := Nat.mod_lt _ (by omega)
    show #[Value.int .u64 0, .int .u64 0, .int .u64 0, .int .u64 0, .int .u64 0, .int .u64 0, .int .u64 0, .int .u64 0][i % 8]! = _
    generalize i % 8 = r at hlt
    match r, hlt with
    | 0, _ => rfl
    | 1, _ => rfl
    | 2, _ => rfl
    | 3, _ => rfl
    | 4, _ => rfl
    | 5, _ => rfl
    | 6, _ => rfl
    | 7, _ => rfl

set_option maxRecDepth 100000 in
theorem frame_new (n : Nat) (tag : Nat → Nat) (w : World) (h1 : 1 ≤ n) (h2 : n ≤ 256) (hF : Fresh tag w) :
    Calls Try.prog 41 #[.int .i64 n] w fun e w' => ∃ (a : Nat) (tag' : Nat → Nat), e = .returned (.pointer (some ⟨a, 0, none⟩)) ∧ HostR 1 tag' w' a n (List.replicate (8 * n) 0) ∧ Mod [] tag tag' w w' ∧ Fresh tag' w' := by
  obtain ⟨i0, hi0, hz0, hz1, hz2⟩ := info_parts info_frame
  have hmk : ∀ W : World, (Instr.makeSlice 129 (.int .i64 n) (.int .i64 n)).run Try.prog W = .ok (.slice (some ⟨W.heap.size, 0, none⟩) n n) (W.alloc (.cells ((List.replicate (n * 8) (0 : Int)).map (Value.int .u64)).toArray 154)) := by
    intro W
    have h := run_makeSlice (P := Try.prog) (w := W) 129 154 i0 _ Try.underlying129 hi0 hz0 .i64 .i64 n n (by omega) (by omega) (by rw [hz1]; simp; omega) (by rw [hz2]; omega) (by omega)
    rw [hz1] at h
    have e : madeCells (Value.agg #[.int .u64 0, .int .u64 0, .int .u64 0, .int .u64 0, .int .u64 0, .int .u64 0, .int .u64 0, .int .u64 0]).cells ((n : Int).toNat * 8) = ((List.replicate (n * 8) (0 : Int)).map (Value.int .u64)).toArray := made_zero _
    rw [e] at h
    exact h
  have hd := Blk.new w 154 ((List.replicate (n * 8) (0 : Int)).map (Value.int .u64)).toArray
  generalize hZ : ((List.replicate (n * 8) (0 : Int)).map (Value.int .u64)).toArray = Z at *
  have HZ := Lib.hid hZ
  clear hZ
  go_enter Try.func41, Try.ntmps41
  go_wp2_with fail
  go_ret
  refine ⟨w.heap.size + 1, upd (upd tag w.heap.size 2) (w.heap.size + 1) 1, rfl, ⟨w.heap.size, upd_same _ _ _, Blk.new2 _ _ _ _, (upd_other (by omega)).trans (upd_same _ _ _), ?_, by simp, h2⟩, ((((Mod.refl [] tag w).alloc _).alloc _).retag (Nat.le_refl _) 2).retag (by omega) 1, ?_⟩
  · have h3 : 8 * n = n * 8 := Nat.mul_comm _ _
    rw [h3, HZ.out]
    exact hd.alloc _
  · exact ((hF.mono (by simp; omega)).upd_ (by simp; omega)).upd_ (by simp)

set_option maxRecDepth 100000 in
theorem tlb_new (n : Nat) (tag : Nat → Nat) (w : World) (h1 : 1 ≤ n) (h2 : n ≤ 512) (hF : Fresh tag w) :
    Calls Try.prog 44 #[.int .i64 n] w fun e w' => ∃ (a : Nat) (tag' : Nat → Nat), e = .returned (.pointer (some ⟨a, 0, none⟩)) ∧ TlbR 12 tag' w' a n [] ∧ Mod [] tag tag' w w' ∧ Fresh tag' w' := by
  go_enter Try.func44, Try.ntmps44
  go_wp2_with fail
  go_ret
  refine ⟨w.heap.size, upd tag w.heap.size 12, rfl, ⟨_, upd_same _ _ _, Blk.new _ _ _, Row.nil _ _ _ _ _⟩, ((Mod.refl [] tag w).alloc _).retag (Nat.le_refl _) 12, (hF.mono (by simp)).upd_ (by simp)⟩

set_option maxRecDepth 100000 in
theorem free_new (first many : Nat) (tag : Nat → Nat) (w : World) (h1 : first + many ≤ 256) (hF : Fresh tag w) :
    Calls Try.prog 81 #[.int .i64 first, .int .i64 many] w fun e w' => ∃ (a : Nat) (tag' : Nat → Nat), e = .returned (.pointer (some ⟨a, 0, none⟩)) ∧ FreeR 9 tag' w' a ⟨first, many, 0, [], []⟩ ∧ Mod [] tag tag' w w' ∧ Fresh tag' w' := by
  have hmm := @run_makeMap Try.prog
  go_enter Try.func81, Try.ntmps81
  go_wp2_with fail
  go_ret
  have hk : KeysR (w.alloc (.map #[] 0)) w.heap.size [] := ⟨.map [], World.ownsMap_made w _ _ _, Maps.tidy_empty, fun x => by simp [Maps.has], rfl⟩
  have hk2 : KeysR ((w.alloc (.map #[] 0)).alloc (.cells #[.int .i64 first, .int .i64 many, .int .i64 0, .slice none 0 0, .map (some w.heap.size)] 157)) w.heap.size [] := hk.block (Below.heap_alloc _ _ _ (by simp))
  refine ⟨w.heap.size + 1, upd (upd tag w.heap.size 11) (w.heap.size + 1) 9, rfl, ⟨_, w.heap.size, upd_same _ _ _, Blk.new2 _ _ _ _, Row.nil _ _ _ _ _, (upd_other (by omega)).trans (upd_same _ _ _), hk2⟩, ((((Mod.refl [] tag w).alloc _).alloc _).retag (Nat.le_refl _) 11).retag (by omega) 9, ((hF.mono (by simp; omega)).upd_ (by simp; omega)).upd_ (by simp)⟩

theorem freeOk0 (first many : Nat) (h1 : first + many ≤ 256) : FreeOk ⟨first, many, 0, [], []⟩ :=
  ⟨by simp, by simp; omega, by simp; omega, by simp, by simp, by simp, by simp, by simp⟩

set_option maxRecDepth 100000 in
theorem store_new (bF n first many : Nat) (tag : Nat → Nat) (ws : List Int) (w : World) (hH : HostR 1 tag w bF n ws) (h1 : first + many ≤ n) (hF : Fresh tag w) :
    Calls Try.prog 45 #[.pointer (some ⟨bF, 0, none⟩), .int .i64 first, .int .i64 many] w fun e w' => ∃ (a bL : Nat) (tag' : Nat → Nat), e = .returned (.pointer (some ⟨a, 0, none⟩)) ∧
      SF tag' w' a bF bL (.slice none 0 0) [] [] n ws ⟨first, many, 0, [], []⟩ ∧ Mod [] tag tag' w w' ∧ Fresh tag' w' := by
  have hn : n ≤ 256 := by obtain ⟨d, _, _, _, _, _, h⟩ := hH; exact h
  go_enter Try.func45, Try.ntmps45
  go_wp2_with fail
  refine (free_new first many tag _ (by omega) hF).mono ?_
  rintro e w1 ⟨bL, tag1, rfl, hL1, hM1, hF1⟩
  have hH1 := hH.mod hM1 (by simp) (by simp)
  go_wp2_with fail
  refine (frame_frames 1 bF n tag1 ws _ hH1).mono ?_
  rintro e w2 ⟨rfl, rfl⟩
  go_wp2_with fail
  go_ret
  have hM2 : Mod [] tag1 (upd tag1 w1.heap.size 6) w1 (w1.alloc (.cells #[.pointer (some ⟨bF, 0, none⟩), .pointer (some ⟨bL, 0, none⟩), .slice none 0 0] 115)) := ((Mod.refl [] tag1 w1).alloc _).retag (Nat.le_refl _) 6
  refine ⟨w1.heap.size, bL, upd tag1 w1.heap.size 6, rfl, ⟨⟨⟨upd_same _ _ _, Blk.new _ _ _, ⟨rfl, List.nodup_nil, Row.nil _ _ _ _ _, by simp⟩⟩, hH1.mod hM2 (by simp) (by simp), by simp⟩, hL1.mod hM2 (by simp) (by simp) (by simp), freeOk0 first many (by omega)⟩, hM1.trans hM2, (hF1.mono hM2.size).upd_ (by simp)⟩

set_option maxRecDepth 100000 in
theorem guest_new (bF bM : Nat) (tag : Nat → Nat) (w : World) (hF : Fresh tag w) :
    Calls Try.prog 46 #[.pointer (some ⟨bF, 0, none⟩), .pointer (some ⟨bM, 0, none⟩)] w fun e w' => ∃ (a : Nat) (tag' : Nat → Nat), e = .returned (.pointer (some ⟨a, 0, none⟩)) ∧
      (tag' a = 16 ∧ Blk w' a 120 #[.pointer (some ⟨bM, 0, none⟩), .pointer (some ⟨bF, 0, none⟩)]) ∧ Mod [] tag tag' w w' ∧ Fresh tag' w' := by
  go_enter Try.func46, Try.ntmps46
  go_wp2_with fail
  go_ret
  exact ⟨w.heap.size, upd tag w.heap.size 16, rfl, ⟨upd_same _ _ _, Blk.new _ _ _⟩, ((Mod.refl [] tag w).alloc _).retag (Nat.le_refl _) 16, (hF.mono (by simp)).upd_ (by simp)⟩

/-- a guard: the struct's block (tag 14), the loose frames' row (15) -/
def GuardR (tag : Nat → Nat) (w : World) (d bG bM a bT : Nat) (loose : List Int) : Prop :=
  ∃ v, tag d = 14 ∧ Blk w d 95 #[.pointer (some ⟨bG, 0, none⟩), .pointer (some ⟨bM, 0, none⟩), .pointer (some ⟨a, 0, none⟩), .pointer (some ⟨bT, 0, none⟩), v] ∧ Row 15 tag w 3 1 v loose.length (loose.map (Value.int .i64))

theorem GuardR.mod {tag tag' : Nat → Nat} {w w' : World} {d bG bM a bT : Nat} {loose : List Int} {T : List Nat} (h : GuardR tag w d bG bM a bT loose) (hm : Mod T tag tag' w w') (h0 : 14 ∉ T) (h1 : 15 ∉ T) : GuardR tag' w' d bG bM a bT loose := by
  obtain ⟨v, ha, hA, hr⟩ := h
  exact ⟨v, hm.tagOf hA ha, hA.mod hm (by rw [ha]; exact h0), hr.mod hm h1⟩

set_option maxRecDepth 100000 in
theorem guard_new (bG bM a bT : Nat) (tag : Nat → Nat) (w : World) (hF : Fresh tag w) :
    Calls Try.prog 47 #[.pointer (some ⟨bG, 0, none⟩), .pointer (some ⟨bM, 0, none⟩), .pointer (some ⟨a, 0, none⟩), .pointer (some ⟨bT, 0, none⟩)] w fun e w' => ∃ (d : Nat) (tag' : Nat → Nat), e = .returned (.pointer (some ⟨d, 0, none⟩)) ∧
      GuardR tag' w' d bG bM a bT [] ∧ Mod [] tag tag' w w' ∧ Fresh tag' w' := by
  go_enter Try.func47, Try.ntmps47
  go_wp2_with fail
  go_ret
  exact ⟨w.heap.size, upd tag w.heap.size 14, rfl, ⟨_, upd_same _ _ _, Blk.new _ _ _, Row.nil _ _ _ _ _⟩, ((Mod.refl [] tag w).alloc _).retag (Nat.le_refl _) 14, (hF.mono (by simp)).upd_ (by simp)⟩
end Go.Proofs.Ytbmbgicdnegkfaa
