/- The walks over package mound, sixth part: Insert. -/
import Derived.Test.YtnpglcbkpbhnoaaMoundE
namespace Go.Proofs.Ytnpglcbkpbhnoaa
open Go.RowKit Kq

theorem way_at (leaf : Nat) (k : Nat) (hk : k < 6) : gt (wayTo (leaf : Int)) k = (wayN leaf k : Nat) := by
  rcases (show k = 0 ∨ k = 1 ∨ k = 2 ∨ k = 3 ∨ k = 4 ∨ k = 5 by omega) with rfl | rfl | rfl | rfl | rfl | rfl <;> simp [gt, wayTo, wayN]
theorem wayN_bd (leaf k : Nat) (hk : k < 6) (h0 : 32 ≤ leaf) (h1 : leaf ≤ 63) : 1 ≤ wayN leaf k ∧ wayN leaf k < 64 := by
  rcases (show k = 0 ∨ k = 1 ∨ k = 2 ∨ k = 3 ∨ k = 4 ∨ k = 5 by omega) with rfl | rfl | rfl | rfl | rfl | rfl <;> simp [wayN] <;> omega

theorem item_info : (Try.prog.info? 52).map (fun i => (i.zero, i.size, i.bytes)) = some (some (.agg #[.int .i64 0, .int .i64 0]), 2, 16) := by kernel_rfl

theorem MoundR.mono {T T' : Nat} {w : World} {bO bL : Nat} {ls : ML} {size : Int} (h : MoundR T w bO bL ls size) (hT : T ≤ T') : MoundR T' w bO bL ls size := by
  obtain ⟨hO, hl, vs, hl0, hL, hI⟩ := h
  refine ⟨hO, hl, vs, hl0, hL, fun i hi => ?_⟩
  obtain ⟨A, cap, e, hc, h⟩ := hI i hi
  refine ⟨A, cap, e, hc, ?_⟩
  rcases h with h | ⟨g, off, cs, e1, ⟨hg, hb⟩, h⟩
  · exact .inl h
  · exact .inr ⟨g, off, cs, e1, ⟨by omega, hb⟩, h⟩

/-- Items as cells. -/
def itemCells (l : List Itm) : List Value := l.flatMap fun x => [.int .i64 x.1, .int .i64 x.2]
theorem itemCells_length (l : List Itm) : (itemCells l).length = l.length * 2 := by
  induction l with
  | nil => rfl
  | cons x r ih => simp only [itemCells, List.flatMap_cons, List.length_append, List.length_cons, List.length_nil] at ih ⊢; omega
theorem itemCells_get : ∀ (l : List Itm) (j : Nat), j < l.length → (itemCells l)[2 * j]? = some (.int .i64 (l.getD j (0, 0)).1) ∧ (itemCells l)[2 * j + 1]? = some (.int .i64 (l.getD j (0, 0)).2) := by
  intro l
  induction l with
  | nil => intro j h; simp at h
  | cons x r ih =>
    intro j h
    cases j with
    | zero => simp [itemCells]
    | succ k =>
      have := ih k (by simpa using h)
      simp only [itemCells, List.flatMap_cons, Nat.mul_succ] at this ⊢
      simpa using this
theorem itemCells_one (l : List Itm) : ∀ u ∈ itemCells l, u.oneCell' = true := by
  intro u hu
  simp only [itemCells, List.mem_flatMap, List.mem_cons, List.not_mem_nil, or_false] at hu
  obtain ⟨x, _, rfl | rfl⟩ := hu <;> simp [Value.oneCell']

theorem items_of_owns {T : Nat} {w : World} {base g cap n : Nat} {l : List Itm} (h : w.ownsRow base 52 2 (.slice (some ⟨g, 0, none⟩) n cap) n (itemCells l)) (hn : n = l.length) (hg : g < T) : ItemsAt T w (.slice (some ⟨g, 0, none⟩) n cap) l := by
  rcases h.2 with ⟨h1, _⟩ | ⟨g', cap', cur, h1, hb', hb, hc, hcap, hsz, htk⟩
  · cases h1
  · cases h1
    refine ⟨_, cap, by rw [hn], by omega, .inr ⟨g, 0, cur, rfl, ⟨hg, hb⟩, fun j hj => ?_⟩⟩
    have hgt : ∀ q, q < n * 2 → cur[q]? = (itemCells l)[q]? := by
      intro q hq
      have := congrArg (fun L => L[q]?) htk
      simp only [List.getElem?_take, if_pos hq] at this
      rw [← this]
      simp
    have hg2 := itemCells_get l j hj
    rw [hgt _ (by omega), hgt _ (by omega), Nat.zero_add]
    exact hg2
theorem news_of_items {w : World} {g off : Nat} {cs : Array Value} {l : List Itm} (hb : Blk w g 52 cs) (h : ∀ j, j < l.length → cs[off + 2 * j]? = some (.int .i64 (l.getD j (0, 0)).1) ∧ cs[off + 2 * j + 1]? = some (.int .i64 (l.getD j (0, 0)).2)) :
    ∀ j u, (itemCells l)[j]? = some u → w.cell? ((⟨g, off, none⟩ : Addr).add j) = some u := by
  intro j u hu
  have hj : j < l.length * 2 := by
    rcases Nat.lt_or_ge j (l.length * 2) with h | h
    · exact h
    · rw [List.getElem?_eq_none (by rw [itemCells_length]; omega)] at hu; cases hu
  have hadd : (⟨g, off, none⟩ : Addr).add j = ⟨g, off + j, none⟩ := by unfold Addr.add; split <;> simp_all
  rw [hadd, hb.cell]
  have h1 := h (j / 2) (by omega)
  have h2 := itemCells_get l (j / 2) (by omega)
  rcases Nat.mod_two_eq_zero_or_one j with e | e
  · have ej : j = 2 * (j / 2) := by omega
    rw [ej] at hu ⊢
    rw [h2.1] at hu
    rw [← hu]
    exact h1.1
  · have ej : j = 2 * (j / 2) + 1 := by omega
    rw [ej] at hu ⊢
    rw [h2.2] at hu
    rw [← hu, ← Nat.add_assoc]
    exact h1.2

theorem step_append_nothing {P : Program} {w : World} {ops : Array Oper} {o : Oper} {a : Act} {K : Act → World → Prop} {Q : Exit → Act → World → Prop} {E : Prop} (hgd : o.guard = none) (s x : Operand) (t : TypeId)
    (ho : o.op = .call { callee := .builtin .append, args := #[s, x], argTypes := #[t, t] }) (e : TypeId) (i : TypeInfo) (ht : P.underlying t = some (.slice e)) (hi : P.info? e = some i)
    (B A : Option Addr) (m cap c : Nat) (hle : m ≤ cap) (hs : a.eval s = .slice B m cap) (hx : a.eval x = .slice A 0 c) (h : K (a.put o.dst (.slice B m cap)) w) :
    if Region.wanted o (yielded ops a.tmps) = true then Oper.wp P o a w K Q else E := by
  have hw : Region.wanted o (yielded ops a.tmps) = true := by simp [Region.wanted, hgd]
  rw [if_pos hw]
  have hrun : (Builtin.append_ #[t, t] o.type #[.slice B m cap, .slice A 0 c]).run P w = .ok (.slice B m cap) w := by
    cases B <;> cases A <;> simp [Builtin.append_, run_underlying ht, sizeOf, typeInfo, hi, Builtin.lenOf, Builtin.firstCells, hle, storeCells, loadCells, loadCellsFrom]
  unfold Oper.wp
  simp [execOp, ho, resolve, invoke, builtin, hs, hx, hrun, Result.andThen]
  exact h

theorem insert_nil_only {wr : World} (bO bL : Nat) (x : Itm) (pl : Nat) (n : Int) :
    Only [bO, bL] wr (((wr.setCell ⟨bL, pl, none⟩ (.slice (some ⟨wr.heap.size, 0, none⟩) 1 1)).setCell ⟨bO, 1, none⟩ (.int .i64 n)).alloc (.cells #[.int .i64 x.1, .int .i64 x.2] 52)).drew :=
  ((((Only.refl _ _).setCell (by simp) _).setCell (by simp) _).alloc _).drew
theorem insert_nil {T : Nat} {wr : World} {bO bL : Nat} {ls : ML} {size : Int} (h : MoundR T wr bO bL ls size) (hT : T ≤ wr.heap.size) (x : Itm) (pl : Nat) (hp : pl < 64) (hn : at1 ls pl = []) (vs : List Value) (hL : Blk wr bL 88 vs.toArray)
    (hO : Blk wr bO 72 #[.slice (some ⟨bL, 0, none⟩) 64 64, .int .i64 size]) :
    MoundR ((((wr.setCell ⟨bL, pl, none⟩ (.slice (some ⟨wr.heap.size, 0, none⟩) 1 1)).setCell ⟨bO, 1, none⟩ (.int .i64 (size + 1))).alloc (.cells #[.int .i64 x.1, .int .i64 x.2] 52)).drew).heap.size
      ((((wr.setCell ⟨bL, pl, none⟩ (.slice (some ⟨wr.heap.size, 0, none⟩) 1 1)).setCell ⟨bO, 1, none⟩ (.int .i64 (size + 1))).alloc (.cells #[.int .i64 x.1, .int .i64 x.2] 52)).drew) bO bL (mInsert ls x pl) (size + 1) := by
  have nOL : bO ≠ bL := Blk.ne_ hO hL (by decide)
  have hsz : ((((wr.setCell ⟨bL, pl, none⟩ (.slice (some ⟨wr.heap.size, 0, none⟩) 1 1)).setCell ⟨bO, 1, none⟩ (.int .i64 (size + 1))).alloc (.cells #[.int .i64 x.1, .int .i64 x.2] 52)).drew).heap.size = wr.heap.size + 1 := by simp [World.setCell]
  refine (h.mono (T' := ((((wr.setCell ⟨bL, pl, none⟩ (.slice (some ⟨wr.heap.size, 0, none⟩) 1 1)).setCell ⟨bO, 1, none⟩ (.int .i64 (size + 1))).alloc (.cells #[.int .i64 x.1, .int .i64 x.2] 52)).drew).heap.size) (by omega)).put (insert_nil_only bO bL x pl (size + 1)) pl (x :: at1 ls pl) (.slice (some ⟨wr.heap.size, 0, none⟩) 1 1) (size + 1) ?_ hL ?_ ?_ hp
  · exact Blk.eqs ((((hO.far nOL _).set_ 1 _).alloc _).drew) rfl
  · exact Blk.eqs ((((hL.set_ pl _).far (Ne.symm nOL) _).alloc _).drew) (by simp)
  · rw [hn]
    refine ⟨_, 1, rfl, Nat.le_refl _, .inr ⟨wr.heap.size, 0, #[.int .i64 x.1, .int .i64 x.2], rfl, ⟨by omega, Blk.drew (Blk.new' _ _ _ (by simp [World.setCell]))⟩, fun j hj => ?_⟩⟩
    have : j = 0 := by simpa using hj
    subst this
    simp

theorem insert_cons {T : Nat} {wr w6 : World} {bO bL : Nat} {ls : ML} {size : Int} (h : MoundR T wr bO bL ls size) (hT : T ≤ wr.heap.size) (x : Itm) (pl : Nat) (hp : pl < 64) {vs : List Value} (hL : Blk wr bL 88 vs.toArray)
    (hO : Blk wr bO 72 #[.slice (some ⟨bL, 0, none⟩) 64 64, .int .i64 size]) (hO6 : Blk w6 bO 72 #[.slice (some ⟨bL, 0, none⟩) 64 64, .int .i64 size]) (hL6 : Blk w6 bL 88 vs.toArray)
    (hgrow : ((wr.alloc (.cells #[.int .i64 x.1, .int .i64 x.2] 52)).drew).grownBy w6 (Value.slice (some ⟨wr.heap.size, 0, none⟩) 1 1).ownBlock) {g2 cap2 m : Nat} {news : List Value}
    (hown : w6.ownsRow wr.heap.size 52 2 (.slice (some ⟨g2, 0, none⟩) (1 + m) cap2) (1 + m) ([.int .i64 x.1, .int .i64 x.2] ++ news)) (hm : (at1 ls pl).length = m) (hn : itemCells (x :: at1 ls pl) = [.int .i64 x.1, .int .i64 x.2] ++ news) (hlt : g2 < w6.heap.size) :
    MoundR ((w6.setCell ⟨bL, pl, none⟩ (.slice (some ⟨g2, 0, none⟩) (1 + m) cap2)).setCell ⟨bO, 1, none⟩ (.int .i64 (size + 1))).heap.size ((w6.setCell ⟨bL, pl, none⟩ (.slice (some ⟨g2, 0, none⟩) (1 + m) cap2)).setCell ⟨bO, 1, none⟩ (.int .i64 (size + 1))) bO bL (mInsert ls x pl) (size + 1) ∧
      Only [bO, bL] wr ((w6.setCell ⟨bL, pl, none⟩ (.slice (some ⟨g2, 0, none⟩) (1 + m) cap2)).setCell ⟨bO, 1, none⟩ (.int .i64 (size + 1))) := by
  have nOL : bO ≠ bL := Blk.ne_ hO hL (by decide)
  have o6 : Only [bO, bL] wr w6 := (((Only.refl [bO, bL] wr).alloc (.cells #[.int .i64 x.1, .int .i64 x.2] 52)).drew).grown hgrow (fun g hg => by simp [Value.ownBlock] at hg; subst hg; exact .inr (Nat.le_refl _))
  have o7 : Only [bO, bL] wr ((w6.setCell ⟨bL, pl, none⟩ (.slice (some ⟨g2, 0, none⟩) (1 + m) cap2)).setCell ⟨bO, 1, none⟩ (.int .i64 (size + 1))) := (o6.setCell (by simp) _).setCell (by simp) _
  have hsz : ((w6.setCell ⟨bL, pl, none⟩ (.slice (some ⟨g2, 0, none⟩) (1 + m) cap2)).setCell ⟨bO, 1, none⟩ (.int .i64 (size + 1))).heap.size = w6.heap.size := by simp [World.setCell]
  refine ⟨?_, o7⟩
  rw [← hn] at hown
  have hI := items_of_owns (T := w6.heap.size) (l := x :: at1 ls pl) hown (by simp [hm]; omega) hlt
  refine (h.mono (T' := ((w6.setCell ⟨bL, pl, none⟩ (.slice (some ⟨g2, 0, none⟩) (1 + m) cap2)).setCell ⟨bO, 1, none⟩ (.int .i64 (size + 1))).heap.size) (by have := o6.size; omega)).put o7 pl (x :: at1 ls pl) (.slice (some ⟨g2, 0, none⟩) (1 + m) cap2) (size + 1) ?_ hL ?_ ?_ hp
  · exact Blk.eqs ((hO6.far nOL _).set_ 1 _) rfl
  · exact Blk.eqs ((hL6.set_ pl _).far (Ne.symm nOL) _) (by simp)
  · rw [hsz]
    refine hI.of_same fun g cs _ hb => ?_
    exact (hb.far (Blk.ne_ hb hL6 (by decide)) _).far (Blk.ne_ hb hO6 (by decide)) _

section
variable {T : Nat} {w : World} {bO bL : Nat} {ls : ML} {size : Int}

def InsRel (w : World) (ls : ML) (key : Int) (leaf : Nat) (low high : Value) (wr : World) : Prop :=
  ∃ (l h f : Nat) (n : Nat), low = .int .i64 l ∧ high = .int .i64 h ∧ wr = w.drewN n ∧ l ≤ h ∧ h ≤ 5 ∧ h - l < f ∧ mHalves ls key leaf (0, 5) 6 = mHalves ls key leaf (l, h) f

set_option maxRecDepth 100000 in
set_option maxHeartbeats 800000 in
theorem insert_any {x : Itm} {v : Value} {ds : List Int} (h : MoundR T w bO bL ls size) (hT : T ≤ w.heap.size) (hv : ArgI w v ds) (hs : 0 ≤ size) (hs2 : size ≤ 4096) (hl : 32 ≤ mLeaf ls x.1 ds ∧ mLeaf ls x.1 ds ≤ 63)
    (hlen : (at1 ls (mPlace ls x.1 (mLeaf ls x.1 ds))).length ≤ 4096) :
    Calls Try.prog 19 #[.pointer (some ⟨bO, 0, none⟩), .agg #[.int .i64 x.1, .int .i64 x.2], v] w fun e w' => e = .returned (.bool true) ∧ MoundR w'.heap.size w' bO bL (mInsert ls x (mPlace ls x.1 (mLeaf ls x.1 ds))) (size + 1) ∧ Only [bO, bL] w w' := by
  have hA := (Below.refl w.heap.size w).alloc (Nat.le_refl _) (.cells #[.int .i64 x.1, .int .i64 x.2] 52)
  have HLf := Lib.hid (leaf_any x.1 (h.below hA) (hv.below hA))
  have HH := Lib.hid (h.below hA)
  have HX : Blk (w.alloc (.cells #[.int .i64 x.1, .int .i64 x.2] 52)) w.heap.size 52 #[.int .i64 x.1, .int .i64 x.2] := Blk.new _ _ _
  clear h hv
  obtain ⟨leaf, hleaf⟩ : ∃ leaf, mLeaf ls x.1 ds = leaf := ⟨_, rfl⟩
  rw [hleaf] at hl hlen HLf ⊢
  clear hleaf
  obtain ⟨hl0, hl1⟩ := hl
  have hl2 : ((leaf : Int) == 0) = false := by simp; omega
  have hl3 : ¬ leaf = 0 := by omega
  have HWay := fun w => Lib.hid (way_any (leaf : Int) (by omega) (by omega) w)
  generalize hwA : (w.alloc (.cells #[.int .i64 x.1, .int .i64 x.2] 52)) = wA at *
  go_enter Try.func19, Try.ntmps19
  have a0 : wA.cell? ⟨w.heap.size, 0, none⟩ = some (.int .i64 x.1) := HX.cell 0
  have a1 : wA.cell? ⟨w.heap.size, 1, none⟩ = some (.int .i64 x.2) := HX.cell 1
  go_wp2_with fail
  clear hwA
  refine HLf.out.mono ?_
  rintro e w' ⟨rfl, rfl⟩
  go_wp2_with fail
  refine (HWay _).out.mono ?_
  rintro e w1 ⟨pv, rfl, hp, hbp⟩
  obtain ⟨gp, cp, rfl, hgp, dp, _⟩ := owns_at (xs := wayTo leaf) hp (by show 0 < 6; decide)
  have HX1 := HX.of_eq (hbp.block _ HX.lt)
  have HM1 := Lib.hid (HH.out.below hbp)
  have x0 : w1.cell? ⟨w.heap.size, 0, none⟩ = some (.int .i64 x.1) := HX1.cell 0
  have x1 : w1.cell? ⟨w.heap.size, 1, none⟩ = some (.int .i64 x.2) := HX1.cell 1
  have hl6 : (wayTo (leaf : Int)).length = 6 := rfl
  rw [hl6] at hp dp ⊢
  go_wp2_with fail
  have HP := Lib.hid hp
  have HBP := Lib.hid hbp
  have HDP := Lib.hid dp
  have HX1H := Lib.hid HX1
  clear hp hbp dp hl6
  go_loopw [9, 10] (fun low high wr => InsRel w1 ls x.1 leaf low high wr) (fun low high _ => (intOf high).toNat - (intOf low).toNat)
  case atStart => exact ⟨0, 5, 6, 0, rfl, rfl, rfl, by omega, by omega, by omega, rfl⟩
  case round =>
    obtain ⟨l, hh, f, n, rfl, rfl, hwr, hlh, hh5, hf, hmh⟩ := hrel
    have HM2 : Hid (MoundR T wr bO bL ls size) := Lib.hid (by rw [hwr]; exact HM1.out.drewN n)
    have y0 : wr.cell? ⟨w.heap.size, 0, none⟩ = some (.int .i64 x.1) := by rw [hwr]; exact x0
    have y1 : wr.cell? ⟨w.heap.size, 1, none⟩ = some (.int .i64 x.2) := by rw [hwr]; exact x1
    have HDP2 : Hid (∀ j : Nat, j < 6 → wr.cell? ⟨gp, j, none⟩ = some (.int .i64 (gt (wayTo (leaf : Int)) j))) := Lib.hid (by rw [hwr]; exact HDP.out)
    have HWR := Lib.hid hwr
    clear hwr x0 x1
    by_cases hlt : l < hh
    · obtain ⟨f', rfl⟩ : ∃ f', f = f' + 1 := ⟨f - 1, by omega⟩
      obtain ⟨mid, hmid⟩ : ∃ mid, (l + hh) / 2 = mid := ⟨_, rfl⟩
      have hmi : ((l : Int) + hh) / 2 = (mid : Nat) := by omega
      have hmb : l ≤ mid ∧ mid < hh := by omega
      have hmb6 : mid < 6 := by omega
      have dm := HDP2.out mid hmb6
      rw [way_at leaf mid hmb6] at dm
      have hwb := wayN_bd leaf mid hmb6 hl0 hl1
      have hd : decide ((l : Int) < (hh : Int)) = true := by simp; omega
      have hi1 : (0 : Int) ≤ mid := by omega
      have hi2 : (mid : Int) < 6 := by omega
      by_cases hft : fitsL (at1 ls (wayN leaf mid)) x.1 = true
      · have HW : Hid (mHalves ls x.1 leaf (0, 5) 6 = mHalves ls x.1 leaf (l, mid) f') := Lib.hid (by
          rw [hmh]
          show (if l < hh then mHalves ls x.1 leaf (mHalf ls x.1 leaf (l, hh)) f' else _) = _
          rw [if_pos hlt]
          unfold mHalf
          simp only [hmid, hft, if_true])
        have HF2 := Lib.hid hft
        clear hmh hft
        go_wp2_with fail
        have HM3 := HM2.out
        go_region_held3 (fun w' => w'.cell? ⟨gp, mid, none⟩ = some (.int .i64 (wayN leaf mid : Nat)) ∧ w'.cell? ⟨w.heap.size, 0, none⟩ = some (.int .i64 x.1)) (first | go_keep)
          (first | (go_at_call 41; refine (mfits_any (by exact HM3) (wayN leaf mid) hwb.2 x.1).mono ?_; rintro e w' ⟨rfl, rfl⟩))
        rw [HF2.out]
        go_wp2_with fail
        go_roundw
        case rel => exact ⟨l, mid, f', _, rfl, rfl, by rw [HWR.out]; exact World.drewN_drewN .., by omega, by omega, by omega, HW.out⟩
        case measure => simp [intOf]; omega
      · have HW : Hid (mHalves ls x.1 leaf (0, 5) 6 = mHalves ls x.1 leaf (mid + 1, hh) f') := Lib.hid (by
          rw [hmh]
          show (if l < hh then mHalves ls x.1 leaf (mHalf ls x.1 leaf (l, hh)) f' else _) = _
          rw [if_pos hlt]
          unfold mHalf
          simp only [hmid, if_neg hft])
        have HF2 : Hid (fitsL (at1 ls (wayN leaf mid)) x.1 = false) := Lib.hid (by simpa using hft)
        clear hmh hft
        go_wp2_with fail
        have HM3 := HM2.out
        go_region_held3 (fun w' => w'.cell? ⟨gp, mid, none⟩ = some (.int .i64 (wayN leaf mid : Nat)) ∧ w'.cell? ⟨w.heap.size, 0, none⟩ = some (.int .i64 x.1)) (first | go_keep)
          (first | (go_at_call 41; refine (mfits_any (by exact HM3) (wayN leaf mid) hwb.2 x.1).mono ?_; rintro e w' ⟨rfl, rfl⟩))
        rw [HF2.out]
        go_wp2_with fail
        go_roundw
        case rel => exact ⟨mid + 1, hh, f', _, by go_num, rfl, by rw [HWR.out]; exact World.drewN_drewN .., by omega, by omega, by omega, HW.out⟩
        case measure => simp [intOf]; omega
    · have hlh2 : l = hh := by omega
      subst hlh2
      have hd : decide ((l : Int) < (l : Int)) = false := by simp
      have hl6 : l < 6 := by omega
      have HPl : Hid (mPlace ls x.1 leaf = wayN leaf l) := Lib.hid (by
        unfold mPlace
        rw [hmh]
        cases f with
        | zero => rfl
        | succ f' => show wayN leaf (if l < l then mHalves ls x.1 leaf (mHalf ls x.1 leaf (l, l)) f' else (l, l)).2 = _; rw [if_neg (by omega)])
      have dm := HDP2.out l hl6
      rw [way_at leaf l hl6] at dm
      have hwb := wayN_bd leaf l hl6 hl0 hl1
      rw [HPl.out] at hlen
      generalize hpl : wayN leaf l = pl at *
      clear hmh hlt hf hlh hh5
      obtain ⟨hO, hl64, vs, hvl, hL, hIs⟩ := id HM2.out
      have hp1 : (pl : Int) < 64 := by omega
      have hp2 : pl < 64 := hwb.2
      have m0 : wr.cell? ⟨bO, 0, none⟩ = some (.slice (some ⟨bL, 0, none⟩) 64 64) := hO.cell 0
      have m1 : wr.cell? ⟨bO, 1, none⟩ = some (.int .i64 size) := hO.cell 1
      have hv : wr.cell? ⟨bL, pl, none⟩ = some (vs.getD pl (.slice none 0 0)) := by
        rw [hL.cell pl, List.getElem?_toArray]; simp [List.getElem?_eq_getElem (show pl < vs.length by omega)]
      have hI1 := hIs pl hwb.2
      have fL := hL.frozen pl
      have fO := hO.frozen 1
      have nOL : bO ≠ bL := Blk.ne_ hO hL (by decide)
      have nLO : bL ≠ bO := Ne.symm nOL
      have ltL := hL.lt
      have ltO := hO.lt
      have HX2 : Hid (Blk wr w.heap.size 52 #[.int .i64 x.1, .int .i64 x.2]) := Lib.hid (by rw [HWR.out]; exact HX1H.out.drewN n)
      have ltX := HX2.out.lt
      have nXL : w.heap.size ≠ bL := Blk.ne_ HX2.out hL (by decide)
      have nXO : w.heap.size ≠ bO := Blk.ne_ HX2.out hO (by decide)
      have hTr : T ≤ wr.heap.size := by omega
      have HOw : Hid (Only [bO, bL] w wr) := Lib.hid (by rw [HWR.out]; exact ((Only.of_below hA rfl).trans (Only.of_below HBP.out rfl)).drewN n)
      obtain ⟨A, cap, ev, hcap, hII⟩ := hI1
      rw [ev] at hv
      obtain ⟨i0, hi, hz, h11, h8⟩ := info_parts item_info
      have HL := Lib.hid hL
      have HO2 := Lib.hid hO
      clear hL hO hIs hl64 hA HX HX1 HH HLf HDP HDP2 HP HBP HX1H HWay a0 a1 HM1 HWR hl2 hl3
      by_cases hnil : at1 ls pl = []
      · have hn0 : (at1 ls pl).length = 0 := by rw [hnil]; rfl
        rw [hn0] at hv
        have HN := Lib.hid hnil
        have hk3 : ∀ (u : Value) (o : Obj), ((wr.setCell ⟨bL, pl, none⟩ u).alloc o).drew.cell? ⟨bO, 0, none⟩ = some (.slice (some ⟨bL, 0, none⟩) 64 64) ∧ ((wr.setCell ⟨bL, pl, none⟩ u).alloc o).drew.cell? ⟨w.heap.size, 0, none⟩ = some (.int .i64 x.1) ∧ ((wr.setCell ⟨bL, pl, none⟩ u).alloc o).drew.cell? ⟨w.heap.size, 1, none⟩ = some (.int .i64 x.2) :=
          fun u o => ⟨Blk.cell (((HO2.out.far nOL u).alloc o).drew) 0, Blk.cell (((HX2.out.far nXL u).alloc o).drew) 0, Blk.cell (((HX2.out.far nXL u).alloc o).drew) 1⟩
        clear hII ev hnil hn0 hlen hcap
        go_wp2_with fail
        refine wp_region_held_drew (S := (fun w' => w'.cell? ⟨bO, 0, none⟩ = some (.slice (some ⟨bL, 0, none⟩) 64 64) ∧ w'.cell? ⟨w.heap.size, 0, none⟩ = some (.int .i64 x.1) ∧ w'.cell? ⟨w.heap.size, 1, none⟩ = some (.int .i64 x.2))) (by kernel_rfl) (by (try dsimp only); go_keep) (fun hHeld => ?_)
        refine wpAnyH_take (i := 0) (v := ?_) rfl (by kernel_rfl) (by kernel_rfl) (by kernel_rfl) (fun _ _ _ h => h) (Or.inl ⟨by rfl, ?_⟩) (by assumption) ?_
        rotate_left
        · intro wS hSw
          try dsimp only at hSw
          go_simp
          try with_reducible rfl
        try simp only [Act.put, List.setIfInBounds_toArray, List.set_cons_zero, List.set_cons_succ]
        refine wpAnyH_take (i := 1) (v := ?_) rfl (by kernel_rfl) (by kernel_rfl) (by kernel_rfl) (fun _ _ _ h => h) (Or.inl ⟨by rfl, ?_⟩) (by assumption) ?_
        rotate_left
        · intro wS hSw
          try dsimp only at hSw
          go_simp
          try with_reducible rfl
        try simp only [Act.put, List.setIfInBounds_toArray, List.set_cons_zero, List.set_cons_succ]
        refine wpAnyH_take (i := 2) (v := ?_) rfl (by kernel_rfl) (by kernel_rfl) (by kernel_rfl) (fun _ _ _ h => h) (Or.inl ⟨by rfl, ?_⟩) (by assumption) ?_
        rotate_left
        · intro wS hSw
          try dsimp only at hSw
          go_simp
          try with_reducible rfl
        try simp only [Act.put, List.setIfInBounds_toArray, List.set_cons_zero, List.set_cons_succ]
        refine wpAnyH_take (i := 3) (v := ?_) rfl (by kernel_rfl) (by kernel_rfl) (by kernel_rfl) (fun _ _ _ h => h) (Or.inl ⟨by rfl, ?_⟩) (by assumption) ?_
        rotate_left
        · intro wS hSw
          try dsimp only at hSw
          go_simp
          try with_reducible rfl
        try simp only [Act.put, List.setIfInBounds_toArray, List.set_cons_zero, List.set_cons_succ]
        refine wpAnyH_take (i := 4) (v := ?_) rfl (by kernel_rfl) (by kernel_rfl) (by kernel_rfl) (fun _ _ _ h => h) (Or.inl ⟨by rfl, ?_⟩) (by assumption) ?_
        rotate_left
        · intro wS hSw
          try dsimp only at hSw
          go_simp
          try with_reducible rfl
        try simp only [Act.put, List.setIfInBounds_toArray, List.set_cons_zero, List.set_cons_succ]
        refine wpAnyH_take (i := 5) (v := ?_) rfl (by kernel_rfl) (by kernel_rfl) (by kernel_rfl) (fun _ _ _ h => h) (Or.inl ⟨by rfl, ?_⟩) (by assumption) ?_
        rotate_left
        · intro wS hSw
          try dsimp only at hSw
          go_simp
          try with_reducible rfl
        try simp only [Act.put, List.setIfInBounds_toArray, List.set_cons_zero, List.set_cons_succ]
        refine wpAnyH_take (i := 7) (v := ?_) rfl (by kernel_rfl) (by kernel_rfl) (by kernel_rfl) (fun _ _ _ h => h) (Or.inl ⟨by rfl, ?_⟩) (by assumption) ?_
        rotate_left
        · intro wS hSw
          try dsimp only at hSw
          go_simp
          try with_reducible rfl
        try simp only [Act.put, List.setIfInBounds_toArray, List.set_cons_zero, List.set_cons_succ]
        refine wpAnyH_take (i := 8) (v := ?_) rfl (by kernel_rfl) (by kernel_rfl) (by kernel_rfl) (fun _ _ _ h => h) (Or.inl ⟨by rfl, ?_⟩) (by assumption) ?_
        rotate_left
        · intro wS hSw
          try dsimp only at hSw
          go_simp
          try with_reducible rfl
        try simp only [Act.put, List.setIfInBounds_toArray, List.set_cons_zero, List.set_cons_succ]
        refine wpAnyH_take (i := 9) (v := ?_) rfl (by kernel_rfl) (by kernel_rfl) (by kernel_rfl) (fun _ _ _ h => h) (Or.inl ⟨by rfl, ?_⟩) (by assumption) ?_
        rotate_left
        · intro wS hSw
          try dsimp only at hSw
          go_simp
          try with_reducible rfl
        try simp only [Act.put, List.setIfInBounds_toArray, List.set_cons_zero, List.set_cons_succ]
        refine wpAnyH_take (i := 10) (v := ?_) rfl (by kernel_rfl) (by kernel_rfl) (by kernel_rfl) (fun _ _ _ h => h) (Or.inl ⟨by rfl, ?_⟩) (by assumption) ?_
        rotate_left
        · intro wS hSw
          try dsimp only at hSw
          go_simp
          try with_reducible rfl
        try simp only [Act.put, List.setIfInBounds_toArray, List.set_cons_zero, List.set_cons_succ]
        refine wpAnyH_take (i := 11) (v := ?_) rfl (by kernel_rfl) (by kernel_rfl) (by kernel_rfl) (fun _ _ _ h => h) (Or.inl ⟨by rfl, ?_⟩) (by assumption) ?_
        rotate_left
        · intro wS hSw
          try dsimp only at hSw
          go_simp
          try with_reducible rfl
        try simp only [Act.put, List.setIfInBounds_toArray, List.set_cons_zero, List.set_cons_succ]
        refine wpAnyH_take (i := 12) (v := ?_) rfl (by kernel_rfl) (by kernel_rfl) (by kernel_rfl) (fun _ _ _ h => h) (Or.inl ⟨by rfl, ?_⟩) (by assumption) ?_
        rotate_left
        · intro wS hSw
          try dsimp only at hSw
          go_simp
          try with_reducible rfl
        try simp only [Act.put, List.setIfInBounds_toArray, List.set_cons_zero, List.set_cons_succ]
        refine wpAnyH_ready (rs := [6, 13]) (by kernel_rfl) (by simp) ?_
        refine AllReadyH.cons rfl (fun K hK => ?_) (AllReadyH.cons rfl (fun K hK => ?_) AllReadyH.nil)
        · skip
          go_simp
          refine hK.out _ _ ?_ (fun hHeld => ?_)
          · try dsimp only
            first | go_keep | exact hk3 _ _
          clear hK K
          try simp only [Act.put, List.setIfInBounds_toArray, List.set_cons_zero, List.set_cons_succ]
          refine wpAnyH_ready (rs := [13]) (by kernel_rfl) (by simp) ?_
          refine AllReadyH.cons rfl (fun K hK => ?_) AllReadyH.nil
          go_simp
          refine hK.out _ _ ?_ (fun hHeld => ?_)
          · try dsimp only
            first | go_keep | exact hk3 _ _
          clear hK K
          try simp only [Act.put, List.setIfInBounds_toArray, List.set_cons_zero, List.set_cons_succ]
          refine wpAnyH_ready (rs := [14]) (by kernel_rfl) (by simp) ?_
          refine AllReadyH.cons rfl (fun K hK => ?_) AllReadyH.nil
          refine step_append_nothing rfl (.tmp 55) (.tmp 62) 88 rfl 52 i0 Try.underlying88 hi (some ⟨wr.heap.size, 0, none⟩) A 1 1 cap (by omega) rfl rfl ?_
          refine hK.out _ _ ?_ (fun hHeld => ?_)
          · try dsimp only
            first | go_keep | exact hk3 _ _
          clear hK K
          try simp only [Act.put, List.setIfInBounds_toArray, List.set_cons_zero, List.set_cons_succ]
          refine wpAnyH_take (i := 15) (v := ?_) rfl (by kernel_rfl) (by kernel_rfl) (by kernel_rfl) (fun _ _ _ h => h) (Or.inl ⟨by rfl, ?_⟩) (by assumption) ?_
          rotate_left
          · intro wS hSw
            try dsimp only at hSw
            go_simp
            try with_reducible rfl
          try simp only [Act.put, List.setIfInBounds_toArray, List.set_cons_zero, List.set_cons_succ]
          refine wpAnyH_ready (rs := [16]) (by kernel_rfl) (by simp) ?_
          refine AllReadyH.cons rfl (fun K hK => ?_) AllReadyH.nil
          go_simp
          refine hK.out _ _ ?_ (fun hHeld => ?_)
          · try dsimp only
            first | go_keep | exact hk3 _ _
          clear hK K
          try simp only [Act.put, List.setIfInBounds_toArray, List.set_cons_zero, List.set_cons_succ]
          refine wpAnyH_done (by kernel_rfl) ?_ _
          go_wp2_with fail
          go_ret
          exact ⟨rfl, by rw [HPl.out]; exact insert_nil HM2.out hTr x pl hp2 HN.out vs HL.out HO2.out, HOw.out.trans (insert_nil_only bO bL x pl (size + 1))⟩
        · skip
          go_simp
          refine hK.out _ _ ?_ (fun hHeld => ?_)
          · try dsimp only
            first | go_keep | exact hk3 _ _
          clear hK K
          try simp only [Act.put, List.setIfInBounds_toArray, List.set_cons_zero, List.set_cons_succ]
          refine wpAnyH_ready (rs := [6]) (by kernel_rfl) (by simp) ?_
          refine AllReadyH.cons rfl (fun K hK => ?_) AllReadyH.nil
          go_simp
          refine hK.out _ _ ?_ (fun hHeld => ?_)
          · try dsimp only
            first | go_keep | exact hk3 _ _
          clear hK K
          try simp only [Act.put, List.setIfInBounds_toArray, List.set_cons_zero, List.set_cons_succ]
          refine wpAnyH_ready (rs := [14]) (by kernel_rfl) (by simp) ?_
          refine AllReadyH.cons rfl (fun K hK => ?_) AllReadyH.nil
          refine step_append_nothing rfl (.tmp 55) (.tmp 62) 88 rfl 52 i0 Try.underlying88 hi (some ⟨wr.heap.size, 0, none⟩) A 1 1 cap (by omega) rfl rfl ?_
          refine hK.out _ _ ?_ (fun hHeld => ?_)
          · try dsimp only
            first | go_keep | exact hk3 _ _
          clear hK K
          try simp only [Act.put, List.setIfInBounds_toArray, List.set_cons_zero, List.set_cons_succ]
          refine wpAnyH_take (i := 15) (v := ?_) rfl (by kernel_rfl) (by kernel_rfl) (by kernel_rfl) (fun _ _ _ h => h) (Or.inl ⟨by rfl, ?_⟩) (by assumption) ?_
          rotate_left
          · intro wS hSw
            try dsimp only at hSw
            go_simp
            try with_reducible rfl
          try simp only [Act.put, List.setIfInBounds_toArray, List.set_cons_zero, List.set_cons_succ]
          refine wpAnyH_ready (rs := [16]) (by kernel_rfl) (by simp) ?_
          refine AllReadyH.cons rfl (fun K hK => ?_) AllReadyH.nil
          go_simp
          refine hK.out _ _ ?_ (fun hHeld => ?_)
          · try dsimp only
            first | go_keep | exact hk3 _ _
          clear hK K
          try simp only [Act.put, List.setIfInBounds_toArray, List.set_cons_zero, List.set_cons_succ]
          refine wpAnyH_done (by kernel_rfl) ?_ _
          go_wp2_with fail
          go_ret
          exact ⟨rfl, by rw [HPl.out]; exact insert_nil HM2.out hTr x pl hp2 HN.out vs HL.out HO2.out, HOw.out.trans (insert_nil_only bO bL x pl (size + 1))⟩
      · rcases hII with hII | ⟨g, off, cs, rfl, ⟨hgT, hgB⟩, hII⟩
        · exact absurd hII hnil
        have hn0 : 0 < (at1 ls pl).length := List.length_pos_iff.2 hnil
        have HN : Hid (at1 ls pl = at1 ls pl) := Lib.hid rfl
        have hnw := news_of_items ((hgB.alloc (.cells #[.int .i64 x.1, .int .i64 x.2] 52)).drew) hII
        have hnl := itemCells_length (at1 ls pl)
        have hno := itemCells_one (at1 ls pl)
        have hcons : itemCells (x :: at1 ls pl) = [.int .i64 x.1, .int .i64 x.2] ++ itemCells (at1 ls pl) := rfl
        obtain ⟨lst, hlst⟩ : ∃ lst, at1 ls pl = lst := ⟨_, rfl⟩
        rw [hlst] at hnw hnl hno hv hlen hn0 hcap hcons
        have HLst := Lib.hid hlst
        generalize hm : lst.length = m at *
        generalize hnews : itemCells lst = news at *
        have HCons := Lib.hid hcons
        have HMl := Lib.hid hm
        have HNw := Lib.hid hnw
        have HNl := Lib.hid hnl
        have HNo := Lib.hid hno
        have f3 : 1 + m ≤ maxLen := by unfold maxLen; omega
        have f4 : (1 + m) * 16 ≤ 140737488355328 := by omega
        clear hII ev hnil hlen hlst hm hnews hcons hnw hnl hno
        go_wp2_with fail
        refine wp_region_held_drew (S := (fun w' => w'.cell? ⟨bO, 0, none⟩ = some (.slice (some ⟨bL, 0, none⟩) 64 64) ∧ w'.cell? ⟨w.heap.size, 0, none⟩ = some (.int .i64 x.1) ∧ w'.cell? ⟨w.heap.size, 1, none⟩ = some (.int .i64 x.2))) (by kernel_rfl) (by (try dsimp only); go_keep) (fun hHeld => ?_)
        refine wpAnyH_take (i := 0) (v := ?_) rfl (by kernel_rfl) (by kernel_rfl) (by kernel_rfl) (fun _ _ _ h => h) (Or.inl ⟨by rfl, ?_⟩) (by assumption) ?_
        rotate_left
        · intro wS hSw
          try dsimp only at hSw
          go_simp
          try with_reducible rfl
        try simp only [Act.put, List.setIfInBounds_toArray, List.set_cons_zero, List.set_cons_succ]
        refine wpAnyH_take (i := 1) (v := ?_) rfl (by kernel_rfl) (by kernel_rfl) (by kernel_rfl) (fun _ _ _ h => h) (Or.inl ⟨by rfl, ?_⟩) (by assumption) ?_
        rotate_left
        · intro wS hSw
          try dsimp only at hSw
          go_simp
          try with_reducible rfl
        try simp only [Act.put, List.setIfInBounds_toArray, List.set_cons_zero, List.set_cons_succ]
        refine wpAnyH_take (i := 2) (v := ?_) rfl (by kernel_rfl) (by kernel_rfl) (by kernel_rfl) (fun _ _ _ h => h) (Or.inl ⟨by rfl, ?_⟩) (by assumption) ?_
        rotate_left
        · intro wS hSw
          try dsimp only at hSw
          go_simp
          try with_reducible rfl
        try simp only [Act.put, List.setIfInBounds_toArray, List.set_cons_zero, List.set_cons_succ]
        refine wpAnyH_take (i := 3) (v := ?_) rfl (by kernel_rfl) (by kernel_rfl) (by kernel_rfl) (fun _ _ _ h => h) (Or.inl ⟨by rfl, ?_⟩) (by assumption) ?_
        rotate_left
        · intro wS hSw
          try dsimp only at hSw
          go_simp
          try with_reducible rfl
        try simp only [Act.put, List.setIfInBounds_toArray, List.set_cons_zero, List.set_cons_succ]
        refine wpAnyH_take (i := 4) (v := ?_) rfl (by kernel_rfl) (by kernel_rfl) (by kernel_rfl) (fun _ _ _ h => h) (Or.inl ⟨by rfl, ?_⟩) (by assumption) ?_
        rotate_left
        · intro wS hSw
          try dsimp only at hSw
          go_simp
          try with_reducible rfl
        try simp only [Act.put, List.setIfInBounds_toArray, List.set_cons_zero, List.set_cons_succ]
        refine wpAnyH_take (i := 5) (v := ?_) rfl (by kernel_rfl) (by kernel_rfl) (by kernel_rfl) (fun _ _ _ h => h) (Or.inl ⟨by rfl, ?_⟩) (by assumption) ?_
        rotate_left
        · intro wS hSw
          try dsimp only at hSw
          go_simp
          try with_reducible rfl
        try simp only [Act.put, List.setIfInBounds_toArray, List.set_cons_zero, List.set_cons_succ]
        refine wpAnyH_take (i := 7) (v := ?_) rfl (by kernel_rfl) (by kernel_rfl) (by kernel_rfl) (fun _ _ _ h => h) (Or.inl ⟨by rfl, ?_⟩) (by assumption) ?_
        rotate_left
        · intro wS hSw
          try dsimp only at hSw
          go_simp
          try with_reducible rfl
        try simp only [Act.put, List.setIfInBounds_toArray, List.set_cons_zero, List.set_cons_succ]
        refine wpAnyH_take (i := 8) (v := ?_) rfl (by kernel_rfl) (by kernel_rfl) (by kernel_rfl) (fun _ _ _ h => h) (Or.inl ⟨by rfl, ?_⟩) (by assumption) ?_
        rotate_left
        · intro wS hSw
          try dsimp only at hSw
          go_simp
          try with_reducible rfl
        try simp only [Act.put, List.setIfInBounds_toArray, List.set_cons_zero, List.set_cons_succ]
        refine wpAnyH_take (i := 9) (v := ?_) rfl (by kernel_rfl) (by kernel_rfl) (by kernel_rfl) (fun _ _ _ h => h) (Or.inl ⟨by rfl, ?_⟩) (by assumption) ?_
        rotate_left
        · intro wS hSw
          try dsimp only at hSw
          go_simp
          try with_reducible rfl
        try simp only [Act.put, List.setIfInBounds_toArray, List.set_cons_zero, List.set_cons_succ]
        refine wpAnyH_take (i := 10) (v := ?_) rfl (by kernel_rfl) (by kernel_rfl) (by kernel_rfl) (fun _ _ _ h => h) (Or.inl ⟨by rfl, ?_⟩) (by assumption) ?_
        rotate_left
        · intro wS hSw
          try dsimp only at hSw
          go_simp
          try with_reducible rfl
        try simp only [Act.put, List.setIfInBounds_toArray, List.set_cons_zero, List.set_cons_succ]
        refine wpAnyH_take (i := 11) (v := ?_) rfl (by kernel_rfl) (by kernel_rfl) (by kernel_rfl) (fun _ _ _ h => h) (Or.inl ⟨by rfl, ?_⟩) (by assumption) ?_
        rotate_left
        · intro wS hSw
          try dsimp only at hSw
          go_simp
          try with_reducible rfl
        try simp only [Act.put, List.setIfInBounds_toArray, List.set_cons_zero, List.set_cons_succ]
        refine wpAnyH_take (i := 12) (v := ?_) rfl (by kernel_rfl) (by kernel_rfl) (by kernel_rfl) (fun _ _ _ h => h) (Or.inl ⟨by rfl, ?_⟩) (by assumption) ?_
        rotate_left
        · intro wS hSw
          try dsimp only at hSw
          go_simp
          try with_reducible rfl
        try simp only [Act.put, List.setIfInBounds_toArray, List.set_cons_zero, List.set_cons_succ]
        refine wpAnyH_ready (rs := [6, 13]) (by kernel_rfl) (by simp) ?_
        refine AllReadyH.cons rfl (fun K hK => ?_) (AllReadyH.cons rfl (fun K hK => ?_) AllReadyH.nil)
        · skip
          go_simp
          refine hK.out _ _ ?_ (fun hHeld => ?_)
          · try dsimp only
            first | exact ⟨k0, k1, k2⟩ | exact ⟨Blk.cell (hO6.far nOL _) 0, Blk.cell (hX6.far nXL _) 0, Blk.cell (hX6.far nXL _) 1⟩ | go_keep
          clear hK K
          try simp only [Act.put, List.setIfInBounds_toArray, List.set_cons_zero, List.set_cons_succ]
          refine wpAnyH_ready (rs := [13]) (by kernel_rfl) (by simp) ?_
          refine AllReadyH.cons rfl (fun K hK => ?_) AllReadyH.nil
          go_simp
          refine hK.out _ _ ?_ (fun hHeld => ?_)
          · try dsimp only
            first | exact ⟨k0, k1, k2⟩ | exact ⟨Blk.cell (hO6.far nOL _) 0, Blk.cell (hX6.far nXL _) 0, Blk.cell (hX6.far nXL _) 1⟩ | go_keep
          clear hK K
          try simp only [Act.put, List.setIfInBounds_toArray, List.set_cons_zero, List.set_cons_succ]
          refine wpAnyH_ready (rs := [14]) (by kernel_rfl) (by simp) ?_
          refine AllReadyH.cons rfl (fun K hK => ?_) AllReadyH.nil
          refine step_append_lies _ rfl (.tmp 55) (.tmp 62) 88 rfl wr.heap.size 52 i0 (.agg #[.int .i64 0, .int .i64 0]) 2 16 Try.underlying88 hi hz h11 h8 rfl (by decide) (.slice (some ⟨wr.heap.size, 0, none⟩) 1 1) 1 [.int .i64 x.1, .int .i64 x.2] rfl (World.ownsRow.drew (World.ownsRow_lit wr #[.int .i64 x.1, .int .i64 x.2] 1 (Nat.le_refl _) (by decide) rfl)) ⟨g, off, none⟩ m cap news rfl HNl.out HNw.out HNo.out hn0 f3 f4 (by simp) _ rfl ?_; intro g2 cap2 w6 hown' hgrow hat hlt6; have hO6 := Blk.grown ((HO2.out.alloc (.cells #[.int .i64 x.1, .int .i64 x.2] 52)).drew) hgrow (by simp [Value.ownBlock]; omega); have hX6 := Blk.grown ((HX2.out.alloc (.cells #[.int .i64 x.1, .int .i64 x.2] 52)).drew) hgrow (by simp [Value.ownBlock]; omega); have hL6 := Blk.grown ((HL.out.alloc (.cells #[.int .i64 x.1, .int .i64 x.2] 52)).drew) hgrow (by simp [Value.ownBlock]; omega); have k0 : w6.cell? ⟨bO, 0, none⟩ = some (.slice (some ⟨bL, 0, none⟩) 64 64) := hO6.cell 0; have k00 : w6.cell? ⟨bO, 1, none⟩ = some (.int .i64 size) := hO6.cell 1; have k1 : w6.cell? ⟨w.heap.size, 0, none⟩ = some (.int .i64 x.1) := hX6.cell 0; have k2 : w6.cell? ⟨w.heap.size, 1, none⟩ = some (.int .i64 x.2) := hX6.cell 1; have k3 : w6.cell? ⟨bL, pl, none⟩ = some (.slice (some ⟨g, off, none⟩) m cap) := (hL6.cell pl).trans ((HL.out.cell pl).symm.trans hv); have k4 := hL6.frozen pl; have k5 := hO6.frozen 1
          refine hK.out _ _ ?_ (fun hHeld => ?_)
          · try dsimp only
            first | exact ⟨k0, k1, k2⟩ | exact ⟨Blk.cell (hO6.far nOL _) 0, Blk.cell (hX6.far nXL _) 0, Blk.cell (hX6.far nXL _) 1⟩ | go_keep
          clear hK K
          try simp only [Act.put, List.setIfInBounds_toArray, List.set_cons_zero, List.set_cons_succ]
          refine wpAnyH_take (i := 15) (v := ?_) rfl (by kernel_rfl) (by kernel_rfl) (by kernel_rfl) (fun _ _ _ h => h) (Or.inl ⟨by rfl, ?_⟩) (by assumption) ?_
          rotate_left
          · intro wS hSw
            try dsimp only at hSw
            go_simp
            try with_reducible rfl
          try simp only [Act.put, List.setIfInBounds_toArray, List.set_cons_zero, List.set_cons_succ]
          refine wpAnyH_ready (rs := [16]) (by kernel_rfl) (by simp) ?_
          refine AllReadyH.cons rfl (fun K hK => ?_) AllReadyH.nil
          go_simp
          refine hK.out _ _ ?_ (fun hHeld => ?_)
          · try dsimp only
            first | exact ⟨k0, k1, k2⟩ | exact ⟨Blk.cell (hO6.far nOL _) 0, Blk.cell (hX6.far nXL _) 0, Blk.cell (hX6.far nXL _) 1⟩ | go_keep
          clear hK K
          try simp only [Act.put, List.setIfInBounds_toArray, List.set_cons_zero, List.set_cons_succ]
          refine wpAnyH_done (by kernel_rfl) ?_ _
          go_wp2_with fail
          go_ret
          exact ⟨rfl, by rw [HPl.out]; exact (insert_cons HM2.out hTr x pl hp2 HL.out HO2.out hO6 hL6 hgrow hown' (by rw [HLst.out]; exact HMl.out) (by rw [HLst.out, HCons.out]) hlt6).1, HOw.out.trans (insert_cons HM2.out hTr x pl hp2 HL.out HO2.out hO6 hL6 hgrow hown' (by rw [HLst.out]; exact HMl.out) (by rw [HLst.out, HCons.out]) hlt6).2⟩
        · skip
          go_simp
          refine hK.out _ _ ?_ (fun hHeld => ?_)
          · try dsimp only
            first | exact ⟨k0, k1, k2⟩ | exact ⟨Blk.cell (hO6.far nOL _) 0, Blk.cell (hX6.far nXL _) 0, Blk.cell (hX6.far nXL _) 1⟩ | go_keep
          clear hK K
          try simp only [Act.put, List.setIfInBounds_toArray, List.set_cons_zero, List.set_cons_succ]
          refine wpAnyH_ready (rs := [6]) (by kernel_rfl) (by simp) ?_
          refine AllReadyH.cons rfl (fun K hK => ?_) AllReadyH.nil
          go_simp
          refine hK.out _ _ ?_ (fun hHeld => ?_)
          · try dsimp only
            first | exact ⟨k0, k1, k2⟩ | exact ⟨Blk.cell (hO6.far nOL _) 0, Blk.cell (hX6.far nXL _) 0, Blk.cell (hX6.far nXL _) 1⟩ | go_keep
          clear hK K
          try simp only [Act.put, List.setIfInBounds_toArray, List.set_cons_zero, List.set_cons_succ]
          refine wpAnyH_ready (rs := [14]) (by kernel_rfl) (by simp) ?_
          refine AllReadyH.cons rfl (fun K hK => ?_) AllReadyH.nil
          refine step_append_lies _ rfl (.tmp 55) (.tmp 62) 88 rfl wr.heap.size 52 i0 (.agg #[.int .i64 0, .int .i64 0]) 2 16 Try.underlying88 hi hz h11 h8 rfl (by decide) (.slice (some ⟨wr.heap.size, 0, none⟩) 1 1) 1 [.int .i64 x.1, .int .i64 x.2] rfl (World.ownsRow.drew (World.ownsRow_lit wr #[.int .i64 x.1, .int .i64 x.2] 1 (Nat.le_refl _) (by decide) rfl)) ⟨g, off, none⟩ m cap news rfl HNl.out HNw.out HNo.out hn0 f3 f4 (by simp) _ rfl ?_; intro g2 cap2 w6 hown' hgrow hat hlt6; have hO6 := Blk.grown ((HO2.out.alloc (.cells #[.int .i64 x.1, .int .i64 x.2] 52)).drew) hgrow (by simp [Value.ownBlock]; omega); have hX6 := Blk.grown ((HX2.out.alloc (.cells #[.int .i64 x.1, .int .i64 x.2] 52)).drew) hgrow (by simp [Value.ownBlock]; omega); have hL6 := Blk.grown ((HL.out.alloc (.cells #[.int .i64 x.1, .int .i64 x.2] 52)).drew) hgrow (by simp [Value.ownBlock]; omega); have k0 : w6.cell? ⟨bO, 0, none⟩ = some (.slice (some ⟨bL, 0, none⟩) 64 64) := hO6.cell 0; have k00 : w6.cell? ⟨bO, 1, none⟩ = some (.int .i64 size) := hO6.cell 1; have k1 : w6.cell? ⟨w.heap.size, 0, none⟩ = some (.int .i64 x.1) := hX6.cell 0; have k2 : w6.cell? ⟨w.heap.size, 1, none⟩ = some (.int .i64 x.2) := hX6.cell 1; have k3 : w6.cell? ⟨bL, pl, none⟩ = some (.slice (some ⟨g, off, none⟩) m cap) := (hL6.cell pl).trans ((HL.out.cell pl).symm.trans hv); have k4 := hL6.frozen pl; have k5 := hO6.frozen 1
          refine hK.out _ _ ?_ (fun hHeld => ?_)
          · try dsimp only
            first | exact ⟨k0, k1, k2⟩ | exact ⟨Blk.cell (hO6.far nOL _) 0, Blk.cell (hX6.far nXL _) 0, Blk.cell (hX6.far nXL _) 1⟩ | go_keep
          clear hK K
          try simp only [Act.put, List.setIfInBounds_toArray, List.set_cons_zero, List.set_cons_succ]
          refine wpAnyH_take (i := 15) (v := ?_) rfl (by kernel_rfl) (by kernel_rfl) (by kernel_rfl) (fun _ _ _ h => h) (Or.inl ⟨by rfl, ?_⟩) (by assumption) ?_
          rotate_left
          · intro wS hSw
            try dsimp only at hSw
            go_simp
            try with_reducible rfl
          try simp only [Act.put, List.setIfInBounds_toArray, List.set_cons_zero, List.set_cons_succ]
          refine wpAnyH_ready (rs := [16]) (by kernel_rfl) (by simp) ?_
          refine AllReadyH.cons rfl (fun K hK => ?_) AllReadyH.nil
          go_simp
          refine hK.out _ _ ?_ (fun hHeld => ?_)
          · try dsimp only
            first | exact ⟨k0, k1, k2⟩ | exact ⟨Blk.cell (hO6.far nOL _) 0, Blk.cell (hX6.far nXL _) 0, Blk.cell (hX6.far nXL _) 1⟩ | go_keep
          clear hK K
          try simp only [Act.put, List.setIfInBounds_toArray, List.set_cons_zero, List.set_cons_succ]
          refine wpAnyH_done (by kernel_rfl) ?_ _
          go_wp2_with fail
          go_ret
          exact ⟨rfl, by rw [HPl.out]; exact (insert_cons HM2.out hTr x pl hp2 HL.out HO2.out hO6 hL6 hgrow hown' (by rw [HLst.out]; exact HMl.out) (by rw [HLst.out, HCons.out]) hlt6).1, HOw.out.trans (insert_cons HM2.out hTr x pl hp2 HL.out HO2.out hO6 hL6 hgrow hown' (by rw [HLst.out]; exact HMl.out) (by rw [HLst.out, HCons.out]) hlt6).2⟩
end
end Go.Proofs.Ytnpglcbkpbhnoaa
