/- The law's walk, first part. -/
import Derived.Outline
import Derived.Test.YtnpglcbkpbhnoaaLawT
namespace Go.Proofs.Ytnpglcbkpbhnoaa
open Go.RowKit Kq

/-- How the law stands ahead of a round of its first loop. -/
def L1 (w0 : World) (c : Cfg) (bH bO bL n : Nat) (vin va : Value) (wr : World) : Prop :=
  ∃ (i a : Nat) (cs bds own sh : List Int) (ls : ML), vin = .int .i64 i ∧ va = .int .i64 a ∧ a + 1 ≤ n ∧ i ≤ a ∧ (queued ls).length = i ∧ LSt w0 wr c bH bO bL n cs bds own sh ls [] ls i

/-- How the law stands ahead of a round of its second loop. -/
def L2 (w0 : World) (c : Cfg) (bH bO bL n : Nat) (vin : Value) (wr : World) : Prop :=
  ∃ (i : Nat) (cs bds own sh : List Int) (ls : ML), vin = .int .i64 i ∧ i ≤ n ∧ (queued ls).length = i ∧ LSt w0 wr c bH bO bL n cs bds own sh ls [] ls i

section
variable {w : World}

set_option maxRecDepth 100000 in
set_option maxHeartbeats 8000000 in
theorem law_any {vb vd : Value} {bs ds : List Int} (hb : ArgI w vb bs) (hd : ArgI w vd ds) (hbl : bs.length ≤ 140737488355328) (hdl : ds.length ≤ 140737488355328) :
    Calls Try.prog 3 #[vb, vd] w fun e w' => e = .returned (.bool true) ∧ Below w.heap.size w w' := by
  obtain ⟨Ab, capb, rfl, hcapb, hb⟩ := hb
  obtain ⟨Ad, capd, rfl, hcapd, hd⟩ := hd
  have HB := Lib.hid hb
  have HD := Lib.hid hd
  clear hb hd
  generalize hbm : bs.length = lb at *
  generalize hdm : ds.length = ld at *
  obtain ⟨n, hn⟩ : ∃ n, 1 + min lb 30 = n := ⟨_, rfl⟩
  have hni : (1 : Int) + min (lb : Int) 30 = (n : Nat) := by omega
  have hn1 : 1 ≤ n := by omega
  have hn31 : n ≤ 31 := by omega
  have HPC := fun w => Lib.hid (pcells_any n hn1 (by omega) w)
  have HHC := fun w => Lib.hid (hcells_any n hn1 (by omega) w)
  go_enter Try.func3, Try.ntmps3
  go_wp2_with (first | (go_at_call 4; refine (HPC _).out.mono ?_; rintro e w' ⟨rfl, rfl⟩) | (go_at_call 6; refine (HHC _).out.mono ?_; rintro e w' ⟨rfl, rfl⟩))
  have hN : ((n : Int) + 1 + (63 + (n : Int))) = ((n + 1 + (63 + n) : Nat) : Int) := by omega
  rw [hN]
  refine (new_any (n + 1 + (63 + n)) (by omega) w).mono ?_
  rintro e w1 ⟨bM, rfl, hbM, ⟨bC, hbC, hM1⟩, hB1⟩
  have HM1 := Lib.hid hM1
  have HB1 := Lib.hid hB1
  clear hM1 hB1 hN
  go_wp2_with fail
  refine (poolnew_any bM bC (n + 1 + (63 + n)) 0 n w.heap.size _ HM1.out hn1 (by omega) (by omega) ⟨hbM, hbC, HB1.out.size⟩).mono ?_
  rintro e w2 ⟨c, rfl, rfl, hcN, hcpb, hcn, hclo, hcP, rfl, hP2, hO2⟩
  have HP2 := Lib.hid hP2
  have HO2 := Lib.hid hO2
  clear hP2 hO2
  go_wp2_with fail
  have HHN : Hid (Calls Try.prog 8 #[.pointer (some ⟨c.bM, 0, none⟩), .int .i64 ((n : Int) + 1), .int .i64 6, .pointer (some ⟨c.bP, 0, none⟩)] w2 (HNewPost w2 c (n + 1) (Kq.laid (List.replicate (n + 1 + (63 + n)) 0) 0 n n) (List.replicate n 0) [])) := Lib.hid (by
    rw [show (n : Int) + 1 = ((n + 1 : Nat) : Int) by omega]
    exact heapnew_any (hb := n + 1) HP2.out (by omega) (by omega))
  refine HHN.out.mono ?_
  rintro e w3 ⟨bH, rfl, hQ3, hO3⟩
  have HQ3 := Lib.hid hQ3
  have HO3 := Lib.hid hO3
  clear hQ3 hO3 HHN
  go_wp2_with fail
  refine (mnew_any (T := w3.heap.size) w3).mono ?_
  rintro e w4 ⟨bO, rfl, hbO, ⟨bL, hbL, hM4⟩, hB4⟩
  have HM4 := Lib.hid hM4
  have HB4 := Lib.hid hB4
  clear hM4 hB4
  go_wp2_with fail
  refine (stands_any _).mono ?_
  rintro e w' ⟨rfl, rfl⟩
  go_wp2_with fail
  have HS4 : Hid (LSt w w4 c bH bO bL n (startCells n) (List.replicate n 0) [] (upTo n 0) (List.replicate 64 []) [] (List.replicate 64 []) 0) := by
    exact Lib.hid (lst_start hn1 hn31 rfl hcn hcpb hclo hbM hbC HB1.out HO2.out HO3.out HQ3.out HM4.out HB4.out.size HB4.out hbO hbL)
  clear HM4 HB4 HQ3 HO3 HP2 HO2 HM1 HB1

  go_loopw [15, 16] (fun vin va wr => L1 w c bH bO bL n vin va wr) (fun _ va _ => n - (intOf va).toNat)
  case atStart => exact ⟨0, 0, _, _, _, _, _, rfl, rfl, by omega, by omega, rfl, HS4.out⟩
  case round =>
    obtain ⟨i, a, cs, bds, own, sh, ls, rfl, rfl, han, hia, hq, hS⟩ := hrel
    clear HS4
    by_cases hlt : a + 1 < n
    · have hcnt := hS.inv.cnt
      simp only [List.length_append, List.length_nil] at hcnt
      have hne : own ++ sh ≠ [] := by
        intro e0
        have e1 := congrArg List.length e0
        simp only [List.length_append, List.length_nil] at e1
        omega
      have hd : decide ((a : Int) < (n : Int) - 1) = true := by simp; omega
      have HTk := Lib.hid (take_l hS)
      have HNE := Lib.hid hne
      clear hcnt hne hS
      go_wp2_with fail
      refine HTk.out.mono ?_
      rintro e w5 ⟨b, rfl, hb, hS5, hA5⟩
      have HP := Lib.hid (taken_l hS5 hA5 hb HNE.out)
      clear hS5 hA5 HTk HNE
      go_wp2_with fail
      refine HP.out.mono ?_
      rintro e w6 ⟨⟨v, rfl⟩, cs6, own6, sh6, s, hS6, hT6⟩
      clear HP
      have hala : a < lb := by omega
      obtain ⟨bb, ob, rfl, hbb, hcb⟩ : ∃ bb ob, Ab = some ⟨bb, ob, none⟩ ∧ bb < w.heap.size ∧ ∀ j : Nat, j < lb → w.cell? ⟨bb, ob + j, none⟩ = some (.int .i64 (bs.getD j 0)) := by
        rcases HB.out with ⟨_, h⟩ | h
        · rw [h] at hbm; simp at hbm; omega
        · exact h
      have hc6 : w6.cell? ⟨bb, ob + a, none⟩ = some (.int .i64 (bs.getD a 0)) := (hS6.bel.cell (p := ⟨bb, ob + a, none⟩) hbb).trans (hcb a hala)
      obtain ⟨key, hkey⟩ : ∃ key, bs.getD a 0 = key := ⟨_, rfl⟩
      rw [hkey] at hc6
      have HC : Hid (w.cell? ⟨bb, ob + a, none⟩ = some (.int .i64 key)) := Lib.hid (by rw [← hkey]; exact hcb a hala)
      clear hcb hkey
      have hS6d := hS6.drew
      have hT6d := hT6.drew
      obtain ⟨m, hm⟩ : ∃ m, min a ld = m := ⟨_, rfl⟩
      have hmi : min (a : Int) (ld : Int) = (m : Nat) := by omega
      have hml : m ≤ ld := by omega
      have HDA : Hid (ArgI w (.slice (Option.map (fun x => x.add m) Ad) (ld - m) (capd - m)) (ds.drop m)) := Lib.hid (argI_drop hdm hcapd hml HD.out)
      have HDE : Hid (capd = m → ArgI w (.slice Ad (ld - m) 0) (ds.drop m)) := Lib.hid (fun e => argI_end hdm (by omega) HD.out)
      have hdb : (ds.drop m).length ≤ 140737488355328 := by simp [hdm]; omega
      have HDB := Lib.hid hdb
      clear hm hdb
      have hai : (0 : Int) ≤ a := by omega
      have hai2 : (a : Int) < lb := by omega
      go_wp2_with fail
      go_region_held3 (fun w' => w'.cell? ⟨bb, ob + a, none⟩ = some (.int .i64 key)) (first | exact k7 | go_keep)
        (first | (go_at_call 14; refine (Told.slot (by exact hT6)).mono ?_; rintro e w' ⟨rfl, rfl⟩) | (go_at_call 13; refine (keep_l hS6d hT6d key).mono ?_; rintro e w7 ⟨⟨v7, rfl⟩, bds7, hS7, hT7, hg7, hno7⟩; have k7 : w7.cell? ⟨bb, ob + a, none⟩ = some (.int .i64 key) := (hS7.bel.cell (p := ⟨bb, ob + a, none⟩) hbb).trans HC.out))
      clear hS6 hS6d hT6 hT6d hc6
      have HCP : Hid (capd = m ∨ m < capd) := Lib.hid (by omega)
      rcases HCP.out with hcm | hcm
      · obtain rfl : capd = m := hcm
        have HDV : Hid (ArgI w (.slice Ad 0 0) (ds.drop capd)) := Lib.hid (by have h1 := HDE.out rfl; rwa [show ld - capd = 0 by omega] at h1)
        clear HDA HDE HCP
        go_wp2_with fail
        refine (Told.slot (by exact hT7)).mono ?_
        rintro e w' ⟨rfl, rfl⟩
        go_wp2_with fail
        refine (push_l (ds := ds.drop capd) hS7 (HDV.out.below hS7.bel) HDB.out).mono ?_
        rintro e w8 ⟨bA, rfl, hR8, hB8⟩
        have HH := Lib.hid (pushed_l hS7 hT7 hg7 hno7 hB8 hR8)
        clear hS7 hT7 hR8 hB8
        go_wp2_with fail
        refine HH.out.mono ?_
        rintro e w9 ⟨⟨v9, rfl⟩, hT9, cs9, f, hF9, hI9⟩
        clear HH k7
        go_wp2_with fail
        refine (FitsIs.out hF9).mono ?_
        rintro e w' ⟨rfl, rfl⟩
        clear hF9
        rcases hI9 with ⟨rfl, hS9⟩ | ⟨rfl, hlf, hat, hS9, hq9⟩
        · go_wp2_with fail
          refine (Told.slot (by exact hT9)).mono ?_
          rintro e w' ⟨rfl, rfl⟩
          have HGv := Lib.hid (give_l hS9)
          clear hS9
          go_wp2_with fail
          refine HGv.out.mono ?_
          rintro e w10 ⟨bG, rfl, hbG, hS10, hA10⟩
          have HGn := Lib.hid (given_l hS10 hA10 hbG)
          clear HGv hS10 hA10
          go_wp2_with fail
          refine HGn.out.mono ?_
          rintro e w11 ⟨⟨v11, rfl⟩, cs11, own11, sh11, hS11⟩
          have HS11 := Lib.hid hS11
          have HQ := Lib.hid hq
          clear HGn hS11 hq
          go_wp2_with fail
          go_roundw
          case rel => exact ⟨i, a + 1, _, _, _, _, _, rfl, by go_num, by omega, by omega, HQ.out, HS11.out⟩
          case measure => simp [intOf]; omega
        · have hc9 : w9.cell? ⟨bb, ob + a, none⟩ = some (.int .i64 key) := (hS9.bel.cell (p := ⟨bb, ob + a, none⟩) hbb).trans HC.out
          have hV9 := HDV.out.below hS9.bel
          have HI := fun W (h : LSt w W c bH bO bL n cs9 bds7 own6 sh6 (mInsert ls (key, s) (mPlace ls key (mLeaf ls key (ds.drop capd)))) [] ls i) (hv : ArgI W (.slice Ad 0 0) (ds.drop capd)) => Lib.hid (insert_l (s := s) h hv (by omega) hlf hat)
          have hS9d := hS9.drew
          have hV9d : ArgI w9.drew (.slice Ad 0 0) (ds.drop capd) := hV9
          have HI9 := HI _ hS9d hV9d
          have HQ9 := Lib.hid hq9
          have HQ := Lib.hid hq
          clear HI hS9d hV9d hS9 hV9 hlf hat hq9 hq
          go_wp2_with fail
          go_region_held3 (fun w' => w'.cell? ⟨bb, ob + a, none⟩ = some (.int .i64 key)) (first | exact k12 | go_keep)
            (first | (go_at_call 14; refine (Told.slot (by exact hT9)).mono ?_; rintro e w' ⟨rfl, rfl⟩) | (go_at_call 19; refine HI9.out.mono ?_; rintro e w12 ⟨rfl, hS12⟩; have k12 : w12.cell? ⟨bb, ob + a, none⟩ = some (.int .i64 key) := (hS12.bel.cell (p := ⟨bb, ob + a, none⟩) hbb).trans HC.out))
          have HS12 := Lib.hid hS12
          clear hS12
          go_wp2_with fail
          go_roundw
          case rel => exact ⟨i + 1, a + 1, _, _, _, _, _, by go_num, by go_num, by omega, by omega, by rw [HQ9.out, HQ.out], HS12.out⟩
          case measure => simp [intOf]; omega
      · have hcm2 : ¬ capd = m := by omega
        have HDV := HDA
        clear HDA HDE HCP
        go_wp2_with fail
        refine (Told.slot (by exact hT7)).mono ?_
        rintro e w' ⟨rfl, rfl⟩
        go_wp2_with fail
        refine (push_l (ds := ds.drop m) hS7 (HDV.out.below hS7.bel) HDB.out).mono ?_
        rintro e w8 ⟨bA, rfl, hR8, hB8⟩
        have HH := Lib.hid (pushed_l hS7 hT7 hg7 hno7 hB8 hR8)
        clear hS7 hT7 hR8 hB8
        go_wp2_with fail
        refine HH.out.mono ?_
        rintro e w9 ⟨⟨v9, rfl⟩, hT9, cs9, f, hF9, hI9⟩
        clear HH k7
        go_wp2_with fail
        refine (FitsIs.out hF9).mono ?_
        rintro e w' ⟨rfl, rfl⟩
        clear hF9
        rcases hI9 with ⟨rfl, hS9⟩ | ⟨rfl, hlf, hat, hS9, hq9⟩
        · go_wp2_with fail
          refine (Told.slot (by exact hT9)).mono ?_
          rintro e w' ⟨rfl, rfl⟩
          have HGv := Lib.hid (give_l hS9)
          clear hS9
          go_wp2_with fail
          refine HGv.out.mono ?_
          rintro e w10 ⟨bG, rfl, hbG, hS10, hA10⟩
          have HGn := Lib.hid (given_l hS10 hA10 hbG)
          clear HGv hS10 hA10
          go_wp2_with fail
          refine HGn.out.mono ?_
          rintro e w11 ⟨⟨v11, rfl⟩, cs11, own11, sh11, hS11⟩
          have HS11 := Lib.hid hS11
          have HQ := Lib.hid hq
          clear HGn hS11 hq
          go_wp2_with fail
          go_roundw
          case rel => exact ⟨i, a + 1, _, _, _, _, _, rfl, by go_num, by omega, by omega, HQ.out, HS11.out⟩
          case measure => simp [intOf]; omega
        · have hc9 : w9.cell? ⟨bb, ob + a, none⟩ = some (.int .i64 key) := (hS9.bel.cell (p := ⟨bb, ob + a, none⟩) hbb).trans HC.out
          have hV9 := HDV.out.below hS9.bel
          have HI := fun W (h : LSt w W c bH bO bL n cs9 bds7 own6 sh6 (mInsert ls (key, s) (mPlace ls key (mLeaf ls key (ds.drop m)))) [] ls i) (hv : ArgI W (.slice (Option.map (fun x => x.add m) Ad) (ld - m) (capd - m)) (ds.drop m)) => Lib.hid (insert_l (s := s) h hv (by omega) hlf hat)
          have hS9d := hS9.drew
          have hV9d : ArgI w9.drew (.slice (Option.map (fun x => x.add m) Ad) (ld - m) (capd - m)) (ds.drop m) := hV9
          have HI9 := HI _ hS9d hV9d
          have HQ9 := Lib.hid hq9
          have HQ := Lib.hid hq
          clear HI hS9d hV9d hS9 hV9 hlf hat hq9 hq
          go_wp2_with fail
          go_region_held3 (fun w' => w'.cell? ⟨bb, ob + a, none⟩ = some (.int .i64 key)) (first | exact k12 | go_keep)
            (first | (go_at_call 14; refine (Told.slot (by exact hT9)).mono ?_; rintro e w' ⟨rfl, rfl⟩) | (go_at_call 19; refine HI9.out.mono ?_; rintro e w12 ⟨rfl, hS12⟩; have k12 : w12.cell? ⟨bb, ob + a, none⟩ = some (.int .i64 key) := (hS12.bel.cell (p := ⟨bb, ob + a, none⟩) hbb).trans HC.out))
          have HS12 := Lib.hid hS12
          clear hS12
          go_wp2_with fail
          go_roundw
          case rel => exact ⟨i + 1, a + 1, _, _, _, _, _, by go_num, by go_num, by omega, by omega, by rw [HQ9.out, HQ.out], HS12.out⟩
          case measure => simp [intOf]; omega
    · have hea : a = n - 1 := by omega
      have hd : decide ((a : Int) < (n : Int) - 1) = false := by simp; omega
      have HS0 : Hid (L2 w c bH bO bL n (.int .i64 i) wr) := Lib.hid ⟨i, cs, bds, own, sh, ls, rfl, by omega, hq, hS⟩
      clear hS hq hlt
      go_wp2_with fail
      clear hd hea
      go_loopw [15] (fun vin wr => L2 w c bH bO bL n vin wr) (fun vin _ => (intOf vin).toNat)
      case atStart => exact HS0.out
      case round =>
        clear HS0 hia han
        obtain ⟨i, cs, bds, own, sh, ls, rfl, hin, hq, hS⟩ := hrel
        cases i with
        | zero =>
          have hd : decide (((0 : Nat) : Int) > 0) = false := by simp
          have hE := inv_end hS.inv hq
          have HSh := Lib.hid (shared_l hS)
          have HOw := fun W h => Lib.hid (own_l (w := W) (w0 := w) (c := c) (bH := bH) (bO := bO) (bL := bL) (n := n) (cs := cs) (bds := bds) (own := own) (sh := sh) (ls := ls) (lm := ls) (hd := []) (k := 0) h)
          generalize hm1 : sh.length = m1 at *
          generalize hm2 : own.length = m2 at *
          clear hm1 hm2 hS hq
          have hE1 : ((m1 : Int) + (m2 : Int) == (n : Int)) = true := by simp; omega
          have HE1 := Lib.hid hE1
          have hb1 : m1 ≤ 31 := by omega
          have hb2 : m2 ≤ 31 := by omega
          clear hE1 hE
          go_wp2_with fail
          refine HSh.out.mono ?_
          rintro e w2 ⟨A1, cap1, rfl, hS2⟩
          have HO2 := HOw _ hS2
          clear HOw hS2 HSh
          go_wp2_with fail
          refine HO2.out.mono ?_
          rintro e w3 ⟨A2, cap2, rfl, hS3⟩
          have HB3 := Lib.hid hS3.bel
          clear HO2 hS3
          go_wp2_with fail
          go_ret
          refine ⟨?_, HB3.out⟩
          show Ending.returned (.bool ((m1 : Int) + (m2 : Int) == (n : Int))) = _
          rw [HE1.out]
        | succ i =>
          have hd : decide (((i + 1 : Nat) : Int) > 0) = true := by simp
          have HPo := Lib.hid (pop_l hS)
          have HS := Lib.hid hS
          have HQ : Hid ((queued ls).length = i + 1) := Lib.hid hq
          clear hS hq
          go_wp2_with fail
          refine HPo.out.mono ?_
          rintro e w2 ⟨bA, rfl, hR2, hB2⟩
          have HH := Lib.hid (popped_l HS.out (by rw [HQ.out]; omega) hB2 hR2)
          clear HPo HS hR2 hB2
          go_wp2_with fail
          refine HH.out.mono ?_
          rintro e w3 ⟨⟨v3, rfl⟩, ⟨xk, xs⟩, l', cs3, hl, hg, hx0, hT3, hS3, hq3⟩
          have hx0' : (0 : Int) ≤ xs := hx0
          have HM := Lib.hid (mpop_l hS3 hl (by omega) hT3)
          have HG : Hid (gt bds xs = xk) := Lib.hid hg
          have HQ3 : Hid ((queued (mPop ls)).length = i) := Lib.hid (by have := HQ.out; omega)
          clear HH hS3 hT3 hg hx0 hl hq3 HQ
          go_wp2_with fail
          refine HM.out.mono ?_
          rintro e w4' ⟨rfl, hS4, hT4⟩
          clear HM
          go_wp2_with fail
          have hS5 := hS4.made ((Below.refl _ _).alloc (Nat.le_refl _) (.cells #[.int .i64 xk, .int .i64 xs] 52))
          have hT5 : HTold (w4'.alloc (.cells #[.int .i64 xk, .int .i64 xs] 52)) bA xs := HTold.only hT4 ((Only.refl [] _).alloc _) (by simp)
          have HS5 := Lib.hid hS5
          have hP5 := hS5.q.1
          have hd2 : decide (xs < 0) = false := by simp; omega
          clear hS4 hT4 hS5
          have hb00 : ((xk : Int) != xk) = false := by simp
          go_quiet ((first | (go_at_call 22; exact Calls.quiet_of_same (flip_same (HTold.slot (by exact hT5)))) | (go_at_call 23; exact Calls.quiet_of_same (flip_same (bound_key (by exact hP5) HG.out)))))
          go_wp2_with fail
          have hS6 := HS5.out.drewN nq
          refine (HTold.slot (by exact hT5)).mono ?_
          rintro e w' ⟨rfl, rfl⟩
          have HGv := Lib.hid (give_l hS6)
          clear hS6 HS5 hT5 hP5 hd2 hb00
          go_wp2_with fail
          refine HGv.out.mono ?_
          rintro e w7 ⟨bG, rfl, hbG, hS7, hA7⟩
          have HGn := Lib.hid (given_l hS7 hA7 hbG)
          clear HGv hS7 hA7
          go_wp2_with fail
          refine HGn.out.mono ?_
          rintro e w8 ⟨⟨v8, rfl⟩, cs8, own8, sh8, hS8⟩
          have HS8 := Lib.hid hS8
          clear HGn hS8
          go_wp2_with fail
          go_roundw
          case rel => exact ⟨i, _, _, _, _, _, by go_num, by omega, HQ3.out, HS8.out⟩
          case measure => simp [intOf]
end
end Go.Proofs.Ytnpglcbkpbhnoaa
