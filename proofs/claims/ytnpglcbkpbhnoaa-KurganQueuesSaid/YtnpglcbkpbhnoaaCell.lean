/- The walks over package cell: Get, Set, Cas, Peek, Pack, Unpack, Up, New, Size. -/
import Derived.Test.YtnpglcbkpbhnoaaProg
import Derived.Test.YtnpglcbkpbhnoaaWords
import Derived.Test.YtnpglcbkpbhnoaaPure
import Derived.BigQuiet
import Derived.Deep.QuietTactic
import Derived.Laws.BitsLemmas
import Derived.Laws.BitsAllLaws
import Derived.WalkLawsBesides
import Derived.WalkSpells
import Derived.Outline
namespace Go.Proofs.Ytnpglcbkpbhnoaa
open Go.RowKit Kq

theorem ret_int {k : IntKind} {a b : Int} (h : a = b) : Ending.returned (.int k a) = .returned (.int k b) := by rw [h]

theorem and_mask30 (n : Int) : bits .and .i64 n 1073741823 = n % 1073741824 := by
  have h : (BitVec.ofInt 64 n &&& BitVec.ofInt 64 1073741823) = BitVec.ofInt 64 n &&& BitVec.ofNat 64 (2 ^ 30 - 1) := by congr 1
  show IntKind.i64.wrap ((BitVec.ofInt 64 n &&& BitVec.ofInt 64 1073741823).toNat : Int) = _
  rw [h, BitVec.toNat_and, BitVec.toNat_ofNat]
  rw [show (2 ^ 30 - 1) % 2 ^ 64 = 2 ^ 30 - 1 from by decide, Nat.and_two_pow_sub_one_eq_mod, BitVec.toNat_ofInt, IntKind.wrap_i64]
  omega
theorem and_mask32 (n : Int) : bits .and .i64 n 4294967295 = n % 4294967296 := by
  have h : (BitVec.ofInt 64 n &&& BitVec.ofInt 64 4294967295) = BitVec.ofInt 64 n &&& BitVec.ofNat 64 (2 ^ 32 - 1) := by congr 1
  show IntKind.i64.wrap ((BitVec.ofInt 64 n &&& BitVec.ofInt 64 4294967295).toNat : Int) = _
  rw [h, BitVec.toNat_and, BitVec.toNat_ofNat]
  rw [show (2 ^ 32 - 1) % 2 ^ 64 = 2 ^ 32 - 1 from by decide, Nat.and_two_pow_sub_one_eq_mod, BitVec.toNat_ofInt, IntKind.wrap_i64]
  omega

theorem unpack_any (n : Int) (w : World) :
    Calls Try.prog 44 #[.int .i64 n] w fun e w' => e = .returned (.tuple #[.int .i64 (uver n), .int .i64 (upl n)]) ∧ w = w' := by
  have hb := upl_bd n
  go_enter Try.func44, Try.ntmps44
  go_wp2
  go_ret2
  refine ⟨?_, rfl⟩
  show Ending.returned (.tuple #[.int .i64 (bits .and .i64 (n / 4294967296) 1073741823), .int .i64 (wrap64 (bits .and .i64 n 4294967295 - 1))]) = _
  rw [and_mask30, and_mask32, show wrap64 (n % 4294967296 - 1) = upl n from by unfold upl at *; unfold wrap64; omega]
  rfl

theorem pack_any (v p : Int) (w : World) :
    Calls Try.prog 28 #[.int .i64 v, .int .i64 p] w fun e w' => e = .returned (.int .i64 (pk v p)) ∧ w = w' := by
  by_cases h0 : p < 0
  · go_enter Try.func28, Try.ntmps28
    go_wp2
    go_ret
    refine ⟨ret_int ?_, rfl⟩
    rw [and_mask30]
    have e : pk v p = v % 1073741824 * 4294967296 + -1 + 1 := by unfold pk; rw [if_pos (.inl h0)]
    rw [e]; unfold wrap64; omega
  · by_cases h1 : 2147483646 < p
    · go_enter Try.func28, Try.ntmps28
      go_wp2
      go_ret
      refine ⟨ret_int ?_, rfl⟩
      rw [and_mask30]
      have e : pk v p = v % 1073741824 * 4294967296 + -1 + 1 := by unfold pk; rw [if_pos (.inr h1)]
      rw [e]; unfold wrap64; omega
    · go_enter Try.func28, Try.ntmps28
      go_wp2
      go_ret
      refine ⟨ret_int ?_, rfl⟩
      rw [and_mask30]
      have e : pk v p = v % 1073741824 * 4294967296 + p + 1 := by unfold pk; rw [if_neg (by omega)]
      rw [e]; unfold wrap64; omega

theorem up_any (n p : Int) (w : World) :
    Calls Try.prog 72 #[.int .i64 n, .int .i64 p] w fun e w' => e = .returned (.int .i64 (up n p)) ∧ w = w' := by
  have hb := uver_bd n
  go_enter Try.func72, Try.ntmps72
  go_wp2_with fail
  refine (unpack_any _ _).mono ?_
  rintro e w' ⟨rfl, rfl⟩
  go_wp2_with fail
  refine (pack_any _ _ _).mono ?_
  rintro e w' ⟨rfl, rfl⟩
  go_wp2_with fail
  go_ret
  exact ⟨rfl, rfl⟩

/-- A memory: its struct, its cells. -/
def MemR (w : World) (bM bC N : Nat) (xs : List Int) : Prop :=
  ∃ (s k0 k1 k2 k3 : Int) (b4 : Bool), Blk w bM 62 #[.slice (some ⟨bC, 0, none⟩) N N, .int .i64 s, .int .i64 k0, .int .i64 k1, .int .i64 k2, .int .i64 k3, .bool b4] ∧
    IBlk 3 w bC xs ∧ xs.length = N ∧ N ≤ 1048576
theorem MemR.only {w w' : World} {bM bC N : Nat} {xs : List Int} {S : List Nat} (h : MemR w bM bC N xs) (k : Only S w w') (h1 : bM ∉ S) (h2 : bC ∉ S) : MemR w' bM bC N xs := by
  obtain ⟨s, k0, k1, k2, k3, b4, hM, hC, hn, hN⟩ := h
  exact ⟨s, k0, k1, k2, k3, b4, hM.only k h1, Blk.only hC k h2, hn, hN⟩

def GetPost (w : World) (bM bC N : Nat) (xs : List Int) (i : Int) (e : Ending) (w' : World) : Prop :=
  ∃ er : Int, e = .returned (.tuple #[.int .i64 (gt xs i), .int .i64 er]) ∧ MemR w' bM bC N xs ∧ Only [bM, bC] w w'

theorem step_mem {w : World} {bM bC N : Nat} {xs : List Int} {s k0 k1 k2 k3 : Int} {b4 : Bool} (hM : Blk w bM 62 #[.slice (some ⟨bC, 0, none⟩) N N, .int .i64 s, .int .i64 k0, .int .i64 k1, .int .i64 k2, .int .i64 k3, .bool b4])
    (hC : IBlk 3 w bC xs) (hn : xs.length = N) (hN : N ≤ 1048576) (j : Nat) (kd i h n s' : Int) (b : Bool) :
    MemR (((((((w.setCell ⟨bM, 2, none⟩ (.int .i64 kd)).setCell ⟨bM, 3, none⟩ (.int .i64 i)).setCell ⟨bM, 4, none⟩ (.int .i64 h)).setCell ⟨bM, 5, none⟩ (.int .i64 n)).setCell ⟨bM, 6, none⟩ (.bool b)).setCell ⟨bC, j, none⟩ (.int .i64 n)).setCell ⟨bM, 1, none⟩ (.int .i64 s')) bM bC N (xs.set j n) ∧
    Only [bM, bC] w (((((((w.setCell ⟨bM, 2, none⟩ (.int .i64 kd)).setCell ⟨bM, 3, none⟩ (.int .i64 i)).setCell ⟨bM, 4, none⟩ (.int .i64 h)).setCell ⟨bM, 5, none⟩ (.int .i64 n)).setCell ⟨bM, 6, none⟩ (.bool b)).setCell ⟨bC, j, none⟩ (.int .i64 n)).setCell ⟨bM, 1, none⟩ (.int .i64 s')) := by
  have hne : bM ≠ bC := Blk.ne_ hM hC (by decide)
  refine ⟨⟨s', kd, i, h, n, b, ?_, ?_, by simpa using hn, hN⟩, ?_⟩
  · exact ((((((hM.set_ 2 _).set_ 3 _).set_ 4 _).set_ 5 _).set_ 6 _).far hne _).set_ 1 _
  · have h5 : IBlk 3 (((((w.setCell ⟨bM, 2, none⟩ (.int .i64 kd)).setCell ⟨bM, 3, none⟩ (.int .i64 i)).setCell ⟨bM, 4, none⟩ (.int .i64 h)).setCell ⟨bM, 5, none⟩ (.int .i64 n)).setCell ⟨bM, 6, none⟩ (.bool b)) bC xs :=
      Blk.far (Blk.far (Blk.far (Blk.far (Blk.far hC hne.symm _) hne.symm _) hne.symm _) hne.symm _) hne.symm _
    exact Blk.far (h5.set_ j n) hne.symm _
  · exact ((((((Only.refl _ _).setCell (by simp) _).setCell (by simp) _).setCell (by simp) _).setCell (by simp) _).setCell (by simp) _ |>.setCell (by simp) _).setCell (by simp) _

section
variable {w : World} {bM bC N : Nat} {xs : List Int}
theorem get_any (i : Int) (h : MemR w bM bC N xs) : Calls Try.prog 70 #[.pointer (some ⟨bM, 0, none⟩), .int .i64 i] w (GetPost w bM bC N xs i) := by
  obtain ⟨s, k0, k1, k2, k3, b4, hM, hC, hn, hN⟩ := h
  have c0 : w.cell? ⟨bM, 0, none⟩ = some (.slice (some ⟨bC, 0, none⟩) N N) := hM.cell 0
  have hne : bM ≠ bC := Blk.ne_ hM hC (by decide)
  by_cases hi : 0 ≤ i ∧ i < (N : Int)
  · obtain ⟨h0, h1⟩ := hi
    obtain ⟨j, rfl⟩ := Int.eq_ofNat_of_zero_le h0
    have c1 : w.cell? ⟨bM, 1, none⟩ = some (.int .i64 s) := hM.cell 1
    have c2 : w.cell? ⟨bM, 2, none⟩ = some (.int .i64 k0) := hM.cell 2
    have c3 : w.cell? ⟨bM, 3, none⟩ = some (.int .i64 k1) := hM.cell 3
    have c4 : w.cell? ⟨bM, 4, none⟩ = some (.int .i64 k2) := hM.cell 4
    have c5 : w.cell? ⟨bM, 5, none⟩ = some (.int .i64 k3) := hM.cell 5
    have c6 : w.cell? ⟨bM, 6, none⟩ = some (.bool b4) := hM.cell 6
    have fM : ∀ i, w.frozen? ⟨bM, i, none⟩ = false := hM.frozen
    have fC : ∀ i, w.frozen? ⟨bC, i, none⟩ = false := hC.frozen
    have d : w.cell? ⟨bC, j, none⟩ = some (.int .i64 (gt xs j)) := by
      rw [hC.cell j (by omega)]; unfold gt; rw [if_pos ⟨h0, by omega⟩]; rfl
    have HF : Hid (∀ kd i h n s' b, _) := Lib.hid (fun kd i h n s' b => step_mem hM hC hn hN j kd i h n s' b)
    have HS : Hid (xs.set j (gt xs j) = xs) := Lib.hid (by
      unfold gt; rw [if_pos ⟨h0, by omega⟩, Int.toNat_natCast]
      apply List.ext_getElem (by simp)
      intro k h1 h2
      rw [List.getElem_set]; split
      · rename_i e; subst e; simp [List.getElem?_eq_getElem h2]
      · rfl)
    clear hM hC hn
    go_enter Try.func70, Try.ntmps70
    go_wp2
    go_ret2
    have hf := HF.out 1 j (gt xs j) (gt xs j) (wrap64 (s + 1)) true
    rw [HS.out] at hf
    exact ⟨0, rfl, hf.1, hf.2⟩
  · have hg : Hid (gt xs i = 0) := Lib.hid (by unfold gt; rw [if_neg (by omega)])
    have hr : Hid (MemR w bM bC N xs) := Lib.hid ⟨s, k0, k1, k2, k3, b4, hM, hC, hn, hN⟩
    clear hM hC hn
    by_cases h0 : i < 0
    · clear hi
      go_enter Try.func70, Try.ntmps70
      go_wp2
      go_ret2
      exact ⟨11, by rw [hg.out]; rfl, hr.out, Only.refl _ _⟩
    · have h1 : (N : Int) ≤ i := by omega
      clear hi
      obtain ⟨j, rfl⟩ := Int.eq_ofNat_of_zero_le (show 0 ≤ i by omega)
      go_enter Try.func70, Try.ntmps70
      go_wp2
      go_ret2
      exact ⟨11, by rw [hg.out]; rfl, hr.out, Only.refl _ _⟩

def SetPost (w : World) (bM bC N : Nat) (xs : List Int) (e : Ending) (w' : World) : Prop :=
  ∃ er : Int, e = .returned (.int .i64 er) ∧ MemR w' bM bC N xs ∧ Only [bM, bC] w w'
def CasPost (w : World) (bM bC N : Nat) (xs : List Int) (b : Bool) (e : Ending) (w' : World) : Prop :=
  ∃ er : Int, e = .returned (.tuple #[.bool b, .int .i64 er]) ∧ MemR w' bM bC N xs ∧ Only [bM, bC] w w'

theorem set_any (i n : Int) (h : MemR w bM bC N xs) : Calls Try.prog 27 #[.pointer (some ⟨bM, 0, none⟩), .int .i64 i, .int .i64 n] w (SetPost w bM bC N (stt xs i n)) := by
  obtain ⟨s, k0, k1, k2, k3, b4, hM, hC, hn, hN⟩ := h
  have c0 : w.cell? ⟨bM, 0, none⟩ = some (.slice (some ⟨bC, 0, none⟩) N N) := hM.cell 0
  have hne : bM ≠ bC := Blk.ne_ hM hC (by decide)
  by_cases hi : 0 ≤ i ∧ i < (N : Int)
  · obtain ⟨h0, h1⟩ := hi
    obtain ⟨j, rfl⟩ := Int.eq_ofNat_of_zero_le h0
    have c1 : w.cell? ⟨bM, 1, none⟩ = some (.int .i64 s) := hM.cell 1
    have c2 : w.cell? ⟨bM, 2, none⟩ = some (.int .i64 k0) := hM.cell 2
    have c3 : w.cell? ⟨bM, 3, none⟩ = some (.int .i64 k1) := hM.cell 3
    have c4 : w.cell? ⟨bM, 4, none⟩ = some (.int .i64 k2) := hM.cell 4
    have c5 : w.cell? ⟨bM, 5, none⟩ = some (.int .i64 k3) := hM.cell 5
    have c6 : w.cell? ⟨bM, 6, none⟩ = some (.bool b4) := hM.cell 6
    have fM : ∀ i, w.frozen? ⟨bM, i, none⟩ = false := hM.frozen
    have fC : ∀ i, w.frozen? ⟨bC, i, none⟩ = false := hC.frozen
    have d : w.cell? ⟨bC, j, none⟩ = some (.int .i64 (gt xs j)) := by
      rw [hC.cell j (by omega)]; unfold gt; rw [if_pos ⟨h0, by omega⟩]; rfl
    have HF : Hid (∀ kd i h n s' b, _) := Lib.hid (fun kd i h n s' b => step_mem hM hC hn hN j kd i h n s' b)
    have HS : Hid (stt xs j n = xs.set j n) := Lib.hid (by unfold stt; rw [if_pos ⟨h0, by omega⟩, Int.toNat_natCast])
    clear hM hC hn
    go_enter Try.func27, Try.ntmps27
    go_wp2
    go_ret
    have hf := HF.out 2 j (gt xs j) n (wrap64 (s + 1)) true
    exact ⟨0, rfl, by rw [HS.out]; exact hf.1, hf.2⟩
  · have hg : Hid (stt xs i n = xs) := Lib.hid (by unfold stt; rw [if_neg (by omega)])
    have hr : Hid (MemR w bM bC N xs) := Lib.hid ⟨s, k0, k1, k2, k3, b4, hM, hC, hn, hN⟩
    clear hM hC hn
    by_cases h0 : i < 0
    · clear hi
      go_enter Try.func27, Try.ntmps27
      go_wp2
      go_ret
      exact ⟨11, rfl, by rw [hg.out]; exact hr.out, Only.refl _ _⟩
    · have h1 : (N : Int) ≤ i := by omega
      clear hi
      obtain ⟨j, rfl⟩ := Int.eq_ofNat_of_zero_le (show 0 ≤ i by omega)
      go_enter Try.func27, Try.ntmps27
      go_wp2
      go_ret
      exact ⟨11, rfl, by rw [hg.out]; exact hr.out, Only.refl _ _⟩

theorem cas_any (i old n : Int) (h : MemR w bM bC N xs) : Calls Try.prog 71 #[.pointer (some ⟨bM, 0, none⟩), .int .i64 i, .int .i64 old, .int .i64 n] w (CasPost w bM bC N (csw xs i old n) (casB xs i old)) := by
  obtain ⟨s, k0, k1, k2, k3, b4, hM, hC, hn, hN⟩ := h
  have c0 : w.cell? ⟨bM, 0, none⟩ = some (.slice (some ⟨bC, 0, none⟩) N N) := hM.cell 0
  have hne : bM ≠ bC := Blk.ne_ hM hC (by decide)
  by_cases hi : 0 ≤ i ∧ i < (N : Int)
  · obtain ⟨h0, h1⟩ := hi
    obtain ⟨j, rfl⟩ := Int.eq_ofNat_of_zero_le h0
    have c1 : w.cell? ⟨bM, 1, none⟩ = some (.int .i64 s) := hM.cell 1
    have c2 : w.cell? ⟨bM, 2, none⟩ = some (.int .i64 k0) := hM.cell 2
    have c3 : w.cell? ⟨bM, 3, none⟩ = some (.int .i64 k1) := hM.cell 3
    have c4 : w.cell? ⟨bM, 4, none⟩ = some (.int .i64 k2) := hM.cell 4
    have c5 : w.cell? ⟨bM, 5, none⟩ = some (.int .i64 k3) := hM.cell 5
    have c6 : w.cell? ⟨bM, 6, none⟩ = some (.bool b4) := hM.cell 6
    have fM : ∀ i, w.frozen? ⟨bM, i, none⟩ = false := hM.frozen
    have fC : ∀ i, w.frozen? ⟨bC, i, none⟩ = false := hC.frozen
    have d : w.cell? ⟨bC, j, none⟩ = some (.int .i64 (gt xs j)) := by
      rw [hC.cell j (by omega)]; unfold gt; rw [if_pos ⟨h0, by omega⟩]; rfl
    have HF : Hid (∀ kd i h n s' b, _) := Lib.hid (fun kd i h n s' b => step_mem hM hC hn hN j kd i h n s' b)
    by_cases ho : gt xs j = old
    · have HS : Hid (csw xs j old n = xs.set j n ∧ casB xs j old = true) := Lib.hid (by
        have hb : casB xs j old = true := by
          unfold casB; unfold gt at ho; rw [if_pos ⟨h0, by omega⟩] at ho; simp only [decide_eq_true_eq]; exact ⟨h0, by omega, ho⟩
        refine ⟨?_, hb⟩
        unfold csw; rw [if_pos hb]; unfold stt; rw [if_pos ⟨h0, by omega⟩, Int.toNat_natCast])
      clear hM hC hn
      subst ho
      have t1 : (gt xs j != gt xs j) = false := by simp
      have t2 : (gt xs j == gt xs j) = true := by simp
      generalize gt xs j = g at *
      go_enter Try.func71, Try.ntmps71
      go_wp2
      go_ret2
      have hf := HF.out 3 j g n (wrap64 (s + 1)) true
      exact ⟨0, by rw [HS.out.2]; rfl, by rw [HS.out.1]; exact hf.1, hf.2⟩
    · have HS : Hid (csw xs j old n = xs ∧ casB xs j old = false ∧ xs.set j (gt xs j) = xs) := Lib.hid (by
        have hb : casB xs j old = false := by
          unfold casB; unfold gt at ho; rw [if_pos ⟨h0, by omega⟩] at ho; simp only [decide_eq_false_iff_not]; exact fun h => ho h.2.2
        refine ⟨?_, hb, ?_⟩
        · unfold csw; rw [if_neg (by rw [hb]; simp)]
        · unfold gt; rw [if_pos ⟨h0, by omega⟩, Int.toNat_natCast]
          apply List.ext_getElem (by simp)
          intro k h1 h2
          rw [List.getElem_set]; split
          · rename_i e; subst e; simp [List.getElem?_eq_getElem h2]
          · rfl)
      clear hM hC hn
      have t1 : (gt xs j != old) = true := by simpa using ho
      have t2 : (gt xs j == old) = false := by simpa using ho
      clear ho
      generalize gt xs j = g at *
      go_enter Try.func71, Try.ntmps71
      go_wp2
      go_ret2
      have hf := HF.out 3 j g g (wrap64 (s + 1)) false
      rw [HS.out.2.2] at hf
      exact ⟨0, by rw [HS.out.2.1]; rfl, by rw [HS.out.1]; exact hf.1, hf.2⟩
  · have hg : Hid (csw xs i old n = xs ∧ casB xs i old = false) := Lib.hid (by
      have hb : casB xs i old = false := by unfold casB; simp only [decide_eq_false_iff_not]; omega
      exact ⟨by unfold csw; rw [if_neg (by rw [hb]; simp)], hb⟩)
    have hr : Hid (MemR w bM bC N xs) := Lib.hid ⟨s, k0, k1, k2, k3, b4, hM, hC, hn, hN⟩
    clear hM hC hn
    by_cases h0 : i < 0
    · clear hi
      go_enter Try.func71, Try.ntmps71
      go_wp2
      go_ret2
      exact ⟨11, by rw [hg.out.2]; rfl, by rw [hg.out.1]; exact hr.out, Only.refl _ _⟩
    · have h1 : (N : Int) ≤ i := by omega
      clear hi
      obtain ⟨j, rfl⟩ := Int.eq_ofNat_of_zero_le (show 0 ≤ i by omega)
      go_enter Try.func71, Try.ntmps71
      go_wp2
      go_ret2
      exact ⟨11, by rw [hg.out.2]; rfl, by rw [hg.out.1]; exact hr.out, Only.refl _ _⟩

theorem peek_any (i : Int) (h : MemR w bM bC N xs) : Calls Try.prog 45 #[.pointer (some ⟨bM, 0, none⟩), .int .i64 i] w fun e w' => e = .returned (.int .i64 (gt xs i)) ∧ w = w' := by
  obtain ⟨s, k0, k1, k2, k3, b4, hM, hC, hn, hN⟩ := h
  have c0 : w.cell? ⟨bM, 0, none⟩ = some (.slice (some ⟨bC, 0, none⟩) N N) := hM.cell 0
  have hne : bM ≠ bC := Blk.ne_ hM hC (by decide)
  by_cases hi : 0 ≤ i ∧ i < (N : Int)
  · obtain ⟨h0, h1⟩ := hi
    obtain ⟨j, rfl⟩ := Int.eq_ofNat_of_zero_le h0
    have d : w.cell? ⟨bC, j, none⟩ = some (.int .i64 (gt xs j)) := by
      rw [hC.cell j (by omega)]; unfold gt; rw [if_pos ⟨h0, by omega⟩]; rfl
    clear hM hC hn
    go_enter Try.func45, Try.ntmps45
    go_wp2
    go_ret
    exact ⟨rfl, rfl⟩
  · have hg : Hid (gt xs i = 0) := Lib.hid (by unfold gt; rw [if_neg (by omega)])
    clear hM hC hn
    by_cases h0 : i < 0
    · clear hi
      go_enter Try.func45, Try.ntmps45
      go_wp2
      go_ret
      exact ⟨by rw [hg.out]; rfl, rfl⟩
    · have h1 : (N : Int) ≤ i := by omega
      clear hi
      obtain ⟨j, rfl⟩ := Int.eq_ofNat_of_zero_le (show 0 ≤ i by omega)
      go_enter Try.func45, Try.ntmps45
      go_wp2
      go_ret
      exact ⟨by rw [hg.out]; rfl, rfl⟩

theorem size_any (h : MemR w bM bC N xs) : Calls Try.prog 26 #[.pointer (some ⟨bM, 0, none⟩)] w fun e w' => e = .returned (.int .i64 N) ∧ w = w' := by
  obtain ⟨s, k0, k1, k2, k3, b4, hM, hC, hn, hN⟩ := h
  have c0 : w.cell? ⟨bM, 0, none⟩ = some (.slice (some ⟨bC, 0, none⟩) N N) := hM.cell 0
  clear hM hC hn
  go_enter Try.func26, Try.ntmps26
  go_wp2
  go_ret
  exact ⟨rfl, rfl⟩
end

theorem int_info : (Try.prog.info? 3).map (fun i => (i.zero, i.size, i.bytes)) = some (some (.int .i64 0), 1, 8) := by kernel_rfl

/-- A pointer to a struct that was made, and no error. -/
def MadePost (w : World) (R : World → Nat → Prop) (e : Ending) (w' : World) : Prop :=
  ∃ b, e = .returned (.tuple #[.pointer (some ⟨b, 0, none⟩), .int .i64 0]) ∧ w.heap.size ≤ b ∧ R w' b ∧ Below w.heap.size w w'

theorem new_any (n : Nat) (hn : n ≤ 1048576) (w : World) : Calls Try.prog 5 #[.int .i64 n] w
    (MadePost w fun w' b => ∃ c, w.heap.size ≤ c ∧ MemR w' b c n (List.replicate n 0)) := by
  obtain ⟨i0, hi, hz, h1, h8⟩ := info_parts int_info
  have hmk := fun W => run_make_ints (P := Try.prog) 22 3 i0 Try.underlying22 hi hz h1 h8 .i64 .i64 n hn W
  clear hi hz h1 h8
  go_enter Try.func5, Try.ntmps5
  go_wp2
  go_ret2
  refine ⟨_, rfl, by omega, ⟨w.heap.size, Nat.le_refl _, 0, 0, 0, 0, 0, false, ?_, ?_, by simp, hn⟩, ?_⟩
  · exact Blk.new' _ _ _ (by simp)
  · exact (Blk.new _ _ _).alloc _
  · exact ((Below.refl _ _).alloc (Nat.le_refl _) _).alloc (by simp) _
end Go.Proofs.Ytnpglcbkpbhnoaa
