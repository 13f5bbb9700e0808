/- The walks over package pool, seventh part: Own, Shared. -/
import Derived.Test.YtnpglcbkpbhnoaaPoolF
namespace Go.Proofs.Ytnpglcbkpbhnoaa
open Go.RowKit Kq

namespace Kq
/-- A chain of links: from s on, each slot's cell (at b + slot) tells the next; below 0: it ends. -/
def Chain (cs : List Int) (b : Int) : Int → List Int → Prop
  | s, [] => s < 0
  | s, a :: l => s = a ∧ 0 ≤ a ∧ Chain cs b (gt cs (b + a)) l
end Kq

section
variable {w : World} {c : Cfg}

/-- A list of so many, and nothing old is turned. -/
def LenPost (w : World) (k : Nat) (e : Ending) (w' : World) : Prop := ∃ A cap, e = .returned (.slice A k cap) ∧ Below w.heap.size w w'

theorem owns_len {w : World} {base : Nat} {e : TypeId} {size n : Nat} {v : Value} {xs : List Value} (h : w.ownsRow base e size v n xs) : ∃ A cap, v = .slice A n cap := by
  rcases h.2 with ⟨rfl, h0⟩ | ⟨g, cap, cur, rfl, _⟩
  · rw [h0]; exact ⟨_, _, rfl⟩
  · exact ⟨_, _, rfl⟩

theorem clone_len {base : Nat} {v : Value} {own : List Int} (hown : w.ownsRow base 3 1 v own.length (ints own)) (hl : own.length ≤ 2) :
    Calls Try.prog 37 #[v] w (LenPost w own.length) := by
  rcases hown.2 with ⟨rfl, h0⟩ | ⟨g, cap, cur, rfl, hg, hb, hc, hcap, hsz, htk⟩
  · rw [h0]
    refine (Try.slices_Clone_nil _ _ _).mono ?_
    rintro e w' ⟨rfl, rfl⟩
    exact ⟨_, _, rfl, Below.refl _ _⟩
  · by_cases h0 : own.length = 0
    · rw [h0]
      refine (Try.slices_Clone_int_zero _ _ _).mono ?_
      rintro e w' ⟨v', rfl, ho, _, hbel⟩
      obtain ⟨A, c', rfl⟩ := owns_len ho
      exact ⟨_, _, rfl, hbel⟩
    · refine (Try.slices_Clone_int g 0 own.length cap own w (Nat.le_refl _) (by omega) ?_).mono ?_
      · intro j hj
        have := hown.cellAt j (by omega)
        rw [Nat.zero_add, this, ints_get _ _ hj]
      · rintro e w' ⟨v', rfl, ho, _, hbel⟩
        obtain ⟨A, c', rfl⟩ := owns_len ho
        exact ⟨_, _, rfl, hbel⟩

theorem own_any {cs bds own : List Int} (hR : PoolR w c cs bds own) :
    Calls Try.prog 25 #[.pointer (some ⟨c.bP, 0, none⟩), .int .i64 0] w (LenPost w own.length) := by
  obtain ⟨hM, hP, hN, h1, h2, h3, h4, v, hW, hown, hvC, hl⟩ := hR
  have p3 : w.cell? ⟨c.bP, 3, none⟩ = some (.slice (some ⟨c.bW, 0, none⟩) 1 1) := hP.cell 3
  have o0 : w.cell? ⟨c.bW, 0, none⟩ = some v := hW.cell 0
  have HC := Lib.hid (clone_len hown hl)
  clear hM hP hN hW hown
  go_enter Try.func25, Try.ntmps25
  go_wp2_with (go_at_call 37; refine HC.out.mono ?_; rintro e w1 ⟨A, cap, rfl, hb⟩)
  go_ret
  exact ⟨_, _, rfl, hb⟩

def sLen : Value → Nat | .slice _ n _ => n | _ => 0
/-- How Shared stands ahead of a round. -/
def SRel (w : World) (cs : List Int) (b : Int) (l : List Int) (out at_ : Value) (wr : World) : Prop :=
  ∃ (l1 l2 : List Int) (a : Int), l = l1 ++ l2 ∧ at_ = .int .i64 a ∧ Chain cs b a l2 ∧ wr.ownsRow w.heap.size 3 1 out l1.length (ints l1) ∧ Below w.heap.size w wr

set_option maxRecDepth 100000 in
set_option maxHeartbeats 800000 in
theorem shared_any {cs bds own l : List Int} (hR : PoolR w c cs bds own) (hl : Chain cs (c.pb + 1) (upl (gt cs c.pb)) l) (hn : l.length ≤ c.n) (hbd : ∀ a ∈ l, a < 4294967296) :
    Calls Try.prog 24 #[.pointer (some ⟨c.bP, 0, none⟩)] w (LenPost w l.length) := by
  have hR0 := hR
  obtain ⟨hM, hP, hN, h1, h2, h3, h4, _⟩ := hR
  have hN0 : c.N ≤ 1048576 := by obtain ⟨s, k0, k1, k2, k3, b4, _, _, _, h⟩ := hM; exact h
  have p0 : w.cell? ⟨c.bP, 0, none⟩ = some (.pointer (some ⟨c.bM, 0, none⟩)) := hP.cell 0
  have p1 : w.cell? ⟨c.bP, 1, none⟩ = some (.int .i64 c.pb) := hP.cell 1
  have HL := Lib.hid hl
  clear hl
  go_enter Try.func24, Try.ntmps24
  go_wp2_with fail
  go_region_held3 (fun w' => w'.cell? ⟨c.bP, 0, none⟩ = some (.pointer (some ⟨c.bM, 0, none⟩)) ∧ w'.cell? ⟨c.bP, 1, none⟩ = some (.int .i64 c.pb)) (first | go_keep)
    (first | (go_at_call 45; refine (peek_any _ (by exact hM)).mono ?_; rintro e w' ⟨rfl, rfl⟩) | (go_at_call 44; refine (unpack_any _ _).mono ?_; rintro e w' ⟨rfl, rfl⟩))
  go_wp2_with fail
  go_loopw [4, 5] (fun at_ out wr => SRel w cs (c.pb + 1) l out at_ wr) (fun _ out _ => l.length - sLen out)
  case atStart => exact ⟨[], l, _, rfl, rfl, HL.out, World.ownsRow_nil _ _ _ _, (Below.refl _ _).drew⟩
  case round =>
    obtain ⟨l1, l2, a, hl12, rfl, hch, hown, hbel⟩ := hrel
    obtain ⟨A, cap, rfl⟩ := owns_len hown
    have hRr := hR0.below hbel
    have q2 : wr.cell? ⟨c.bP, 2, none⟩ = some (.slice (some ⟨c.bN, 0, none⟩) c.n c.n) := hRr.2.1.cell 2
    cases l2 with
    | nil =>
      have ha : a < 0 := hch
      have hl1 : l1.length = l.length := by rw [hl12]; simp
      have HQ : Hid (l1.length = l.length) := Lib.hid hl1
      clear hl12 hl1 hch hown hRr
      go_wp2_with fail
      go_ret
      exact ⟨A, cap, by rw [← HQ.out]; rfl, hbel⟩
    | cons a' l2 =>
      obtain ⟨e1, ha, hch2⟩ := hch
      subst e1
      have ham : a < 4294967296 := hbd a (by rw [hl12]; simp)
      have hlen : l1.length + 1 ≤ l.length := by rw [hl12]; simp
      have hle : l1.length ≤ c.n := by omega
      have hd : decide (l1.length ≤ c.n) = true := by simp; omega
      have HQ := Lib.hid hl12
      have HCH := Lib.hid hch2
      clear hl12 hch2
      obtain ⟨i0, hi, hz, h11, h8⟩ := info_parts int_info
      have f3 : l1.length + 1 ≤ maxLen := by unfold maxLen; omega
      have f4 : (l1.length + 1) * 8 ≤ 140737488355328 := by omega
      have f5 : w.heap.size ≤ wr.heap.size := hbel.size
      go_wp2_with (at_builtin; refine wpList_append_lies _ rfl (.tmp 33) (.tmp 35) 22 rfl w.heap.size 3 i0 (.int .i64 0) 1 8 Try.underlying22 hi hz h11 h8 rfl (by decide) (.slice A l1.length cap) l1.length (ints l1) rfl (hown.alloc _) ⟨wr.heap.size, 0, none⟩ 1 1 [.int .i64 a] rfl rfl (one_news _ _ _) (by simp [Value.oneCell']) (by decide) f3 f4 (by simp; omega) _ rfl ?_; intro g cap' w1 hown' hgrow hat hlt)
      have hbel1 : Below w.heap.size w w1 := (hbel.alloc hbel.size _).grown hgrow (by simp; omega) (fun k hk => (hown.lt k hk).1)
      have hR1 := hR0.below hbel1
      have q0 : w1.cell? ⟨c.bP, 0, none⟩ = some (.pointer (some ⟨c.bM, 0, none⟩)) := hR1.2.1.cell 0
      have q1 : w1.cell? ⟨c.bP, 1, none⟩ = some (.int .i64 c.pb) := hR1.2.1.cell 1
      have hM1 := hR1.1
      clear hgrow hat hlt hi hz h11 h8 hown hRr hR1
      go_region_held3 (fun w' => w'.cell? ⟨c.bP, 0, none⟩ = some (.pointer (some ⟨c.bM, 0, none⟩)) ∧ w'.cell? ⟨c.bP, 1, none⟩ = some (.int .i64 c.pb)) (first | go_keep)
        (first | (go_at_call 29; refine (link_any _ (by exact q1) (by omega) (by omega) (by omega)).mono ?_; rintro e w' ⟨rfl, rfl⟩) | (go_at_call 45; refine (peek_any _ (by exact hM1)).mono ?_; rintro e w' ⟨rfl, rfl⟩))
      go_wp2
      go_roundw
      case rel => exact ⟨l1 ++ [a], l2, _, by rw [HQ.out]; simp, rfl, HCH.out, by simpa [ints] using hown'.drew, hbel1.drew⟩
      case measure => simp [sLen]; omega
end
end Go.Proofs.Ytnpglcbkpbhnoaa
