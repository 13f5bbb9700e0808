/- The calls of the law, in the law's own words. -/
import Derived.Test.YtnpglcbkpbhnoaaLawS
namespace Go.Proofs.Ytnpglcbkpbhnoaa
open Go.RowKit Kq

theorem stands_any (w : World) : Calls Try.prog 10 #[] w fun e w' => e = .returned (.bool true) ∧ w = w' := by
  go_enter Try.func10, Try.ntmps10
  go_wp2_with (first | go_in)
  go_ret
  exact ⟨rfl, rfl⟩

/-- A pool's act that has come to its end. -/
def Told (w : World) (c : Cfg) (b : Nat) (s : Int) : Prop := ∃ give top next, ActR w b c give s 3 top next

/-- draws[m:], as the walk has it: at the slice's end, and ahead of it. -/
theorem argI_end {w : World} {A : Option Addr} {l m : Nat} {ds : List Int} (hl : ds.length = l) (hc : l ≤ m) (h : A = none ∧ ds = [] ∨ ∃ b off, A = some ⟨b, off, none⟩ ∧ b < w.heap.size ∧ ∀ j : Nat, j < l → w.cell? ⟨b, off + j, none⟩ = some (.int .i64 (ds.getD j 0))) :
    ArgI w (.slice A (l - m) 0) (ds.drop m) := by
  have e : ds.drop m = [] := List.drop_eq_nil_of_le (by omega)
  rw [e, show l - m = 0 by omega]
  refine ⟨A, 0, rfl, Nat.le_refl _, ?_⟩
  rcases h with ⟨rfl, rfl⟩ | ⟨b, off, rfl, hb, _⟩
  · exact .inl ⟨rfl, rfl⟩
  · exact .inr ⟨b, off, rfl, hb, fun j hj => absurd hj (by simp)⟩
theorem argI_drop {w : World} {A : Option Addr} {l m cap : Nat} {ds : List Int} (hl : ds.length = l) (hc : l ≤ cap) (hm : m ≤ l) (h : A = none ∧ ds = [] ∨ ∃ b off, A = some ⟨b, off, none⟩ ∧ b < w.heap.size ∧ ∀ j : Nat, j < l → w.cell? ⟨b, off + j, none⟩ = some (.int .i64 (ds.getD j 0))) :
    ArgI w (.slice (Option.map (fun x => x.add m) A) (l - m) (cap - m)) (ds.drop m) := by
  have e : (ds.drop m).length = l - m := by simp [hl]
  refine ⟨_, _, by rw [e], by omega, ?_⟩
  rcases h with ⟨rfl, rfl⟩ | ⟨b, off, rfl, hb, hc⟩
  · exact .inl ⟨rfl, by simp⟩
  · refine .inr ⟨b, off + m, ?_, hb, fun j hj => ?_⟩
    · simp only [Option.map_some, Addr.add]
      by_cases h0 : m = 0
      · simp [h0]
      · simp [h0]
    · have := hc (m + j) (by omega)
      rw [show off + m + j = off + (m + j) by omega, this]
      simp [List.getD_eq_getElem?_getD]

section
variable {w0 w w' : World} {c : Cfg} {bH bO bL n : Nat} {cs bds own sh : List Int} {ls lm : ML} {hd : List Int} {k b : Nat} {s : Int}

theorem Told.slot (h : Told w c b s) : Calls Try.prog 14 #[.pointer (some ⟨b, 0, none⟩)] w fun e w' => e = .returned (.int .i64 s) ∧ w = w' := by
  obtain ⟨give, top, next, h⟩ := h
  exact slot_any h
theorem Told.lt (h : Told w c b s) : b < w.heap.size := by
  obtain ⟨give, top, next, h⟩ := h
  exact Blk.lt h
theorem Told.below (h : Told w c b s) (k : Below w.heap.size w w') : Told w' c b s := by
  obtain ⟨give, top, next, h⟩ := h
  exact ⟨give, top, next, Blk.of_eq h (k.block _ (Blk.lt h))⟩
theorem Told.kept (h : Told w c b s) (hq : PoolR w c cs bds own) (k : Only [c.bN] w w') : Told w' c b s := by
  obtain ⟨give, top, next, h⟩ := h
  exact ⟨give, top, next, Blk.only h k (by have := Blk.ne_ h hq.2.2.1 (by decide); simp [this])⟩
theorem Told.hk {H : HCfg} {N : Nat} (h : Told w c b s) (hM : MemR w H.c.bM H.c.bC N cs) (hb : b < H.h0) (k : HK H w w') : Told w' c b s := by
  obtain ⟨give, top, next, h⟩ := h
  have hap := hM.apart h (by decide) (by decide)
  simp at hap
  exact ⟨give, top, next, Blk.of_eq h (k.block _ hb (Blk.lt h) hap.1 hap.2)⟩

theorem LSt.drew (h : LSt w0 w c bH bO bL n cs bds own sh ls hd lm k) : LSt w0 w.drew c bH bO bL n cs bds own sh ls hd lm k :=
  ⟨h.q, h.m, h.inv, h.bel.drew, h.cn, h.cpb, h.clo, h.bO0, h.bL0⟩
theorem LSt.drewN (h : LSt w0 w c bH bO bL n cs bds own sh ls hd lm k) (m : Nat) : LSt w0 (w.drewN m) c bH bO bL n cs bds own sh ls hd lm k :=
  ⟨h.q, h.m, h.inv, ⟨h.bel.os, h.bel.tape, h.bel.output, h.bel.size, h.bel.block⟩, h.cn, h.cpb, h.clo, h.bO0, h.bL0⟩
theorem Told.drew (h : Told w c b s) : Told w.drew c b s := h

/-- The law's start. -/
theorem lst_start {w1 w2 w3 w4 : World} {c : Cfg} {bH bO bL n N T : Nat} (hn1 : 1 ≤ n) (hn : n ≤ 31) (hN : n + 1 + (63 + n) = N) (hcn : c.n = n) (hcpb : c.pb = 0) (hclo : c.lo = w0.heap.size)
    (hbM : w0.heap.size ≤ c.bM) (hbC : w0.heap.size ≤ c.bC) (hB1 : Below w0.heap.size w0 w1) (hO2 : Only [c.bM, c.bC] w1 w2) (hO3 : Only [c.bM, c.bC] w2 w3)
    (hQ3 : QR w3 c bH (n + 1) (Kq.topped (Kq.laid (List.replicate N 0) 0 n n) (n + 1) 63) (List.replicate n 0) []) (hM4 : MoundR T w4 bO bL (List.replicate 64 []) 0) (hT : T ≤ w4.heap.size) (hB4 : Below w3.heap.size w3 w4) (hbO : w3.heap.size ≤ bO) (hbL : w3.heap.size ≤ bL) :
    LSt w0 w4 c bH bO bL n (startCells n) (List.replicate n 0) [] (upTo n 0) (List.replicate 64 []) [] (List.replicate 64 []) 0 := by
  subst hN
  have h1 := hB1.size
  have h2 := hO2.size
  have h3 := hO3.size
  have hb2 := Only.below hB1 hO2 h1 (by simp [hbM, hbC])
  have hb3 := Only.below hb2 hO3 hb2.size (by simp [hbM, hbC])
  exact ⟨hQ3.below hB4, hM4.mono hT, inv_start n hn1 (by omega), hb3.trans (hB4.mono (by omega)), hcn, hcpb, hclo, by omega, by omega⟩

def TakeL (w0 : World) (c : Cfg) (bH bO bL n : Nat) (cs bds own sh : List Int) (ls lm : ML) (k : Nat) (e : Ending) (w' : World) : Prop :=
  ∃ b, e = .returned (.pointer (some ⟨b, 0, none⟩)) ∧ w0.heap.size ≤ b ∧ LSt w0 w' c bH bO bL n cs bds own sh ls [] lm k ∧ ActR w' b c false (-1) 0 0 0
theorem take_l (h : LSt w0 w c bH bO bL n cs bds own sh ls [] lm k) :
    Calls Try.prog 11 #[.pointer (some ⟨c.bP, 0, none⟩), .int .i64 0] w (TakeL w0 c bH bO bL n cs bds own sh ls lm k) := by
  refine (take_any h.q.1).mono ?_
  rintro e w' ⟨b, he, hb, hP, hA, hB⟩
  exact ⟨b, he, Nat.le_trans h.bel.size hb, h.made hB, hA⟩

def TakenL (w0 : World) (c : Cfg) (bH bO bL n : Nat) (bds : List Int) (ls lm : ML) (k b : Nat) (e : Ending) (w' : World) : Prop :=
  (∃ v, e = .returned v) ∧ ∃ cs own sh s, LSt w0 w' c bH bO bL n cs bds own sh ls [s] lm k ∧ Told w' c b s
theorem taken_l (h : LSt w0 w c bH bO bL n cs bds own sh ls [] lm k) (hA : ActR w b c false (-1) 0 0 0) (hb : w0.heap.size ≤ b) (hne : own ++ sh ≠ []) :
    Calls Try.prog 12 #[.pointer (some ⟨b, 0, none⟩)] w (TakenL w0 c bH bO bL n bds ls lm k b) := by
  obtain ⟨t, m, sh', h0, h1, hr, hph, hI⟩ := inv_take h.inv hne
  refine (pools_any ⟨cs, own, false, -1, 0, 0, 0⟩ m h0 h1 (by rw [h.clo]; exact hb) ⟨h.q.1, hA⟩ ?_ ?_).mono ?_
  · rw [h.cpb, hr.1]; exact hph
  · intro k hk; rw [h.cpb]; exact hr.2 k hk
  · rintro e w' ⟨hv, ⟨hP, hA'⟩, hK⟩
    rw [h.cpb, hr.1] at hP hA'
    rw [hph] at hA'
    exact ⟨hv, _, _, _, _, h.pool hP hK hI, ⟨_, _, _, hA'⟩⟩

def KeepL (w0 : World) (c : Cfg) (bH bO bL n : Nat) (cs own sh : List Int) (ls lm : ML) (k b : Nat) (s key : Int) (e : Ending) (w' : World) : Prop :=
  (∃ v, e = .returned v) ∧ ∃ bds, LSt w0 w' c bH bO bL n cs bds own sh ls [s] lm k ∧ Told w' c b s ∧ gt bds s = key ∧ ∀ i : Nat, 1 ≤ i → i ≤ 63 → ∀ x ∈ at1 ls i, x.2 ≠ s
theorem keep_l (h : LSt w0 w c bH bO bL n cs bds own sh ls [s] lm k) (hT : Told w c b s) (key : Int) :
    Calls Try.prog 13 #[.pointer (some ⟨c.bP, 0, none⟩), .int .i64 s, .agg #[.slice none 0 0, .int .i64 key]] w (KeepL w0 c bH bO bL n cs own sh ls lm k b s key) := by
  obtain ⟨s0, s1, hI, hg, hno⟩ := inv_keep h.inv key
  obtain ⟨j, rfl⟩ := Int.eq_ofNat_of_zero_le s0
  have hcn := h.cn
  refine (keep_any j key h.q.1 (by omega)).mono ?_
  rintro e w' ⟨hv, hP, hK, hO⟩
  exact ⟨hv, _, h.pool hP hK hI, hT.kept h.q.1 hO, hg, hno⟩

theorem push_l {v : Value} {ds : List Int} (h : LSt w0 w c bH bO bL n cs bds own sh ls [s] lm k) (hv : ArgI w v ds) (hbig : ds.length ≤ 140737488355328) :
    Calls Try.prog 15 #[.pointer (some ⟨bH, 0, none⟩), .int .i64 s, v] w (HBegin w c bH (n + 1) bds own (pushStart cs s ds)) := by
  have hb := h.inv.bnd s (by simp)
  exact push_any h.q hv hb.1 (by rw [h.cn]; exact hb.2) hbig

/-- A heap's act tells whether it fits. -/
def FitsIs (w : World) (b : Nat) (f : Bool) : Prop := Calls Try.prog 17 #[.pointer (some ⟨b, 0, none⟩)] w fun e w' => e = .returned (.bool f) ∧ w = w'

theorem FitsIs.out {b : Nat} {f : Bool} (h : FitsIs w b f) : Calls Try.prog 17 #[.pointer (some ⟨b, 0, none⟩)] w fun e w' => e = .returned (.bool f) ∧ w = w' := h

theorem at1_len (ls : ML) (i : Nat) : (at1 ls i).length ≤ (queued ls).length := by
  by_cases hi : i < ls.length
  · have h := (flat_set ls i [] hi).length_eq
    unfold queued ids
    rw [List.length_map]
    simp only [List.length_append, List.length_nil] at h
    omega
  · unfold at1
    rw [List.getD_eq_getElem?_getD, List.getElem?_eq_none (by omega)]
    exact Nat.zero_le _

def InL (w0 w' : World) (c : Cfg) (bH bO bL n : Nat) (cs bds own sh : List Int) (ls : ML) (k b : Nat) (s key : Int) (ds : List Int) (f : Bool) : Prop :=
  (f = false ∧ LSt w0 w' c bH bO bL n cs bds own sh ls [s] ls k) ∨
  (f = true ∧ (32 ≤ mLeaf ls key ds ∧ mLeaf ls key ds ≤ 63) ∧ (at1 ls (mPlace ls key (mLeaf ls key ds))).length ≤ 4096 ∧
    LSt w0 w' c bH bO bL n cs bds own sh (mInsert ls (key, s) (mPlace ls key (mLeaf ls key ds))) [] ls k ∧ (queued (mInsert ls (key, s) (mPlace ls key (mLeaf ls key ds)))).length = (queued ls).length + 1)
def PushedL (w0 : World) (c : Cfg) (bH bO bL n : Nat) (bds own sh : List Int) (ls : ML) (k b bA : Nat) (s key : Int) (ds : List Int) (e : Ending) (w' : World) : Prop :=
  (∃ v, e = .returned v) ∧ Told w' c b s ∧ ∃ cs f, FitsIs w' bA f ∧ InL w0 w' c bH bO bL n cs bds own sh ls k b s key ds f
theorem pushed_l {w1 : World} {bA : Nat} {ds : List Int} {key : Int} (h : LSt w0 w c bH bO bL n cs bds own sh ls [s] ls k) (hT : Told w c b s) (hg : gt bds s = key) (hno : ∀ i : Nat, 1 ≤ i → i ≤ 63 → ∀ x ∈ at1 ls i, x.2 ≠ s)
    (hb : Below w.heap.size w w1) (hB : HR w1 bA ⟨c, bH, n + 1, w.heap.size⟩ bds own (pushStart cs s ds)) :
    Calls Try.prog 16 #[.pointer (some ⟨bA, 0, none⟩)] w1 (PushedL w0 c bH bO bL n bds own sh ls k b bA s key ds) := by
  obtain ⟨t, m, h0, h1, hr, hph, hI⟩ := inv_push h.inv hg hno ds
  refine (heaps_any (pushStart cs s ds) m h0 h1 hB ?_ ?_).mono ?_
  · rw [hr.1]; exact hph
  · exact hr.2
  · rintro e w' ⟨hv, hR, hK⟩
    rw [hr.1] at hR
    refine ⟨hv, (hT.below hb).hk hB.1 hT.lt hK, t.cs, t.fits, fits_any hR, ?_⟩
    have hn4 := h.inv.sim.n4
    have hcnt := h.inv.cnt
    have hlen := at1_len ls (mPlace ls key (mLeaf ls key ds))
    simp only [List.length_append] at hcnt
    rcases hI with ⟨hf, hI⟩ | ⟨hf, l0, l1, hI, hl⟩
    · exact .inl ⟨hf, h.act hb hB hR hK hI⟩
    · exact .inr ⟨hf, ⟨l0, l1⟩, by omega, h.act hb hB hR hK hI, hl⟩

def InsL (w0 : World) (c : Cfg) (bH bO bL n : Nat) (cs bds own sh : List Int) (ls lm : ML) (hd : List Int) (k : Nat) (e : Ending) (w' : World) : Prop :=
  e = .returned (.bool true) ∧ LSt w0 w' c bH bO bL n cs bds own sh ls hd lm (k + 1)
theorem insert_l {v : Value} {ds : List Int} {key : Int} (h : LSt w0 w c bH bO bL n cs bds own sh ls hd lm k) (hv : ArgI w v ds) (hk : k ≤ 4096) (hl : 32 ≤ mLeaf lm key ds ∧ mLeaf lm key ds ≤ 63)
    (hlen : (at1 lm (mPlace lm key (mLeaf lm key ds))).length ≤ 4096) :
    Calls Try.prog 19 #[.pointer (some ⟨bO, 0, none⟩), .agg #[.int .i64 key, .int .i64 s], v] w (InsL w0 c bH bO bL n cs bds own sh ls (mInsert lm (key, s) (mPlace lm key (mLeaf lm key ds))) hd k) := by
  refine (insert_any (x := (key, s)) h.m (Nat.le_refl _) hv (by omega) (by omega) hl hlen).mono ?_
  rintro e w' ⟨he, hM, hO⟩
  exact ⟨he, h.mound hM hO⟩

def GiveL (w0 : World) (c : Cfg) (bH bO bL n : Nat) (cs bds own sh : List Int) (ls lm : ML) (k : Nat) (s : Int) (e : Ending) (w' : World) : Prop :=
  ∃ b, e = .returned (.pointer (some ⟨b, 0, none⟩)) ∧ w0.heap.size ≤ b ∧ LSt w0 w' c bH bO bL n cs bds own sh ls [s] lm k ∧ ActR w' b c true s 0 0 0
theorem give_l (h : LSt w0 w c bH bO bL n cs bds own sh ls [s] lm k) :
    Calls Try.prog 18 #[.pointer (some ⟨c.bP, 0, none⟩), .int .i64 0, .int .i64 s] w (GiveL w0 c bH bO bL n cs bds own sh ls lm k s) := by
  have hb := h.inv.bnd s (by simp)
  refine (give_any s h.q.1 hb.1 (by rw [h.cn]; exact hb.2)).mono ?_
  rintro e w' ⟨b, he, hb, hP, hA, hB⟩
  exact ⟨b, he, Nat.le_trans h.bel.size hb, h.made hB, hA⟩

def GivenL (w0 : World) (c : Cfg) (bH bO bL n : Nat) (bds : List Int) (ls lm : ML) (k : Nat) (e : Ending) (w' : World) : Prop :=
  (∃ v, e = .returned v) ∧ ∃ cs own sh, LSt w0 w' c bH bO bL n cs bds own sh ls [] lm k
theorem given_l (h : LSt w0 w c bH bO bL n cs bds own sh ls [s] lm k) (hA : ActR w b c true s 0 0 0) (hb : w0.heap.size ≤ b) :
    Calls Try.prog 12 #[.pointer (some ⟨b, 0, none⟩)] w (GivenL w0 c bH bO bL n bds ls lm k) := by
  obtain ⟨t, m, sh', h0, h1, hr, hph, hI⟩ := inv_give h.inv
  refine (pools_any ⟨cs, own, true, s, 0, 0, 0⟩ m h0 h1 (by rw [h.clo]; exact hb) ⟨h.q.1, hA⟩ ?_ ?_).mono ?_
  · rw [h.cpb, hr.1]; exact hph
  · intro k hk; rw [h.cpb]; exact hr.2 k hk
  · rintro e w' ⟨hv, ⟨hP, hA'⟩, hK⟩
    rw [h.cpb, hr.1] at hP hA'
    exact ⟨hv, _, _, _, h.pool hP hK hI⟩

theorem pop_l (h : LSt w0 w c bH bO bL n cs bds own sh ls hd lm k) :
    Calls Try.prog 20 #[.pointer (some ⟨bH, 0, none⟩)] w (HBegin w c bH (n + 1) bds own (popStart cs)) := pop_any h.q

/-- A heap's act that has taken a slot out. -/
def HTold (w : World) (b : Nat) (s : Int) : Prop := ∃ cells, Blk w b 85 cells ∧ cells[1]? = some (.int .i64 15) ∧ cells[2]? = some (.int .i64 s) ∧ cells[3]? = some (.bool false)
theorem HTold.slot (h : HTold w b s) : Calls Try.prog 22 #[.pointer (some ⟨b, 0, none⟩)] w fun e w' => e = .returned (.int .i64 s) ∧ w = w' := by
  obtain ⟨cells, hA, h1, h2, h3⟩ := h
  have a1 : w.cell? ⟨b, 1, none⟩ = some (.int .i64 15) := (hA.cell 1).trans h1
  have a2 : w.cell? ⟨b, 2, none⟩ = some (.int .i64 s) := (hA.cell 2).trans h2
  have a3 : w.cell? ⟨b, 3, none⟩ = some (.bool false) := (hA.cell 3).trans h3
  clear hA h1 h2 h3
  go_enter Try.func22, Try.ntmps22
  go_wp2
  go_ret
  exact ⟨rfl, rfl⟩
theorem HTold.only {S : List Nat} (h : HTold w b s) (k : Only S w w') (hS : ∀ g, g ∈ S → ∃ t cs, Blk w g t cs ∧ t ≠ 85) : HTold w' b s := by
  obtain ⟨cells, hA, h⟩ := h
  exact ⟨cells, hA.only k (fun hm => by obtain ⟨t, cs, hb, ht⟩ := hS b hm; exact ht (hb.inj hA).1), h⟩

def PoppedL (w0 : World) (c : Cfg) (bH bO bL n : Nat) (bds own sh : List Int) (ls : ML) (k bA : Nat) (e : Ending) (w' : World) : Prop :=
  (∃ v, e = .returned v) ∧ ∃ (x : Itm) (l' : List Itm) (cs : List Int), at1 ls 1 = x :: l' ∧ gt bds x.2 = x.1 ∧ 0 ≤ x.2 ∧ HTold w' bA x.2 ∧ LSt w0 w' c bH bO bL n cs bds own sh (mPop ls) [x.2] ls k ∧ (queued ls).length = (queued (mPop ls)).length + 1
theorem popped_l {w1 : World} {bA : Nat} (h : LSt w0 w c bH bO bL n cs bds own sh ls [] ls k) (hq : 0 < (queued ls).length)
    (hb : Below w.heap.size w w1) (hB : HR w1 bA ⟨c, bH, n + 1, w.heap.size⟩ bds own (popStart cs)) :
    Calls Try.prog 16 #[.pointer (some ⟨bA, 0, none⟩)] w1 (PoppedL w0 c bH bO bL n bds own sh ls k bA) := by
  obtain ⟨x, l', t, m, hl, hg, hx0, h0, h1, hr, hph, hsl, hpu, hI, hlen⟩ := inv_pop h.inv hq
  refine (heaps_any (popStart cs) m h0 h1 hB ?_ ?_).mono ?_
  · rw [hr.1]; exact hph
  · exact hr.2
  · rintro e w' ⟨hv, hR, hK⟩
    rw [hr.1] at hR
    refine ⟨hv, x, l', t.cs, hl, hg, hx0, ?_, h.act hb hB hR hK hI, hlen⟩
    obtain ⟨vd, vw, vh, hA⟩ := hR.2.2.2
    refine ⟨_, hA.1, ?_, ?_, ?_⟩
    · rw [← hph]; rfl
    · rw [← hsl]; rfl
    · rw [← hpu]; rfl

def MPopL (w0 : World) (c : Cfg) (bH bO bL n : Nat) (cs bds own sh : List Int) (ls lm : ML) (hd : List Int) (k bA : Nat) (x : Itm) (s : Int) (e : Ending) (w' : World) : Prop :=
  e = .returned (.tuple #[.agg #[.int .i64 x.1, .int .i64 x.2], .bool true]) ∧ LSt w0 w' c bH bO bL n cs bds own sh ls hd (mPop lm) k ∧ HTold w' bA s
theorem mpop_l {x : Itm} {l' : List Itm} {bA : Nat} (h : LSt w0 w c bH bO bL n cs bds own sh ls hd lm (k + 1)) (hl : at1 lm 1 = x :: l') (hk : k + 1 ≤ 4096) (hT : HTold w bA s) :
    Calls Try.prog 21 #[.pointer (some ⟨bO, 0, none⟩)] w (MPopL w0 c bH bO bL n cs bds own sh ls lm hd k bA x s) := by
  refine (mpop_any h.m (Nat.le_refl _) hl (by omega) (by omega)).mono ?_
  rintro e w' ⟨he, hM, hO⟩
  have e1 : (((k + 1 : Nat) : Int) - 1) = (k : Int) := by omega
  rw [e1] at hM
  refine ⟨he, h.mound (hM.mono hO.size) hO, hT.only hO (fun g hg => ?_)⟩
  simp at hg
  rcases hg with rfl | rfl
  · exact ⟨_, _, h.m.1, by decide⟩
  · exact ⟨_, _, h.m.2.2.choose_spec.2.1, by decide⟩

theorem bound_key {slot key : Int} (h : PoolR w c cs bds own) (hg : gt bds slot = key) :
    Calls Try.prog 23 #[.pointer (some ⟨c.bP, 0, none⟩), .int .i64 slot] w fun e w' => e = .returned (.int .i64 key) ∧ w = w' := by
  subst hg
  exact bound_any slot h

def LenL (w0 : World) (c : Cfg) (bH bO bL n : Nat) (cs bds own sh : List Int) (ls lm : ML) (hd : List Int) (k m : Nat) (e : Ending) (w' : World) : Prop :=
  ∃ A cap, e = .returned (.slice A m cap) ∧ LSt w0 w' c bH bO bL n cs bds own sh ls hd lm k
theorem own_l (h : LSt w0 w c bH bO bL n cs bds own sh ls hd lm k) :
    Calls Try.prog 25 #[.pointer (some ⟨c.bP, 0, none⟩), .int .i64 0] w (LenL w0 c bH bO bL n cs bds own sh ls lm hd k own.length) := by
  refine (own_any h.q.1).mono ?_
  rintro e w' ⟨A, cap, he, hB⟩
  exact ⟨A, cap, he, h.made hB⟩
theorem shared_l (h : LSt w0 w c bH bO bL n cs bds own sh ls hd lm k) :
    Calls Try.prog 24 #[.pointer (some ⟨c.bP, 0, none⟩)] w (LenL w0 c bH bO bL n cs bds own sh ls lm hd k sh.length) := by
  have hcnt := h.inv.cnt
  simp only [List.length_append] at hcnt
  have hn4 := h.inv.ps.n4
  refine (shared_any h.q.1 (l := sh) (by rw [h.cpb]; exact h.inv.ps.chain) (by rw [h.cn]; omega) (fun a ha => by have := h.inv.ps.sh0 a ha; omega)).mono ?_
  rintro e w' ⟨A, cap, he, hB⟩
  exact ⟨A, cap, he, h.made hB⟩
end
end Go.Proofs.Ytnpglcbkpbhnoaa
