/- The walks over package pool, third part: first, Step. -/
import Derived.Test.YtnpglcbkpbhnoaaPoolB
namespace Go.Proofs.Ytnpglcbkpbhnoaa
open Go.RowKit Kq

section
variable {w : World} {c : Cfg} {bA : Nat}

def FPost (w : World) (bA : Nat) (c : Cfg) (cs bds own : List Int) (give : Bool) (slot ph top next : Int) (e : Ending) (w' : World) : Prop :=
  (∃ v, e = .returned v) ∧ PoolR w' c cs bds own ∧ ActR w' bA c give slot ph top next ∧ Keeps c.lo TP w w'

/-- A pool kept while one's own slots turn. -/
theorem PoolR.own {w w' : World} {cs bds own' : List Int} {v : Value} (hM : MemR w c.bM c.bC c.N cs)
    (hP : Blk w c.bP 66 #[.pointer (some ⟨c.bM, 0, none⟩), .int .i64 c.pb, .slice (some ⟨c.bN, 0, none⟩) c.n c.n, .slice (some ⟨c.bW, 0, none⟩) 1 1])
    (hN : Blk w c.bN 45 (nodeCells bds).toArray) (hs : bds.length = c.n ∧ c.n ≤ 4096 ∧ c.pb + c.n + 1 ≤ c.N)
    (hlo : c.lo ≤ c.bM ∧ c.lo ≤ c.bC ∧ c.lo ≤ c.bP ∧ c.lo ≤ c.bN ∧ c.lo ≤ c.bW) (hA : ∃ ds, Blk w bA 77 ds) (hW : ∃ ds, Blk w c.bW 22 ds) (row : List Nat)
    (hrow : ∀ g, g ∈ row → g ≠ c.bC ∧ ∃ ds, Blk w g 3 ds) (k : Only (bA :: c.bW :: row) w w') (hO : OwnR w' c v own') : PoolR w' c cs bds own' := by
  obtain ⟨ds, hA⟩ := hA
  obtain ⟨es, hW⟩ := hW
  have hnot : ∀ {g t ds}, Blk w g t ds → t ∈ [62, 66, 45] → g ∉ bA :: c.bW :: row := by
    intro g t ds hb ht hm
    have h1 := Blk.ne_ hb hA (by rintro rfl; revert ht; decide)
    have h2 := Blk.ne_ hb hW (by rintro rfl; revert ht; decide)
    simp only [List.mem_cons] at hm
    rcases hm with h | h | h
    · exact h1 h
    · exact h2 h
    · obtain ⟨_, fs, hb'⟩ := hrow g h
      exact Blk.ne_ hb hb' (by rintro rfl; revert ht; decide) rfl
  have hC : c.bC ∉ bA :: c.bW :: row := by
    obtain ⟨s, k0, k1, k2, k3, b4, hMM, hC, _⟩ := hM
    have h1 := Blk.ne_ hC hA (by decide)
    have h2 := Blk.ne_ hC hW (by decide)
    intro hm
    simp only [List.mem_cons] at hm
    rcases hm with h | h | h
    · exact h1 h
    · exact h2 h
    · exact (hrow _ h).1 rfl
  refine ⟨hM.only k ?_ hC, hP.only k (hnot hP (by decide)), hN.only k (hnot hN (by decide)), hs.1, hs.2.1, hs.2.2, hlo, v, hO⟩
  obtain ⟨s, k0, k1, k2, k3, b4, hMM, _⟩ := hM
  exact hnot hMM (by decide)

theorem row_of {w : World} {base : Nat} {v : Value} {own : List Int} (h : w.ownsRow base 3 1 v own.length (ints own)) (g : Nat) (e : v.ownBlock = some g) : base ≤ g ∧ ∃ ds, Blk w g 3 ds := by
  rcases h.2 with ⟨rfl, _⟩ | ⟨g', cap, cur, rfl, hg, hb, _⟩
  · simp [Value.ownBlock] at e
  · have e : g' = g := by simpa [Value.ownBlock] using e
    subst e
    exact ⟨hg, cur, hb⟩

theorem OwnR.act {w w' : World} {v : Value} {own : List Int} (h : OwnR w c v own) (hA : ∃ ds, Blk w bA 77 ds) (k : Only [bA] w w') : OwnR w' c v own := by
  obtain ⟨hW, hown, hvC, hl⟩ := h
  obtain ⟨ds, hA⟩ := hA
  have h1 := Blk.ne_ hW hA (by decide)
  refine ⟨hW.only k (by simp [h1]), owns_only hown k ?_, hvC, hl⟩
  intro g hm
  have : g = bA := by simpa using hm
  subst this
  exact owns_ne hown hA (by decide)

/-- What is behind an act's end: a pool, an act; the rest is kept. -/
theorem fpost_of {w w' : World} {cs bds own own' : List Int} {v v' : Value} {give : Bool} {slot ph top next : Int} (hlA : c.lo ≤ bA) (hA : ∃ ds, Blk w bA 77 ds) (hR : PoolR w c cs bds own)
    (hO : OwnR w c v own) (hO' : OwnR w' c v' own') (hA' : ActR w' bA c give slot ph top next) (row : List Nat) (hrow : ∀ g, g ∈ row → v.ownBlock = some g) (k : Only (bA :: c.bW :: row) w w') (u : Value) :
    FPost w bA c cs bds own' give slot ph top next (.returned u) w' := by
  obtain ⟨hM, hP, hN, h1, h2, h3, h4, _⟩ := hR
  have hr : ∀ g, g ∈ row → c.lo ≤ g ∧ g ≠ c.bC ∧ ∃ ds, Blk w g 3 ds := by
    intro g hg
    obtain ⟨h5, h6⟩ := row_of hO.2.1 g (hrow g hg)
    exact ⟨h5, fun e => hO.2.2.1 (e ▸ hrow g hg), h6⟩
  refine ⟨⟨_, rfl⟩, PoolR.own hM hP hN ⟨h1, h2, h3⟩ h4 hA ⟨_, hO.1⟩ row (fun g hg => (hr g hg).2) k hO', hA', Keeps.of_only k ?_⟩
  intro g hg
  simp only [List.mem_cons] at hg
  rcases hg with rfl | rfl | hg
  · obtain ⟨ds, hA⟩ := hA; exact ⟨hlA, _, ds, hA, by decide⟩
  · exact ⟨h4.2.2.2.2, _, _, hO.1, by decide⟩
  · obtain ⟨h5, _, ds, h6⟩ := hr g hg; exact ⟨h5, _, ds, h6, by decide⟩

theorem step_close {w w1 w2 : World} {cs cs' bds own : List Int} {give give' : Bool} {slot ph top next slot' ph' top' next' : Int} {k : Nat} (hlA : c.lo ≤ bA) (hA : ActR w bA c give slot ph top next) (hR : PoolR w c cs bds own)
    (hM1 : MemR w1 c.bM c.bC c.N cs') (hO1 : Only [c.bM, c.bC] (w.drewN k) w1) (hon : Only [bA] w1 w2) (hA2 : ActR w2 bA c give' slot' ph' top' next') :
    PoolR w2 c cs' bds own ∧ ActR w2 bA c give' slot' ph' top' next' ∧ Keeps c.lo TP w w2 := by
  have hM := hR.1
  have hAM := hM.apart hA (by decide) (by decide)
  have hMA : ¬ c.bM = bA := fun e => hAM (by simp [e])
  have hCA : ¬ c.bC = bA := fun e => hAM (by simp [e])
  have hall : Only [bA, c.bM, c.bC] w w2 := (Only.trans' (Only.drewN (Only.refl _ _) k) hO1 (by simp)).trans' hon (by simp)
  obtain ⟨_, _, _, _, _, _, h4, _⟩ := id hR
  obtain ⟨s, k0, k1, k2, k3, b4, hMM, hC, _⟩ := id hM
  refine ⟨hR.mem hall (hM1.only hon (by simp [hMA]) (by simp [hCA])) ?_, hA2, Keeps.of_only hall ?_⟩
  · intro g hg
    simp only [List.mem_cons, List.not_mem_nil, or_false] at hg
    rcases hg with rfl | rfl | rfl
    · exact .inr (.inr ⟨_, _, hA, by decide⟩)
    · exact .inl rfl
    · exact .inr (.inl rfl)
  · intro g hg
    simp only [List.mem_cons, List.not_mem_nil, or_false] at hg
    rcases hg with rfl | rfl | rfl
    · exact ⟨hlA, _, _, hA, by decide⟩
    · exact ⟨h4.1, _, _, hMM, by decide⟩
    · exact ⟨h4.2.1, _, _, hC, by decide⟩
theorem read_close {w w1 w2 : World} {cs cs' bds own : List Int} {give give' : Bool} {slot ph top next slot' ph' top' next' : Int} {k : Nat} (hlA : c.lo ≤ bA) (hA : ActR w bA c give slot ph top next) (hR : PoolR w c cs bds own)
    (hM1 : MemR w1 c.bM c.bC c.N cs') (hO1 : Only [c.bM, c.bC] (w.drewN k) w1) (hon : Only [bA] w1 w2) (hA2 : ActR w2 bA c give' slot' ph' top' next') (u : Value) :
    FPost w bA c cs' bds own give' slot' ph' top' next' (.returned u) w2 := ⟨⟨_, rfl⟩, step_close hlA hA hR hM1 hO1 hon hA2⟩

set_option maxRecDepth 100000 in
set_option maxHeartbeats 400000 in
theorem first_pop (slot top next last : Int) (cs bds own : List Int) (hlA : c.lo ≤ bA) (hA : ActR w bA c false slot 0 top next) (hR : PoolR w c cs bds (own ++ [last])) :
    Calls Try.prog 48 #[.pointer (some ⟨bA, 0, none⟩)] w (FPost w bA c cs bds own false last 3 top next) := by
  obtain ⟨hM, hP, hN, h1, h2, h3, h4, v, hO⟩ := hR
  have hW := hO.1
  go_enter Try.func48, Try.ntmps48
  go_wp2_with fail
  refine (private_pop _ _ _ _ v own last hA hP hO).mono ?_
  rintro e w1 ⟨rfl, hA1, ⟨v', hO1⟩, hon⟩
  have k4 : w1.cell? ⟨bA, 4, none⟩ = some (.int .i64 0) := Blk.cell hA1 4
  have kf : w1.frozen? ⟨bA, 4, none⟩ = false := Blk.frozen hA1 4
  go_wp2_with fail
  have hon2 : Only (bA :: c.bW :: []) w (w1.setCell ⟨bA, 4, none⟩ (.int .i64 3)) := hon.setCell (by simp) _
  refine bodyPost_ret (results_none rfl _ _ _) rfl ?_
  refine fpost_of hlA ⟨_, hA⟩ ⟨hM, hP, hN, h1, h2, h3, h4, v, hO⟩ hO (hO1.act ⟨_, hA1⟩ ((Only.refl _ _).setCell (by simp) _)) ?_ [] (by simp) hon2 _
  exact Blk.set_ hA1 4 _

set_option maxRecDepth 100000 in
set_option maxHeartbeats 400000 in
theorem first_push (slot top next : Int) (cs bds own : List Int) (hlA : c.lo ≤ bA) (hA : ActR w bA c true slot 0 top next) (hR : PoolR w c cs bds own) (hl : own.length < 2) :
    Calls Try.prog 48 #[.pointer (some ⟨bA, 0, none⟩)] w (FPost w bA c cs bds (own ++ [slot]) true slot 3 top next) := by
  obtain ⟨hM, hP, hN, h1, h2, h3, h4, v, hO⟩ := hR
  have hlo : c.lo ≤ w.heap.size := by have := hN.lt; omega
  have hbC : c.bC < w.heap.size := by obtain ⟨s, k0, k1, k2, k3, b4, hMM, hC, _⟩ := hM; exact Blk.lt hC
  go_enter Try.func48, Try.ntmps48
  go_wp2_with fail
  refine (private_push _ _ _ _ v own hA hP hO hl hlo hbC v.ownBlock.toList (by intro g h; rw [h]; simp)).mono ?_
  rintro e w1 ⟨rfl, hA1, ⟨v', hO1⟩, hon⟩
  have k4 : w1.cell? ⟨bA, 4, none⟩ = some (.int .i64 0) := Blk.cell hA1 4
  have kf : w1.frozen? ⟨bA, 4, none⟩ = false := Blk.frozen hA1 4
  go_wp2_with fail
  have hon2 : Only (bA :: c.bW :: v.ownBlock.toList) w (w1.setCell ⟨bA, 4, none⟩ (.int .i64 3)) := hon.setCell (by simp) _
  refine bodyPost_ret (results_none rfl _ _ _) rfl ?_
  refine fpost_of hlA ⟨_, hA⟩ ⟨hM, hP, hN, h1, h2, h3, h4, v, hO⟩ hO (hO1.act ⟨_, hA1⟩ ((Only.refl _ _).setCell (by simp) _)) ?_ v.ownBlock.toList ?_ hon2 _
  · exact Blk.set_ hA1 4 _
  · intro g hg
    cases h : v.ownBlock with
    | none => rw [h] at hg; simp at hg
    | some b => rw [h] at hg; simp at hg; rw [hg]

set_option maxRecDepth 100000 in
set_option maxHeartbeats 800000 in
theorem first_read (give : Bool) (slot top next : Int) (cs bds own : List Int) (hlA : c.lo ≤ bA) (hA : ActR w bA c give slot 0 top next) (hR : PoolR w c cs bds own)
    (hno : if give = true then 2 ≤ own.length else own.length = 0) (ph : Int) (hph : ph = if upl (gt cs c.pb) < 0 ∧ give = false then 3 else 1) :
    Calls Try.prog 48 #[.pointer (some ⟨bA, 0, none⟩)] w (FPost w bA c cs bds own give slot ph (gt cs c.pb) next) := by
  have hR0 := hR
  obtain ⟨hM, hP, hN, h1, h2, h3, h4, v, hO⟩ := hR
  have hAM := hM.apart hA (by decide) (by decide)
  have hPM := hM.apart hP (by decide) (by decide)
  have hMA : ¬ c.bM = bA := fun e => hAM (by simp [e])
  have hCA : ¬ c.bC = bA := fun e => hAM (by simp [e])
  have hPA : ¬ bA = c.bP := Blk.ne_ hA hP (by decide)
  have a0 : w.cell? ⟨bA, 0, none⟩ = some (.pointer (some ⟨c.bP, 0, none⟩)) := Blk.cell hA 0
  have a2 : w.cell? ⟨bA, 2, none⟩ = some (.bool give) := Blk.cell hA 2
  have p0 : w.cell? ⟨c.bP, 0, none⟩ = some (.pointer (some ⟨c.bM, 0, none⟩)) := hP.cell 0
  have p1 : w.cell? ⟨c.bP, 1, none⟩ = some (.int .i64 c.pb) := hP.cell 1
  have HP : Hid (ph = if upl (gt cs c.pb) < 0 ∧ give = false then 3 else 1) := Lib.hid hph
  clear hph
  have HN := Lib.hid hno
  clear hno
  go_enter Try.func48, Try.ntmps48
  go_wp2_with fail
  refine (private_none give _ _ _ _ v own hA hP hO HN.out).mono ?_
  rintro e w' ⟨rfl, nq, rfl⟩
  go_wp2_with fail
  go_region_held3 (fun w' => w'.cell? ⟨bA, 0, none⟩ = some (.pointer (some ⟨c.bP, 0, none⟩)) ∧ w'.cell? ⟨c.bP, 0, none⟩ = some (.pointer (some ⟨c.bM, 0, none⟩)) ∧ w'.cell? ⟨c.bP, 1, none⟩ = some (.int .i64 c.pb)) (first | exact ⟨k0, q0, q1⟩ | exact ⟨(World.cell?_setCell_other _ _ _ _ (by simp)).trans k0, (World.cell?_setCell_other _ _ _ _ (by simp [hPA])).trans q0, (World.cell?_setCell_other _ _ _ _ (by simp [hPA])).trans q1⟩ | go_keep)
    (first | (go_at_call 70; refine (get_any _ (by exact hM)).mono ?_; rintro e w1 ⟨er, rfl, hM1, hO1⟩; have hA1 := Blk.only (by exact hA) hO1 hAM; have hP1 := Blk.only (by exact hP) hO1 hPM; have k0 : w1.cell? ⟨bA, 0, none⟩ = some (.pointer (some ⟨c.bP, 0, none⟩)) := hA1.cell 0; have q0 : w1.cell? ⟨c.bP, 0, none⟩ = some (.pointer (some ⟨c.bM, 0, none⟩)) := hP1.cell 0; have q1 : w1.cell? ⟨c.bP, 1, none⟩ = some (.int .i64 c.pb) := hP1.cell 1; have k5 : w1.cell? ⟨bA, 5, none⟩ = some (.int .i64 top) := hA1.cell 5; have kf5 := hA1.frozen 5))
  have k2 : w1.cell? ⟨bA, 2, none⟩ = some (.bool give) := hA1.cell 2
  have k4 : w1.cell? ⟨bA, 4, none⟩ = some (.int .i64 0) := hA1.cell 4
  have k5 : w1.cell? ⟨bA, 5, none⟩ = some (.int .i64 top) := hA1.cell 5
  have kf : ∀ i, w1.frozen? ⟨bA, i, none⟩ = false := hA1.frozen
  go_wp2_with (go_at_call 44; refine (unpack_any _ _).mono ?_; rintro e w' ⟨rfl, rfl⟩)
  · go_end0
    have hq : (!give) = true := by assumption
    have hu : upl (gt cs c.pb) < 0 := by assumption
    obtain rfl : ph = 3 := HP.out.trans (if_pos ⟨hu, by simpa using hq⟩)
    refine read_close hlA hA hR0 hM1 hO1 ?_ (Blk.eqs (((hA1.set_ 5 _).set_ 4 _).set_ 4 _) rfl) _
    repeat (refine Only.setCell ?_ (by simp) _)
    exact Only.refl _ _
  · go_end0
    have hq : (!give) = false := by assumption
    obtain rfl : ph = 1 := HP.out.trans (if_neg (by rintro ⟨_, h⟩; rw [h] at hq; cases hq))
    refine read_close hlA hA hR0 hM1 hO1 ?_ (Blk.eqs ((hA1.set_ 5 _).set_ 4 _) rfl) _
    repeat (refine Only.setCell ?_ (by simp) _)
    exact Only.refl _ _
  · go_end0
    have hu : 0 ≤ upl (gt cs c.pb) := by assumption
    obtain rfl : ph = 1 := HP.out.trans (if_neg (by rintro ⟨h, _⟩; omega))
    refine read_close hlA hA hR0 hM1 hO1 ?_ (Blk.eqs ((hA1.set_ 5 _).set_ 4 _) rfl) _
    repeat (refine Only.setCell ?_ (by simp) _)
    exact Only.refl _ _
end
end Go.Proofs.Ytnpglcbkpbhnoaa
