/-
  PROVED: the contracts of package txlog's New, Read, Keep and Undo over a log's data. No condition but that the cells hold a log.
-/
import Derived.Test.YtbmedngnfkkhdaaLogA
namespace Go.Proofs.Ytbmedngnfkkhdaa
open Go.RowKit

structure Un where
  kind : Int
  at_ : Int
  i : Int
  old : Int
  deriving DecidableEq
def unCells1 (u : Un) : List Value := [.int .i64 u.kind, .int .i64 u.at_, .int .i64 u.i, .int .i64 u.old]
def unCells (U : List Un) : List Value := U.flatMap unCells1
def hdCells1 (h : Int × Int) : List Value := [.int .i64 h.1, .int .i64 h.2]
def hdCells (H : List (Int × Int)) : List Value := H.flatMap hdCells1
/-- Where a log's rows lie. -/
structure LgA where
  aR : Option Addr
  aK : Option Addr
  aH : Option Addr
  aU : Option Addr
  cR : Nat
  cK : Nat
  cH : Nat
  cU : Nat
/-- What a log holds. -/
structure LgD where
  R : List Int
  K : List Int
  H : List (Int × Int)
  U : List Un
  mr : Nat
  mu : Nat
def Foot (L : Nat) (a : LgA) (i : Nat) : Prop := i = L ∨ rowOf a.aR = some i ∨ rowOf a.aK = some i ∨ rowOf a.aH = some i ∨ rowOf a.aU = some i
def lgCells (a : LgA) (d : LgD) : Array Value := #[.slice a.aR d.R.length a.cR, .slice a.aK d.K.length a.cK, .slice a.aH d.H.length a.cH, .slice a.aU d.U.length a.cU, .int .i64 d.mr, .int .i64 d.mu]
/-- Block L is a log. -/
structure LG (w : World) (L : Nat) (a : LgA) (d : LgD) : Prop where
  blk : w.heap[L]? = some (.cells (lgCells a d) 46 (0, 0))
  r : IntRow w a.aR a.cR d.R
  k : IntRow w a.aK a.cK d.K
  h : Row w 42 2 a.aH d.H.length a.cH (hdCells d.H)
  u : Row w 34 4 a.aU d.U.length a.cU (unCells d.U)
  ne : ∀ g, rowOf a.aR = some g → rowOf a.aK ≠ some g
  mr : d.mr ≤ 200
  mu : d.mu ≤ 200
  lr : d.R.length ≤ d.mr
  lk : d.K.length ≤ d.mr
  lh : d.H.length ≤ d.mu
  lu : d.U.length ≤ d.mu
section
variable {w w' : World} {L : Nat} {a : LgA} {d : LgD}
theorem LG.lt (h : LG w L a d) : L < w.heap.size := lt_of_block h.blk
theorem LG.cell (h : LG w L a d) (i : Nat) : w.cell? ⟨L, i, none⟩ = (lgCells a d)[i]? := by have := h.blk; simp [World.cell?, this]
theorem LG.fz (h : LG w L a d) (i : Nat) : w.frozen? ⟨L, i, none⟩ = false := by have := h.blk; simp [World.frozen?, this]
theorem LG.notL (h : LG w L a d) : rowOf a.aR ≠ some L ∧ rowOf a.aK ≠ some L ∧ rowOf a.aH ≠ some L ∧ rowOf a.aU ≠ some L :=
  ⟨h.r.not_block h.blk (by decide), h.k.not_block h.blk (by decide), h.h.not_block h.blk (by decide), h.u.not_block h.blk (by decide)⟩
theorem LG.foot_lt (h : LG w L a d) {i : Nat} (hi : Foot L a i) : i < w.heap.size := by
  rcases hi with rfl | hi | hi | hi | hi
  · exact h.lt
  · exact h.r.lt hi
  · exact h.k.lt hi
  · exact h.h.lt hi
  · exact h.u.lt hi
/-- A log lies as it lay where none of its blocks has turned. -/
theorem LG.keep (h : LG w L a d) (hk : ∀ i, Foot L a i → w'.heap[i]? = w.heap[i]?) : LG w' L a d :=
  ⟨(hk L (.inl rfl)).trans h.blk, h.r.keep fun g hg => hk g (.inr (.inl hg)), h.k.keep fun g hg => hk g (.inr (.inr (.inl hg))), h.h.keep fun g hg => hk g (.inr (.inr (.inr (.inl hg)))), h.u.keep fun g hg => hk g (.inr (.inr (.inr (.inr hg)))),
    h.ne, h.mr, h.mu, h.lr, h.lk, h.lh, h.lu⟩
theorem LG.drewN (h : LG w L a d) (q : Nat) : LG (w.drewN q) L a d := h.keep fun _ _ => rfl
theorem LG.drew (h : LG w L a d) : LG w.drew L a d := h.keep fun _ _ => rfl
theorem LG.alloc (h : LG w L a d) (o : Obj) : LG (w.alloc o) L a d := h.keep fun i hi => Below.heap_alloc w o i (h.foot_lt hi)
theorem LG.below (h : LG w L a d) (hb : Below w.heap.size w w') : LG w' L a d := h.keep fun i hi => hb.block i (h.foot_lt hi)
theorem LG.only {F : Nat → Prop} (h : LG w L a d) (hb : Only F w w') (hF : ∀ i, Foot L a i → ¬ F i) : LG w' L a d := h.keep fun i hi => hb.block i (h.foot_lt hi) (hF i hi)
end
/-- What a call on a log leaves: a log again, of other data; only its blocks, and new ones, may have turned. -/
def Stepped (w w' : World) (L : Nat) (a : LgA) (d' : LgD) : Prop := ∃ a', LG w' L a' d' ∧ Only (Foot L a) w w' ∧ ∀ i, Foot L a' i → Foot L a i ∨ w.heap.size ≤ i
theorem Stepped.same {w w' : World} {L : Nat} {a : LgA} {d : LgD} (h : LG w L a d) (hb : Below w.heap.size w w') : Stepped w w' L a d := ⟨a, h.below hb, Only.of_below hb, fun _ hi => .inl hi⟩
theorem below_drewN' (w : World) (q : Nat) : Below w.heap.size w (w.drewN q) := ⟨rfl, rfl, rfl, Nat.le_refl _, fun _ _ => rfl⟩
theorem below_drew' (w : World) : Below w.heap.size w w.drew := ⟨rfl, rfl, rfl, Nat.le_refl _, fun _ _ => rfl⟩

/-- A bound that may be. -/
def bnd (n : Int) : Nat := (min (max n 0) 200).toNat
theorem bnd_hi (n : Int) : bnd n ≤ 200 := by unfold bnd; omega
theorem ret_int {k : IntKind} {x y : Int} (h : x = y) : Ending.returned (.int k x) = .returned (.int k y) := by rw [h]
theorem bound_any (n : Int) (w : World) : Calls Try.prog 21 #[.int .i64 n] w fun e w' => e = .returned (.int .i64 (bnd n : Nat)) ∧ w = w' := by
  go_enter Try.func21, Try.ntmps21
  go_wp2
  all_goals
    go_ret
    exact ⟨ret_int (by unfold bnd; omega), rfl⟩
def emptyD (mr mu : Nat) : LgD := { R := [], K := [], H := [], U := [], mr, mu }
def nilA : LgA := { aR := none, aK := none, aH := none, aU := none, cR := 0, cK := 0, cH := 0, cU := 0 }
theorem lognew_any (r u : Int) (w : World) : Calls Try.prog 8 #[.int .i64 r, .int .i64 u] w fun e w' => e = .returned (.pointer (some ⟨w.heap.size, 0, none⟩)) ∧ LG w' w.heap.size nilA (emptyD (bnd r) (bnd u)) ∧ Below w.heap.size w w' := by
  go_enter Try.func8, Try.ntmps8
  go_wp2_with (go_at_call 21; refine (bound_any _ _).mono ?_; rintro e w' ⟨rfl, rfl⟩)
  go_ret
  refine ⟨rfl, ⟨heap_alloc_new w _, Row.nil _ _ _, Row.nil _ _ _, Row.nil _ _ _, Row.nil _ _ _, (fun _ hg => by cases hg), bnd_hi _, bnd_hi _, Nat.zero_le _, Nat.zero_le _, Nat.zero_le _, Nat.zero_le _⟩, (Below.refl _ _).alloc (Nat.le_refl _) _⟩

/-- Read. -/
def LgD.read (d : LgD) (x : Int) : LgD := if d.R.contains x = false ∧ d.R.length < d.mr then { d with R := d.R ++ [x] } else d
def LgD.readB (d : LgD) (x : Int) : Bool := d.R.contains x || decide (d.R.length < d.mr)
theorem noted_read {w w' : World} {L : Nat} {a : LgA} {d : LgD} {x : Int} {A' : Option Addr} {c' : Nat} (h : LG w L a d) (hN : Noted w.drew w' L 0 a.aR d.R x A' c') (hm : d.R.length < d.mr) :
    Stepped w w' L a { d with R := d.R ++ [x] } := by
  obtain ⟨nL1, nL2, nL3, nL4⟩ := h.notL
  have hlt := h.lt
  have hb := hN.fld _ _ h.blk
  have hle : Only (Foot L a) w w' := ⟨hN.only.os, hN.only.tape, hN.only.output, hN.only.size, fun i hi hn => hN.only.block i hi (fun hf => hn (by rcases hf with hf | hf; exact .inl hf; exact .inr (.inl hf)))⟩
  have away : ∀ k, k < w.heap.size → k ≠ L → rowOf a.aR ≠ some k → w'.heap[k]? = w.heap[k]? := fun k h1 h2 h3 => hN.only.block k h1 (fun hf => by rcases hf with hf | hf; exact h2 hf; exact h3 hf)
  refine ⟨{ a with aR := A', cR := c' }, ⟨?_, ?_, ?_, ?_, ?_, ?_, h.mr, h.mu, ?_, h.lk, h.lh, h.lu⟩, hle, ?_⟩
  · rw [hb]
    simp [lgCells]
  · have := hN.row
    simpa [IntRow] using this
  · exact h.k.keep fun g hg => away g (h.k.lt hg) (by rintro rfl; exact nL2 hg) (fun e => h.ne g e hg)
  · exact h.h.keep fun g hg => away g (h.h.lt hg) (by rintro rfl; exact nL3 hg) (fun e => h.r.apart h.h (by decide) g e hg)
  · exact h.u.keep fun g hg => away g (h.u.lt hg) (by rintro rfl; exact nL4 hg) (fun e => h.r.apart h.u (by decide) g e hg)
  · intro g hg hk
    rcases hN.new_ g hg with e | e
    · exact h.ne g e hk
    · have := h.k.lt hk
      have : w.drew.heap.size = w.heap.size := rfl
      omega
  · simp; omega
  · intro i hi
    rcases hi with rfl | hi | hi | hi | hi
    · exact .inl (.inl rfl)
    · rcases hN.new_ i hi with e | e
      · exact .inl (.inr (.inl e))
      · exact .inr e
    · exact .inl (.inr (.inr (.inl hi)))
    · exact .inl (.inr (.inr (.inr (.inl hi))))
    · exact .inl (.inr (.inr (.inr (.inr hi))))
theorem read_any (L : Nat) (a : LgA) (d : LgD) (x : Int) (w : World) (h : LG w L a d) :
    Calls Try.prog 13 #[.pointer (some ⟨L, 0, none⟩), .int .i64 x] w fun e w' => e = .returned (.bool (d.readB x)) ∧ Stepped w w' L a (d.read x) := by
  have c0' : w.cell? ⟨L, 0, none⟩ = some (.slice a.aR d.R.length a.cR) := by simpa [lgCells] using h.cell 0
  have c4' : w.cell? ⟨L, 4, none⟩ = some (.int .i64 d.mr) := by simpa [lgCells] using h.cell 4
  have H := Lib.hid h
  have hmr := h.mr
  have hlt := h.lt
  have f0 := h.fz 0
  by_cases hx : d.R.contains x = true
  · have e1 : d.readB x = true := by unfold LgD.readB; simp only [hx]; rfl
    have e2 : d.read x = d := by unfold LgD.read; simp only [hx]; rfl
    have hn := fun W (hW : IntRow W a.aR a.cR d.R) (hc : W.cell? ⟨L, 0, none⟩ = some (.slice a.aR d.R.length a.cR)) => note_had L 0 a.aR a.cR d.R x d.mr W hW hc hx
    rw [e1, e2]
    have HN := Lib.hid hn
    clear hn hx e1 e2 h
    go_enter Try.func13, Try.ntmps13
    go_wp2
    go_region_with (go_at_call 22; refine (HN.out _ (by first | exact H.out.drew.r | exact H.out.r) (by assumption)).mono ?_; rintro e w' ⟨rfl, rfl⟩)
    all_goals
      go_wp2
      go_ret
      exact ⟨rfl, Stepped.same H.out (below_drew' w)⟩
  · have hx' : d.R.contains x = false := by simpa using hx
    clear hx
    by_cases hm : d.R.length < d.mr
    · have e1 : d.readB x = true := by unfold LgD.readB; simp only [hx', decide_eq_true hm]; rfl
      have e2 : d.read x = { d with R := d.R ++ [x] } := by unfold LgD.read; rw [if_pos ⟨hx', hm⟩]
      have hn := fun W (hW : IntRow W a.aR a.cR d.R) (hc : W.cell? ⟨L, 0, none⟩ = some (.slice a.aR d.R.length a.cR)) (hf : W.frozen? ⟨L, 0, none⟩ = false) (hl : L < W.heap.size) => note_new L 0 a.aR a.cR d.R x d.mr W hW hc hf H.out.notL.1 hl hx' hm hmr
      rw [e1, e2]
      have HN := Lib.hid hn
      have HM := Lib.hid hm
      clear hn hx' e1 e2 h hm
      go_enter Try.func13, Try.ntmps13
      go_wp2
      go_region_with (go_at_call 22; refine (HN.out w.drew H.out.drew.r (by assumption) (by assumption) (by assumption)).mono ?_; rintro e w' ⟨rfl, A', c', hN⟩)
      all_goals
        go_wp2
        go_ret
        exact ⟨rfl, noted_read H.out hN HM.out⟩
    · have e1 : d.readB x = false := by unfold LgD.readB; simp only [hx', decide_eq_false hm]; rfl
      have e2 : d.read x = d := by unfold LgD.read; rw [if_neg (fun h => hm h.2)]
      have hn := fun W (hW : IntRow W a.aR a.cR d.R) (hc : W.cell? ⟨L, 0, none⟩ = some (.slice a.aR d.R.length a.cR)) => note_full L 0 a.aR a.cR d.R x d.mr W hW hc hx' (by omega)
      rw [e1, e2]
      have HN := Lib.hid hn
      clear hn hx' e1 e2 h hm
      go_enter Try.func13, Try.ntmps13
      go_wp2
      go_region_with (go_at_call 22; refine (HN.out _ (by first | exact H.out.drew.r | exact H.out.r) (by assumption)).mono ?_; rintro e w' ⟨rfl, rfl⟩)
      all_goals
        go_wp2
        go_ret
        exact ⟨rfl, Stepped.same H.out (below_drew' w)⟩

/-- Keep. -/
def LgD.keep (d : LgD) (x : Int) : LgD := if d.K.contains x = false ∧ d.K.length < d.mr then { d with K := d.K ++ [x] } else d
def LgD.keepB (d : LgD) (x : Int) : Bool := d.K.contains x || decide (d.K.length < d.mr)
theorem noted_keep {w w' : World} {L : Nat} {a : LgA} {d : LgD} {x : Int} {A' : Option Addr} {c' : Nat} (h : LG w L a d) (hN : Noted w.drew w' L 1 a.aK d.K x A' c') (hm : d.K.length < d.mr) :
    Stepped w w' L a { d with K := d.K ++ [x] } := by
  obtain ⟨nL1, nL2, nL3, nL4⟩ := h.notL
  have hlt := h.lt
  have hb := hN.fld _ _ h.blk
  have hle : Only (Foot L a) w w' := ⟨hN.only.os, hN.only.tape, hN.only.output, hN.only.size, fun i hi hn => hN.only.block i hi (fun hf => hn (by rcases hf with hf | hf; exact .inl hf; exact .inr (.inr (.inl hf))))⟩
  have away : ∀ k, k < w.heap.size → k ≠ L → rowOf a.aK ≠ some k → w'.heap[k]? = w.heap[k]? := fun k h1 h2 h3 => hN.only.block k h1 (fun hf => by rcases hf with hf | hf; exact h2 hf; exact h3 hf)
  refine ⟨{ a with aK := A', cK := c' }, ⟨?_, ?_, ?_, ?_, ?_, ?_, h.mr, h.mu, h.lr, ?_, h.lh, h.lu⟩, hle, ?_⟩
  · rw [hb]
    simp [lgCells]
  · exact h.r.keep fun g hg => away g (h.r.lt hg) (by rintro rfl; exact nL1 hg) (fun e => h.ne g hg e)
  · have := hN.row
    simpa [IntRow] using this
  · exact h.h.keep fun g hg => away g (h.h.lt hg) (by rintro rfl; exact nL3 hg) (fun e => h.k.apart h.h (by decide) g e hg)
  · exact h.u.keep fun g hg => away g (h.u.lt hg) (by rintro rfl; exact nL4 hg) (fun e => h.k.apart h.u (by decide) g e hg)
  · intro g hg hk
    rcases hN.new_ g hk with e | e
    · exact h.ne g hg e
    · have := h.r.lt hg
      have : w.drew.heap.size = w.heap.size := rfl
      omega
  · simp; omega
  · intro i hi
    rcases hi with rfl | hi | hi | hi | hi
    · exact .inl (.inl rfl)
    · exact .inl (.inr (.inl hi))
    · rcases hN.new_ i hi with e | e
      · exact .inl (.inr (.inr (.inl e)))
      · exact .inr e
    · exact .inl (.inr (.inr (.inr (.inl hi))))
    · exact .inl (.inr (.inr (.inr (.inr hi))))
theorem keep_any (L : Nat) (a : LgA) (d : LgD) (x : Int) (w : World) (h : LG w L a d) :
    Calls Try.prog 9 #[.pointer (some ⟨L, 0, none⟩), .int .i64 x] w fun e w' => e = .returned (.bool (d.keepB x)) ∧ Stepped w w' L a (d.keep x) := by
  have c0' : w.cell? ⟨L, 1, none⟩ = some (.slice a.aK d.K.length a.cK) := by simpa [lgCells] using h.cell 1
  have c4' : w.cell? ⟨L, 4, none⟩ = some (.int .i64 d.mr) := by simpa [lgCells] using h.cell 4
  have H := Lib.hid h
  have hmr := h.mr
  have hlt := h.lt
  have f0 := h.fz 1
  by_cases hx : d.K.contains x = true
  · have e1 : d.keepB x = true := by unfold LgD.keepB; simp only [hx]; rfl
    have e2 : d.keep x = d := by unfold LgD.keep; simp only [hx]; rfl
    have hn := fun W (hW : IntRow W a.aK a.cK d.K) (hc : W.cell? ⟨L, 1, none⟩ = some (.slice a.aK d.K.length a.cK)) => note_had L 1 a.aK a.cK d.K x d.mr W hW hc hx
    rw [e1, e2]
    have HN := Lib.hid hn
    clear hn hx e1 e2 h
    go_enter Try.func9, Try.ntmps9
    go_wp2
    go_region_with (go_at_call 22; refine (HN.out _ (by first | exact H.out.drew.k | exact H.out.k) (by assumption)).mono ?_; rintro e w' ⟨rfl, rfl⟩)
    all_goals
      go_wp2
      go_ret
      exact ⟨rfl, Stepped.same H.out (below_drew' w)⟩
  · have hx' : d.K.contains x = false := by simpa using hx
    clear hx
    by_cases hm : d.K.length < d.mr
    · have e1 : d.keepB x = true := by unfold LgD.keepB; simp only [hx', decide_eq_true hm]; rfl
      have e2 : d.keep x = { d with K := d.K ++ [x] } := by unfold LgD.keep; rw [if_pos ⟨hx', hm⟩]
      have hn := fun W (hW : IntRow W a.aK a.cK d.K) (hc : W.cell? ⟨L, 1, none⟩ = some (.slice a.aK d.K.length a.cK)) (hf : W.frozen? ⟨L, 1, none⟩ = false) (hl : L < W.heap.size) => note_new L 1 a.aK a.cK d.K x d.mr W hW hc hf H.out.notL.2.1 hl hx' hm hmr
      rw [e1, e2]
      have HN := Lib.hid hn
      have HM := Lib.hid hm
      clear hn hx' e1 e2 h hm
      go_enter Try.func9, Try.ntmps9
      go_wp2
      go_region_with (go_at_call 22; refine (HN.out w.drew H.out.drew.k (by assumption) (by assumption) (by assumption)).mono ?_; rintro e w' ⟨rfl, A', c', hN⟩)
      all_goals
        go_wp2
        go_ret
        exact ⟨rfl, noted_keep H.out hN HM.out⟩
    · have e1 : d.keepB x = false := by unfold LgD.keepB; simp only [hx', decide_eq_false hm]; rfl
      have e2 : d.keep x = d := by unfold LgD.keep; rw [if_neg (fun h => hm h.2)]
      have hn := fun W (hW : IntRow W a.aK a.cK d.K) (hc : W.cell? ⟨L, 1, none⟩ = some (.slice a.aK d.K.length a.cK)) => note_full L 1 a.aK a.cK d.K x d.mr W hW hc hx' (by omega)
      rw [e1, e2]
      have HN := Lib.hid hn
      clear hn hx' e1 e2 h hm
      go_enter Try.func9, Try.ntmps9
      go_wp2
      go_region_with (go_at_call 22; refine (HN.out _ (by first | exact H.out.drew.k | exact H.out.k) (by assumption)).mono ?_; rintro e w' ⟨rfl, rfl⟩)
      all_goals
        go_wp2
        go_ret
        exact ⟨rfl, Stepped.same H.out (below_drew' w)⟩
end Go.Proofs.Ytbmedngnfkkhdaa
