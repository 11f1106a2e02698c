/-
  Contracts: Split of the program.
-/
import Derived.Test.YtokeanadhihlfaaF6
namespace Go.Proofs.Ytokeanadhihlfaa
open Go.RowKit

/-- Continuation packet i of the message b. -/
def contP (ch : Int) (b : List UInt8) (i : Nat) : Pk := ⟨ch, false, 0, 0, i, (b.drop (57 + 59 * i)).take 59⟩
/-- The first packet and k continuation packets. -/
def splitTo (ch cmd : Int) (b : List UInt8) (k : Nat) : List Pk := ⟨ch, true, cmd, b.length, 0, b.take 57⟩ :: (List.range k).map (contP ch b)
/-- The number of continuation packets of n bytes. -/
def nconts (n : Nat) : Nat := (n - 57 + 58) / 59
def splitL (ch cmd : Int) (b : List UInt8) : List Pk := splitTo ch cmd b (nconts b.length)
theorem splitTo_succ (ch cmd : Int) (b : List UInt8) (k : Nat) : splitTo ch cmd b (k + 1) = splitTo ch cmd b k ++ [contP ch b k] := by
  simp [splitTo, List.range_succ]
theorem splitTo_length (ch cmd : Int) (b : List UInt8) (k : Nat) : (splitTo ch cmd b k).length = k + 1 := by simp [splitTo]

theorem elP : Elem Try.prog 31 38 6 56 := by
  obtain ⟨i, hi, h1, h2, h3⟩ := info_parts (show (Try.prog.info? 38).map (fun i => (i.zero, i.size, i.bytes)) = some (some (.agg #[.int .u32 0, .bool false, .int .i64 0, .int .i64 0, .int .i64 0, .slice none 0 0]), 6, 56) by kernel_rfl)
  exact ⟨i, _, Try.underlying31, hi, h1, h2, h3, rfl, by decide⟩

/-- A row of the call's own that holds the packets ps: their data lie in other blocks. -/
def OwnP (w : World) (v : Value) (wr : World) (ps : List Pk) : Prop :=
  ∃ (css : List (List Value)) (D : Option Addr) (cap : Nat), v = .slice D ps.length cap ∧ wr.ownsRow w.heap.size 38 6 (.slice D ps.length cap) ps.length css.flatten ∧
    PksR wr (fun b => b < wr.heap.size ∧ some b ≠ (Value.slice D ps.length cap).ownBlock) css ps ∧ Below w.heap.size w wr

def SplitPost (w : World) (ps : List Pk) (e : Ending) (w' : World) : Prop :=
  ∃ (A : Option Addr) (c : Nat), e = .returned (.tuple #[.slice A ps.length c, .int .i64 0]) ∧ SP w' (Lt w'.heap.size) A c ps ∧ Below w.heap.size w w'

theorem split_range (ch cmd : Int) (A : Option Addr) (c n : Nat) (w : World) (h : cmd < 1 ∨ 127 < cmd) : Calls Try.prog 23 #[.int .u32 ch, .int .i64 cmd, .slice A n c] w fun e w' => e = .returned (.tuple #[.slice none 0 0, .int .i64 9]) ∧ w = w' := by
  rcases h with h | h
  all_goals
    go_enter Try.func23, Try.ntmps23
    go_wp2
    go_ret2
    exact ⟨rfl, rfl⟩
theorem split_large (ch cmd : Int) (A : Option Addr) (c n : Nat) (w : World) (h1 : 1 ≤ cmd) (h2 : cmd ≤ 127) (h3 : 4096 < n) : Calls Try.prog 23 #[.int .u32 ch, .int .i64 cmd, .slice A n c] w fun e w' => e = .returned (.tuple #[.slice none 0 0, .int .i64 8]) ∧ w = w' := by
  go_enter Try.func23, Try.ntmps23
  go_wp2
  go_ret2
  exact ⟨rfl, rfl⟩

theorem SB.take' {w : World} {S : Nat → Prop} {A : Option Addr} {c : Nat} {l : List UInt8} (h : SB w S A c l) (n : Nat) : SB w S A c (l.take n) := ⟨by have := h.cap; simp; omega, h.max, by rw [List.map_take]; exact h.row.take n⟩
theorem own_lit {w : World} {base : Nat} {e : TypeId} {size n : Nat} (cs : List Value) (hl : cs.length = n * size) (hb : base ≤ w.heap.size) (hm : n ≤ maxLen) :
    (w.alloc (.cells cs.toArray e)).ownsRow base e size (.slice (some ⟨w.heap.size, 0, none⟩) n n) n cs :=
  ⟨hl, .inr ⟨w.heap.size, n, cs.toArray, rfl, hb, heap_alloc_new w _, Nat.le_refl _, hm, by simpa using hl, by simp [← hl]⟩⟩

theorem OwnP.start {w w1 : World} {D : Option Addr} {c : Nat} (p : Pk) (hd : SB w1 (Fr w.heap.size w1.heap.size) D c p.data) (hb : Below w.heap.size w w1) :
    OwnP w (.slice (some ⟨w1.heap.size, 0, none⟩) 1 1) (w1.alloc (.cells (pkC p D c).toArray 38)) [p] := by
  refine ⟨[pkC p D c], some ⟨w1.heap.size, 0, none⟩, 1, rfl, own_lit (n := 1) (pkC p D c) rfl hb.size (by unfold maxLen; omega), ⟨⟨D, c, rfl, ?_⟩, trivial⟩, hb.alloc hb.size _⟩
  have h1 := hd.weaken (S' := fun b => b < (w1.alloc (.cells (pkC p D c).toArray 38)).heap.size ∧ some b ≠ (Value.slice (some ⟨w1.heap.size, 0, none⟩) [p].length 1).ownBlock) (fun b (h : _ ∧ _) => ⟨by simp; omega, fun e => by simp [Value.ownBlock] at e; omega⟩)
  refine ⟨h1.cap, h1.max, ?_⟩
  have h2 := hd.row.alloc (fun b (h : _ ∧ _) => h.2) (.cells (pkC p D c).toArray 38)
  exact h2.weaken (fun b (h : _ ∧ _) => ⟨by simp; omega, fun e => by simp [Value.ownBlock] at e; omega⟩)

/-- One packet more: the packet's own row is laid at w1's end, and appended. -/
theorem OwnP.grow {w wr w1 w2 : World} {ps : List Pk} {css : List (List Value)} {D : Option Addr} {cap : Nat} (p : Pk) {E : Option Addr} {c : Nat} {D' : Option Addr} {cap' : Nat}
    (ho : wr.ownsRow w.heap.size 38 6 (.slice D ps.length cap) ps.length css.flatten)
    (hp : PksR wr (fun b => b < wr.heap.size ∧ some b ≠ (Value.slice D ps.length cap).ownBlock) css ps) (hB : Below w.heap.size w wr)
    (hb : Below wr.heap.size wr w1) (hd : SB w1 (Fr wr.heap.size w1.heap.size) E c p.data)
    (ho' : w2.ownsRow w.heap.size 38 6 (.slice D' (ps.length + 1) cap') (ps.length + 1) (css.flatten ++ pkC p E c))
    (hg : (w1.alloc (.cells (pkC p E c).toArray 38)).grownBy w2 (Value.slice D ps.length cap).ownBlock)
    (hr : (Value.slice D' (ps.length + 1) cap').ownBlock = (Value.slice D ps.length cap).ownBlock ∨ (Value.slice D' (ps.length + 1) cap').ownBlock = some (w1.heap.size + 1)) :
    OwnP w (.slice D' (ps.length + 1) cap') w2 (ps ++ [p]) := by
  have hlen : (ps ++ [p]).length = ps.length + 1 := by simp
  have hz1 := hb.size
  have hz2 := hg.size
  simp at hz2
  have hout : ∀ b, (b < w1.heap.size ∧ some b ≠ (Value.slice D ps.length cap).ownBlock) → (b < w2.heap.size ∧ some b ≠ (Value.slice D' (ps.length + 1) cap').ownBlock) := by
    intro b ⟨h1, h2⟩
    refine ⟨by omega, fun e => ?_⟩
    rcases hr with hr | hr
    · rw [hr] at e; exact h2 e
    · rw [hr] at e; injection e with e; omega
  have hcell : ∀ b o, (b < w1.heap.size ∧ some b ≠ (Value.slice D ps.length cap).ownBlock) → w2.cell? ⟨b, o, none⟩ = w1.cell? ⟨b, o, none⟩ := by
    intro b o ⟨h1, h2⟩
    have e1 : w2.cell? ⟨b, o, none⟩ = (w1.alloc (.cells (pkC p E c).toArray 38)).cell? ⟨b, o, none⟩ := World.cell?_of_block (hg.block b (by simp; omega) h2)
    rw [e1]
    exact World.cell?_alloc_lt w1 _ ⟨b, o, none⟩ h1
  refine ⟨css ++ [pkC p E c], D', cap', by rw [hlen], by rw [hlen]; simpa using ho', ?_, ?_⟩
  · rw [hlen]
    refine PksR.snoc ?_ ?_
    · have h1 : PksR w1 (fun b => b < w1.heap.size ∧ some b ≠ (Value.slice D ps.length cap).ownBlock) css ps :=
        (hp.keep (w' := w1) (fun b o h => hb.cell (p := ⟨b, o, none⟩) h.1)).weaken (fun b h => ⟨by omega, h.2⟩)
      exact (h1.keep hcell).weaken hout
    · refine ⟨E, c, rfl, ?_⟩
      have hne : ∀ b, Fr wr.heap.size w1.heap.size b → (b < w1.heap.size ∧ some b ≠ (Value.slice D ps.length cap).ownBlock) := by
        intro b ⟨h1, h2⟩
        refine ⟨h2, fun e => ?_⟩
        have := (ho.lt b e.symm).2
        omega
      have h1 := hd.weaken hne
      exact (⟨h1.cap, h1.max, h1.row.keep hcell⟩ : SB w2 _ E c p.data).weaken hout
  · exact ((below_go hB hB.size hb).alloc (by have := hB.size; omega) _).grown hg (by have := hB.size; simp; omega) (fun g hg' => (ho.lt g hg').1)

theorem OwnP.done {w wr : World} {v : Value} {ps : List Pk} (h : OwnP w v wr ps) : SplitPost w ps (.returned (.tuple #[v, .int .i64 0])) wr := by
  obtain ⟨css, D, cap, rfl, ho, hp, hB⟩ := h
  refine ⟨D, cap, rfl, ⟨own_cap ho, ?_, css, hp.weaken (fun b h => h.1), Row.of_own ho⟩, hB⟩
  rcases ho.2 with ⟨hv, _⟩ | ⟨g, cap', cur, hv, _, _, _, hm, _⟩
  · injection hv with _ _ h2; subst h2; exact Nat.zero_le _
  · injection hv with _ _ h2; subst h2; exact hm
theorem slice_len {A : Option Addr} {n m c : Nat} (h : n = m) : Value.slice A n c = Value.slice A m c := by rw [h]
theorem SB.cutX {w : World} {S : Nat → Prop} {A X : Option Addr} {c c' : Nat} {l : List UInt8} (h : SB w S A c l) (k : Nat)
    (hX : ∀ b off, A = some ⟨b, off, none⟩ → k < l.length → X = some ⟨b, off + k, none⟩) (hc : l.length - k ≤ c') (hm : c' ≤ c) : SB w S X c' (l.drop k) := by
  refine ⟨by simpa using hc, by have := h.max; omega, fun hn => ?_⟩
  have hlt : k < l.length := by
    rcases Nat.lt_or_ge k l.length with h | h
    · exact h
    · exact absurd (by simp [List.drop_eq_nil_of_le h]) hn
  obtain ⟨b, off, hA, hb, hcl⟩ := h.row (fun e => by simp at e; subst e; simp at hlt)
  refine ⟨b, off + k, hX b off hA hlt, hb, fun j v hv => ?_⟩
  rw [List.map_drop, List.getElem?_drop] at hv
  rw [Nat.add_assoc]
  exact hcl _ v hv
theorem OwnP.drew {w wr : World} {v : Value} {ps : List Pk} (h : OwnP w v wr ps) : OwnP w v wr.drew ps := by
  obtain ⟨css, D, cap, e, ho, hp, hB⟩ := h
  exact ⟨css, D, cap, e, ho, hp.keep (fun _ _ _ => rfl), hB.drew⟩
theorem SB.keepBelow {wr w' : World} {N : Nat} {A : Option Addr} {c : Nat} {l : List UInt8} (h : SB wr (Lt N) A c l) (hN : N ≤ wr.heap.size) (hb : Below wr.heap.size wr w') : SB w' (Lt N) A c l := h.below (hb.mono hN)

def SplitIn (w : World) (ch cmd : Int) (b : List UInt8) (l seq rest : Value) (wr : World) : Prop :=
  ∃ (k : Nat) (r : List UInt8) (R : Option Addr) (rc : Nat), seq = .int .i64 k ∧ rest = .slice R r.length rc ∧ Hid (r = b.drop (57 + 59 * k)) ∧ Hid (k = 0 ∨ 59 * k < 2 + b.length) ∧ SB w (Lt w.heap.size) R rc r ∧
    OwnP w l wr (splitTo ch cmd b k)
set_option maxRecDepth 100000 in
set_option maxHeartbeats 4000000 in
theorem split_tight (ch cmd : Int) (A : Option Addr) (b : List UInt8) (w : World) (hs : SB w (Lt w.heap.size) A b.length b) (h1 : 1 ≤ cmd) (h2 : cmd ≤ 127) (h3 : b.length ≤ 4096) (hlen : b.length ≤ 57) :
    Calls Try.prog 23 #[.int .u32 ch, .int .i64 cmd, .slice A b.length b.length] w (SplitPost w (splitL ch cmd b)) := by
  obtain ⟨d1, hd⟩ : ∃ d, d = b.take 57 := ⟨_, rfl⟩
  have HD1 := Lib.hid hd
  have sd1 : SB w (Lt w.heap.size) A b.length d1 := by rw [hd]; exact hs.take' 57
  have hdl1 := Lib.hid (show d1.length = min 57 b.length by rw [hd]; simp)
  clear hd
  have hI2 : (b.length : Int) ≤ (b.length : Int) := by omega
  go_enter Try.func23, Try.ntmps23
  go_wp2_with fail
  refine (clone_ok _ _ d1 _ (Lt w.heap.size) _ sd1 (fun _ h => h) (by rw [hdl1.out]; omega) (by rw [hdl1.out]; omega)).mono ?_
  rintro e w1 ⟨E, ce, rfl, hE, hb1⟩
  go_wp2_with fail
  refine wp_draw (fun _ => False) [([0, 1, 2, 3, 4], none)] #[0, 0, 3, 0, 15] (by kernel_rfl) (by kernel_rfl) (fun _ _ _ d _ h => by cases d <;> exact h) ?_
  apply lin_none
  · intro w' hx
    clear hx
    simp only [List.map_cons, List.map_nil, opAt, Array.getD_eq_getD_getElem?, List.getElem?_toArray, List.getElem?_cons_succ, List.getElem?_cons_zero, Option.getD_some]
    repeat still_step
    exact wpStill_nil rfl
  refine lin_done ?_
  go_wp2_with fail
  go_loopw [9, 10, 11] (fun l seq rest wr => SplitIn w ch cmd b l seq rest wr) (fun _ _ rest _ => lenOfV rest)
  case atStart =>
    refine ⟨0, b.drop 57, _, _, rfl, slice_len (by simp <;> omega), Lib.hid rfl, Lib.hid (.inl rfl), hs.cutX 57 ?_ (by omega) (by omega), ?_⟩
    · rintro b0 off rfl hk
      first | rfl | omega
    · have h := (OwnP.start ⟨ch, true, cmd, b.length, 0, d1⟩ hE hb1).drew
      rw [HD1.out] at h
      rw [HD1.out]
      exact h
  case round =>
    obtain ⟨k, r, R, rc, rfl, rfl, HR, HK0, hR, css, D, cap, rfl, ho, hp, hB⟩ := hrel
    have hk70 : k ≤ 70 := by have := HK0.out; omega
    by_cases hr0 : 0 < r.length
    · obtain ⟨d, hd⟩ : ∃ d, d = r.take 59 := ⟨_, rfl⟩
      have HD := Lib.hid hd
      have sd : SB wr (Lt w.heap.size) R rc d := by rw [hd]; exact (hR.below hB).take' 59
      have hdl := Lib.hid (show d.length = min 59 r.length by rw [hd]; simp)
      clear hd
      have hrc := hR.cap
      by_cases h59 : r.length ≤ 59
      all_goals
        go_wp2_with fail
        refine (clone_ok _ _ d _ (Lt w.heap.size) _ sd (fun b (h : b < w.heap.size) => by have := hB.size; omega) (by rw [hdl.out]; omega) (by rw [hdl.out]; omega)).mono ?_
        rintro e w1 ⟨E, ce, rfl, hE, hb1⟩
        go_wp2_with (at_builtin; refine wpl_append rfl _ _ 31 rfl elP w.heap.size (v := .slice D (splitTo ch cmd b k).length cap) rfl ((own_below ho hb1).alloc _) rfl (Row.of_blk (Blk.new _ _ _)) rfl (by intro u hu; simp at hu; rcases hu with rfl | rfl | rfl | rfl | rfl | rfl <;> rfl) (by rw [splitTo_length]; unfold maxLen; omega) (by rw [splitTo_length]; omega) (by have := hB.size; have := hb1.size; simp; omega) ?_; intro D' cap' w2 ho' hg' hr')
        have hG := OwnP.grow (contP ch b k) ho hp hB hb1 (by rw [contP, ← HR.out, ← HD.out]; exact hE) (by rw [contP, ← HR.out, ← HD.out]; exact ho') (by rw [contP, ← HR.out, ← HD.out]; exact hg') (by simpa using hr')
        rw [← splitTo_succ] at hG
        refine ⟨⟨k + 1, r.drop 59, _, _, by go_num, slice_len (by simp <;> omega), Lib.hid (by rw [HR.out, List.drop_drop]; congr 1 <;> omega), Lib.hid (.inr (by have e := congrArg List.length HR.out; simp at e; omega)), hR.cutX 59 ?_ (by omega) (by omega), hG⟩, by simp [lenOfV]; omega⟩
        rintro b0 off rfl hk
        first | rfl | omega
    · have hr0' : r.length = 0 := by omega
      have HE := Lib.hid hr0'
      clear hr0'
      go_wp2
      go_ret2
      have hk : k = nconts b.length := by
        have e := congrArg List.length HR.out
        rw [HE.out] at e
        simp at e
        have := HK0.out
        unfold nconts
        omega
      unfold splitL
      rw [← hk]
      exact OwnP.done ⟨css, D, cap, rfl, ho, hp, hB⟩

set_option maxRecDepth 100000 in
set_option maxHeartbeats 4000000 in
theorem split_in (ch cmd : Int) (A : Option Addr) (c : Nat) (b : List UInt8) (w : World) (hs : SB w (Lt w.heap.size) A c b) (h1 : 1 ≤ cmd) (h2 : cmd ≤ 127) (h3 : b.length ≤ 4096) :
    Calls Try.prog 23 #[.int .u32 ch, .int .i64 cmd, .slice A b.length c] w (SplitPost w (splitL ch cmd b)) := by
  have hcap := hs.cap
  rcases (show (b.length ≤ 57 ∧ c = b.length) ∨ (b.length ≤ 57 ∧ ¬ c = b.length) ∨ ((57 : Int) ≤ (b.length : Int) ∧ ¬ b.length ≤ 57) by omega) with ⟨hlen, hcc⟩ | ⟨hlen, hcc⟩ | ⟨hlen, hcc⟩
  · subst hcc
    clear hcap
    exact split_tight ch cmd A b w hs h1 h2 h3 hlen
  all_goals
    obtain ⟨d1, hd⟩ : ∃ d, d = b.take 57 := ⟨_, rfl⟩
    have HD1 := Lib.hid hd
    have sd1 : SB w (Lt w.heap.size) A c d1 := by rw [hd]; exact hs.take' 57
    have hdl1 := Lib.hid (show d1.length = min 57 b.length by rw [hd]; simp)
    clear hd
    have hI2 : (b.length : Int) ≤ (c : Int) := by omega
    go_enter Try.func23, Try.ntmps23
    go_wp2_with fail
    refine (clone_ok _ _ d1 _ (Lt w.heap.size) _ sd1 (fun _ h => h) (by rw [hdl1.out]; omega) (by rw [hdl1.out]; omega)).mono ?_
    rintro e w1 ⟨E, ce, rfl, hE, hb1⟩
    go_wp2_with fail
    refine wp_draw (fun _ => False) [([0, 1, 2, 3, 4], none)] #[0, 0, 3, 0, 15] (by kernel_rfl) (by kernel_rfl) (fun _ _ _ d _ h => by cases d <;> exact h) ?_
    apply lin_none
    · intro w' hx
      clear hx
      simp only [List.map_cons, List.map_nil, opAt, Array.getD_eq_getD_getElem?, List.getElem?_toArray, List.getElem?_cons_succ, List.getElem?_cons_zero, Option.getD_some]
      repeat still_step
      exact wpStill_nil rfl
    refine lin_done ?_
    go_wp2_with fail
    go_loopw [9, 10, 11] (fun l seq rest wr => SplitIn w ch cmd b l seq rest wr) (fun _ _ rest _ => lenOfV rest)
    case atStart =>
      refine ⟨0, b.drop 57, _, _, rfl, slice_len (by simp <;> omega), Lib.hid rfl, Lib.hid (.inl rfl), hs.cutX 57 ?_ (by omega) (by omega), ?_⟩
      · rintro b0 off rfl hk
        first | rfl | omega
      · have h := (OwnP.start ⟨ch, true, cmd, b.length, 0, d1⟩ hE hb1).drew
        rw [HD1.out] at h
        rw [HD1.out]
        exact h
    case round =>
      obtain ⟨k, r, R, rc, rfl, rfl, HR, HK0, hR, css, D, cap, rfl, ho, hp, hB⟩ := hrel
      have hk70 : k ≤ 70 := by have := HK0.out; omega
      by_cases hr0 : 0 < r.length
      · obtain ⟨d, hd⟩ : ∃ d, d = r.take 59 := ⟨_, rfl⟩
        have HD := Lib.hid hd
        have sd : SB wr (Lt w.heap.size) R rc d := by rw [hd]; exact (hR.below hB).take' 59
        have hdl := Lib.hid (show d.length = min 59 r.length by rw [hd]; simp)
        clear hd
        have hrc := hR.cap
        by_cases h59 : r.length ≤ 59
        all_goals
          go_wp2_with fail
          refine (clone_ok _ _ d _ (Lt w.heap.size) _ sd (fun b (h : b < w.heap.size) => by have := hB.size; omega) (by rw [hdl.out]; omega) (by rw [hdl.out]; omega)).mono ?_
          rintro e w1 ⟨E, ce, rfl, hE, hb1⟩
          go_wp2_with (at_builtin; refine wpl_append rfl _ _ 31 rfl elP w.heap.size (v := .slice D (splitTo ch cmd b k).length cap) rfl ((own_below ho hb1).alloc _) rfl (Row.of_blk (Blk.new _ _ _)) rfl (by intro u hu; simp at hu; rcases hu with rfl | rfl | rfl | rfl | rfl | rfl <;> rfl) (by rw [splitTo_length]; unfold maxLen; omega) (by rw [splitTo_length]; omega) (by have := hB.size; have := hb1.size; simp; omega) ?_; intro D' cap' w2 ho' hg' hr')
          have hG := OwnP.grow (contP ch b k) ho hp hB hb1 (by rw [contP, ← HR.out, ← HD.out]; exact hE) (by rw [contP, ← HR.out, ← HD.out]; exact ho') (by rw [contP, ← HR.out, ← HD.out]; exact hg') (by simpa using hr')
          rw [← splitTo_succ] at hG
          refine ⟨⟨k + 1, r.drop 59, _, _, by go_num, slice_len (by simp <;> omega), Lib.hid (by rw [HR.out, List.drop_drop]; congr 1 <;> omega), Lib.hid (.inr (by have e := congrArg List.length HR.out; simp at e; omega)), hR.cutX 59 ?_ (by omega) (by omega), hG⟩, by simp [lenOfV]; omega⟩
          rintro b0 off rfl hk
          first | rfl | omega
      · have hr0' : r.length = 0 := by omega
        have HE := Lib.hid hr0'
        clear hr0'
        go_wp2
        go_ret2
        have hk : k = nconts b.length := by
          have e := congrArg List.length HR.out
          rw [HE.out] at e
          simp at e
          have := HK0.out
          unfold nconts
          omega
        unfold splitL
        rw [← hk]
        exact OwnP.done ⟨css, D, cap, rfl, ho, hp, hB⟩
end Go.Proofs.Ytokeanadhihlfaa
