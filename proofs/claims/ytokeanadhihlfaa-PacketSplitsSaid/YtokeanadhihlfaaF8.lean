/-
  Contracts: the reference's Split.
-/
import Derived.Test.YtokeanadhihlfaaF7
namespace Go.Proofs.Ytokeanadhihlfaa
open Go.RowKit

/-- A copy of bytes in new memory: 'append([]byte(nil), x...)'. -/
theorem wpl_copyF {P : Program} {ops : Array Oper} {rest : List Oper} {o : Oper} {a : Act} {w : World} {Q : Exit → Act → World → Prop} (hgd : o.guard = none) (x : Operand) (t : TypeId) {c0 : Operand}
    (ho : o.op = .call { callee := .builtin .append, args := #[c0, x], argTypes := #[t, t] }) (hc0 : a.eval c0 = .slice none 0 0)
    {e : TypeId} (he : Elem P t e 1 1) {S : Nat → Prop} {A : Option Addr} {c : Nat} {l : List UInt8} {m : Nat} (hx : a.eval x = .slice A m c) (hr : SB w S A c l) (hm : m = l.length)
    (hbytes : l.length ≤ 1000000)
    (h : ∀ D c' w', SB w' (Fr w.heap.size w'.heap.size) D c' l → Below w.heap.size w w' → wpList P ops Q rest (a.put o.dst (.slice D l.length c')) w') : wpList P ops Q (o :: rest) a w := by
  subst hm
  refine wpl_append hgd c0 x t ho he w.heap.size hc0 (World.ownsRow_nil w _ e 1) hx hr.row (by simp) (map_BV_one l) (by unfold maxLen; omega) (by omega) (Nat.le_refl _) ?_
  intro D c' w' h2 h3 _
  simp only [Nat.zero_add, List.nil_append] at h2 ⊢
  exact h D c' w' (SB.of_ownF h2) (below_of_grown h3 (Nat.le_refl _) (fun g hg => by cases hg))

theorem rsplit_range (ch cmd : Int) (A : Option Addr) (c n : Nat) (w : World) (h : cmd < 1 ∨ 127 < cmd) : Calls Try.prog 24 #[.int .u32 ch, .int .i64 cmd, .slice A n c] w fun e w' => e = .returned (.tuple #[.slice none 0 0, .int .i64 9]) ∧ w = w' := by
  rcases h with h | h
  all_goals
    go_enter Try.func24, Try.ntmps24
    go_wp2
    go_ret2
    exact ⟨rfl, rfl⟩
theorem rsplit_large (ch cmd : Int) (A : Option Addr) (c n : Nat) (w : World) (h1 : 1 ≤ cmd) (h2 : cmd ≤ 127) (h3 : 4096 < n) : Calls Try.prog 24 #[.int .u32 ch, .int .i64 cmd, .slice A n c] w fun e w' => e = .returned (.tuple #[.slice none 0 0, .int .i64 8]) ∧ w = w' := by
  go_enter Try.func24, Try.ntmps24
  go_wp2
  go_ret2
  exact ⟨rfl, rfl⟩

def RSplitIn (w : World) (ch cmd : Int) (b : List UInt8) (n l seq : Value) (wr : World) : Prop :=
  ∃ (k m : Nat), n = .int .i64 m ∧ seq = .int .i64 k ∧ Hid (m = min b.length (57 + 59 * k)) ∧ Hid (k = 0 ∨ 59 * k < 2 + b.length) ∧ OwnP w l wr (splitTo ch cmd b k)
set_option maxRecDepth 100000 in
set_option maxHeartbeats 4000000 in
theorem rsplit_in (ch cmd : Int) (A : Option Addr) (c : Nat) (b : List UInt8) (w : World) (hs : SB w (Lt w.heap.size) A c b) (h1 : 1 ≤ cmd) (h2 : cmd ≤ 127) (h3 : b.length ≤ 4096) :
    Calls Try.prog 24 #[.int .u32 ch, .int .i64 cmd, .slice A b.length c] w (SplitPost w (splitL ch cmd b)) := by
  have hcap := hs.cap
  obtain ⟨d1, hd⟩ : ∃ d, d = b.take 57 := ⟨_, rfl⟩
  have HD1 := Lib.hid hd
  have sd1 : SB w (Lt w.heap.size) A c d1 := by rw [hd]; exact hs.take' 57
  have hdl1 := Lib.hid (show d1.length = min 57 b.length by rw [hd]; simp)
  clear hd
  have hI2 : (b.length : Int) ≤ (c : Int) := by omega
  by_cases hlen : b.length ≤ 57
  · go_enter Try.func24, Try.ntmps24
    go_wp2_with (at_builtin; refine wpl_copyF rfl _ 28 rfl rfl elB rfl sd1 (by rw [hdl1.out]; omega) (by rw [hdl1.out]; omega) ?_; intro E ce w1 hE hb1)
    go_loopw [8, 9, 10] (fun n l seq wr => RSplitIn w ch cmd b n l seq wr) (fun n _ _ _ => b.length - (intOf n).toNat)
    case atStart =>
      refine ⟨0, min b.length 57, ?_, rfl, Lib.hid rfl, Lib.hid (.inl rfl), ?_⟩
      · first | rw [show min b.length 57 = 57 by omega]; rfl | rw [show min b.length 57 = b.length by omega]
      have h := (OwnP.start ⟨ch, true, cmd, b.length, 0, d1⟩ hE hb1)
      rw [HD1.out] at h
      rw [HD1.out]
      exact h
    case round =>
      obtain ⟨k, m, rfl, rfl, HM, HK0, css, D, cap, rfl, ho, hp, hB⟩ := hrel
      have hk70 : k ≤ 70 := by have := HK0.out; omega
      have hmb : m ≤ b.length := by have := HM.out; omega
      by_cases hlt : m < b.length
      · exfalso
        have := HM.out
        omega
      · go_wp2
        go_ret2
        have hk : k = nconts b.length := by
          have := HM.out
          have := HK0.out
          unfold nconts
          omega
        unfold splitL
        rw [← hk]
        exact OwnP.done ⟨css, D, cap, rfl, ho, hp, hB⟩
  · go_enter Try.func24, Try.ntmps24
    go_wp2_with (at_builtin; refine wpl_copyF rfl _ 28 rfl rfl elB rfl sd1 (by rw [hdl1.out]; omega) (by rw [hdl1.out]; omega) ?_; intro E ce w1 hE hb1)
    go_loopw [8, 9, 10] (fun n l seq wr => RSplitIn w ch cmd b n l seq wr) (fun n _ _ _ => b.length - (intOf n).toNat)
    case atStart =>
      refine ⟨0, min b.length 57, ?_, rfl, Lib.hid rfl, Lib.hid (.inl rfl), ?_⟩
      · first | rw [show min b.length 57 = 57 by omega]; rfl | rw [show min b.length 57 = b.length by omega]
      have h := (OwnP.start ⟨ch, true, cmd, b.length, 0, d1⟩ hE hb1)
      rw [HD1.out] at h
      rw [HD1.out]
      exact h
    case round =>
      obtain ⟨k, m, rfl, rfl, HM, HK0, css, D, cap, rfl, ho, hp, hB⟩ := hrel
      have hk70 : k ≤ 70 := by have := HK0.out; omega
      have hmb : m ≤ b.length := by have := HM.out; omega
      by_cases hlt : m < b.length
      · have HM' := Lib.hid (show m = 57 + 59 * k by have := HM.out; omega)
        have hmc : m < c := by omega
        obtain ⟨d, hd⟩ : ∃ d, d = (b.drop m).take 59 := ⟨_, rfl⟩
        have HD := Lib.hid (show d = (b.drop (57 + 59 * k)).take 59 by rw [hd, HM'.out])
        have sd : SB wr (Lt w.heap.size) (Option.map (fun x => x.add m) A) (c - m) d := by
          rw [hd]
          refine ((hs.below hB).cutX m ?_ (by omega) (by omega)).take' 59
          rintro b0 off rfl hk
          simp [Addr.add_lit]
        have hdl := Lib.hid (show d.length = min 59 (b.length - m) by rw [hd]; simp)
        clear hd
        by_cases h59 : b.length - m ≤ 59
        all_goals
          go_wp2_with (first | (at_builtin; refine wpl_copyF rfl _ 28 rfl rfl elB rfl sd (by rw [hdl.out]; omega) (by rw [hdl.out]; omega) ?_; intro E ce w1 hE hb1) | (at_builtin; refine wpl_append rfl _ _ 31 rfl elP w.heap.size (v := .slice D (splitTo ch cmd b k).length cap) rfl ((own_below ho hb1).alloc _) rfl (Row.of_blk (Blk.new _ _ _)) rfl (by intro u hu; simp at hu; rcases hu with rfl | rfl | rfl | rfl | rfl | rfl <;> rfl) (by rw [splitTo_length]; unfold maxLen; omega) (by rw [splitTo_length]; omega) (by have := hB.size; have := hb1.size; simp; omega) ?_; intro D' cap' w2 ho' hg' hr'))
          have hG := OwnP.grow (contP ch b k) ho hp hB hb1 (by rw [contP, ← HD.out]; exact hE) (by rw [contP, ← HD.out]; exact ho') (by rw [contP, ← HD.out]; exact hg') (by simpa using hr')
          rw [← splitTo_succ] at hG
          refine ⟨⟨k + 1, min b.length (57 + 59 * (k + 1)), ?_, by go_num, Lib.hid rfl, Lib.hid (.inr (by have := HM'.out; omega)), hG⟩, by simp [intOf]; omega⟩
          have := HM'.out
          first | rw [show min b.length (57 + 59 * (k + 1)) = m + 59 by omega]; rfl | (rw [show min b.length (57 + 59 * (k + 1)) = b.length by omega]; exact congrArg _ (by omega))
      · go_wp2
        go_ret2
        have hk : k = nconts b.length := by
          have := HM.out
          have := HK0.out
          unfold nconts
          omega
        unfold splitL
        rw [← hk]
        exact OwnP.done ⟨css, D, cap, rfl, ho, hp, hB⟩
end Go.Proofs.Ytokeanadhihlfaa
