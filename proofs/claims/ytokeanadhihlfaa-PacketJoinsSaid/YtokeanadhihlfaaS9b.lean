import Derived.Test.YtokeanadhihlfaaS9a
set_option linter.all false
set_option maxHeartbeats 1000000
namespace Go.Proofs.Ytokeanadhihlfaa.V
open Go
theorem p5_0 (ps : List Rec) (l : List Int) (seed size : Int) (post : AV → Option AV → Prop) (hin : InRL [.rs false 0 ps, .ints false .i64 l, .int .i64 seed, .int .i64 size]) (hie : InRO none) (h : post (.bool true) none) : Ok (runF c5 pm5 Proofs.Try.f5 [.rs false 0 ps, .ints false .i64 l, .int .i64 seed, .int .i64 size] none (post)) := by
  refine ⟨?_⟩
  rw [t5_0]
  refine ⟨?_, h⟩
  have a0 : 0 ≤ (0 : Int) ∧ (0 : Int) ≤ l.length := by omega
  have a1 := nextN_rng a0
  have a2 := nextN_rng a1
  have a3 := nextN_rng a2
  have a4 := nextN_rng a3
  have u1 := Int.emod_nonneg (IntKind.u64.wrap seed) (show (99 : Int) ≠ 0 by omega)
  have u2 := Int.emod_lt_of_pos (IntKind.u64.wrap seed) (show (0 : Int) < 99 by omega)
  refine chk_dec ⟨by omega, by omega, by omega, by omega⟩ (fun r hr => chk_dec ⟨by omega, by omega, by omega, by omega⟩ (fun b hb hl => ?_))
  have hX : ∀ ch c : Int, (splitL ch c b).length ≤ 71 ∧ ∀ i : Nat, ((splitL ch c b).getD i default).s.length ≤ 59 := by
    intro ch c
    by_cases he : splitE c b.length = 0
    · have hn := split_len ch c b he
      have hcd := count_div (c := b.length) (by omega) (by unfold splitE at he; (repeat' split at he) <;> omega)
      refine ⟨by omega, fun i => ?_⟩
      by_cases hi : i < (splitL ch c b).length
      · obtain ⟨g1, _⟩ := split_get ch c b he i hi
        rw [List.getD, g1]
        cases i with
        | zero => simp [spP]; omega
        | succ j => simp [spP]; omega
      · rw [List.getD, List.getElem?_eq_none (by omega)]
        show ([] : List Int).length ≤ 59
        simp
    · rw [splitL, if_pos he]
      refine ⟨by simp, fun i => ?_⟩
      show (([] : List Rec)[i]?.getD default).s.length ≤ 59
      simp
      show ([] : List Int).length ≤ 59
      simp
  generalize IntKind.u32.wrap (IntKind.i64.wrap (1 + nextR l 0 2)) = ch
  generalize IntKind.i64.wrap (1 + nextR l (nextN l 0) 4) = c
  obtain ⟨x1, x2⟩ := hX ch c
  generalize splitL ch c b = X at *
  simp only [bne_self_eq_false, strEq_refl, Bool.not_true, br_false, List.length_set, List.length_take, List.length_drop, List.length_append, List.length_cons, List.length_nil]
  refine chk_dec (by omega) (br_dec (fun hp => ?_) (fun hp => h))
  refine chk_dec ⟨by omega, by omega, by omega, by omega⟩ (chk_dec ⟨by omega, by omega, by omega, by omega⟩ ?_)
  have hk := nextR_rng l (nextN l (nextN l 0)) X.length (by omega)
  have hxk := x2 (nextR l (nextN l (nextN l 0)) X.length).toNat
  have hn6 := nextR_rng l (nextN l (nextN l (nextN l (nextN l 0)))) 6 (by omega)
  have hnx := nextR_rng l (nextN l (nextN l (nextN l (nextN l 0)))) ((X.getD (nextR l (nextN l (nextN l 0)) X.length).toNat default).s.length + 1) (by omega)
  generalize nextR l (nextN l (nextN l 0)) X.length = kk at *
  rw [wrap_i64 (n := kk + 1) (by omega) (by omega), wrap_i64 (n := ((X.getD kk.toNat default).s.length : Int) + 1) (by omega) (by omega)]
  repeat' first
    | exact h
    | with_reducible refine br_eq (fun _ => ?_) (fun _ => ?_)
    | with_reducible refine chk_inB (by omega) (by omega) ?_
    | with_reducible refine chk_dec (by omega) ?_
    | with_reducible refine chk_dec ⟨by omega, by omega, by omega, by omega⟩ ?_
    | with_reducible refine chk_of (cut_hi (by omega) (by omega)) ?_
    | with_reducible refine chk_of (cut_lo (by omega) (by omega)) ?_
theorem k5 : Keeps Proofs.Try.prog 5 S5 := by
  refine ⟨?_, Proofs.Try.f5, by kernel_rfl, by kernel_rfl, by kernel_rfl⟩
  intro args e post h
  unfold S5 at h
  split at h
  · refine Spec.inR fun hin hie => fun_ok' (c := c5) gam5_ok (l := u5) a5 rfl mixed_ok (fn := Proofs.Try.f5) (show Proofs.Try.prog.funcs[5]? = some Proofs.Try.f5 by kernel_rfl) (by kernel_rfl) (ls := [(3, L5_3)]) rfl (.inr (by kernel_rfl)) ⟨l5_3, trivial⟩ (pm := pm5) (by simp [c5]) (by rintro ⟨t, l, h⟩; cases h) ?_
    exact p5_0 _ _ _ _ _ hin hie h
  · exact h.elim
end Go.Proofs.Ytokeanadhihlfaa.V
