import Derived.Test.YtokeanadhihlfaaPlans
import Derived.Test.YtokeanadhihlfaaMB
import Derived.Test.YtokeanadhihlfaaProg
import Derived.Test.YtokeanadhihlfaaS0
import Derived.Test.YtokeanadhihlfaaS1
import Derived.Test.YtokeanadhihlfaaP1
import Derived.KernelRfl
set_option linter.all false
set_option maxHeartbeats 1000000
namespace Go.Proofs.Ytokeanadhihlfaa.V
open Go
def pm57 : Pm := ⟨[pkS], .no, [.s]⟩
def u57 : List (Nat × Tr) := [(54, S54)]
theorem a57 : AllKeep Proofs.Try.prog u57 := ⟨k54, trivial⟩

def c57 : Cfg := { n := 68, Γ := Gam, C := ofL u57, pm := pmL [(54, pm54)], plan := plan57, L := lpL [], unroll := nmL [], keep := kpL [] }
def S57 : Tr
  | [.agg [.int .u32 a, .bool ff, .int .i64 b, .int .i64 c, .int .i64 d, .ints false .u8 s]], none, post => post (.int .i64 (chkE ff b c d s.length)) none
  | _, _, _ => False
theorem t57_0 (a b c d : Int) (s : List Int) (post : AV → Option AV → Prop) : runF c57 pm57 Proofs.Try.f57 [.agg [.int .u32 a, .bool true, .int .i64 b, .int .i64 c, .int .i64 d, .ints false .u8 s]] none post = (br (decide (b < (1 : Int))) (post (AV.int IntKind.i64 (9 : Int)) none)
     (br (decide (b > (127 : Int))) (post (AV.int IntKind.i64 (9 : Int)) none)
     (br (decide (c < (0 : Int))) (post (AV.int IntKind.i64 (9 : Int)) none)
     (br (decide (c > (65535 : Int))) (post (AV.int IntKind.i64 (9 : Int)) none)
     (br (d != (0 : Int)) (post (AV.int IntKind.i64 (4 : Int)) none)
     (br (decide (@Nat.cast Int _ s.length > (57 : Int))) (post (AV.int IntKind.i64 (8 : Int)) none)
     (post (AV.int IntKind.i64 (0 : Int)) none))))))) := by kernel_rfl
theorem t57_1 (a b c d : Int) (s : List Int) (post : AV → Option AV → Prop) : runF c57 pm57 Proofs.Try.f57 [.agg [.int .u32 a, .bool false, .int .i64 b, .int .i64 c, .int .i64 d, .ints false .u8 s]] none post = (br (decide (d < (0 : Int))) (post (AV.int IntKind.i64 (9 : Int)) none)
     (br (decide (d > (127 : Int))) (post (AV.int IntKind.i64 (9 : Int)) none)
     (br (b != (0 : Int)) (post (AV.int IntKind.i64 (4 : Int)) none)
     (br (c != (0 : Int)) (post (AV.int IntKind.i64 (4 : Int)) none)
     (br (decide (@Nat.cast Int _ s.length > (59 : Int))) (post (AV.int IntKind.i64 (8 : Int)) none)
     (post (AV.int IntKind.i64 (0 : Int)) none)))))) := by kernel_rfl
theorem p57_0 (a b c d : Int) (s : List Int) (post : AV → Option AV → Prop) (hin : InRL [.agg [.int .u32 a, .bool true, .int .i64 b, .int .i64 c, .int .i64 d, .ints false .u8 s]]) (hie : InRO none) (h : post (.int .i64 (chkE true b c d s.length)) none) : Ok (runF c57 pm57 Proofs.Try.f57 [.agg [.int .u32 a, .bool true, .int .i64 b, .int .i64 c, .int .i64 d, .ints false .u8 s]] none (post)) := by
  refine ⟨?_⟩
  rw [t57_0]
  repeat' first | with_reducible refine br_dec (fun hc => ?_) (fun hc => ?_) | with_reducible refine br_ne (fun hc => ?_) (fun hc => ?_) | with_reducible refine br_eq (fun hc => ?_) (fun hc => ?_) | with_reducible refine br_not ?_
  all_goals (refine post_of h ?_ rfl; congr 1; simp only [chkE]; (repeat' split) <;> omega)
theorem p57_1 (a b c d : Int) (s : List Int) (post : AV → Option AV → Prop) (hin : InRL [.agg [.int .u32 a, .bool false, .int .i64 b, .int .i64 c, .int .i64 d, .ints false .u8 s]]) (hie : InRO none) (h : post (.int .i64 (chkE false b c d s.length)) none) : Ok (runF c57 pm57 Proofs.Try.f57 [.agg [.int .u32 a, .bool false, .int .i64 b, .int .i64 c, .int .i64 d, .ints false .u8 s]] none (post)) := by
  refine ⟨?_⟩
  rw [t57_1]
  repeat' first | with_reducible refine br_dec (fun hc => ?_) (fun hc => ?_) | with_reducible refine br_ne (fun hc => ?_) (fun hc => ?_) | with_reducible refine br_eq (fun hc => ?_) (fun hc => ?_) | with_reducible refine br_not ?_
  all_goals (refine post_of h ?_ rfl; congr 1; simp only [chkE]; (repeat' split) <;> omega)
theorem P57_0 (a b c d : Int) (s : List Int) (ff : Bool) (post : AV → Option AV → Prop) (hin : InRL [.agg [.int .u32 a, .bool ff, .int .i64 b, .int .i64 c, .int .i64 d, .ints false .u8 s]]) (hie : InRO none) (h : post (.int .i64 (chkE ff b c d s.length)) none) : Ok (runF c57 pm57 Proofs.Try.f57 [.agg [.int .u32 a, .bool ff, .int .i64 b, .int .i64 c, .int .i64 d, .ints false .u8 s]] none (post)) := by
  match ff, hin, hie, h with
  | true, hin, hie, h => exact p57_0 _ _ _ _ _ post hin hie h
  | false, hin, hie, h => exact p57_1 _ _ _ _ _ post hin hie h
theorem k57 : Keeps Proofs.Try.prog 57 S57 := by
  refine ⟨?_, Proofs.Try.f57, by kernel_rfl, by kernel_rfl, by kernel_rfl⟩
  intro args e post h
  unfold S57 at h
  split at h
  · refine Spec.inR fun hin hie => fun_ok' (c := c57) gam_ok (l := u57) a57 rfl mixed_ok (fn := Proofs.Try.f57) (show Proofs.Try.prog.funcs[57]? = some Proofs.Try.f57 by kernel_rfl) (by kernel_rfl) (ls := []) rfl (.inl rfl) trivial (pm := pm57) (by simp [c57]) (by rintro ⟨t, l, h⟩; cases h) ?_
    exact P57_0 _ _ _ _ _ _ _ hin hie h
  · exact h.elim
def pm33 : Pm := ⟨[pkS, pkS], .no, [.s]⟩
def u33 : List (Nat × Tr) := []
theorem a33 : AllKeep Proofs.Try.prog u33 := trivial

def c33 : Cfg := { n := 47, Γ := Gam, C := ofL u33, pm := pmL [], plan := noP, L := lpL [], unroll := nmL [], keep := kpL [] }
def S33 : Tr
  | [.agg [.int .u32 a, .bool f, .int .i64 b, .int .i64 c, .int .i64 d, .ints false .u8 s], .agg [.int .u32 a', .bool f', .int .i64 b', .int .i64 c', .int .i64 d', .ints false .u8 s']], none, post => post (.bool (decide (a = a' ∧ f = f' ∧ b = b' ∧ c = c' ∧ d = d' ∧ s = s'))) none
  | _, _, _ => False
theorem t33_0 (a b c d a' b' c' d' : Int) (f f' : Bool) (s s' : List Int) (post : AV → Option AV → Prop) : runF c33 pm33 Proofs.Try.f33 [.agg [.int .u32 a, .bool f, .int .i64 b, .int .i64 c, .int .i64 d, .ints false .u8 s], .agg [.int .u32 a', .bool f', .int .i64 b', .int .i64 c', .int .i64 d', .ints false .u8 s']] none post = (br (a == a')
     (br (f == f')
     (br (b == b')
     (br (c == c') (br (d == d') (post (AV.bool (strEq s s')) none) (post (AV.bool false) none))
     (post (AV.bool false) none))
     (post (AV.bool false) none))
     (post (AV.bool false) none))
     (post (AV.bool false) none)) := by kernel_rfl
theorem p33_0 (a b c d a' b' c' d' : Int) (f f' : Bool) (s s' : List Int) (post : AV → Option AV → Prop) (hin : InRL [.agg [.int .u32 a, .bool f, .int .i64 b, .int .i64 c, .int .i64 d, .ints false .u8 s], .agg [.int .u32 a', .bool f', .int .i64 b', .int .i64 c', .int .i64 d', .ints false .u8 s']]) (hie : InRO none) (h : post (.bool (decide (a = a' ∧ f = f' ∧ b = b' ∧ c = c' ∧ d = d' ∧ s = s'))) none) : Ok (runF c33 pm33 Proofs.Try.f33 [.agg [.int .u32 a, .bool f, .int .i64 b, .int .i64 c, .int .i64 d, .ints false .u8 s], .agg [.int .u32 a', .bool f', .int .i64 b', .int .i64 c', .int .i64 d', .ints false .u8 s']] none (post)) := by
  refine ⟨?_⟩
  rw [t33_0]
  repeat' first | with_reducible refine br_dec (fun hc => ?_) (fun hc => ?_) | with_reducible refine br_ne (fun hc => ?_) (fun hc => ?_) | with_reducible refine br_eq (fun hc => ?_) (fun hc => ?_) | with_reducible refine br_beq (fun hc => ?_) (fun hc => ?_)
  all_goals (refine post_of h ?_ rfl; congr 1; simp_all [strEq_dec])
theorem k33 : Keeps Proofs.Try.prog 33 S33 := by
  refine ⟨?_, Proofs.Try.f33, by kernel_rfl, by kernel_rfl, by kernel_rfl⟩
  intro args e post h
  unfold S33 at h
  split at h
  · refine Spec.inR fun hin hie => fun_ok' (c := c33) gam_ok (l := u33) a33 rfl mixed_ok (fn := Proofs.Try.f33) (show Proofs.Try.prog.funcs[33]? = some Proofs.Try.f33 by kernel_rfl) (by kernel_rfl) (ls := []) rfl (.inl rfl) trivial (pm := pm33) (by simp [c33]) (by rintro ⟨t, l, h⟩; cases h) ?_
    exact p33_0 _ _ _ _ _ _ _ _ _ _ _ _ _ hin hie h
  · exact h.elim
def pm26 : Pm := ⟨[.i .i64], .no, [.p]⟩
def u26 : List (Nat × Tr) := []
theorem a26 : AllKeep Proofs.Try.prog u26 := trivial

def c26 : Cfg := { n := 6, Γ := Gam, C := ofL u26, pm := pmL [], plan := noP, L := lpL [], unroll := nmL [], keep := kpL [] }
def S26 : Tr
  | [.ints false .i64 l], none, post => post (AV.ptr (1000 : Nat) (0 : Nat) (0 : Nat))
     (some (AV.box (83 : Nat) [AV.ints false IntKind.i64 l, AV.int IntKind.i64 (0 : Int)]))
  | _, _, _ => False
theorem t26_0 (l : List Int) (post : AV → Option AV → Prop) : runF c26 pm26 Proofs.Try.f26 [.ints false .i64 l] none post = (post (AV.ptr (1000 : Nat) (0 : Nat) (0 : Nat))
     (some (AV.box (83 : Nat) [AV.ints false IntKind.i64 l, AV.int IntKind.i64 (0 : Int)]))) := by kernel_rfl
theorem k26 : Keeps Proofs.Try.prog 26 S26 := by
  refine ⟨?_, Proofs.Try.f26, by kernel_rfl, by kernel_rfl, by kernel_rfl⟩
  intro args e post h
  unfold S26 at h
  split at h
  · refine Spec.inR fun hin hie => fun_ok' (c := c26) gam_ok (l := u26) a26 rfl mixed_ok (fn := Proofs.Try.f26) (show Proofs.Try.prog.funcs[26]? = some Proofs.Try.f26 by kernel_rfl) (by kernel_rfl) (ls := []) rfl (.inl rfl) trivial (pm := pm26) (by simp [c26]) (by rintro ⟨t, l, h⟩; cases h) ?_
    refine ⟨?_⟩
    rw [t26_0]
    exact h
  · exact h.elim
def pm27 : Pm := ⟨[.p, .s], .bx 0, [.s]⟩
def u27 : List (Nat × Tr) := [(17, S17)]
theorem a27 : AllKeep Proofs.Try.prog u27 := ⟨k17, trivial⟩

def c27 : Cfg := { n := 35, Γ := Gam, C := ofL u27, pm := pmL [(17, pm17)], plan := plan27, L := lpL [], unroll := nmL [], keep := kpL [] }
def S27 : Tr
  | [.ptr 1000 0 0, .int .i64 m], some (.box 83 [.ints false .i64 l, .int .i64 n]), post => chk (decide (0 < m ∧ m ≤ 1000000 ∧ 0 ≤ n ∧ n ≤ l.length)) (post (.int .i64 (nextR l n m)) (some (.box 83 [.ints false .i64 l, .int .i64 (nextN l n)])))
  | _, _, _ => False
theorem t27_0 (l : List Int) (n m : Int) (post : AV → Option AV → Prop) : runF c27 pm27 Proofs.Try.f27 [.ptr 1000 0 0, .int .i64 m] (some (.box 83 [.ints false .i64 l, .int .i64 n])) post = (br (decide (n ≥ @Nat.cast Int _ l.length))
     (post (AV.int IntKind.i64 (0 : Int)) (some (AV.box (83 : Nat) [AV.ints false IntKind.i64 l, AV.int IntKind.i64 n])))
     (chk (inB (IntKind.i64.wrap (IntKind.i64.wrap (n + (1 : Int)) - (1 : Int))) l.length)
     (chk (decide ((0 : Int) < m ∧ m ≤ (1099511627776 : Int)))
     (post
     (AV.int IntKind.i64
     (IntKind.u64.wrap (l.getD (IntKind.i64.wrap (IntKind.i64.wrap (n + (1 : Int)) - (1 : Int))).toNat (0 : Int)) %
     m))
     (some
     (AV.box (83 : Nat) [AV.ints false IntKind.i64 l, AV.int IntKind.i64 (IntKind.i64.wrap (n + (1 : Int)))])))))) := by kernel_rfl
theorem p27_0 (l : List Int) (n m : Int) (post : AV → Option AV → Prop) (hin : InRL [.ptr 1000 0 0, .int .i64 m]) (hie : InRO (some (.box 83 [.ints false .i64 l, .int .i64 n]))) (h : chk (decide (0 < m ∧ m ≤ 1000000 ∧ 0 ≤ n ∧ n ≤ l.length)) (post (.int .i64 (nextR l n m)) (some (.box 83 [.ints false .i64 l, .int .i64 (nextN l n)])))) : Ok (runF c27 pm27 Proofs.Try.f27 [.ptr 1000 0 0, .int .i64 m] (some (.box 83 [.ints false .i64 l, .int .i64 n])) (post)) := by
  refine ⟨?_⟩
  rw [t27_0]
  obtain ⟨h1, h2⟩ := chk_iff.1 h
  obtain ⟨h3, h4, h5, h6⟩ := of_decide_eq_true h1
  have hl : l.length ≤ maxLen := by simp only [InRO, InR, InRL] at hie; exact hie.1.2
  unfold maxLen at hl
  refine br_dec (fun hc => post_of h2 (by rw [nextR, if_neg (by omega)]) (by rw [nextN, if_neg (by omega)])) (fun hc => ?_)
  rw [wrap_i64 (n := n + 1) (by omega) (by omega), wrap_i64 (n := n + 1 - 1) (by omega) (by omega), show n + 1 - 1 = n by omega]
  refine chk_inB (by omega) (by omega) (chk_dec (by omega) (post_of h2 (by rw [nextR, if_pos (by omega)]) (by rw [nextN, if_pos (by omega)])))
theorem k27 : Keeps Proofs.Try.prog 27 S27 := by
  refine ⟨?_, Proofs.Try.f27, by kernel_rfl, by kernel_rfl, by kernel_rfl⟩
  intro args e post h
  unfold S27 at h
  split at h
  · refine Spec.inR fun hin hie => fun_ok' (c := c27) gam_ok (l := u27) a27 rfl mixed_ok (fn := Proofs.Try.f27) (show Proofs.Try.prog.funcs[27]? = some Proofs.Try.f27 by kernel_rfl) (by kernel_rfl) (ls := []) rfl (.inl rfl) trivial (pm := pm27) (by simp [c27]) (fun _ => ⟨_, rfl⟩) ?_
    exact p27_0 _ _ _ _ hin hie h
  · exact h.elim
def pm37 : Pm := ⟨[.p], .bx 0, [.s]⟩
def u37 : List (Nat × Tr) := []
theorem a37 : AllKeep Proofs.Try.prog u37 := trivial

def c37 : Cfg := { n := 13, Γ := Gam, C := ofL u37, pm := pmL [], plan := plan37, L := lpL [], unroll := nmL [], keep := kpL [] }
def S37 : Tr
  | [.ptr 1000 0 0], some (.box 83 [.ints false .i64 l, .int .i64 n]), post => post (AV.bool (decide (n < @Nat.cast Int _ l.length)))
     (some (AV.box (83 : Nat) [AV.ints false IntKind.i64 l, AV.int IntKind.i64 n]))
  | _, _, _ => False
theorem t37_0 (l : List Int) (n : Int) (post : AV → Option AV → Prop) : runF c37 pm37 Proofs.Try.f37 [.ptr 1000 0 0] (some (.box 83 [.ints false .i64 l, .int .i64 n])) post = (post (AV.bool (decide (n < @Nat.cast Int _ l.length)))
     (some (AV.box (83 : Nat) [AV.ints false IntKind.i64 l, AV.int IntKind.i64 n]))) := by kernel_rfl
theorem k37 : Keeps Proofs.Try.prog 37 S37 := by
  refine ⟨?_, Proofs.Try.f37, by kernel_rfl, by kernel_rfl, by kernel_rfl⟩
  intro args e post h
  unfold S37 at h
  split at h
  · refine Spec.inR fun hin hie => fun_ok' (c := c37) gam_ok (l := u37) a37 rfl mixed_ok (fn := Proofs.Try.f37) (show Proofs.Try.prog.funcs[37]? = some Proofs.Try.f37 by kernel_rfl) (by kernel_rfl) (ls := []) rfl (.inl rfl) trivial (pm := pm37) (by simp [c37]) (fun _ => ⟨_, rfl⟩) ?_
    refine ⟨?_⟩
    rw [t37_0]
    exact h
  · exact h.elim
def pm36 : Pm := ⟨[pkS], .no, [.li 5 .u8, .s]⟩
def u36 : List (Nat × Tr) := [(57, S57)]
theorem a36 : AllKeep Proofs.Try.prog u36 := ⟨k57, trivial⟩

def c36 : Cfg := { n := 61, Γ := Gam, C := ofL u36, pm := pmL [(57, pm57)], plan := noP, L := lpL [], unroll := nmL [], keep := kpL [] }
def S36 : Tr
  | [.agg [.int .u32 a, .bool ff, .int .i64 b, .int .i64 c, .int .i64 d, .ints false .u8 s]], none, post => post (.tup [.ownf 1000, .int .i64 (chkE ff b c d s.length)]) (some (.lini 5 .u8 (encL a ff b c d s)))
  | _, _, _ => False
theorem t36_0 (a b c d : Int) (s : List Int) (post : AV → Option AV → Prop) : runF c36 pm36 Proofs.Try.f36 [.agg [.int .u32 a, .bool true, .int .i64 b, .int .i64 c, .int .i64 d, .ints false .u8 s]] none post = (br (chkE true b c d s.length != (0 : Int))
     (post (AV.tup [AV.ownf (1000 : Nat), AV.int IntKind.i64 (chkE true b c d s.length)])
     (some (AV.lini (5 : Nat) IntKind.u8 [])))
     (chk
     (decide
     ((List.replicate (0 : Nat) (0 : Int) ++
     [IntKind.u8.wrap (shr IntKind.u32 a (24 : Int)), IntKind.u8.wrap (shr IntKind.u32 a (16 : Int)),
     IntKind.u8.wrap (shr IntKind.u32 a (8 : Int)), IntKind.u8.wrap a] ++
     [IntKind.u8.wrap (IntKind.i64.wrap ((128 : Int) + b)), IntKind.u8.wrap (shr IntKind.i64 c (8 : Int)),
     IntKind.u8.wrap c]).length +
     s.length ≤
     (1099511627776 : Nat)))
     (chk
     (decide
     ((0 : Int) ≤
     IntKind.i64.wrap
     ((64 : Int) -
     @Nat.cast Int _
     (List.replicate (0 : Nat) (0 : Int) ++
     [IntKind.u8.wrap (shr IntKind.u32 a (24 : Int)),
     IntKind.u8.wrap (shr IntKind.u32 a (16 : Int)),
     IntKind.u8.wrap (shr IntKind.u32 a (8 : Int)), IntKind.u8.wrap a] ++
     [IntKind.u8.wrap (IntKind.i64.wrap ((128 : Int) + b)),
     IntKind.u8.wrap (shr IntKind.i64 c (8 : Int)), IntKind.u8.wrap c] ++
     s).length)) &&
     decide
     (@Nat.cast Int _
     (List.replicate (0 : Nat) (0 : Int) ++
     [IntKind.u8.wrap (shr IntKind.u32 a (24 : Int)), IntKind.u8.wrap (shr IntKind.u32 a (16 : Int)),
     IntKind.u8.wrap (shr IntKind.u32 a (8 : Int)), IntKind.u8.wrap a] ++
     [IntKind.u8.wrap (IntKind.i64.wrap ((128 : Int) + b)),
     IntKind.u8.wrap (shr IntKind.i64 c (8 : Int)), IntKind.u8.wrap c] ++
     s).length +
     IntKind.i64.wrap
     ((64 : Int) -
     @Nat.cast Int _
     (List.replicate (0 : Nat) (0 : Int) ++
     [IntKind.u8.wrap (shr IntKind.u32 a (24 : Int)),
     IntKind.u8.wrap (shr IntKind.u32 a (16 : Int)),
     IntKind.u8.wrap (shr IntKind.u32 a (8 : Int)), IntKind.u8.wrap a] ++
     [IntKind.u8.wrap (IntKind.i64.wrap ((128 : Int) + b)),
     IntKind.u8.wrap (shr IntKind.i64 c (8 : Int)), IntKind.u8.wrap c] ++
     s).length) ≤
     (1099511627776 : Int)))
     (post (AV.tup [AV.ownf (1000 : Nat), AV.int IntKind.i64 (0 : Int)])
     (some
     (AV.lini (5 : Nat) IntKind.u8
     (List.replicate (0 : Nat) (0 : Int) ++
     [IntKind.u8.wrap (shr IntKind.u32 a (24 : Int)), IntKind.u8.wrap (shr IntKind.u32 a (16 : Int)),
     IntKind.u8.wrap (shr IntKind.u32 a (8 : Int)), IntKind.u8.wrap a] ++
     [IntKind.u8.wrap (IntKind.i64.wrap ((128 : Int) + b)), IntKind.u8.wrap (shr IntKind.i64 c (8 : Int)),
     IntKind.u8.wrap c] ++
     s ++
     List.replicate
     (IntKind.i64.wrap
     ((64 : Int) -
     @Nat.cast Int _
     (List.replicate (0 : Nat) (0 : Int) ++
     [IntKind.u8.wrap (shr IntKind.u32 a (24 : Int)),
     IntKind.u8.wrap (shr IntKind.u32 a (16 : Int)),
     IntKind.u8.wrap (shr IntKind.u32 a (8 : Int)), IntKind.u8.wrap a] ++
     [IntKind.u8.wrap (IntKind.i64.wrap ((128 : Int) + b)),
     IntKind.u8.wrap (shr IntKind.i64 c (8 : Int)), IntKind.u8.wrap c] ++
     s).length)).toNat
     (0 : Int)))))))) := by kernel_rfl
theorem t36_1 (a b c d : Int) (s : List Int) (post : AV → Option AV → Prop) : runF c36 pm36 Proofs.Try.f36 [.agg [.int .u32 a, .bool false, .int .i64 b, .int .i64 c, .int .i64 d, .ints false .u8 s]] none post = (br (chkE false b c d s.length != (0 : Int))
     (post (AV.tup [AV.ownf (1000 : Nat), AV.int IntKind.i64 (chkE false b c d s.length)])
     (some (AV.lini (5 : Nat) IntKind.u8 [])))
     (chk
     (decide
     ((List.replicate (0 : Nat) (0 : Int) ++
     [IntKind.u8.wrap (shr IntKind.u32 a (24 : Int)), IntKind.u8.wrap (shr IntKind.u32 a (16 : Int)),
     IntKind.u8.wrap (shr IntKind.u32 a (8 : Int)), IntKind.u8.wrap a] ++
     [IntKind.u8.wrap d]).length +
     s.length ≤
     (1099511627776 : Nat)))
     (chk
     (decide
     ((0 : Int) ≤
     IntKind.i64.wrap
     ((64 : Int) -
     @Nat.cast Int _
     (List.replicate (0 : Nat) (0 : Int) ++
     [IntKind.u8.wrap (shr IntKind.u32 a (24 : Int)),
     IntKind.u8.wrap (shr IntKind.u32 a (16 : Int)),
     IntKind.u8.wrap (shr IntKind.u32 a (8 : Int)), IntKind.u8.wrap a] ++
     [IntKind.u8.wrap d] ++
     s).length)) &&
     decide
     (@Nat.cast Int _
     (List.replicate (0 : Nat) (0 : Int) ++
     [IntKind.u8.wrap (shr IntKind.u32 a (24 : Int)), IntKind.u8.wrap (shr IntKind.u32 a (16 : Int)),
     IntKind.u8.wrap (shr IntKind.u32 a (8 : Int)), IntKind.u8.wrap a] ++
     [IntKind.u8.wrap d] ++
     s).length +
     IntKind.i64.wrap
     ((64 : Int) -
     @Nat.cast Int _
     (List.replicate (0 : Nat) (0 : Int) ++
     [IntKind.u8.wrap (shr IntKind.u32 a (24 : Int)),
     IntKind.u8.wrap (shr IntKind.u32 a (16 : Int)),
     IntKind.u8.wrap (shr IntKind.u32 a (8 : Int)), IntKind.u8.wrap a] ++
     [IntKind.u8.wrap d] ++
     s).length) ≤
     (1099511627776 : Int)))
     (post (AV.tup [AV.ownf (1000 : Nat), AV.int IntKind.i64 (0 : Int)])
     (some
     (AV.lini (5 : Nat) IntKind.u8
     (List.replicate (0 : Nat) (0 : Int) ++
     [IntKind.u8.wrap (shr IntKind.u32 a (24 : Int)), IntKind.u8.wrap (shr IntKind.u32 a (16 : Int)),
     IntKind.u8.wrap (shr IntKind.u32 a (8 : Int)), IntKind.u8.wrap a] ++
     [IntKind.u8.wrap d] ++
     s ++
     List.replicate
     (IntKind.i64.wrap
     ((64 : Int) -
     @Nat.cast Int _
     (List.replicate (0 : Nat) (0 : Int) ++
     [IntKind.u8.wrap (shr IntKind.u32 a (24 : Int)),
     IntKind.u8.wrap (shr IntKind.u32 a (16 : Int)),
     IntKind.u8.wrap (shr IntKind.u32 a (8 : Int)), IntKind.u8.wrap a] ++
     [IntKind.u8.wrap d] ++
     s).length)).toNat
     (0 : Int)))))))) := by kernel_rfl
theorem p36_0 (a b c d : Int) (s : List Int) (post : AV → Option AV → Prop) (hin : InRL [.agg [.int .u32 a, .bool true, .int .i64 b, .int .i64 c, .int .i64 d, .ints false .u8 s]]) (hie : InRO none) (h : post (.tup [.ownf 1000, .int .i64 (chkE true b c d s.length)]) (some (.lini 5 .u8 (encL a true b c d s)))) : Ok (runF c36 pm36 Proofs.Try.f36 [.agg [.int .u32 a, .bool true, .int .i64 b, .int .i64 c, .int .i64 d, .ints false .u8 s]] none (post)) := by
  refine ⟨?_⟩
  rw [t36_0]
  rcases Int.lt_or_le (57 : Int) s.length with hl | hl
  · refine br_ne (fun hc => ?_) (fun hc => ?_)
    · refine post_of h rfl ?_
      simp only [encL, if_neg hc]
    · exfalso
      simp only [chkE] at hc
      (repeat' split at hc) <;> omega
  · refine br_ne (fun hc => ?_) (fun hc => ?_)
    · refine post_of h rfl ?_
      simp only [encL, if_neg hc]
    · have hb : 1 ≤ b ∧ b ≤ 127 := by
        simp only [chkE] at hc
        (repeat' split at hc) <;> omega
      simp only [List.length_append, List.length_cons, List.length_nil, List.length_replicate]
      rw [wrap_i64 (n := 64 - _) (by omega) (by omega), wrap_i64 (n := 128 + b) (by omega) (by omega)]
      refine chk_dec (by omega) (chk_and (chk_dec (by omega) (chk_dec (by omega) ?_)))
      refine post_of h (by rw [hc]) ?_
      simp only [encL, if_pos hc, encB, b4]
      rw [show (64 - ((0 + (0 + 1 + 1 + 1 + 1) + (0 + 1 + 1 + 1) + s.length : Nat) : Int)).toNat = 57 - s.length by omega]
      rfl
theorem p36_1 (a b c d : Int) (s : List Int) (post : AV → Option AV → Prop) (hin : InRL [.agg [.int .u32 a, .bool false, .int .i64 b, .int .i64 c, .int .i64 d, .ints false .u8 s]]) (hie : InRO none) (h : post (.tup [.ownf 1000, .int .i64 (chkE false b c d s.length)]) (some (.lini 5 .u8 (encL a false b c d s)))) : Ok (runF c36 pm36 Proofs.Try.f36 [.agg [.int .u32 a, .bool false, .int .i64 b, .int .i64 c, .int .i64 d, .ints false .u8 s]] none (post)) := by
  refine ⟨?_⟩
  rw [t36_1]
  rcases Int.lt_or_le (59 : Int) s.length with hl | hl
  · refine br_ne (fun hc => ?_) (fun hc => ?_)
    · refine post_of h rfl ?_
      simp only [encL, if_neg hc]
    · exfalso
      simp only [chkE] at hc
      (repeat' split at hc) <;> omega
  · refine br_ne (fun hc => ?_) (fun hc => ?_)
    · refine post_of h rfl ?_
      simp only [encL, if_neg hc]
    · skip
      simp only [List.length_append, List.length_cons, List.length_nil, List.length_replicate]
      rw [wrap_i64 (n := 64 - _) (by omega) (by omega)]
      refine chk_dec (by omega) (chk_and (chk_dec (by omega) (chk_dec (by omega) ?_)))
      refine post_of h (by rw [hc]) ?_
      simp only [encL, if_pos hc, encB, b4]
      rw [show (64 - ((0 + (0 + 1 + 1 + 1 + 1) + (0 + 1) + s.length : Nat) : Int)).toNat = 59 - s.length by omega]
      rfl
theorem P36_0 (a b c d : Int) (s : List Int) (ff : Bool) (post : AV → Option AV → Prop) (hin : InRL [.agg [.int .u32 a, .bool ff, .int .i64 b, .int .i64 c, .int .i64 d, .ints false .u8 s]]) (hie : InRO none) (h : post (.tup [.ownf 1000, .int .i64 (chkE ff b c d s.length)]) (some (.lini 5 .u8 (encL a ff b c d s)))) : Ok (runF c36 pm36 Proofs.Try.f36 [.agg [.int .u32 a, .bool ff, .int .i64 b, .int .i64 c, .int .i64 d, .ints false .u8 s]] none (post)) := by
  match ff, hin, hie, h with
  | true, hin, hie, h => exact p36_0 _ _ _ _ _ post hin hie h
  | false, hin, hie, h => exact p36_1 _ _ _ _ _ post hin hie h
theorem k36 : Keeps Proofs.Try.prog 36 S36 := by
  refine ⟨?_, Proofs.Try.f36, by kernel_rfl, by kernel_rfl, by kernel_rfl⟩
  intro args e post h
  unfold S36 at h
  split at h
  · refine Spec.inR fun hin hie => fun_ok' (c := c36) gam_ok (l := u36) a36 rfl mixed_ok (fn := Proofs.Try.f36) (show Proofs.Try.prog.funcs[36]? = some Proofs.Try.f36 by kernel_rfl) (by kernel_rfl) (ls := []) rfl (.inl rfl) trivial (pm := pm36) (by simp [c36]) (by rintro ⟨t, l, h⟩; cases h) ?_
    exact P36_0 _ _ _ _ _ _ _ hin hie h
  · exact h.elim
end Go.Proofs.Ytokeanadhihlfaa.V
