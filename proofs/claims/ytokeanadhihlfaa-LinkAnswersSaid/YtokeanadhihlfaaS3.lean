import Derived.Test.YtokeanadhihlfaaPlans
import Derived.Test.YtokeanadhihlfaaMB
import Derived.Test.YtokeanadhihlfaaProg
import Derived.Test.YtokeanadhihlfaaS0
import Derived.Test.YtokeanadhihlfaaS1
import Derived.Test.YtokeanadhihlfaaS2
import Derived.Test.YtokeanadhihlfaaB1
import Derived.KernelRfl
set_option linter.all false
set_option maxHeartbeats 1000000
namespace Go.Proofs.Ytokeanadhihlfaa.V
open Go
theorem take_put7 (x0 x1 x2 x3 x4 x5 x6 : Int) (n : Nat) : (List.replicate (7 + n) (0 : Int)).set 0 x0 = (List.replicate (7 + n) (0 : Int)).set 0 x0 := rfl
theorem put7 (x0 x1 x2 x3 x4 x5 x6 : Int) (s : List Int) (h : s.length ≤ 57) : List.take 7 ((((((((List.replicate 64 0).set 0 x0).set 1 x1).set 2 x2).set 3 x3).set 4 x4).set 5 x5).set 6 x6) ++ s ++ List.drop (7 + s.length) ((((((((List.replicate 64 0).set 0 x0).set 1 x1).set 2 x2).set 3 x3).set 4 x4).set 5 x5).set 6 x6) = [x0, x1, x2, x3] ++ [x4, x5, x6] ++ s ++ List.replicate (57 - s.length) 0 := by
  have e : ((((((((List.replicate 64 (0 : Int)).set 0 x0).set 1 x1).set 2 x2).set 3 x3).set 4 x4).set 5 x5).set 6 x6) = [x0, x1, x2, x3, x4, x5, x6] ++ List.replicate 57 0 := by rfl
  rw [e, List.drop_append, List.drop_replicate]
  simp
theorem put5 (x0 x1 x2 x3 x4 : Int) (s : List Int) (h : s.length ≤ 59) : List.take 5 ((((((List.replicate 64 0).set 0 x0).set 1 x1).set 2 x2).set 3 x3).set 4 x4) ++ s ++ List.drop (5 + s.length) ((((((List.replicate 64 0).set 0 x0).set 1 x1).set 2 x2).set 3 x3).set 4 x4) = [x0, x1, x2, x3] ++ [x4] ++ s ++ List.replicate (59 - s.length) 0 := by
  have e : ((((((List.replicate 64 (0 : Int)).set 0 x0).set 1 x1).set 2 x2).set 3 x3).set 4 x4) = [x0, x1, x2, x3, x4] ++ List.replicate 59 0 := by rfl
  rw [e, List.drop_append, List.drop_replicate]
  simp
def pm56 : Pm := ⟨[pkS], .no, [.li 5 .u8, .s]⟩
def u56 : List (Nat × Tr) := []
theorem a56 : AllKeep Proofs.Try.prog u56 := trivial

def kp56_18 : List (Loc × Keep) := [(.t 1, .ptr), (.t 4, .own 900 (.li 5 .u8)), (.t 5, .shp .s), (.t 6, .shp .s)]
def tr56_18 : Trim := .all
def L56_18 : LTr
  | ⟨[(1, .ptr 1 0 0), (4, .ownf 900), (5, .int .i64 at_), (6, .int .i64 i)], [(1, .box 38 [.int .u32 a, .bool f, .int .i64 b, .int .i64 c, .int .i64 d, .ints false .u8 s]), (900, .lini 5 .u8 L)]⟩, k => chk (decide (0 ≤ at_ ∧ 0 ≤ i ∧ i ≤ s.length ∧ at_ + s.length ≤ L.length ∧ L.length ≤ 1000)) (k (.exit (1 : Nat)) ((AS.mk
 [((1 : Nat), AV.ptr (1 : Nat) (0 : Nat) (0 : Nat)), ((4 : Nat), AV.ownf (900 : Nat)),
 ((5 : Nat), AV.int IntKind.i64 at_), ((6 : Nat), AV.int IntKind.i64 ((s.length : Int))), ((130 : Nat), AV.int IntKind.i64 ((s.length : Int))),
 ((131 : Nat), AV.ptr (1 : Nat) (0 : Nat) (5 : Nat)), ((132 : Nat), AV.ints false IntKind.u8 s),
 ((133 : Nat), AV.int IntKind.i64 (@Nat.cast Int _ s.length)), ((134 : Nat), AV.bool false)]
 [((1 : Nat),
 AV.box (38 : Nat)
 [AV.int IntKind.u32 a, AV.bool f, AV.int IntKind.i64 b, AV.int IntKind.i64 c, AV.int IntKind.i64 d,
 AV.ints false IntKind.u8 s]),
 ((900 : Nat), AV.lini (5 : Nat) IntKind.u8 (putAt L at_.toNat s i.toNat))])))
  | _, _ => False
def c56_0 : Cfg := { n := 148, Γ := Gam, C := ofL u56, pm := pmL [], plan := plan56, L := lpL [], unroll := nmL [], keep := kpL [(18, kp56_18)] }
def c56 : Cfg := { n := 148, Γ := Gam, C := ofL u56, pm := pmL [], plan := plan56, L := lpL [(18, L56_18)], unroll := nmL [], keep := kpL [(18, kp56_18)] }
def S56 : Tr
  | [.agg [.int .u32 a, .bool ff, .int .i64 b, .int .i64 c, .int .i64 d, .ints false .u8 s]], none, post => post (.tup [.ownf 1000, .int .i64 (chkE ff b c d s.length)]) (some (.lini 5 .u8 (encL a ff b c d s)))
  | _, _, _ => False
theorem t56_0 (a b c d : Int) (s : List Int) (post : AV → Option AV → Prop) : runF c56 pm56 Proofs.Try.f56 [.agg [.int .u32 a, .bool true, .int .i64 b, .int .i64 c, .int .i64 d, .ints false .u8 s]] none post = (br (decide (b < (1 : Int)))
     (post (AV.tup [AV.ownf (1000 : Nat), AV.int IntKind.i64 (9 : Int)]) (some (AV.lini (5 : Nat) IntKind.u8 [])))
     (br (decide (b > (127 : Int)))
     (post (AV.tup [AV.ownf (1000 : Nat), AV.int IntKind.i64 (9 : Int)]) (some (AV.lini (5 : Nat) IntKind.u8 [])))
     (br (decide (c < (0 : Int)))
     (post (AV.tup [AV.ownf (1000 : Nat), AV.int IntKind.i64 (9 : Int)]) (some (AV.lini (5 : Nat) IntKind.u8 [])))
     (br (decide (c > (65535 : Int)))
     (post (AV.tup [AV.ownf (1000 : Nat), AV.int IntKind.i64 (9 : Int)]) (some (AV.lini (5 : Nat) IntKind.u8 [])))
     (br (d != (0 : Int))
     (post (AV.tup [AV.ownf (1000 : Nat), AV.int IntKind.i64 (4 : Int)]) (some (AV.lini (5 : Nat) IntKind.u8 [])))
     (br (decide (@Nat.cast Int _ s.length > (57 : Int)))
     (post (AV.tup [AV.ownf (1000 : Nat), AV.int IntKind.i64 (8 : Int)])
     (some (AV.lini (5 : Nat) IntKind.u8 [])))
     (chk
     (decide
     ((0 : Int) ≤ (7 : Int) ∧
     (0 : Int) ≤ (0 : Int) ∧
     (0 : Int) ≤ @Nat.cast Int _ s.length ∧
     (7 : Int) + @Nat.cast Int _ s.length ≤
     @Nat.cast Int _
     ((((((((List.replicate (64 : Nat) (0 : Int)).set (0 : Nat)
     (IntKind.u8.wrap (shr IntKind.u32 a (24 : Int)))).set
     (1 : Nat) (IntKind.u8.wrap (shr IntKind.u32 a (16 : Int)))).set
     (2 : Nat) (IntKind.u8.wrap (shr IntKind.u32 a (8 : Int)))).set
     (3 : Nat) (IntKind.u8.wrap a)).set
     (4 : Nat) (IntKind.u8.wrap (IntKind.i64.wrap ((128 : Int) + b)))).set
     (5 : Nat) (IntKind.u8.wrap (shr IntKind.i64 c (8 : Int)))).set
     (6 : Nat) (IntKind.u8.wrap c)).length ∧
     ((((((((List.replicate (64 : Nat) (0 : Int)).set (0 : Nat)
     (IntKind.u8.wrap (shr IntKind.u32 a (24 : Int)))).set
     (1 : Nat) (IntKind.u8.wrap (shr IntKind.u32 a (16 : Int)))).set
     (2 : Nat) (IntKind.u8.wrap (shr IntKind.u32 a (8 : Int)))).set
     (3 : Nat) (IntKind.u8.wrap a)).set
     (4 : Nat) (IntKind.u8.wrap (IntKind.i64.wrap ((128 : Int) + b)))).set
     (5 : Nat) (IntKind.u8.wrap (shr IntKind.i64 c (8 : Int)))).set
     (6 : Nat) (IntKind.u8.wrap c)).length ≤
     (1000 : Nat)))
     (post (AV.tup [AV.ownf (1000 : Nat), AV.int IntKind.i64 (0 : Int)])
     (some
     (AV.lini (5 : Nat) IntKind.u8
     (putAt
     ((((((((List.replicate (64 : Nat) (0 : Int)).set (0 : Nat)
     (IntKind.u8.wrap (shr IntKind.u32 a (24 : Int)))).set
     (1 : Nat) (IntKind.u8.wrap (shr IntKind.u32 a (16 : Int)))).set
     (2 : Nat) (IntKind.u8.wrap (shr IntKind.u32 a (8 : Int)))).set
     (3 : Nat) (IntKind.u8.wrap a)).set
     (4 : Nat) (IntKind.u8.wrap (IntKind.i64.wrap ((128 : Int) + b)))).set
     (5 : Nat) (IntKind.u8.wrap (shr IntKind.i64 c (8 : Int)))).set
     (6 : Nat) (IntKind.u8.wrap c))
     (7 : Nat) s (0 : Nat)))))))))))) := by kernel_rfl
theorem t56_1 (a b c d : Int) (s : List Int) (post : AV → Option AV → Prop) : runF c56 pm56 Proofs.Try.f56 [.agg [.int .u32 a, .bool false, .int .i64 b, .int .i64 c, .int .i64 d, .ints false .u8 s]] none post = (br (decide (d < (0 : Int)))
     (post (AV.tup [AV.ownf (1000 : Nat), AV.int IntKind.i64 (9 : Int)]) (some (AV.lini (5 : Nat) IntKind.u8 [])))
     (br (decide (d > (127 : Int)))
     (post (AV.tup [AV.ownf (1000 : Nat), AV.int IntKind.i64 (9 : Int)]) (some (AV.lini (5 : Nat) IntKind.u8 [])))
     (br (b != (0 : Int))
     (post (AV.tup [AV.ownf (1000 : Nat), AV.int IntKind.i64 (4 : Int)]) (some (AV.lini (5 : Nat) IntKind.u8 [])))
     (br (c != (0 : Int))
     (post (AV.tup [AV.ownf (1000 : Nat), AV.int IntKind.i64 (4 : Int)]) (some (AV.lini (5 : Nat) IntKind.u8 [])))
     (br (decide (@Nat.cast Int _ s.length > (59 : Int)))
     (post (AV.tup [AV.ownf (1000 : Nat), AV.int IntKind.i64 (8 : Int)]) (some (AV.lini (5 : Nat) IntKind.u8 [])))
     (chk
     (decide
     ((0 : Int) ≤ (5 : Int) ∧
     (0 : Int) ≤ (0 : Int) ∧
     (0 : Int) ≤ @Nat.cast Int _ s.length ∧
     (5 : Int) + @Nat.cast Int _ s.length ≤
     @Nat.cast Int _
     ((((((List.replicate (64 : Nat) (0 : Int)).set (0 : Nat)
     (IntKind.u8.wrap (shr IntKind.u32 a (24 : Int)))).set
     (1 : Nat) (IntKind.u8.wrap (shr IntKind.u32 a (16 : Int)))).set
     (2 : Nat) (IntKind.u8.wrap (shr IntKind.u32 a (8 : Int)))).set
     (3 : Nat) (IntKind.u8.wrap a)).set
     (4 : Nat) (IntKind.u8.wrap d)).length ∧
     ((((((List.replicate (64 : Nat) (0 : Int)).set (0 : Nat)
     (IntKind.u8.wrap (shr IntKind.u32 a (24 : Int)))).set
     (1 : Nat) (IntKind.u8.wrap (shr IntKind.u32 a (16 : Int)))).set
     (2 : Nat) (IntKind.u8.wrap (shr IntKind.u32 a (8 : Int)))).set
     (3 : Nat) (IntKind.u8.wrap a)).set
     (4 : Nat) (IntKind.u8.wrap d)).length ≤
     (1000 : Nat)))
     (post (AV.tup [AV.ownf (1000 : Nat), AV.int IntKind.i64 (0 : Int)])
     (some
     (AV.lini (5 : Nat) IntKind.u8
     (putAt
     ((((((List.replicate (64 : Nat) (0 : Int)).set (0 : Nat)
     (IntKind.u8.wrap (shr IntKind.u32 a (24 : Int)))).set
     (1 : Nat) (IntKind.u8.wrap (shr IntKind.u32 a (16 : Int)))).set
     (2 : Nat) (IntKind.u8.wrap (shr IntKind.u32 a (8 : Int)))).set
     (3 : Nat) (IntKind.u8.wrap a)).set
     (4 : Nat) (IntKind.u8.wrap d))
     (5 : Nat) s (0 : Nat))))))))))) := by kernel_rfl
theorem q56_18 (a b c d : Int) (f : Bool) (s L : List Int) (at_ i : Int) (k : Out → AS → Prop) : stepL c56_0 kp56_18 tr56_18 (loopAt Proofs.Try.f56 18) ⟨[(1, .ptr 1 0 0), (4, .ownf 900), (5, .int .i64 at_), (6, .int .i64 i)], [(1, .box 38 [.int .u32 a, .bool f, .int .i64 b, .int .i64 c, .int .i64 d, .ints false .u8 s]), (900, .lini 5 .u8 L)]⟩ k = (br (decide (i < @Nat.cast Int _ s.length))
     (chk (inB i s.length)
     (chk (inB (IntKind.i64.wrap (at_ + i)) L.length)
     (chk (decide ((IntKind.i64.wrap (at_ + i)).toNat < L.length))
     (k Out.normal
     (AS.mk
     [((1 : Nat), AV.ptr (1 : Nat) (0 : Nat) (0 : Nat)), ((4 : Nat), AV.ownf (900 : Nat)),
     ((5 : Nat), AV.int IntKind.i64 at_), ((6 : Nat), AV.int IntKind.i64 (IntKind.i64.wrap (i + (1 : Int))))]
     [((1 : Nat),
     AV.box (38 : Nat)
     [AV.int IntKind.u32 a, AV.bool f, AV.int IntKind.i64 b, AV.int IntKind.i64 c, AV.int IntKind.i64 d,
     AV.ints false IntKind.u8 s]),
     ((900 : Nat),
     AV.lini (5 : Nat) IntKind.u8
     (L.set (IntKind.i64.wrap (at_ + i)).toNat (s.getD i.toNat (0 : Int))))])))))
     (k (Out.exit (1 : Nat))
     (AS.mk
     [((1 : Nat), AV.ptr (1 : Nat) (0 : Nat) (0 : Nat)), ((4 : Nat), AV.ownf (900 : Nat)),
     ((5 : Nat), AV.int IntKind.i64 at_), ((6 : Nat), AV.int IntKind.i64 i), ((130 : Nat), AV.int IntKind.i64 i),
     ((131 : Nat), AV.ptr (1 : Nat) (0 : Nat) (5 : Nat)), ((132 : Nat), AV.ints false IntKind.u8 s),
     ((133 : Nat), AV.int IntKind.i64 (@Nat.cast Int _ s.length)), ((134 : Nat), AV.bool false)]
     [((1 : Nat),
     AV.box (38 : Nat)
     [AV.int IntKind.u32 a, AV.bool f, AV.int IntKind.i64 b, AV.int IntKind.i64 c, AV.int IntKind.i64 d,
     AV.ints false IntKind.u8 s]),
     ((900 : Nat), AV.lini (5 : Nat) IntKind.u8 L)]))) := by kernel_rfl

theorem i56_18 (k : Out → AS → Prop) (fuel : Nat) : ∀ (a b c d : Int) (f : Bool) (s L : List Int) (at_ i : Int), (s.length - i).toNat < fuel → (0 ≤ at_ ∧ 0 ≤ i ∧ i ≤ s.length ∧ at_ + s.length ≤ L.length ∧ L.length ≤ 1000) → (k (.exit (1 : Nat)) ((AS.mk
 [((1 : Nat), AV.ptr (1 : Nat) (0 : Nat) (0 : Nat)), ((4 : Nat), AV.ownf (900 : Nat)),
 ((5 : Nat), AV.int IntKind.i64 at_), ((6 : Nat), AV.int IntKind.i64 ((s.length : Int))), ((130 : Nat), AV.int IntKind.i64 ((s.length : Int))),
 ((131 : Nat), AV.ptr (1 : Nat) (0 : Nat) (5 : Nat)), ((132 : Nat), AV.ints false IntKind.u8 s),
 ((133 : Nat), AV.int IntKind.i64 (@Nat.cast Int _ s.length)), ((134 : Nat), AV.bool false)]
 [((1 : Nat),
 AV.box (38 : Nat)
 [AV.int IntKind.u32 a, AV.bool f, AV.int IntKind.i64 b, AV.int IntKind.i64 c, AV.int IntKind.i64 d,
 AV.ints false IntKind.u8 s]),
 ((900 : Nat), AV.lini (5 : Nat) IntKind.u8 (putAt L at_.toNat s i.toNat))]))) → iterL (stepL c56_0 kp56_18 tr56_18 (loopAt Proofs.Try.f56 18)) k fuel ⟨[(1, .ptr 1 0 0), (4, .ownf 900), (5, .int .i64 at_), (6, .int .i64 i)], [(1, .box 38 [.int .u32 a, .bool f, .int .i64 b, .int .i64 c, .int .i64 d, .ints false .u8 s]), (900, .lini 5 .u8 L)]⟩ := by
  induction fuel with
  | zero => intro a b c d f s L at_ i hm; omega
  | succ fuel ih =>
    intro a b c d f s L at_ i hm hp hk
    simp only [iterL]
    rw [q56_18]
    dsimp only
    refine br_dec (fun hc => ?_) (fun hc => ?_)
    · rw [wrap_i64 (n := at_ + i) (by omega) (by omega), wrap_i64 (n := i + 1) (by omega) (by omega)]
      refine chk_inB (by omega) (by omega) (chk_inB (by omega) (by omega) (chk_dec (by omega) ?_))
      refine ih _ _ _ _ _ _ _ _ _ (by omega) (by simp only [List.length_set]; omega) (k_of hk ?_)
      rw [show (at_ + i).toNat = at_.toNat + i.toNat by omega, show (i + 1).toNat = i.toNat + 1 by omega, putAt_step _ _ _ _ (by omega) (by omega)]
    · obtain rfl : i = s.length := by omega
      refine k_of hk ?_
      rw [Int.toNat_natCast, putAt_end, List.take_append_drop]
theorem l56_18 : ∀ s k, L56_18 s k → Tri Proofs.Try.prog 148 (.loop (loopAt Proofs.Try.f56 18)) s k := by
  intro s k h
  unfold L56_18 at h
  split at h
  · obtain ⟨h1, h2⟩ := chk_iff.1 h
    exact iter_ok (c := c56_0) gam_ok (l := u56) a56 rfl mixed_ok (by kernel_rfl) (ls := []) rfl (.inl rfl) trivial (kps := kp56_18) (tr := tr56_18) (_) (i56_18 k _ _ _ _ _ _ _ _ _ _ (Nat.lt_succ_self _) (of_decide_eq_true h1) h2)
  · exact h.elim
theorem p56_0 (a b c d : Int) (s : List Int) (post : AV → Option AV → Prop) (hin : InRL [.agg [.int .u32 a, .bool true, .int .i64 b, .int .i64 c, .int .i64 d, .ints false .u8 s]]) (hie : InRO none) (h : post (.tup [.ownf 1000, .int .i64 (chkE true b c d s.length)]) (some (.lini 5 .u8 (encL a true b c d s)))) : Ok (runF c56 pm56 Proofs.Try.f56 [.agg [.int .u32 a, .bool true, .int .i64 b, .int .i64 c, .int .i64 d, .ints false .u8 s]] none (post)) := by
  refine ⟨?_⟩
  rw [t56_0]
  repeat' first | with_reducible refine br_dec (fun hc => ?_) (fun hc => ?_) | with_reducible refine br_ne (fun hc => ?_) (fun hc => ?_) | with_reducible refine br_eq (fun hc => ?_) (fun hc => ?_)
  all_goals first
  | (refine post_of h (congrArg (fun z => AV.tup [AV.ownf 1000, AV.int IntKind.i64 z]) (?_ : chkE true b c d s.length = _)) ?_
     · simp only [chkE]; (repeat' split) <;> omega
     · rw [encL, if_neg (by simp only [chkE]; (repeat' split) <;> omega)])
  | skip
  have he : chkE true b c d s.length = 0 := by simp only [chkE]; (repeat' split) <;> omega
  · refine chk_dec (by simp only [List.length_set, List.length_replicate]; omega) (post_of h (by rw [he]) ?_)
    simp only [encL, if_pos he, encB, b4]
    rw [wrap_i64 (n := 128 + b) (by omega) (by omega)]
    refine congrArg (fun z => some (AV.lini 5 IntKind.u8 z)) ?_
    simp only [putAt, List.drop_zero, Nat.add_zero]
    rw [put7 _ _ _ _ _ _ _ _ (by omega)]
theorem p56_1 (a b c d : Int) (s : List Int) (post : AV → Option AV → Prop) (hin : InRL [.agg [.int .u32 a, .bool false, .int .i64 b, .int .i64 c, .int .i64 d, .ints false .u8 s]]) (hie : InRO none) (h : post (.tup [.ownf 1000, .int .i64 (chkE false b c d s.length)]) (some (.lini 5 .u8 (encL a false b c d s)))) : Ok (runF c56 pm56 Proofs.Try.f56 [.agg [.int .u32 a, .bool false, .int .i64 b, .int .i64 c, .int .i64 d, .ints false .u8 s]] none (post)) := by
  refine ⟨?_⟩
  rw [t56_1]
  repeat' first | with_reducible refine br_dec (fun hc => ?_) (fun hc => ?_) | with_reducible refine br_ne (fun hc => ?_) (fun hc => ?_) | with_reducible refine br_eq (fun hc => ?_) (fun hc => ?_)
  all_goals first
  | (refine post_of h (congrArg (fun z => AV.tup [AV.ownf 1000, AV.int IntKind.i64 z]) (?_ : chkE false b c d s.length = _)) ?_
     · simp only [chkE]; (repeat' split) <;> omega
     · rw [encL, if_neg (by simp only [chkE]; (repeat' split) <;> omega)])
  | skip
  have he : chkE false b c d s.length = 0 := by simp only [chkE]; (repeat' split) <;> omega
  · refine chk_dec (by simp only [List.length_set, List.length_replicate]; omega) (post_of h (by rw [he]) ?_)
    simp only [encL, if_pos he, encB, b4]
    skip
    refine congrArg (fun z => some (AV.lini 5 IntKind.u8 z)) ?_
    simp only [putAt, List.drop_zero, Nat.add_zero]
    rw [put5 _ _ _ _ _ _ (by omega)]
theorem P56_0 (a b c d : Int) (s : List Int) (ff : Bool) (post : AV → Option AV → Prop) (hin : InRL [.agg [.int .u32 a, .bool ff, .int .i64 b, .int .i64 c, .int .i64 d, .ints false .u8 s]]) (hie : InRO none) (h : post (.tup [.ownf 1000, .int .i64 (chkE ff b c d s.length)]) (some (.lini 5 .u8 (encL a ff b c d s)))) : Ok (runF c56 pm56 Proofs.Try.f56 [.agg [.int .u32 a, .bool ff, .int .i64 b, .int .i64 c, .int .i64 d, .ints false .u8 s]] none (post)) := by
  match ff, hin, hie, h with
  | true, hin, hie, h => exact p56_0 _ _ _ _ _ post hin hie h
  | false, hin, hie, h => exact p56_1 _ _ _ _ _ post hin hie h
theorem k56 : Keeps Proofs.Try.prog 56 S56 := by
  refine ⟨?_, Proofs.Try.f56, by kernel_rfl, by kernel_rfl, by kernel_rfl⟩
  intro args e post h
  unfold S56 at h
  split at h
  · refine Spec.inR fun hin hie => fun_ok' (c := c56) gam_ok (l := u56) a56 rfl mixed_ok (fn := Proofs.Try.f56) (show Proofs.Try.prog.funcs[56]? = some Proofs.Try.f56 by kernel_rfl) (by kernel_rfl) (ls := [(18, L56_18)]) rfl (.inr (by kernel_rfl)) ⟨l56_18, trivial⟩ (pm := pm56) (by simp [c56]) (by rintro ⟨t, l, h⟩; cases h) ?_
    exact P56_0 _ _ _ _ _ _ _ hin hie h
  · exact h.elim
def pm31 : Pm := ⟨[.i .u8], .no, [pkS, .s]⟩
def u31 : List (Nat × Tr) := [(54, S54)]
theorem a31 : AllKeep Proofs.Try.prog u31 := ⟨k54, trivial⟩

def c31 : Cfg := { n := 78, Γ := Gam, C := ofL u31, pm := pmL [(54, pm54)], plan := plan31, L := lpL [], unroll := nmL [], keep := kpL [] }
def S31 : Tr
  | [.ints false .u8 l], none, post => post (.tup [pkV (decR l), .int .i64 (decE l)]) none
  | _, _, _ => False
theorem t31_0 (l : List Int) (post : AV → Option AV → Prop) : runF c31 pm31 Proofs.Try.f31 [.ints false .u8 l] none post = (br (decide (@Nat.cast Int _ l.length < (64 : Int)))
     (post
     (AV.tup
     [AV.agg
     [AV.int IntKind.u32 (0 : Int), AV.bool false, AV.int IntKind.i64 (0 : Int), AV.int IntKind.i64 (0 : Int),
     AV.int IntKind.i64 (0 : Int), AV.ints false IntKind.u8 []],
     AV.int IntKind.i64 (1 : Int)])
     none)
     (br (decide (@Nat.cast Int _ l.length > (64 : Int)))
     (post
     (AV.tup
     [AV.agg
     [AV.int IntKind.u32 (0 : Int), AV.bool false, AV.int IntKind.i64 (0 : Int), AV.int IntKind.i64 (0 : Int),
     AV.int IntKind.i64 (0 : Int), AV.ints false IntKind.u8 []],
     AV.int IntKind.i64 (8 : Int)])
     none)
     (chk (inB (4 : Int) l.length)
     (br (l.getD (4 : Nat) (0 : Int) == (128 : Int))
     (post
     (AV.tup
     [AV.agg
     [AV.int IntKind.u32 (0 : Int), AV.bool false, AV.int IntKind.i64 (0 : Int),
     AV.int IntKind.i64 (0 : Int), AV.int IntKind.i64 (0 : Int), AV.ints false IntKind.u8 []],
     AV.int IntKind.i64 (9 : Int)])
     none)
     (chk (inB (0 : Int) l.length)
     (chk (inB (1 : Int) l.length)
     (chk (inB (2 : Int) l.length)
     (chk (inB (3 : Int) l.length)
     (chk (inB (4 : Int) l.length)
     (br (decide (IntKind.i64.wrap (l.getD (4 : Nat) (0 : Int)) ≥ (128 : Int)))
     (chk (inB (5 : Int) l.length)
     (chk (inB (6 : Int) l.length)
     (chk (cutB l.length (some (7 : Int)) none)
     (chk (decide ((0 : Nat) + (List.drop (7 : Nat) l).length ≤ (1099511627776 : Nat)))
     (post
     (AV.tup
     [AV.agg
     [AV.int IntKind.u32
     (ior IntKind.u32
     (ior IntKind.u32
     (ior IntKind.u32
     (shl IntKind.u32 (IntKind.u32.wrap (l.getD (0 : Nat) (0 : Int)))
     (24 : Int))
     (shl IntKind.u32 (IntKind.u32.wrap (l.getD (1 : Nat) (0 : Int)))
     (16 : Int)))
     (shl IntKind.u32 (IntKind.u32.wrap (l.getD (2 : Nat) (0 : Int))) (8 : Int)))
     (IntKind.u32.wrap (l.getD (3 : Nat) (0 : Int)))),
     AV.bool true,
     AV.int IntKind.i64
     (IntKind.i64.wrap
     (IntKind.i64.wrap (l.getD (4 : Nat) (0 : Int)) - (128 : Int))),
     AV.int IntKind.i64
     (ior IntKind.i64
     (shl IntKind.i64 (IntKind.i64.wrap (l.getD (5 : Nat) (0 : Int))) (8 : Int))
     (IntKind.i64.wrap (l.getD (6 : Nat) (0 : Int)))),
     AV.int IntKind.i64 (0 : Int),
     AV.ints false IntKind.u8 ([] ++ List.drop (7 : Nat) l)],
     AV.int IntKind.i64 (0 : Int)])
     none)))))
     (chk (cutB l.length (some (5 : Int)) none)
     (chk (decide ((0 : Nat) + (List.drop (5 : Nat) l).length ≤ (1099511627776 : Nat)))
     (post
     (AV.tup
     [AV.agg
     [AV.int IntKind.u32
     (ior IntKind.u32
     (ior IntKind.u32
     (ior IntKind.u32
     (shl IntKind.u32 (IntKind.u32.wrap (l.getD (0 : Nat) (0 : Int))) (24 : Int))
     (shl IntKind.u32 (IntKind.u32.wrap (l.getD (1 : Nat) (0 : Int))) (16 : Int)))
     (shl IntKind.u32 (IntKind.u32.wrap (l.getD (2 : Nat) (0 : Int))) (8 : Int)))
     (IntKind.u32.wrap (l.getD (3 : Nat) (0 : Int)))),
     AV.bool false, AV.int IntKind.i64 (0 : Int), AV.int IntKind.i64 (0 : Int),
     AV.int IntKind.i64 (IntKind.i64.wrap (l.getD (4 : Nat) (0 : Int))),
     AV.ints false IntKind.u8 ([] ++ List.drop (5 : Nat) l)],
     AV.int IntKind.i64 (0 : Int)])
     none))))))))))))) := by kernel_rfl
theorem p31_0 (l : List Int) (post : AV → Option AV → Prop) (hin : InRL [.ints false .u8 l]) (hie : InRO none) (h : post (.tup [pkV (decR l), .int .i64 (decE l)]) none) : Ok (runF c31 pm31 Proofs.Try.f31 [.ints false .u8 l] none (post)) := by
  refine ⟨?_⟩
  rw [t31_0]
  have hr : RngL .u8 l := by simp only [InRL, InR] at hin; exact hin.1.1
  have h4 := rng_at hr 4
  refine br_dec (fun hc => post_of h (by rw [decR, if_pos (by simp only [decE]; (repeat' split) <;> omega)]; simp only [pkV, decE]; rw [if_pos (by omega)]) rfl) (fun hc => ?_)
  refine br_dec (fun hc => post_of h (by rw [decR, if_pos (by simp only [decE]; (repeat' split) <;> omega)]; simp only [pkV, decE]; rw [if_neg (by omega), if_pos (by omega)]) rfl) (fun hc => ?_)
  refine chk_inB (by omega) (by omega) ?_
  refine br_eq (fun hc => post_of h (by rw [decR, if_pos (by simp only [decE]; (repeat' split) <;> omega)]; simp only [pkV, decE]; rw [if_neg (by omega), if_neg (by omega), if_pos hc]) rfl) (fun hc => ?_)
  have he : decE l = 0 := by simp only [decE]; (repeat' split) <;> omega
  refine chk_inB (by omega) (by omega) (chk_inB (by omega) (by omega) (chk_inB (by omega) (by omega) (chk_inB (by omega) (by omega) (chk_inB (by omega) (by omega) ?_))))
  rw [wrap_i64 (n := l.getD 4 0) (by omega) (by omega)]
  rw [he] at h
  refine br_dec (fun hc => ?_) (fun hc => ?_)
  · refine chk_inB (by omega) (by omega) (chk_inB (by omega) (by omega) (chk_of (by simp [cutB]; omega) (chk_dec (by simp; omega) (post_of h ?_ rfl))))
    rw [decR, if_neg (by omega), if_neg (by omega)]
    simp only [pkV, ch4, len2, List.nil_append, he]
    rw [wrap_i64 (n := l.getD 4 0 - 128) (by omega) (by omega)]
  · refine chk_of (by simp [cutB]; omega) (chk_dec (by simp; omega) (post_of h ?_ rfl))
    rw [decR, if_neg (by omega), if_pos (by omega)]
    simp only [pkV, ch4, List.nil_append, he]
theorem k31 : Keeps Proofs.Try.prog 31 S31 := by
  refine ⟨?_, Proofs.Try.f31, by kernel_rfl, by kernel_rfl, by kernel_rfl⟩
  intro args e post h
  unfold S31 at h
  split at h
  · refine Spec.inR fun hin hie => fun_ok' (c := c31) gam_ok (l := u31) a31 rfl mixed_ok (fn := Proofs.Try.f31) (show Proofs.Try.prog.funcs[31]? = some Proofs.Try.f31 by kernel_rfl) (by kernel_rfl) (ls := []) rfl (.inl rfl) trivial (pm := pm31) (by simp [c31]) (by rintro ⟨t, l, h⟩; cases h) ?_
    exact p31_0 _ _ hin hie h
  · exact h.elim
def pm32 : Pm := ⟨[.i .u8], .no, [pkS, .s]⟩
def u32 : List (Nat × Tr) := []
theorem a32 : AllKeep Proofs.Try.prog u32 := trivial

def c32 : Cfg := { n := 81, Γ := Gam, C := ofL u32, pm := pmL [], plan := plan32, L := lpL [], unroll := nmL [], keep := kpL [] }
def S32 : Tr
  | [.ints false .u8 l], none, post => post (.tup [pkV (decR l), .int .i64 (decE l)]) none
  | _, _, _ => False
theorem t32_0 (l : List Int) (post : AV → Option AV → Prop) : runF c32 pm32 Proofs.Try.f32 [.ints false .u8 l] none post = (br (decide (@Nat.cast Int _ l.length < (64 : Int)))
     (post
     (AV.tup
     [AV.agg
     [AV.int IntKind.u32 (0 : Int), AV.bool false, AV.int IntKind.i64 (0 : Int), AV.int IntKind.i64 (0 : Int),
     AV.int IntKind.i64 (0 : Int), AV.ints false IntKind.u8 []],
     AV.int IntKind.i64 (1 : Int)])
     none)
     (br (decide (@Nat.cast Int _ l.length > (64 : Int)))
     (post
     (AV.tup
     [AV.agg
     [AV.int IntKind.u32 (0 : Int), AV.bool false, AV.int IntKind.i64 (0 : Int), AV.int IntKind.i64 (0 : Int),
     AV.int IntKind.i64 (0 : Int), AV.ints false IntKind.u8 []],
     AV.int IntKind.i64 (8 : Int)])
     none)
     (chk (inB (4 : Int) l.length)
     (br (l.getD (4 : Nat) (0 : Int) == (128 : Int))
     (post
     (AV.tup
     [AV.agg
     [AV.int IntKind.u32 (0 : Int), AV.bool false, AV.int IntKind.i64 (0 : Int),
     AV.int IntKind.i64 (0 : Int), AV.int IntKind.i64 (0 : Int), AV.ints false IntKind.u8 []],
     AV.int IntKind.i64 (9 : Int)])
     none)
     (chk (inB (0 : Int) l.length)
     (chk (inB (1 : Int) l.length)
     (chk (inB (2 : Int) l.length)
     (chk (inB (3 : Int) l.length)
     (chk (inB (4 : Int) l.length)
     (br (decide (l.getD (4 : Nat) (0 : Int) < (128 : Int)))
     (chk (inB (4 : Int) l.length)
     (chk (cutB l.length (some (5 : Int)) none)
     (chk (decide ((List.drop (5 : Nat) l).length ≤ (1099511627776 : Nat)))
     (post
     (AV.tup
     [AV.agg
     [AV.int IntKind.u32
     (ior IntKind.u32
     (ior IntKind.u32
     (ior IntKind.u32
     (shl IntKind.u32 (IntKind.u32.wrap (l.getD (0 : Nat) (0 : Int))) (24 : Int))
     (shl IntKind.u32 (IntKind.u32.wrap (l.getD (1 : Nat) (0 : Int)))
     (16 : Int)))
     (shl IntKind.u32 (IntKind.u32.wrap (l.getD (2 : Nat) (0 : Int))) (8 : Int)))
     (IntKind.u32.wrap (l.getD (3 : Nat) (0 : Int)))),
     AV.bool false, AV.int IntKind.i64 (0 : Int), AV.int IntKind.i64 (0 : Int),
     AV.int IntKind.i64 (IntKind.i64.wrap (l.getD (4 : Nat) (0 : Int))),
     AV.ints false IntKind.u8 (List.drop (5 : Nat) l)],
     AV.int IntKind.i64 (0 : Int)])
     none))))
     (chk (inB (4 : Int) l.length)
     (chk (inB (5 : Int) l.length)
     (chk (inB (6 : Int) l.length)
     (chk (cutB l.length (some (7 : Int)) none)
     (chk (decide ((List.drop (7 : Nat) l).length ≤ (1099511627776 : Nat)))
     (post
     (AV.tup
     [AV.agg
     [AV.int IntKind.u32
     (ior IntKind.u32
     (ior IntKind.u32
     (ior IntKind.u32
     (shl IntKind.u32 (IntKind.u32.wrap (l.getD (0 : Nat) (0 : Int)))
     (24 : Int))
     (shl IntKind.u32 (IntKind.u32.wrap (l.getD (1 : Nat) (0 : Int)))
     (16 : Int)))
     (shl IntKind.u32 (IntKind.u32.wrap (l.getD (2 : Nat) (0 : Int)))
     (8 : Int)))
     (IntKind.u32.wrap (l.getD (3 : Nat) (0 : Int)))),
     AV.bool true,
     AV.int IntKind.i64
     (IntKind.i64.wrap
     (IntKind.i64.wrap (l.getD (4 : Nat) (0 : Int)) - (128 : Int))),
     AV.int IntKind.i64
     (ior IntKind.i64
     (shl IntKind.i64 (IntKind.i64.wrap (l.getD (5 : Nat) (0 : Int))) (8 : Int))
     (IntKind.i64.wrap (l.getD (6 : Nat) (0 : Int)))),
     AV.int IntKind.i64 (0 : Int), AV.ints false IntKind.u8 (List.drop (7 : Nat) l)],
     AV.int IntKind.i64 (0 : Int)])
     none)))))))))))))))) := by kernel_rfl
theorem p32_0 (l : List Int) (post : AV → Option AV → Prop) (hin : InRL [.ints false .u8 l]) (hie : InRO none) (h : post (.tup [pkV (decR l), .int .i64 (decE l)]) none) : Ok (runF c32 pm32 Proofs.Try.f32 [.ints false .u8 l] none (post)) := by
  refine ⟨?_⟩
  rw [t32_0]
  have hr : RngL .u8 l := by simp only [InRL, InR] at hin; exact hin.1.1
  have h4 := rng_at hr 4
  refine br_dec (fun hc => post_of h (by rw [decR, if_pos (by simp only [decE]; (repeat' split) <;> omega)]; simp only [pkV, decE]; rw [if_pos (by omega)]) rfl) (fun hc => ?_)
  refine br_dec (fun hc => post_of h (by rw [decR, if_pos (by simp only [decE]; (repeat' split) <;> omega)]; simp only [pkV, decE]; rw [if_neg (by omega), if_pos (by omega)]) rfl) (fun hc => ?_)
  refine chk_inB (by omega) (by omega) ?_
  refine br_eq (fun hc => post_of h (by rw [decR, if_pos (by simp only [decE]; (repeat' split) <;> omega)]; simp only [pkV, decE]; rw [if_neg (by omega), if_neg (by omega), if_pos hc]) rfl) (fun hc => ?_)
  have he : decE l = 0 := by simp only [decE]; (repeat' split) <;> omega
  refine chk_inB (by omega) (by omega) (chk_inB (by omega) (by omega) (chk_inB (by omega) (by omega) (chk_inB (by omega) (by omega) (chk_inB (by omega) (by omega) ?_))))
  rw [wrap_i64 (n := l.getD 4 0) (by omega) (by omega)]
  rw [he] at h
  refine br_dec (fun hc => ?_) (fun hc => ?_)
  · refine chk_inB (by omega) (by omega) (chk_of (by simp [cutB]; omega) (chk_dec (by simp; omega) (post_of h ?_ rfl)))
    rw [decR, if_neg (by omega), if_pos (by omega)]
    simp only [pkV, ch4, List.nil_append, he]
  · refine chk_inB (by omega) (by omega) (chk_inB (by omega) (by omega) (chk_inB (by omega) (by omega) (chk_of (by simp [cutB]; omega) (chk_dec (by simp; omega) (post_of h ?_ rfl)))))
    rw [decR, if_neg (by omega), if_neg (by omega)]
    simp only [pkV, ch4, len2, List.nil_append, he]
    rw [wrap_i64 (n := l.getD 4 0 - 128) (by omega) (by omega)]
theorem k32 : Keeps Proofs.Try.prog 32 S32 := by
  refine ⟨?_, Proofs.Try.f32, by kernel_rfl, by kernel_rfl, by kernel_rfl⟩
  intro args e post h
  unfold S32 at h
  split at h
  · refine Spec.inR fun hin hie => fun_ok' (c := c32) gam_ok (l := u32) a32 rfl mixed_ok (fn := Proofs.Try.f32) (show Proofs.Try.prog.funcs[32]? = some Proofs.Try.f32 by kernel_rfl) (by kernel_rfl) (ls := []) rfl (.inl rfl) trivial (pm := pm32) (by simp [c32]) (by rintro ⟨t, l, h⟩; cases h) ?_
    exact p32_0 _ _ hin hie h
  · exact h.elim
end Go.Proofs.Ytokeanadhihlfaa.V
