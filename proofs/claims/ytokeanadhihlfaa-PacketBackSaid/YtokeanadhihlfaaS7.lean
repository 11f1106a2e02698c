import Derived.Test.YtokeanadhihlfaaPlans
import Derived.Test.YtokeanadhihlfaaVNum
import Derived.Test.YtokeanadhihlfaaProg
import Derived.Test.YtokeanadhihlfaaS0
import Derived.Test.YtokeanadhihlfaaS1
import Derived.Test.YtokeanadhihlfaaS2
import Derived.Test.YtokeanadhihlfaaS3
import Derived.Test.YtokeanadhihlfaaS4
import Derived.Test.YtokeanadhihlfaaS5
import Derived.Test.YtokeanadhihlfaaB1
import Derived.Test.YtokeanadhihlfaaP2
import Derived.KernelRfl
set_option linter.all false
set_option maxHeartbeats 1000000
namespace Go.Proofs.Ytokeanadhihlfaa.V
open Go
def pm8 : Pm := ⟨[.i .i64, .s], .no, [.s]⟩
def u8 : List (Nat × Tr) := [(17, S17), (21, S21), (26, S26), (30, S30), (31, S31), (35, S35), (36, S36)]
theorem a8 : AllKeep Proofs.Try.prog u8 := ⟨k17, k21, k26, k30, k31, k35, k36, trivial⟩

def kp8_13 : List (Loc × Keep) := [(.t 5, .ptr), (.t 6, .shp (.i .u8)), (.t 8, .ptr), (.t 10, .shp (.i .u8)), (.t 17, .shp .s)]
def tr8_13 : Trim := .some [5, 6, 8, 10] [5, 8] [4] []
def L8_13 : LTr
  | ⟨[(5, .ptr 5 0 0), (6, .ints false .u8 x), (8, .ptr 8 0 0), (10, .ints false .u8 y), (17, .int .i64 k')], [(5, .box 38 [.int .u32 a, .bool f, .int .i64 b, .int .i64 c, .int .i64 d, .ints false .u8 s]), (8, .box 38 [.int .u32 a', .bool f', .int .i64 b', .int .i64 c', .int .i64 d', .ints false .u8 s'])]⟩, k => chk (decide (0 ≤ k' ∧ k' ≤ s'.length ∧ s'.length ≤ 100 ∧ ∀ i : Nat, i < 100 → k' ≤ i → i < s'.length → s'.getD i 0 = 0)) (k (.exit 0) ⟨[(5, .ptr 5 0 0), (6, .ints false .u8 x), (8, .ptr 8 0 0), (10, .ints false .u8 y)], [(5, .box 38 [.int .u32 a, .bool f, .int .i64 b, .int .i64 c, .int .i64 d, .ints false .u8 s]), (8, .box 38 [.int .u32 a', .bool f', .int .i64 b', .int .i64 c', .int .i64 d', .ints false .u8 s'])]⟩)
  | _, _ => False
def c8_0 : Cfg := { n := 154, Γ := Gam, C := ofL u8, pm := pmL [(17, pm17), (21, pm21), (26, pm26), (30, pm30), (31, pm31), (35, pm35), (36, pm36)], plan := plan8, L := lpL [], unroll := nmL [], keep := kpL [(13, kp8_13)] }
def c8 : Cfg := { n := 154, Γ := Gam, C := ofL u8, pm := pmL [(17, pm17), (21, pm21), (26, pm26), (30, pm30), (31, pm31), (35, pm35), (36, pm36)], plan := plan8, L := lpL [(13, L8_13)], unroll := nmL [], keep := kpL [(13, kp8_13)] }
def S8 : Tr
  | [.ints false .i64 l, .int .i64 n], none, post => post (.bool true) none
  | _, _, _ => False
theorem t8_0 (l : List Int) (n : Int) (post : AV → Option AV → Prop) : runF c8 pm8 Proofs.Try.f8 [.ints false .i64 l, .int .i64 n] none post = (∀ (r : Rec) (n' : Int),
     RngR (0 : Nat) r →
     r.s.length ≤ (60 : Nat) →
     (0 : Int) ≤ n' ∧ n' ≤ ↑l.length →
     br (chkE r.5 r.2 r.3 r.4 r.6.length != (0 : Int)) (post (AV.bool true) none)
     (∀ (l : List Int),
     RngL IntKind.u8 l →
     l.length = clampN (64 : Int) →
     br (decE l == (0 : Int))
     (br (chkE (decR l).5 (decR l).2 (decR l).3 (decR l).4 (decR l).6.length != (0 : Int))
     (post (AV.bool false) none)
     (br (!strEq (encL (decR l).1 (decR l).5 (decR l).2 (decR l).3 (decR l).4 (decR l).6) l)
     (post (AV.bool false) none)
     (br (decE (encL r.1 r.5 r.2 r.3 r.4 r.6) != (0 : Int)) (post (AV.bool false) none)
     (br
     (chkE (decR (encL r.1 r.5 r.2 r.3 r.4 r.6)).5 (decR (encL r.1 r.5 r.2 r.3 r.4 r.6)).2
     (decR (encL r.1 r.5 r.2 r.3 r.4 r.6)).3 (decR (encL r.1 r.5 r.2 r.3 r.4 r.6)).4
     (decR (encL r.1 r.5 r.2 r.3 r.4 r.6)).6.length !=
     (0 : Int))
     (post (AV.bool false) none)
     (br (decide (@Nat.cast Int _ (decR (encL r.1 r.5 r.2 r.3 r.4 r.6)).6.length < @Nat.cast Int _ r.6.length))
     (post (AV.bool false) none)
     (chk
     (decide
     ((0 : Int) ≤ @Nat.cast Int _ r.6.length ∧
     @Nat.cast Int _ r.6.length ≤ @Nat.cast Int _ (decR (encL r.1 r.5 r.2 r.3 r.4 r.6)).6.length ∧
     (decR (encL r.1 r.5 r.2 r.3 r.4 r.6)).6.length ≤ (100 : Nat) ∧
     ∀ (i : Nat),
     i < (100 : Nat) →
     @Nat.cast Int _ r.6.length ≤ @Nat.cast Int _ i →
     i < (decR (encL r.1 r.5 r.2 r.3 r.4 r.6)).6.length →
     (decR (encL r.1 r.5 r.2 r.3 r.4 r.6)).6.getD i (0 : Int) = (0 : Int)))
     (br
     (strEq (encL r.1 r.5 r.2 r.3 r.4 r.6)
     (encL (decR (encL r.1 r.5 r.2 r.3 r.4 r.6)).1 (decR (encL r.1 r.5 r.2 r.3 r.4 r.6)).5
     (decR (encL r.1 r.5 r.2 r.3 r.4 r.6)).2 (decR (encL r.1 r.5 r.2 r.3 r.4 r.6)).3
     (decR (encL r.1 r.5 r.2 r.3 r.4 r.6)).4 (decR (encL r.1 r.5 r.2 r.3 r.4 r.6)).6))
     (chk
     (cutB (decR (encL r.1 r.5 r.2 r.3 r.4 r.6)).6.length none
     (some (@Nat.cast Int _ r.6.length)))
     (br
     (strEq
     (List.take (@Nat.cast Int _ r.6.length).toNat (decR (encL r.1 r.5 r.2 r.3 r.4 r.6)).6)
     r.6)
     (br ((decR (encL r.1 r.5 r.2 r.3 r.4 r.6)).1 == r.1)
     (br ((decR (encL r.1 r.5 r.2 r.3 r.4 r.6)).5 == r.5)
     (br ((decR (encL r.1 r.5 r.2 r.3 r.4 r.6)).2 == r.2)
     (br ((decR (encL r.1 r.5 r.2 r.3 r.4 r.6)).3 == r.3)
     (br ((decR (encL r.1 r.5 r.2 r.3 r.4 r.6)).4 == r.4)
     (post (AV.bool true) none) (post (AV.bool false) none))
     (post (AV.bool false) none))
     (post (AV.bool false) none))
     (post (AV.bool false) none))
     (post (AV.bool false) none))
     (post (AV.bool false) none)))
     (post (AV.bool false) none))))))))
     (br (decE (encL r.1 r.5 r.2 r.3 r.4 r.6) != (0 : Int)) (post (AV.bool false) none)
     (br
     (chkE (decR (encL r.1 r.5 r.2 r.3 r.4 r.6)).5 (decR (encL r.1 r.5 r.2 r.3 r.4 r.6)).2
     (decR (encL r.1 r.5 r.2 r.3 r.4 r.6)).3 (decR (encL r.1 r.5 r.2 r.3 r.4 r.6)).4
     (decR (encL r.1 r.5 r.2 r.3 r.4 r.6)).6.length !=
     (0 : Int))
     (post (AV.bool false) none)
     (br (decide (@Nat.cast Int _ (decR (encL r.1 r.5 r.2 r.3 r.4 r.6)).6.length < @Nat.cast Int _ r.6.length))
     (post (AV.bool false) none)
     (chk
     (decide
     ((0 : Int) ≤ @Nat.cast Int _ r.6.length ∧
     @Nat.cast Int _ r.6.length ≤ @Nat.cast Int _ (decR (encL r.1 r.5 r.2 r.3 r.4 r.6)).6.length ∧
     (decR (encL r.1 r.5 r.2 r.3 r.4 r.6)).6.length ≤ (100 : Nat) ∧
     ∀ (i : Nat),
     i < (100 : Nat) →
     @Nat.cast Int _ r.6.length ≤ @Nat.cast Int _ i →
     i < (decR (encL r.1 r.5 r.2 r.3 r.4 r.6)).6.length →
     (decR (encL r.1 r.5 r.2 r.3 r.4 r.6)).6.getD i (0 : Int) = (0 : Int)))
     (br
     (strEq (encL r.1 r.5 r.2 r.3 r.4 r.6)
     (encL (decR (encL r.1 r.5 r.2 r.3 r.4 r.6)).1 (decR (encL r.1 r.5 r.2 r.3 r.4 r.6)).5
     (decR (encL r.1 r.5 r.2 r.3 r.4 r.6)).2 (decR (encL r.1 r.5 r.2 r.3 r.4 r.6)).3
     (decR (encL r.1 r.5 r.2 r.3 r.4 r.6)).4 (decR (encL r.1 r.5 r.2 r.3 r.4 r.6)).6))
     (chk
     (cutB (decR (encL r.1 r.5 r.2 r.3 r.4 r.6)).6.length none (some (@Nat.cast Int _ r.6.length)))
     (br
     (strEq (List.take (@Nat.cast Int _ r.6.length).toNat (decR (encL r.1 r.5 r.2 r.3 r.4 r.6)).6)
     r.6)
     (br ((decR (encL r.1 r.5 r.2 r.3 r.4 r.6)).1 == r.1)
     (br ((decR (encL r.1 r.5 r.2 r.3 r.4 r.6)).5 == r.5)
     (br ((decR (encL r.1 r.5 r.2 r.3 r.4 r.6)).2 == r.2)
     (br ((decR (encL r.1 r.5 r.2 r.3 r.4 r.6)).3 == r.3)
     (br ((decR (encL r.1 r.5 r.2 r.3 r.4 r.6)).4 == r.4) (post (AV.bool true) none)
     (post (AV.bool false) none))
     (post (AV.bool false) none))
     (post (AV.bool false) none))
     (post (AV.bool false) none))
     (post (AV.bool false) none))
     (post (AV.bool false) none)))
     (post (AV.bool false) none)))))))) := by kernel_rfl
theorem q8_13 (a b c d a' b' c' d' : Int) (f f' : Bool) (s s' x y : List Int) (k' : Int) (k : Out → AS → Prop) : stepL c8_0 kp8_13 tr8_13 (loopAt Proofs.Try.f8 13) ⟨[(5, .ptr 5 0 0), (6, .ints false .u8 x), (8, .ptr 8 0 0), (10, .ints false .u8 y), (17, .int .i64 k')], [(5, .box 38 [.int .u32 a, .bool f, .int .i64 b, .int .i64 c, .int .i64 d, .ints false .u8 s]), (8, .box 38 [.int .u32 a', .bool f', .int .i64 b', .int .i64 c', .int .i64 d', .ints false .u8 s'])]⟩ k = (br (decide (k' < @Nat.cast Int _ s'.length))
     (chk (inB k' s'.length)
     (br (s'.getD k'.toNat (0 : Int) != (0 : Int)) (k Out.ret (AS.mk [((4 : Nat), AV.bool false)] []))
     (k Out.normal
     (AS.mk
     [((5 : Nat), AV.ptr (5 : Nat) (0 : Nat) (0 : Nat)), ((6 : Nat), AV.ints false IntKind.u8 x),
     ((8 : Nat), AV.ptr (8 : Nat) (0 : Nat) (0 : Nat)), ((10 : Nat), AV.ints false IntKind.u8 y),
     ((17 : Nat), AV.int IntKind.i64 (IntKind.i64.wrap (k' + (1 : Int))))]
     [((5 : Nat),
     AV.box (38 : Nat)
     [AV.int IntKind.u32 a, AV.bool f, AV.int IntKind.i64 b, AV.int IntKind.i64 c, AV.int IntKind.i64 d,
     AV.ints false IntKind.u8 s]),
     ((8 : Nat),
     AV.box (38 : Nat)
     [AV.int IntKind.u32 a', AV.bool f', AV.int IntKind.i64 b', AV.int IntKind.i64 c', AV.int IntKind.i64 d',
     AV.ints false IntKind.u8 s'])]))))
     (k (Out.exit (0 : Nat))
     (AS.mk
     [((5 : Nat), AV.ptr (5 : Nat) (0 : Nat) (0 : Nat)), ((6 : Nat), AV.ints false IntKind.u8 x),
     ((8 : Nat), AV.ptr (8 : Nat) (0 : Nat) (0 : Nat)), ((10 : Nat), AV.ints false IntKind.u8 y)]
     [((5 : Nat),
     AV.box (38 : Nat)
     [AV.int IntKind.u32 a, AV.bool f, AV.int IntKind.i64 b, AV.int IntKind.i64 c, AV.int IntKind.i64 d,
     AV.ints false IntKind.u8 s]),
     ((8 : Nat),
     AV.box (38 : Nat)
     [AV.int IntKind.u32 a', AV.bool f', AV.int IntKind.i64 b', AV.int IntKind.i64 c', AV.int IntKind.i64 d',
     AV.ints false IntKind.u8 s'])]))) := by kernel_rfl

theorem i8_13 (k : Out → AS → Prop) (fuel : Nat) : ∀ (a b c d a' b' c' d' : Int) (f f' : Bool) (s s' x y : List Int) (k' : Int), (s'.length - k').toNat < fuel → (0 ≤ k' ∧ k' ≤ s'.length ∧ s'.length ≤ 100 ∧ ∀ i : Nat, i < 100 → k' ≤ i → i < s'.length → s'.getD i 0 = 0) → (k (.exit 0) ⟨[(5, .ptr 5 0 0), (6, .ints false .u8 x), (8, .ptr 8 0 0), (10, .ints false .u8 y)], [(5, .box 38 [.int .u32 a, .bool f, .int .i64 b, .int .i64 c, .int .i64 d, .ints false .u8 s]), (8, .box 38 [.int .u32 a', .bool f', .int .i64 b', .int .i64 c', .int .i64 d', .ints false .u8 s'])]⟩) → iterL (stepL c8_0 kp8_13 tr8_13 (loopAt Proofs.Try.f8 13)) k fuel ⟨[(5, .ptr 5 0 0), (6, .ints false .u8 x), (8, .ptr 8 0 0), (10, .ints false .u8 y), (17, .int .i64 k')], [(5, .box 38 [.int .u32 a, .bool f, .int .i64 b, .int .i64 c, .int .i64 d, .ints false .u8 s]), (8, .box 38 [.int .u32 a', .bool f', .int .i64 b', .int .i64 c', .int .i64 d', .ints false .u8 s'])]⟩ := by
  induction fuel with
  | zero => intro a b c d a' b' c' d' f f' s s' x y k' hm; omega
  | succ fuel ih =>
    intro a b c d a' b' c' d' f f' s s' x y k' hm hp hk
    simp only [iterL]
    rw [q8_13]
    dsimp only
    obtain ⟨p1, p2, p3, p4⟩ := hp
    refine br_dec (fun hc => ?_) (fun hc => hk)
    rw [wrap_i64 (n := k' + 1) (by omega) (by omega)]
    refine chk_inB (by omega) (by omega) (br_ne (fun hne => absurd (p4 k'.toNat (by omega) (by omega) (by omega)) hne) (fun _ => ?_))
    exact ih _ _ _ _ _ _ _ _ _ _ _ _ _ _ _ (by omega) ⟨by omega, by omega, p3, fun i h1 h2 h3 => p4 i h1 (by omega) h3⟩ hk
theorem l8_13 : ∀ s k, L8_13 s k → Tri Proofs.Try.prog 154 (.loop (loopAt Proofs.Try.f8 13)) s k := by
  intro s k h
  unfold L8_13 at h
  split at h
  · obtain ⟨h1, h2⟩ := chk_iff.1 h
    exact iter_ok (c := c8_0) gam_ok (l := u8) a8 rfl mixed_ok (by kernel_rfl) (ls := []) rfl (.inl rfl) trivial (kps := kp8_13) (tr := tr8_13) (_) (i8_13 k _ _ _ _ _ _ _ _ _ _ _ _ _ _ _ _ (Nat.lt_succ_self _) (of_decide_eq_true h1) h2)
  · exact h.elim
theorem p8_0 (l : List Int) (n : Int) (post : AV → Option AV → Prop) (hin : InRL [.ints false .i64 l, .int .i64 n]) (hie : InRO none) (h : post (.bool true) none) : Ok (runF c8 pm8 Proofs.Try.f8 [.ints false .i64 l, .int .i64 n] none (post)) := by
  refine ⟨?_⟩
  rw [t8_0]
  intro r n' hr hl hn
  refine br_ne (fun _ => h) (fun he => ?_)
  have ho : okR r := he
  obtain ⟨d1, d2⟩ := dec_enc r hr ho
  obtain ⟨o1, o2⟩ := pad_ok r ho
  rw [encL_ok r ho, d2, d1, encL_ok (padR r) o1, o2]
  intro x hx hxl
  refine br_eq (fun hz => ?_) (fun hz => ?_)
  · obtain ⟨e1, e2⟩ := enc_dec x hx (by rw [hxl]; rfl) hz
    refine br_ne (fun hh => absurd e1 hh) (fun _ => br_not (br_str (fun _ => ?_) (fun hne => absurd ((encL_ok _ e1).trans e2) hne)))
    refine br_ne (fun hh => absurd rfl hh) (fun _ => br_ne (fun hh => absurd o1 hh) (fun _ => br_dec (fun hh => ?_) (fun _ => chk_dec ⟨by omega, ?_, ?_, ?_⟩ (br_str (fun _ => chk_of (cut_hi (by omega) ?_) (br_str (fun _ => br_eq (fun _ => br_beq (fun _ => br_eq (fun _ => br_eq (fun _ => br_eq (fun _ => h) (fun hh => absurd rfl hh)) (fun hh => absurd rfl hh)) (fun hh => absurd rfl hh)) (fun hh => absurd rfl hh)) (fun hh => absurd rfl hh)) (fun hh => absurd ?_ hh))) (fun hh => absurd rfl hh)))))
    · exfalso
      simp only [padR, List.length_append] at hh
      omega
    · simp only [padR, List.length_append]
      omega
    · simp only [padR, List.length_append, List.length_replicate]
      split <;> omega
    · intro i _ h2 h3
      simp only [padR, List.length_append, List.length_replicate] at h3 ⊢
      rw [List.getD, List.getElem?_append_right (by omega), List.getElem?_replicate]
      (repeat' split) <;> rfl
    · simp only [padR, List.length_append]
      omega
    · simp [padR]
  · refine br_ne (fun hh => absurd rfl hh) (fun _ => br_ne (fun hh => absurd o1 hh) (fun _ => br_dec (fun hh => ?_) (fun _ => chk_dec ⟨by omega, ?_, ?_, ?_⟩ (br_str (fun _ => chk_of (cut_hi (by omega) ?_) (br_str (fun _ => br_eq (fun _ => br_beq (fun _ => br_eq (fun _ => br_eq (fun _ => br_eq (fun _ => h) (fun hh => absurd rfl hh)) (fun hh => absurd rfl hh)) (fun hh => absurd rfl hh)) (fun hh => absurd rfl hh)) (fun hh => absurd rfl hh)) (fun hh => absurd ?_ hh))) (fun hh => absurd rfl hh)))))
    · exfalso
      simp only [padR, List.length_append] at hh
      omega
    · simp only [padR, List.length_append]
      omega
    · simp only [padR, List.length_append, List.length_replicate]
      split <;> omega
    · intro i _ h2 h3
      simp only [padR, List.length_append, List.length_replicate] at h3 ⊢
      rw [List.getD, List.getElem?_append_right (by omega), List.getElem?_replicate]
      (repeat' split) <;> rfl
    · simp only [padR, List.length_append]
      omega
    · simp [padR]
theorem k8 : Keeps Proofs.Try.prog 8 S8 := by
  refine ⟨?_, Proofs.Try.f8, by kernel_rfl, by kernel_rfl, by kernel_rfl⟩
  intro args e post h
  unfold S8 at h
  split at h
  · refine Spec.inR fun hin hie => fun_ok' (c := c8) gam_ok (l := u8) a8 rfl mixed_ok (fn := Proofs.Try.f8) (show Proofs.Try.prog.funcs[8]? = some Proofs.Try.f8 by kernel_rfl) (by kernel_rfl) (ls := [(13, L8_13)]) rfl (.inr (by kernel_rfl)) ⟨l8_13, trivial⟩ (pm := pm8) (by simp [c8]) (by rintro ⟨t, l, h⟩; cases h) ?_
    exact p8_0 _ _ _ hin hie h
  · exact h.elim
end Go.Proofs.Ytokeanadhihlfaa.V
