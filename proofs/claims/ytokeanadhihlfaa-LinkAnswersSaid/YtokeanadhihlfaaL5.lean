import Derived.Test.YtokeanadhihlfaaPlans
import Derived.Test.YtokeanadhihlfaaMB
import Derived.Test.YtokeanadhihlfaaProg
import Derived.Test.YtokeanadhihlfaaS0
import Derived.Test.YtokeanadhihlfaaS1
import Derived.Test.YtokeanadhihlfaaS2
import Derived.Test.YtokeanadhihlfaaS3
import Derived.Test.YtokeanadhihlfaaS4
import Derived.Test.YtokeanadhihlfaaB1
import Derived.Test.YtokeanadhihlfaaP7
import Derived.Test.YtokeanadhihlfaaL1
import Derived.Test.YtokeanadhihlfaaL2
import Derived.Test.YtokeanadhihlfaaL3
import Derived.Test.YtokeanadhihlfaaL4a
import Derived.Test.YtokeanadhihlfaaL4b
import Derived.Test.YtokeanadhihlfaaL4c
import Derived.Test.YtokeanadhihlfaaPlansB
import Derived.KernelRfl
set_option linter.all false
set_option maxHeartbeats 1000000
namespace Go.Proofs.Ytokeanadhihlfaa.V
open Go
def kN (n : Int) : Lk := ⟨n, 0, 0, 0, 0, [], 0, 0⟩
theorem recv_init (i : Int) (h1 : 1 ≤ i) (h2 : i ≤ 32) : recvL (kN (i - 1)) 0 ⟨4294967295, 6, 8, 0, true, [1, 2, 3, 4, 5, 6, 7, IntKind.u8.wrap i]⟩ =
    (kN i, ⟨[⟨4294967295, 6, 12, 0, true, [1, 2, 3, 4, 5, 6, 7, IntKind.u8.wrap i, 0, 0, 0, IntKind.u8.wrap i]⟩], false, [], false⟩) := by
  have hw : IntKind.i64.wrap (i - 1 + 1) = i := by rw [show i - 1 + 1 = i by omega, wrap_i64 (by omega) (by omega)]
  have hb : b4 (IntKind.u32.wrap i) = [0, 0, 0, IntKind.u8.wrap i] := by
    rw [wrap_u32 (n := i) (by omega) (by omega), b4_eq, wrap_u8_eq, show i / 16777216 % 256 = 0 by omega, show i / 65536 % 256 = 0 by omega, show i / 256 % 256 = 0 by omega]
  unfold recvL
  rw [if_neg (by omega), if_neg (by show ¬ chkE true 6 8 0 8 ≠ 0; decide), tick_idle _ 0 (by show (0 : Int) ≠ 1; decide), recv1, if_neg (by show ¬ true = false; decide), if_pos (by rfl)]
  unfold allocL
  rw [if_neg (by show ¬ (6 : Int) ≠ 6; decide), if_neg (by show ¬ (8 : Int) ≠ 8; decide), if_neg (by show ¬ i - 1 ≥ 32; omega)]
  show ((⟨IntKind.i64.wrap (i - 1 + 1), 0, 0, 0, 0, [], 0, 0⟩ : Lk), replyO o0 4294967295 6 ([1, 2, 3, 4, 5, 6, 7, IntKind.u8.wrap i] ++ b4 (IntKind.u32.wrap (IntKind.i64.wrap (i - 1 + 1))))) = _
  rw [hw, hb]
  rfl
theorem recv_hi : recvL (kN 1) 5 ⟨1, 3, 2, 0, true, [104, 105]⟩ = (⟨1, 2, 1, 3, 0, [], 0, 5⟩, ⟨[], true, [104, 105], false⟩) := by kernel_rfl
def pm47 : Pm := ⟨[.s], .no, [lkS, .s]⟩
def u47 : List (Nat × Tr) := [(42, S42)]
theorem a47 : AllKeep Proofs.Try.prog u47 := ⟨k42, trivial⟩

def kp47_3 : List (Loc × Keep) := [(.t 0, .shp .s), (.t 2, .ptr), (.t 4, .ptr), (.t 5, .shp .s), (.c 4 5, .shp (.i .u8))]
def tr47_3 : Trim := .some [2, 4] [2, 4] [3] []
def L47_3 : LTr
  | ⟨[(0, .int .i64 n), (2, .ptr 2 0 0), (4, .ptr 4 0 0), (5, .int .i64 i)], [(2, .box 57 [.int .i64 0, .int .i64 0, .int .u32 0, .int .i64 0, .int .i64 0, .nil, .int .i64 0, .int .i64 0]), (4, .box 57 [.int .i64 kn, .int .i64 kst, .int .u32 ka, .int .i64 kc, .int .i64 kl, .ints false .u8 ks, .int .i64 kq, .int .i64 kt])]⟩, k => chk (decide (1 ≤ i ∧ i ≤ n + 1 ∧ n ≤ 10 ∧ kn = i - 1 ∧ kst = 0 ∧ ka = 0 ∧ kc = 0 ∧ kl = 0 ∧ ks.length = 0 ∧ kq = 0 ∧ kt = 0)) (k (.exit 0) ⟨[(2, .ptr 2 0 0), (4, .ptr 4 0 0)], [(2, .box 57 [.int .i64 0, .int .i64 0, .int .u32 0, .int .i64 0, .int .i64 0, .nil, .int .i64 0, .int .i64 0]), (4, .box 57 [.int .i64 n, .int .i64 0, .int .u32 0, .int .i64 0, .int .i64 0, .ints false .u8 [], .int .i64 0, .int .i64 0])]⟩)
  | _, _ => False
def c47_0 : Cfg := { n := 50, Γ := GamL, C := ofL u47, pm := pmL [(42, pm42)], plan := planB47, L := lpL [], unroll := nmL [], keep := kpL [(3, kp47_3)] }
def c47 : Cfg := { n := 50, Γ := GamL, C := ofL u47, pm := pmL [(42, pm42)], plan := planB47, L := lpL [(3, L47_3)], unroll := nmL [], keep := kpL [(3, kp47_3)] }
def S47 : Tr
  | [.int .i64 n], none, post => chk (decide (0 ≤ n ∧ n ≤ 10)) (post (.tup [(kN n).V, .bool true]) none)
  | _, _, _ => False
theorem t47_0 (n : Int) (post : AV → Option AV → Prop) : runF c47 pm47 Proofs.Try.f47 [.int .i64 n] none post = (chk
     (decide
     ((1 : Int) ≤ (1 : Int) ∧
     (1 : Int) ≤ n + (1 : Int) ∧
     n ≤ (10 : Int) ∧
     (0 : Int) = (0 : Int) ∧
     (0 : Int) = (0 : Int) ∧
     (0 : Int) = (0 : Int) ∧
     (0 : Int) = (0 : Int) ∧
     (0 : Int) = (0 : Int) ∧ (0 : Nat) = (0 : Nat) ∧ (0 : Int) = (0 : Int) ∧ (0 : Int) = (0 : Int)))
     (post
     (AV.tup
     [AV.agg
     [AV.int IntKind.i64 n, AV.int IntKind.i64 (0 : Int), AV.int IntKind.u32 (0 : Int),
     AV.int IntKind.i64 (0 : Int), AV.int IntKind.i64 (0 : Int), AV.ints false IntKind.u8 [],
     AV.int IntKind.i64 (0 : Int), AV.int IntKind.i64 (0 : Int)],
     AV.bool true])
     none)) := by kernel_rfl
theorem q47_3 (n i kn kst ka kc kl kq kt : Int) (ks : List Int) (k : Out → AS → Prop) : stepL c47_0 kp47_3 tr47_3 (loopAt Proofs.Try.f47 3) ⟨[(0, .int .i64 n), (2, .ptr 2 0 0), (4, .ptr 4 0 0), (5, .int .i64 i)], [(2, .box 57 [.int .i64 0, .int .i64 0, .int .u32 0, .int .i64 0, .int .i64 0, .nil, .int .i64 0, .int .i64 0]), (4, .box 57 [.int .i64 kn, .int .i64 kst, .int .u32 ka, .int .i64 kc, .int .i64 kl, .ints false .u8 ks, .int .i64 kq, .int .i64 kt])]⟩ k = (br (decide (i ≤ n))
     (chk (decide (ks.length ≤ (100000 : Nat) ∧ (-1000000 : Int) ≤ kl ∧ kl ≤ (1000000 : Int)))
     (∀ (k' : Lk) (o' : Ou),
     recvL (Lk.mk kn kst ka kc kl ks kq kt) (0 : Int)
     (Rec.mk (4294967295 : Int) (6 : Int) (8 : Int) (0 : Int) true
     [(1 : Int), (2 : Int), (3 : Int), (4 : Int), (5 : Int), (6 : Int), (7 : Int), IntKind.u8.wrap i]) =
     (k', o') →
     br (@Nat.cast Int _ o'.ps.length != (1 : Int)) (k Out.ret (AS.mk [((3 : Nat), AV.bool false)] []))
     (chk (inB (0 : Int) o'.ps.length)
     (chk (decide ((0 : Nat) < o'.ps.length))
     (br
     (!strEq (o'.ps.getD (0 : Nat) default).6
     [(1 : Int), (2 : Int), (3 : Int), (4 : Int), (5 : Int), (6 : Int), (7 : Int), IntKind.u8.wrap i,
     (0 : Int), (0 : Int), (0 : Int), IntKind.u8.wrap i])
     (k Out.ret (AS.mk [((3 : Nat), AV.bool false)] []))
     (br (k'.n != i) (k Out.ret (AS.mk [((3 : Nat), AV.bool false)] []))
     (k Out.normal
     (AS.mk
     [((0 : Nat), AV.int IntKind.i64 n), ((2 : Nat), AV.ptr (2 : Nat) (0 : Nat) (0 : Nat)),
     ((4 : Nat), AV.ptr (4 : Nat) (0 : Nat) (0 : Nat)),
     ((5 : Nat), AV.int IntKind.i64 (IntKind.i64.wrap (i + (1 : Int))))]
     [((2 : Nat),
     AV.box (57 : Nat)
     [AV.int IntKind.i64 (0 : Int), AV.int IntKind.i64 (0 : Int), AV.int IntKind.u32 (0 : Int),
     AV.int IntKind.i64 (0 : Int), AV.int IntKind.i64 (0 : Int), AV.nil,
     AV.int IntKind.i64 (0 : Int), AV.int IntKind.i64 (0 : Int)]),
     ((4 : Nat),
     AV.box (57 : Nat)
     [AV.int IntKind.i64 k'.n, AV.int IntKind.i64 k'.st, AV.int IntKind.u32 k'.a,
     AV.int IntKind.i64 k'.cmd, AV.int IntKind.i64 k'.len, AV.ints false IntKind.u8 k'.s,
     AV.int IntKind.i64 k'.q, AV.int IntKind.i64 k'.t])]))))))))
     (k (Out.exit (0 : Nat))
     (AS.mk [((2 : Nat), AV.ptr (2 : Nat) (0 : Nat) (0 : Nat)), ((4 : Nat), AV.ptr (4 : Nat) (0 : Nat) (0 : Nat))]
     [((2 : Nat),
     AV.box (57 : Nat)
     [AV.int IntKind.i64 (0 : Int), AV.int IntKind.i64 (0 : Int), AV.int IntKind.u32 (0 : Int),
     AV.int IntKind.i64 (0 : Int), AV.int IntKind.i64 (0 : Int), AV.nil, AV.int IntKind.i64 (0 : Int),
     AV.int IntKind.i64 (0 : Int)]),
     ((4 : Nat),
     AV.box (57 : Nat)
     [AV.int IntKind.i64 kn, AV.int IntKind.i64 kst, AV.int IntKind.u32 ka, AV.int IntKind.i64 kc,
     AV.int IntKind.i64 kl, AV.ints false IntKind.u8 ks, AV.int IntKind.i64 kq, AV.int IntKind.i64 kt])]))) := by kernel_rfl

theorem i47_3 (k : Out → AS → Prop) (fuel : Nat) : ∀ (n i kn kst ka kc kl kq kt : Int) (ks : List Int), (n + 1 - i).toNat < fuel → (1 ≤ i ∧ i ≤ n + 1 ∧ n ≤ 10 ∧ kn = i - 1 ∧ kst = 0 ∧ ka = 0 ∧ kc = 0 ∧ kl = 0 ∧ ks.length = 0 ∧ kq = 0 ∧ kt = 0) → (k (.exit 0) ⟨[(2, .ptr 2 0 0), (4, .ptr 4 0 0)], [(2, .box 57 [.int .i64 0, .int .i64 0, .int .u32 0, .int .i64 0, .int .i64 0, .nil, .int .i64 0, .int .i64 0]), (4, .box 57 [.int .i64 n, .int .i64 0, .int .u32 0, .int .i64 0, .int .i64 0, .ints false .u8 [], .int .i64 0, .int .i64 0])]⟩) → iterL (stepL c47_0 kp47_3 tr47_3 (loopAt Proofs.Try.f47 3)) k fuel ⟨[(0, .int .i64 n), (2, .ptr 2 0 0), (4, .ptr 4 0 0), (5, .int .i64 i)], [(2, .box 57 [.int .i64 0, .int .i64 0, .int .u32 0, .int .i64 0, .int .i64 0, .nil, .int .i64 0, .int .i64 0]), (4, .box 57 [.int .i64 kn, .int .i64 kst, .int .u32 ka, .int .i64 kc, .int .i64 kl, .ints false .u8 ks, .int .i64 kq, .int .i64 kt])]⟩ := by
  induction fuel with
  | zero => intro n i kn kst ka kc kl kq kt ks hm; omega
  | succ fuel ih =>
    intro n i kn kst ka kc kl kq kt ks hm hp hk
    simp only [iterL]
    rw [q47_3]
    dsimp only
    obtain ⟨p1, p2, p3, rfl, rfl, rfl, rfl, rfl, hks, rfl, rfl⟩ := hp
    obtain rfl := List.eq_nil_of_length_eq_zero hks
    refine br_dec (fun hc => ?_) (fun hc => ?_)
    · refine chk_dec (by simp) (fun k' o' he => ?_)
      rw [show (Lk.mk (i - 1) 0 0 0 0 [] 0 0) = kN (i - 1) from rfl, recv_init i (by omega) (by omega)] at he
      cases he
      rw [wrap_i64 (n := i + 1) (by omega) (by omega)]
      refine br_ne (fun h => absurd rfl h) (fun _ => chk_of rfl (chk_of rfl (br_not (br_str (fun _ => ?_) (fun h => absurd rfl h)))))
      refine br_ne (fun h => absurd rfl h) (fun _ => ?_)
      exact ih n (i + 1) _ _ _ _ _ _ _ _ (by omega) ⟨by omega, by omega, by omega, by show i = i + 1 - 1; omega, rfl, rfl, rfl, rfl, rfl, rfl, rfl⟩ hk
    · obtain rfl : i - 1 = n := by omega
      exact hk
theorem l47_3 : ∀ s k, L47_3 s k → Tri Proofs.Try.prog 50 (.loop (loopAt Proofs.Try.f47 3)) s k := by
  intro s k h
  unfold L47_3 at h
  split at h
  · obtain ⟨h1, h2⟩ := chk_iff.1 h
    exact iter_ok (c := c47_0) gamL_ok (l := u47) a47 rfl mixed_ok (by kernel_rfl) (ls := []) rfl (.inl rfl) trivial (kps := kp47_3) (tr := tr47_3) (_) (i47_3 k _ _ _ _ _ _ _ _ _ _ _ (Nat.lt_succ_self _) (of_decide_eq_true h1) h2)
  · exact h.elim
theorem p47_0 (n : Int) (post : AV → Option AV → Prop) (hin : InRL [.int .i64 n]) (hie : InRO none) (h : chk (decide (0 ≤ n ∧ n ≤ 10)) (post (.tup [(kN n).V, .bool true]) none)) : Ok (runF c47 pm47 Proofs.Try.f47 [.int .i64 n] none (post)) := by
  refine ⟨?_⟩
  rw [t47_0]
  obtain ⟨h1, h2⟩ := chk_iff.1 h
  have hq := of_decide_eq_true h1
  exact chk_dec (by simp; omega) h2
theorem k47 : Keeps Proofs.Try.prog 47 S47 := by
  refine ⟨?_, Proofs.Try.f47, by kernel_rfl, by kernel_rfl, by kernel_rfl⟩
  intro args e post h
  unfold S47 at h
  split at h
  · refine Spec.inR fun hin hie => fun_ok' (c := c47) gamL_ok (l := u47) a47 rfl mixed_ok (fn := Proofs.Try.f47) (show Proofs.Try.prog.funcs[47]? = some Proofs.Try.f47 by kernel_rfl) (by kernel_rfl) (ls := [(3, L47_3)]) rfl (.inr (by kernel_rfl)) ⟨l47_3, trivial⟩ (pm := pm47) (by simp [c47]) (by rintro ⟨t, l, h⟩; cases h) ?_
    exact p47_0 _ _ hin hie h
  · exact h.elim
def pm46 : Pm := ⟨[], .no, [.s]⟩
def u46 : List (Nat × Tr) := [(38, S38), (42, S42), (47, S47)]
theorem a46 : AllKeep Proofs.Try.prog u46 := ⟨k38, k42, k47, trivial⟩

def c46 : Cfg := { n := 65, Γ := GamL, C := ofL u46, pm := pmL [(38, pm38), (42, pm42), (47, pm47)], plan := noP, L := lpL [], unroll := nmL [], keep := kpL [] }
def S46 : Tr
  | [], none, post => post (.bool true) none
  | _, _, _ => False
theorem t46_0  (post : AV → Option AV → Prop) : runF c46 pm46 Proofs.Try.f46 [] none post = (∀ (k' : Lk) (o' : Ou),
     recvL
     (Lk.mk (kN (1 : Int)).n (kN (1 : Int)).st (kN (1 : Int)).a (kN (1 : Int)).cmd (kN (1 : Int)).len
     (kN (1 : Int)).s (kN (1 : Int)).q (kN (1 : Int)).t)
     (5 : Int) (Rec.mk (1 : Int) (3 : Int) (2 : Int) (0 : Int) true [(104 : Int), (105 : Int)]) =
     (k', o') →
     br o'.dl
     (br
     (strEq o'.ms
     (List.map (fun (b : UInt8) => @Nat.cast Int _ b.toBitVec.toFin.1)
     (ByteArray.mk #[OfNat.ofNat (104 : Nat), OfNat.ofNat (105 : Nat)]).data.toList))
     (br (k'.st == (2 : Int))
     (br
     ((answL (Lk.mk k'.n k'.st k'.a k'.cmd k'.len k'.s k'.q k'.t)
     [(121 : Int), (101 : Int), (115 : Int)]).snd.2 ==
     (0 : Int))
     (br
     ((answL (Lk.mk k'.n k'.st k'.a k'.cmd k'.len k'.s k'.q k'.t)
     [(121 : Int), (101 : Int), (115 : Int)]).fst.st ==
     (0 : Int))
     (br
     (@Nat.cast Int _
     (answL (Lk.mk k'.n k'.st k'.a k'.cmd k'.len k'.s k'.q k'.t)
     [(121 : Int), (101 : Int), (115 : Int)]).snd.1.length ==
     (1 : Int))
     (chk
     (inB (0 : Int)
     (answL (Lk.mk k'.n k'.st k'.a k'.cmd k'.len k'.s k'.q k'.t)
     [(121 : Int), (101 : Int), (115 : Int)]).snd.1.length)
     (post
     (AV.bool
     (strEq
     ((answL (Lk.mk k'.n k'.st k'.a k'.cmd k'.len k'.s k'.q k'.t)
     [(121 : Int), (101 : Int), (115 : Int)]).snd.1.getD
     (0 : Nat) default).6
     (List.map (fun (b : UInt8) => @Nat.cast Int _ b.toBitVec.toFin.1)
     (ByteArray.mk
     #[OfNat.ofNat (121 : Nat), OfNat.ofNat (101 : Nat),
     OfNat.ofNat (115 : Nat)]).data.toList)))
     none))
     (post (AV.bool false) none))
     (post (AV.bool false) none))
     (post (AV.bool false) none))
     (post (AV.bool false) none))
     (post (AV.bool false) none))
     (post (AV.bool false) none)) := by kernel_rfl
theorem p46_0  (post : AV → Option AV → Prop) (hin : InRL []) (hie : InRO none) (h : post (.bool true) none) : Ok (runF c46 pm46 Proofs.Try.f46 [] none (post)) := by
  refine ⟨?_⟩
  rw [t46_0]
  intro k' o' he
  have he' := recv_hi.symm.trans he
  cases he'
  exact h
theorem k46 : Keeps Proofs.Try.prog 46 S46 := by
  refine ⟨?_, Proofs.Try.f46, by kernel_rfl, by kernel_rfl, by kernel_rfl⟩
  intro args e post h
  unfold S46 at h
  split at h
  · refine Spec.inR fun hin hie => fun_ok' (c := c46) gamL_ok (l := u46) a46 rfl mixed_ok (fn := Proofs.Try.f46) (show Proofs.Try.prog.funcs[46]? = some Proofs.Try.f46 by kernel_rfl) (by kernel_rfl) (ls := []) rfl (.inl rfl) trivial (pm := pm46) (by simp [c46]) (by rintro ⟨t, l, h⟩; cases h) ?_
    exact p46_0  _ hin hie h
  · exact h.elim
end Go.Proofs.Ytokeanadhihlfaa.V
