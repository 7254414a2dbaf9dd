
/- What the laws of chapter 11 have in common: places and tops asked for; two objects; the law 'awake'. -/
import Derived.Test.YtdfdmboljidhnaaSr
import Derived.Test.YtdfdmboljidhnaaCl
set_option maxRecDepth 100000
namespace Go.Proofs.Ytdfdmboljidhnaa
open Go Go.Lw Go.Wd Go.Am Go.Tb Go.Hm
section
variable {H : Hp} {v : Value} {b : Nat} {F : List HP} {w : World}
/-- what At says of a handle. -/
def atE (H : Hp) (x : Nat) : Nat := if (H.look x).isSome = true then 0 else 6
def atP (H : Hp) (x : Nat) : Nat := if (H.look x).isSome = true then H.place x else 0
theorem tat (hs : Sat (HeapH H v b :: F) w) {x : Nat} (hx : x < 18446744073709551616) {K : Ending → World → Prop} (hK : K (.returned (.tuple #[.int .i64 (atP H x : Nat), .int .i64 (atE H x : Nat)])) w) :
    Calls Try.prog 16 #[.pointer (some ⟨b, 0, none⟩)] w fun e w1 => ∃ (r : Option Addr), e = .returned (.pointer r) ∧ Calls Try.prog 17 #[.pointer r, .int .u64 (x : Int)] w1 K := by
  have hm := sat_wf hs
  refine (htable_c hs).mono ?_
  rintro e w1 ⟨rfl, ba, bt, rfl, h1⟩
  refine ⟨_, rfl, ?_⟩
  refine (at_c (h1.pull 2 rfl) hx).mono ?_
  rintro e w2 ⟨rfl, rfl⟩
  unfold atP atE at hK
  cases hf : H.t.find x with
  | none =>
    rw [(look_none hm).2 hf] at hK
    exact hK
  | some i =>
    obtain ⟨o, g1, g2, g3, g4⟩ := look_find hm hf
    rw [g1, g4] at hK
    exact hK
theorem ttop (hs : Sat (HeapH H v b :: F) w) {K : Ending → World → Prop} (hK : K (.returned (.int .i64 (H.m.top : Int))) w) :
    Calls Try.prog 24 #[.pointer (some ⟨b, 0, none⟩)] w fun e w1 => ∃ (r : Option Addr), e = .returned (.pointer r) ∧ Calls Try.prog 25 #[.pointer r] w1 K := by
  refine (harena_c hs).mono ?_
  rintro e w1 ⟨rfl, ba, bt, rfl, h1⟩
  refine ⟨_, rfl, ?_⟩
  refine (top2 (h1.pull 1 rfl)).mono ?_
  rintro e w2 ⟨rfl, rfl⟩
  exact hK
theorem closed_of (hm : H.WF) (hr : ∀ y ∈ H.roots, H.may y = true) (ho : ∀ o ∈ H.m.low ++ H.m.high, ∀ y ∈ o.w.take o.refs, H.may y = true) : H.Closed := by
  refine ⟨hr, fun x y hy => ?_⟩
  unfold refsOf at hy
  cases hl : H.look x with
  | none => rw [hl] at hy; cases hy
  | some o =>
    rw [hl] at hy
    refine ho o ?_ y hy
    rcases hm.am.find_cases (look_some hm hl).2 with ⟨h1, _⟩ | ⟨_, h1, _⟩
    · exact List.mem_append_left _ (findL_mem h1)
    · exact List.mem_append_right _ (findL_mem h1)
theorem ci_new {B : Nat} (hm : H.WF) (hg : Gd B H) (hop : H.m.op = false) (hc : H.Closed) (ro mv : Nat) : Ci B ⟨H, [], 0, ro, mv⟩ := ⟨hm, hg, .inl ⟨rfl, rfl, hop, hc⟩⟩
end

def sa0 : Hp := Hp.new 100 10
def saz : Nat := nextH sa0.t
def sa1 : Hp := sa0.made 3 0 3
def sax : Nat := nextH sa1.t
def sa2 : Hp := sa1.made 1 0 2
def sa3 : Hp := if Hp.rootE sa2 0 sax = 0 then sa2.rooted (Int.toNat 0) sax else sa2
theorem sa_rootE : Hp.rootE sa2 0 sax = 0 := by decide +kernel
theorem sa_xu : sax < 18446744073709551616 := by decide +kernel
theorem sa_zu : saz < 18446744073709551616 := by decide +kernel
theorem sa_op : sa3.m.op = false := by decide +kernel
theorem sa_gd : Gd 6 sa3 := ⟨by decide +kernel, by decide +kernel⟩
theorem sa_r : ∀ y ∈ sa3.roots, sa3.may y = true := by decide +kernel
theorem sa_o : ∀ o ∈ sa3.m.low ++ sa3.m.high, ∀ y ∈ o.w.take o.refs, sa3.may y = true := by decide +kernel
theorem sa_ci (hm : sa3.WF) : Ci 6 ⟨sa3, [], 0, 0, 0⟩ := ci_new hm sa_gd sa_op (closed_of hm sa_r sa_o) 0 0

theorem two_c {F : List HP} {w : World} (hs : Sat F w) : Calls Try.prog 11 #[] w fun e w' =>
    ∃ b, e = .returned (.tuple #[.pointer (some ⟨b, 0, none⟩), .int .u64 (sax : Nat), .int .u64 (saz : Nat), .bool true]) ∧ Sat (HeapH sa3 .nilIface b :: F) w' := by
  refine S_law11_two_ok _ _ ?_
  unfold S_law11_two
  refine (fresh_c (n := 100) (k := 10) (by omega) (by omega) (by omega) (by omega) hs).mono ?_
  rintro e w1 ⟨b, rfl, s1⟩
  refine ⟨_, rfl, cond_f rfl ?_⟩
  refine (mk_c s1 (tag := 3) (refs := 0) (size := 3) (by decide +kernel)).mono ?_
  rintro e w2 ⟨rfl, s2⟩
  refine ⟨_, _, rfl, ?_⟩
  refine (mk_c s2 (tag := 1) (refs := 0) (size := 2) (by decide +kernel)).mono ?_
  rintro e w3 ⟨rfl, s3⟩
  refine ⟨_, _, rfl, cond_t rfl (cond_t rfl ?_)⟩
  have s3 : Sat (HeapH sa2 .nilIface b :: F) w3 := s3
  refine (sroot_c s3 0 (y := sax) sa_xu).mono ?_
  rintro e w4 ⟨rfl, s4⟩
  have s4 : Sat (HeapH sa3 .nilIface b :: F) w4 := s4
  refine ⟨_, rfl, ?_⟩
  rw [sa_rootE]
  exact ⟨b, rfl, s4⟩
def sac : Cd := ⟨sa3, [], 0, 0, 0⟩
theorem sa_top : ((fullC sac).H.m.n - (fullC sac).H.m.top : Nat) = (sac.H.m.n - sac.H.m.top : Nat) + 4 := by decide +kernel
theorem sa_e : atE (fullC sac).H sax = 0 := by decide +kernel
theorem sa_p : atP (fullC sac).H sax = 0 := by decide +kernel
theorem sa_t : (fullC sac).H.m.top = 3 := by decide +kernel
theorem pk_zero {H : Hp} {ro mv : Nat} : Pk ⟨H, [], 0, ro, mv⟩ := fun e => by cases e
theorem awake11_c {F : List HP} {w : World} (hs : Sat F w) : Calls Try.prog 10 #[] w (Ret (.bool true) (Sat F)) := by
  refine S_law11_awake_ok _ _ ?_
  unfold S_law11_awake
  refine (two_c hs).mono ?_
  rintro e w1 ⟨b, rfl, s1⟩
  refine ⟨_, _, _, _, rfl, cond_f rfl ?_⟩
  refine (snew_c s1).mono ?_
  rintro e w2 ⟨cb, mb, rfl, s2⟩
  refine ⟨_, rfl, cond_f rfl ?_⟩
  refine (sfull_c s2 (B := 6) (by omega) (sa_ci (sat_wf s1)) pk_zero (by decide) (by decide)).mono ?_
  rintro e w3 ⟨rfl, s3⟩
  have s3 : Sat (CL (fullC sac) b cb mb F) w3 := s3
  refine ⟨_, _, rfl, ?_⟩
  refine tat s3 sa_xu ⟨_, _, rfl, ?_⟩
  have e4 : (((fullC sac).H.m.n - (fullC sac).H.m.top : Nat) - (sac.H.m.n - sac.H.m.top : Nat) : Int) = 4 := by rw [sa_top]; omega
  rw [sa_e, sa_p]
  refine cond_t ?_ (cond_t rfl (cond_t rfl (cond_t rfl ?_)))
  · exact beq_iff_eq.2 e4
  · refine ttop s3 ⟨_, rfl, ?_⟩
    rw [sa_t]
    exact ⟨rfl, s3.drop.drop.drop⟩
end Go.Proofs.Ytdfdmboljidhnaa
