/- For each Go function that the laws reach: a function on plain values with the same answers, and the proof that the call comes to them (none: nothing is told). Conditions: none beside each theorem's own. Written by gen.py out of the print of the loaded program. -/
import Derived.Test.YtkoehaadlkggoaaRRRRProg
import Derived.Test.YtkoehaadlkggoaaRRRRSp14
import Derived.KernelRfl
set_option linter.unusedVariables false
set_option linter.unusedSimpArgs false
namespace Go.Proofs.YtkoehaadlkggoaaRRRR
open Go Go.Proofs.YtkoehaadlkggoaaRRRR.Sp

structure T_api_Head where
  f_Age : Int
  f_Kind : Int
  f_Id : Int
  f_Adv : Int
  f_Seq : Int
  f_Sum : Int
  f_Len : Int
  deriving Inhabited, DecidableEq
def enc_T_api_Head (x : T_api_Head) : List Value := [.int .i64 x.f_Age, .int .i64 x.f_Kind, .int .i64 x.f_Id, .int .i64 x.f_Adv, .int .i64 x.f_Seq, .int .i64 x.f_Sum, .int .i64 x.f_Len]
theorem len_T_api_Head (x : T_api_Head) : (enc_T_api_Head x).length = 7 := rfl
theorem one_T_api_Head (x : T_api_Head) : ∀ v ∈ enc_T_api_Head x, v.oneCell' = true := by intro v hv; simp only [enc_T_api_Head, List.mem_cons, List.not_mem_nil, or_false] at hv; rcases hv with rfl | rfl | rfl | rfl | rfl | rfl | rfl <;> rfl
def k_T_api_Head : Kd T_api_Head := kFlat enc_T_api_Head 7 len_T_api_Head one_T_api_Head
structure T_api_Key where
  f_Kind : Int
  f_Id : Int
  f_Adv : Int
  deriving Inhabited, DecidableEq
def enc_T_api_Key (x : T_api_Key) : List Value := [.int .i64 x.f_Kind, .int .i64 x.f_Id, .int .i64 x.f_Adv]
theorem len_T_api_Key (x : T_api_Key) : (enc_T_api_Key x).length = 3 := rfl
theorem one_T_api_Key (x : T_api_Key) : ∀ v ∈ enc_T_api_Key x, v.oneCell' = true := by intro v hv; simp only [enc_T_api_Key, List.mem_cons, List.not_mem_nil, or_false] at hv; rcases hv with rfl | rfl | rfl <;> rfl
def k_T_api_Key : Kd T_api_Key := kFlat enc_T_api_Key 3 len_T_api_Key one_T_api_Key
structure T_api_Link where
  f_Kind : Int
  f_Id : Int
  f_Data : Int
  f_Cost : Int
  deriving Inhabited, DecidableEq
def enc_T_api_Link (x : T_api_Link) : List Value := [.int .i64 x.f_Kind, .int .i64 x.f_Id, .int .i64 x.f_Data, .int .i64 x.f_Cost]
theorem len_T_api_Link (x : T_api_Link) : (enc_T_api_Link x).length = 4 := rfl
theorem one_T_api_Link (x : T_api_Link) : ∀ v ∈ enc_T_api_Link x, v.oneCell' = true := by intro v hv; simp only [enc_T_api_Link, List.mem_cons, List.not_mem_nil, or_false] at hv; rcases hv with rfl | rfl | rfl | rfl <;> rfl
def k_T_api_Link : Kd T_api_Link := kFlat enc_T_api_Link 4 len_T_api_Link one_T_api_Link
structure T_api_Vert where
  f_Kind : Int
  f_Id : Int
  deriving Inhabited, DecidableEq
def enc_T_api_Vert (x : T_api_Vert) : List Value := [.int .i64 x.f_Kind, .int .i64 x.f_Id]
theorem len_T_api_Vert (x : T_api_Vert) : (enc_T_api_Vert x).length = 2 := rfl
theorem one_T_api_Vert (x : T_api_Vert) : ∀ v ∈ enc_T_api_Vert x, v.oneCell' = true := by intro v hv; simp only [enc_T_api_Vert, List.mem_cons, List.not_mem_nil, or_false] at hv; rcases hv with rfl | rfl <;> rfl
def k_T_api_Vert : Kd T_api_Vert := kFlat enc_T_api_Vert 2 len_T_api_Vert one_T_api_Vert
structure T_api_Lsa where
  f_Head : T_api_Head
  f_Flags : Int
  f_Links : List T_api_Link
  f_Bits : Int
  f_Routers : List Int
  f_Verts : List T_api_Vert
  deriving Inhabited, DecidableEq
def k_T_api_Lsa : Kd T_api_Lsa := kIso (kPair k_T_api_Head (kPair (kInt .i64) (kPair (kSl k_T_api_Link) (kPair (kInt .i64) (kPair (kSl (kInt .i64)) (kSl k_T_api_Vert)))))) (fun x => (x.f_Head, x.f_Flags, x.f_Links, x.f_Bits, x.f_Routers, x.f_Verts))
theorem rd_T_api_Lsa {G : Hp} {cs : List Value} {x : T_api_Lsa} (h : k_T_api_Lsa.rd G cs x) : ∃ (A8 : Option Addr) (c8 : Nat) (A10 : Option Addr) (c10 : Nat) (A11 : Option Addr) (c11 : Nat), cs = [.int .i64 x.f_Head.f_Age, .int .i64 x.f_Head.f_Kind, .int .i64 x.f_Head.f_Id, .int .i64 x.f_Head.f_Adv, .int .i64 x.f_Head.f_Seq, .int .i64 x.f_Head.f_Sum, .int .i64 x.f_Head.f_Len, .int .i64 x.f_Flags, .slice A8 x.f_Links.length c8, .int .i64 x.f_Bits, .slice A10 x.f_Routers.length c10, .slice A11 x.f_Verts.length c11] ∧ RdS k_T_api_Link G A8 c8 x.f_Links ∧ RdS (kInt .i64) G A10 c10 x.f_Routers ∧ RdS k_T_api_Vert G A11 c11 x.f_Verts := by
  obtain ⟨_, _, rfl, rfl, ⟨_, _, rfl, rfl, ⟨_, _, rfl, ⟨A8, c8, rfl, h8⟩, ⟨_, _, rfl, rfl, ⟨_, _, rfl, ⟨A10, c10, rfl, h10⟩, ⟨A11, c11, rfl, h11⟩⟩⟩⟩⟩⟩ := h
  exact ⟨A8, c8, A10, c10, A11, c11, rfl, h8, h10, h11⟩
theorem mk_T_api_Lsa {G : Hp} {x : T_api_Lsa} {A8 : Option Addr} {c8 : Nat} {A10 : Option Addr} {c10 : Nat} {A11 : Option Addr} {c11 : Nat} (h8 : RdS k_T_api_Link G A8 c8 x.f_Links) (h10 : RdS (kInt .i64) G A10 c10 x.f_Routers) (h11 : RdS k_T_api_Vert G A11 c11 x.f_Verts) : k_T_api_Lsa.rd G [.int .i64 x.f_Head.f_Age, .int .i64 x.f_Head.f_Kind, .int .i64 x.f_Head.f_Id, .int .i64 x.f_Head.f_Adv, .int .i64 x.f_Head.f_Seq, .int .i64 x.f_Head.f_Sum, .int .i64 x.f_Head.f_Len, .int .i64 x.f_Flags, .slice A8 x.f_Links.length c8, .int .i64 x.f_Bits, .slice A10 x.f_Routers.length c10, .slice A11 x.f_Verts.length c11] x :=
  ⟨_, _, rfl, rfl, ⟨_, _, rfl, rfl, ⟨_, _, rfl, ⟨_, _, rfl, h8⟩, ⟨_, _, rfl, rfl, ⟨_, _, rfl, ⟨_, _, rfl, h10⟩, ⟨_, _, rfl, h11⟩⟩⟩⟩⟩⟩
structure T_api_Packet where
  f_Kind : Int
  f_Router : Int
  f_Bits : Int
  f_Prio : Int
  f_Dr : Int
  f_Bdr : Int
  f_Seen : List Int
  f_Flags : Int
  f_Seq : Int
  f_Heads : List T_api_Head
  f_Keys : List T_api_Key
  f_Lsas : List T_api_Lsa
  deriving Inhabited, DecidableEq
def k_T_api_Packet : Kd T_api_Packet := kIso (kPair (kInt .i64) (kPair (kInt .i64) (kPair (kInt .i64) (kPair (kInt .i64) (kPair (kInt .i64) (kPair (kInt .i64) (kPair (kSl (kInt .i64)) (kPair (kInt .i64) (kPair (kInt .i64) (kPair (kSl k_T_api_Head) (kPair (kSl k_T_api_Key) (kSl k_T_api_Lsa)))))))))))) (fun x => (x.f_Kind, x.f_Router, x.f_Bits, x.f_Prio, x.f_Dr, x.f_Bdr, x.f_Seen, x.f_Flags, x.f_Seq, x.f_Heads, x.f_Keys, x.f_Lsas))
theorem rd_T_api_Packet {G : Hp} {cs : List Value} {x : T_api_Packet} (h : k_T_api_Packet.rd G cs x) : ∃ (A6 : Option Addr) (c6 : Nat) (A9 : Option Addr) (c9 : Nat) (A10 : Option Addr) (c10 : Nat) (A11 : Option Addr) (c11 : Nat), cs = [.int .i64 x.f_Kind, .int .i64 x.f_Router, .int .i64 x.f_Bits, .int .i64 x.f_Prio, .int .i64 x.f_Dr, .int .i64 x.f_Bdr, .slice A6 x.f_Seen.length c6, .int .i64 x.f_Flags, .int .i64 x.f_Seq, .slice A9 x.f_Heads.length c9, .slice A10 x.f_Keys.length c10, .slice A11 x.f_Lsas.length c11] ∧ RdS (kInt .i64) G A6 c6 x.f_Seen ∧ RdS k_T_api_Head G A9 c9 x.f_Heads ∧ RdS k_T_api_Key G A10 c10 x.f_Keys ∧ RdS (kShr G k_T_api_Lsa) G A11 c11 x.f_Lsas := by
  obtain ⟨_, _, rfl, rfl, ⟨_, _, rfl, rfl, ⟨_, _, rfl, rfl, ⟨_, _, rfl, rfl, ⟨_, _, rfl, rfl, ⟨_, _, rfl, rfl, ⟨_, _, rfl, ⟨A6, c6, rfl, h6⟩, ⟨_, _, rfl, rfl, ⟨_, _, rfl, rfl, ⟨_, _, rfl, ⟨A9, c9, rfl, h9⟩, ⟨_, _, rfl, ⟨A10, c10, rfl, h10⟩, ⟨A11, c11, rfl, h11⟩⟩⟩⟩⟩⟩⟩⟩⟩⟩⟩⟩ := h
  exact ⟨A6, c6, A9, c9, A10, c10, A11, c11, rfl, h6, h9, h10, h11⟩
theorem mk_T_api_Packet {G : Hp} {x : T_api_Packet} {A6 : Option Addr} {c6 : Nat} {A9 : Option Addr} {c9 : Nat} {A10 : Option Addr} {c10 : Nat} {A11 : Option Addr} {c11 : Nat} (h6 : RdS (kInt .i64) G A6 c6 x.f_Seen) (h9 : RdS k_T_api_Head G A9 c9 x.f_Heads) (h10 : RdS k_T_api_Key G A10 c10 x.f_Keys) (h11 : RdS (kShr G k_T_api_Lsa) G A11 c11 x.f_Lsas) : k_T_api_Packet.rd G [.int .i64 x.f_Kind, .int .i64 x.f_Router, .int .i64 x.f_Bits, .int .i64 x.f_Prio, .int .i64 x.f_Dr, .int .i64 x.f_Bdr, .slice A6 x.f_Seen.length c6, .int .i64 x.f_Flags, .int .i64 x.f_Seq, .slice A9 x.f_Heads.length c9, .slice A10 x.f_Keys.length c10, .slice A11 x.f_Lsas.length c11] x :=
  ⟨_, _, rfl, rfl, ⟨_, _, rfl, rfl, ⟨_, _, rfl, rfl, ⟨_, _, rfl, rfl, ⟨_, _, rfl, rfl, ⟨_, _, rfl, rfl, ⟨_, _, rfl, ⟨_, _, rfl, h6⟩, ⟨_, _, rfl, rfl, ⟨_, _, rfl, rfl, ⟨_, _, rfl, ⟨_, _, rfl, h9⟩, ⟨_, _, rfl, ⟨_, _, rfl, h10⟩, ⟨_, _, rfl, h11⟩⟩⟩⟩⟩⟩⟩⟩⟩⟩⟩⟩
structure T_pair_Pair where
  f_self : Int
  f_other : Int
  f_seq : Int
  f_state : Int
  f_master : Bool
  f_last : T_api_Packet
  f_heads : List T_api_Head
  f_wants : List T_api_Head
  f_left : Int
  f_flags : Int
  f_number : Int
  deriving Inhabited, DecidableEq
def k_T_pair_Pair : Kd T_pair_Pair := kIso (kPair (kInt .i64) (kPair (kInt .i64) (kPair (kInt .i64) (kPair (kInt .i64) (kPair kBool (kPair k_T_api_Packet (kPair (kSl k_T_api_Head) (kPair (kSl k_T_api_Head) (kPair (kInt .i64) (kPair (kInt .i64) (kInt .i64))))))))))) (fun x => (x.f_self, x.f_other, x.f_seq, x.f_state, x.f_master, x.f_last, x.f_heads, x.f_wants, x.f_left, x.f_flags, x.f_number))
theorem rd_T_pair_Pair {G : Hp} {cs : List Value} {x : T_pair_Pair} (h : k_T_pair_Pair.rd G cs x) : ∃ (A11 : Option Addr) (c11 : Nat) (A14 : Option Addr) (c14 : Nat) (A15 : Option Addr) (c15 : Nat) (A16 : Option Addr) (c16 : Nat) (A17 : Option Addr) (c17 : Nat) (A18 : Option Addr) (c18 : Nat), cs = [.int .i64 x.f_self, .int .i64 x.f_other, .int .i64 x.f_seq, .int .i64 x.f_state, .bool x.f_master, .int .i64 x.f_last.f_Kind, .int .i64 x.f_last.f_Router, .int .i64 x.f_last.f_Bits, .int .i64 x.f_last.f_Prio, .int .i64 x.f_last.f_Dr, .int .i64 x.f_last.f_Bdr, .slice A11 x.f_last.f_Seen.length c11, .int .i64 x.f_last.f_Flags, .int .i64 x.f_last.f_Seq, .slice A14 x.f_last.f_Heads.length c14, .slice A15 x.f_last.f_Keys.length c15, .slice A16 x.f_last.f_Lsas.length c16, .slice A17 x.f_heads.length c17, .slice A18 x.f_wants.length c18, .int .i64 x.f_left, .int .i64 x.f_flags, .int .i64 x.f_number] ∧ RdS (kInt .i64) G A11 c11 x.f_last.f_Seen ∧ RdS k_T_api_Head G A14 c14 x.f_last.f_Heads ∧ RdS k_T_api_Key G A15 c15 x.f_last.f_Keys ∧ RdS (kShr G k_T_api_Lsa) G A16 c16 x.f_last.f_Lsas ∧ RdS k_T_api_Head G A17 c17 x.f_heads ∧ RdS k_T_api_Head G A18 c18 x.f_wants := by
  obtain ⟨_, _, rfl, rfl, ⟨_, _, rfl, rfl, ⟨_, _, rfl, rfl, ⟨_, _, rfl, rfl, ⟨_, _, rfl, rfl, ⟨_, _, rfl, ⟨_, _, rfl, rfl, ⟨_, _, rfl, rfl, ⟨_, _, rfl, rfl, ⟨_, _, rfl, rfl, ⟨_, _, rfl, rfl, ⟨_, _, rfl, rfl, ⟨_, _, rfl, ⟨A11, c11, rfl, h11⟩, ⟨_, _, rfl, rfl, ⟨_, _, rfl, rfl, ⟨_, _, rfl, ⟨A14, c14, rfl, h14⟩, ⟨_, _, rfl, ⟨A15, c15, rfl, h15⟩, ⟨A16, c16, rfl, h16⟩⟩⟩⟩⟩⟩⟩⟩⟩⟩⟩⟩, ⟨_, _, rfl, ⟨A17, c17, rfl, h17⟩, ⟨_, _, rfl, ⟨A18, c18, rfl, h18⟩, ⟨_, _, rfl, rfl, ⟨_, _, rfl, rfl, rfl⟩⟩⟩⟩⟩⟩⟩⟩⟩⟩ := h
  exact ⟨A11, c11, A14, c14, A15, c15, A16, c16, A17, c17, A18, c18, rfl, h11, h14, h15, h16, h17, h18⟩
theorem mk_T_pair_Pair {G : Hp} {x : T_pair_Pair} {A11 : Option Addr} {c11 : Nat} {A14 : Option Addr} {c14 : Nat} {A15 : Option Addr} {c15 : Nat} {A16 : Option Addr} {c16 : Nat} {A17 : Option Addr} {c17 : Nat} {A18 : Option Addr} {c18 : Nat} (h11 : RdS (kInt .i64) G A11 c11 x.f_last.f_Seen) (h14 : RdS k_T_api_Head G A14 c14 x.f_last.f_Heads) (h15 : RdS k_T_api_Key G A15 c15 x.f_last.f_Keys) (h16 : RdS (kShr G k_T_api_Lsa) G A16 c16 x.f_last.f_Lsas) (h17 : RdS k_T_api_Head G A17 c17 x.f_heads) (h18 : RdS k_T_api_Head G A18 c18 x.f_wants) : k_T_pair_Pair.rd G [.int .i64 x.f_self, .int .i64 x.f_other, .int .i64 x.f_seq, .int .i64 x.f_state, .bool x.f_master, .int .i64 x.f_last.f_Kind, .int .i64 x.f_last.f_Router, .int .i64 x.f_last.f_Bits, .int .i64 x.f_last.f_Prio, .int .i64 x.f_last.f_Dr, .int .i64 x.f_last.f_Bdr, .slice A11 x.f_last.f_Seen.length c11, .int .i64 x.f_last.f_Flags, .int .i64 x.f_last.f_Seq, .slice A14 x.f_last.f_Heads.length c14, .slice A15 x.f_last.f_Keys.length c15, .slice A16 x.f_last.f_Lsas.length c16, .slice A17 x.f_heads.length c17, .slice A18 x.f_wants.length c18, .int .i64 x.f_left, .int .i64 x.f_flags, .int .i64 x.f_number] x :=
  ⟨_, _, rfl, rfl, ⟨_, _, rfl, rfl, ⟨_, _, rfl, rfl, ⟨_, _, rfl, rfl, ⟨_, _, rfl, rfl, ⟨_, _, rfl, ⟨_, _, rfl, rfl, ⟨_, _, rfl, rfl, ⟨_, _, rfl, rfl, ⟨_, _, rfl, rfl, ⟨_, _, rfl, rfl, ⟨_, _, rfl, rfl, ⟨_, _, rfl, ⟨_, _, rfl, h11⟩, ⟨_, _, rfl, rfl, ⟨_, _, rfl, rfl, ⟨_, _, rfl, ⟨_, _, rfl, h14⟩, ⟨_, _, rfl, ⟨_, _, rfl, h15⟩, ⟨_, _, rfl, h16⟩⟩⟩⟩⟩⟩⟩⟩⟩⟩⟩⟩, ⟨_, _, rfl, ⟨_, _, rfl, h17⟩, ⟨_, _, rfl, ⟨_, _, rfl, h18⟩, ⟨_, _, rfl, rfl, ⟨_, _, rfl, rfl, rfl⟩⟩⟩⟩⟩⟩⟩⟩⟩⟩
def fs27 : Array Field := #[Field.mk "Kind" 3 0 false "" "" 0, Field.mk "Router" 3 1 false "" "" 8, Field.mk "Bits" 3 2 false "" "" 16, Field.mk "Prio" 3 3 false "" "" 24, Field.mk "Dr" 3 4 false "" "" 32, Field.mk "Bdr" 3 5 false "" "" 40, Field.mk "Seen" 22 6 false "" "" 48, Field.mk "Flags" 3 7 false "" "" 72, Field.mk "Seq" 3 8 false "" "" 80, Field.mk "Heads" 23 9 false "" "" 88, Field.mk "Keys" 24 10 false "" "" 112, Field.mk "Lsas" 25 11 false "" "" 136]
def ds27 : TypeDesc := .struct fs27
def fs29 : Array Field := #[Field.mk "Age" 3 0 false "" "" 0, Field.mk "Kind" 3 1 false "" "" 8, Field.mk "Id" 3 2 false "" "" 16, Field.mk "Adv" 3 3 false "" "" 24, Field.mk "Seq" 3 4 false "" "" 32, Field.mk "Sum" 3 5 false "" "" 40, Field.mk "Len" 3 6 false "" "" 48]
def ds29 : TypeDesc := .struct fs29
def fs42 : Array Field := #[Field.mk "self" 3 0 false "" "plenum/pair" 0, Field.mk "other" 3 1 false "" "plenum/pair" 8, Field.mk "seq" 3 2 false "" "plenum/pair" 16, Field.mk "state" 3 3 false "" "plenum/pair" 24, Field.mk "master" 4 4 false "" "plenum/pair" 32, Field.mk "last" 27 5 false "" "plenum/pair" 40, Field.mk "heads" 23 17 false "" "plenum/pair" 200, Field.mk "wants" 23 18 false "" "plenum/pair" 224, Field.mk "left" 3 19 false "" "plenum/pair" 248, Field.mk "flags" 3 20 false "" "plenum/pair" 256, Field.mk "number" 3 21 false "" "plenum/pair" 264]
def ds42 : TypeDesc := .struct fs42
def fs51 : Array Field := #[Field.mk "Kind" 3 0 false "" "" 0, Field.mk "Id" 3 1 false "" "" 8, Field.mk "Adv" 3 2 false "" "" 16]
def ds51 : TypeDesc := .struct fs51
def fs69 : Array Field := #[Field.mk "Head" 29 0 false "" "" 0, Field.mk "Flags" 3 7 false "" "" 56, Field.mk "Links" 66 8 false "" "" 64, Field.mk "Bits" 3 9 false "" "" 88, Field.mk "Routers" 22 10 false "" "" 96, Field.mk "Verts" 67 11 false "" "" 120]
def ds69 : TypeDesc := .struct fs69
def fs90 : Array Field := #[Field.mk "Kind" 3 0 false "" "" 0, Field.mk "Id" 3 1 false "" "" 8, Field.mk "Data" 3 2 false "" "" 16, Field.mk "Cost" 3 3 false "" "" 24]
def ds90 : TypeDesc := .struct fs90
def fs94 : Array Field := #[Field.mk "Kind" 3 0 false "" "" 0, Field.mk "Id" 3 1 false "" "" 8]
def ds94 : TypeDesc := .struct fs94
theorem eg29 : Try.prog.eqGuardType Try.prog.depth 29 = false := by kernel_rfl
theorem eg51 : Try.prog.eqGuardType Try.prog.depth 51 = false := by kernel_rfl
theorem eg90 : Try.prog.eqGuardType Try.prog.depth 90 = false := by kernel_rfl
theorem eg94 : Try.prog.eqGuardType Try.prog.depth 94 = false := by kernel_rfl
theorem eq_T_api_Head (x y : T_api_Head) : ((x.f_Age == y.f_Age) && ((x.f_Kind == y.f_Kind) && ((x.f_Id == y.f_Id) && ((x.f_Adv == y.f_Adv) && ((x.f_Seq == y.f_Seq) && ((x.f_Sum == y.f_Sum) && ((x.f_Len == y.f_Len) && (true)))))))) = decide (x = y) := by
  obtain ⟨v1, v2, v3, v4, v5, v6, v7⟩ := x
  obtain ⟨v8, v9, v10, v11, v12, v13, v14⟩ := y
  rw [Bool.eq_iff_iff]
  simp [bytes_eq, and_assoc]
theorem eq_T_api_Key (x y : T_api_Key) : ((x.f_Kind == y.f_Kind) && ((x.f_Id == y.f_Id) && ((x.f_Adv == y.f_Adv) && (true)))) = decide (x = y) := by
  obtain ⟨v1, v2, v3⟩ := x
  obtain ⟨v4, v5, v6⟩ := y
  rw [Bool.eq_iff_iff]
  simp [bytes_eq, and_assoc]
theorem eq_T_api_Link (x y : T_api_Link) : ((x.f_Kind == y.f_Kind) && ((x.f_Id == y.f_Id) && ((x.f_Data == y.f_Data) && ((x.f_Cost == y.f_Cost) && (true))))) = decide (x = y) := by
  obtain ⟨v1, v2, v3, v4⟩ := x
  obtain ⟨v5, v6, v7, v8⟩ := y
  rw [Bool.eq_iff_iff]
  simp [bytes_eq, and_assoc]
theorem eq_T_api_Vert (x y : T_api_Vert) : ((x.f_Kind == y.f_Kind) && ((x.f_Id == y.f_Id) && (true))) = decide (x = y) := by
  obtain ⟨v1, v2⟩ := x
  obtain ⟨v3, v4⟩ := y
  rw [Bool.eq_iff_iff]
  simp [bytes_eq, and_assoc]
theorem isf10 : IsF Try.prog 10 := IsF.mk Try.func10 rfl rfl
theorem isf11 : IsF Try.prog 11 := IsF.mk Try.func11 rfl rfl
theorem isf12 : IsF Try.prog 12 := IsF.mk Try.func12 rfl rfl
theorem isf15 : IsF Try.prog 15 := IsF.mk Try.func15 rfl rfl
theorem isf16 : IsF Try.prog 16 := IsF.mk Try.func16 rfl rfl
theorem isf23 : IsF Try.prog 23 := IsF.mk Try.func23 rfl rfl
theorem isf24 : IsF Try.prog 24 := IsF.mk Try.func24 rfl rfl
theorem isf25 : IsF Try.prog 25 := IsF.mk Try.func25 rfl rfl
theorem isf26 : IsF Try.prog 26 := IsF.mk Try.func26 rfl rfl
theorem isf27 : IsF Try.prog 27 := IsF.mk Try.func27 rfl rfl
theorem isf31 : IsF Try.prog 31 := IsF.mk Try.func31 rfl rfl
theorem isf32 : IsF Try.prog 32 := IsF.mk Try.func32 rfl rfl
theorem isf35 : IsF Try.prog 35 := IsF.mk Try.func35 rfl rfl
theorem isf4 : IsF Try.prog 4 := IsF.mk Try.func4 rfl rfl
theorem isf44 : IsF Try.prog 44 := IsF.mk Try.func44 rfl rfl
theorem isf5 : IsF Try.prog 5 := IsF.mk Try.func5 rfl rfl
theorem isf52 : IsF Try.prog 52 := IsF.mk Try.func52 rfl rfl
theorem isf6 : IsF Try.prog 6 := IsF.mk Try.func6 rfl rfl
theorem isf7 : IsF Try.prog 7 := IsF.mk Try.func7 rfl rfl
theorem isf8 : IsF Try.prog 8 := IsF.mk Try.func8 rfl rfl
theorem isf9 : IsF Try.prog 9 := IsF.mk Try.func9 rfl rfl
theorem fa27_0 {E : List (Nat × Value)} {w : World} {x : Operand} {g o : Nat} (hx : lv E x = some (.pointer (some ⟨g, o, none⟩))) : Run Try.prog E w (.fieldAddr 27 x 0) (.pointer (some ⟨g, o + 0, none⟩)) := fa (sz := 0) hx Try.underlying27 rfl rfl (by kernel_rfl)
theorem fa27_1 {E : List (Nat × Value)} {w : World} {x : Operand} {g o : Nat} (hx : lv E x = some (.pointer (some ⟨g, o, none⟩))) : Run Try.prog E w (.fieldAddr 27 x 1) (.pointer (some ⟨g, o + 1, none⟩)) := fa (sz := 0) hx Try.underlying27 rfl rfl (by kernel_rfl)
theorem fa27_10 {E : List (Nat × Value)} {w : World} {x : Operand} {g o : Nat} (hx : lv E x = some (.pointer (some ⟨g, o, none⟩))) : Run Try.prog E w (.fieldAddr 27 x 10) (.pointer (some ⟨g, o + 10, none⟩)) := fa (sz := 0) hx Try.underlying27 rfl rfl (by kernel_rfl)
theorem fa27_11 {E : List (Nat × Value)} {w : World} {x : Operand} {g o : Nat} (hx : lv E x = some (.pointer (some ⟨g, o, none⟩))) : Run Try.prog E w (.fieldAddr 27 x 11) (.pointer (some ⟨g, o + 11, none⟩)) := fa (sz := 0) hx Try.underlying27 rfl rfl (by kernel_rfl)
theorem fa27_2 {E : List (Nat × Value)} {w : World} {x : Operand} {g o : Nat} (hx : lv E x = some (.pointer (some ⟨g, o, none⟩))) : Run Try.prog E w (.fieldAddr 27 x 2) (.pointer (some ⟨g, o + 2, none⟩)) := fa (sz := 0) hx Try.underlying27 rfl rfl (by kernel_rfl)
theorem fa27_3 {E : List (Nat × Value)} {w : World} {x : Operand} {g o : Nat} (hx : lv E x = some (.pointer (some ⟨g, o, none⟩))) : Run Try.prog E w (.fieldAddr 27 x 3) (.pointer (some ⟨g, o + 3, none⟩)) := fa (sz := 0) hx Try.underlying27 rfl rfl (by kernel_rfl)
theorem fa27_4 {E : List (Nat × Value)} {w : World} {x : Operand} {g o : Nat} (hx : lv E x = some (.pointer (some ⟨g, o, none⟩))) : Run Try.prog E w (.fieldAddr 27 x 4) (.pointer (some ⟨g, o + 4, none⟩)) := fa (sz := 0) hx Try.underlying27 rfl rfl (by kernel_rfl)
theorem fa27_5 {E : List (Nat × Value)} {w : World} {x : Operand} {g o : Nat} (hx : lv E x = some (.pointer (some ⟨g, o, none⟩))) : Run Try.prog E w (.fieldAddr 27 x 5) (.pointer (some ⟨g, o + 5, none⟩)) := fa (sz := 0) hx Try.underlying27 rfl rfl (by kernel_rfl)
theorem fa27_6 {E : List (Nat × Value)} {w : World} {x : Operand} {g o : Nat} (hx : lv E x = some (.pointer (some ⟨g, o, none⟩))) : Run Try.prog E w (.fieldAddr 27 x 6) (.pointer (some ⟨g, o + 6, none⟩)) := fa (sz := 0) hx Try.underlying27 rfl rfl (by kernel_rfl)
theorem fa27_7 {E : List (Nat × Value)} {w : World} {x : Operand} {g o : Nat} (hx : lv E x = some (.pointer (some ⟨g, o, none⟩))) : Run Try.prog E w (.fieldAddr 27 x 7) (.pointer (some ⟨g, o + 7, none⟩)) := fa (sz := 0) hx Try.underlying27 rfl rfl (by kernel_rfl)
theorem fa27_8 {E : List (Nat × Value)} {w : World} {x : Operand} {g o : Nat} (hx : lv E x = some (.pointer (some ⟨g, o, none⟩))) : Run Try.prog E w (.fieldAddr 27 x 8) (.pointer (some ⟨g, o + 8, none⟩)) := fa (sz := 0) hx Try.underlying27 rfl rfl (by kernel_rfl)
theorem fa27_9 {E : List (Nat × Value)} {w : World} {x : Operand} {g o : Nat} (hx : lv E x = some (.pointer (some ⟨g, o, none⟩))) : Run Try.prog E w (.fieldAddr 27 x 9) (.pointer (some ⟨g, o + 9, none⟩)) := fa (sz := 0) hx Try.underlying27 rfl rfl (by kernel_rfl)
theorem fa29_1 {E : List (Nat × Value)} {w : World} {x : Operand} {g o : Nat} (hx : lv E x = some (.pointer (some ⟨g, o, none⟩))) : Run Try.prog E w (.fieldAddr 29 x 1) (.pointer (some ⟨g, o + 1, none⟩)) := fa (sz := 0) hx Try.underlying29 rfl rfl (by kernel_rfl)
theorem fa42_0 {E : List (Nat × Value)} {w : World} {x : Operand} {g o : Nat} (hx : lv E x = some (.pointer (some ⟨g, o, none⟩))) : Run Try.prog E w (.fieldAddr 42 x 0) (.pointer (some ⟨g, o + 0, none⟩)) := fa (sz := 0) hx Try.underlying42 rfl rfl (by kernel_rfl)
theorem fa42_1 {E : List (Nat × Value)} {w : World} {x : Operand} {g o : Nat} (hx : lv E x = some (.pointer (some ⟨g, o, none⟩))) : Run Try.prog E w (.fieldAddr 42 x 1) (.pointer (some ⟨g, o + 1, none⟩)) := fa (sz := 0) hx Try.underlying42 rfl rfl (by kernel_rfl)
theorem fa42_2 {E : List (Nat × Value)} {w : World} {x : Operand} {g o : Nat} (hx : lv E x = some (.pointer (some ⟨g, o, none⟩))) : Run Try.prog E w (.fieldAddr 42 x 2) (.pointer (some ⟨g, o + 2, none⟩)) := fa (sz := 0) hx Try.underlying42 rfl rfl (by kernel_rfl)
theorem fa42_3 {E : List (Nat × Value)} {w : World} {x : Operand} {g o : Nat} (hx : lv E x = some (.pointer (some ⟨g, o, none⟩))) : Run Try.prog E w (.fieldAddr 42 x 3) (.pointer (some ⟨g, o + 3, none⟩)) := fa (sz := 0) hx Try.underlying42 rfl rfl (by kernel_rfl)
theorem fa42_5 {E : List (Nat × Value)} {w : World} {x : Operand} {g o : Nat} (hx : lv E x = some (.pointer (some ⟨g, o, none⟩))) : Run Try.prog E w (.fieldAddr 42 x 5) (.pointer (some ⟨g, o + 5, none⟩)) := fa (sz := 11) hx Try.underlying42 rfl rfl (by kernel_rfl)
theorem fa42_8 {E : List (Nat × Value)} {w : World} {x : Operand} {g o : Nat} (hx : lv E x = some (.pointer (some ⟨g, o, none⟩))) : Run Try.prog E w (.fieldAddr 42 x 8) (.pointer (some ⟨g, o + 19, none⟩)) := fa (sz := 0) hx Try.underlying42 rfl rfl (by kernel_rfl)
theorem fa69_0 {E : List (Nat × Value)} {w : World} {x : Operand} {g o : Nat} (hx : lv E x = some (.pointer (some ⟨g, o, none⟩))) : Run Try.prog E w (.fieldAddr 69 x 0) (.pointer (some ⟨g, o + 0, none⟩)) := fa (sz := 6) hx Try.underlying69 rfl rfl (by kernel_rfl)
theorem fa69_1 {E : List (Nat × Value)} {w : World} {x : Operand} {g o : Nat} (hx : lv E x = some (.pointer (some ⟨g, o, none⟩))) : Run Try.prog E w (.fieldAddr 69 x 1) (.pointer (some ⟨g, o + 7, none⟩)) := fa (sz := 0) hx Try.underlying69 rfl rfl (by kernel_rfl)
theorem fa69_2 {E : List (Nat × Value)} {w : World} {x : Operand} {g o : Nat} (hx : lv E x = some (.pointer (some ⟨g, o, none⟩))) : Run Try.prog E w (.fieldAddr 69 x 2) (.pointer (some ⟨g, o + 8, none⟩)) := fa (sz := 0) hx Try.underlying69 rfl rfl (by kernel_rfl)
theorem fa69_3 {E : List (Nat × Value)} {w : World} {x : Operand} {g o : Nat} (hx : lv E x = some (.pointer (some ⟨g, o, none⟩))) : Run Try.prog E w (.fieldAddr 69 x 3) (.pointer (some ⟨g, o + 9, none⟩)) := fa (sz := 0) hx Try.underlying69 rfl rfl (by kernel_rfl)
theorem fa69_4 {E : List (Nat × Value)} {w : World} {x : Operand} {g o : Nat} (hx : lv E x = some (.pointer (some ⟨g, o, none⟩))) : Run Try.prog E w (.fieldAddr 69 x 4) (.pointer (some ⟨g, o + 10, none⟩)) := fa (sz := 0) hx Try.underlying69 rfl rfl (by kernel_rfl)
theorem fa69_5 {E : List (Nat × Value)} {w : World} {x : Operand} {g o : Nat} (hx : lv E x = some (.pointer (some ⟨g, o, none⟩))) : Run Try.prog E w (.fieldAddr 69 x 5) (.pointer (some ⟨g, o + 11, none⟩)) := fa (sz := 0) hx Try.underlying69 rfl rfl (by kernel_rfl)
theorem mo_ : Try.prog.follows .mixedOrders = true := by kernel_rfl
theorem pl27 : PL Try.prog 27 fs27 [(0, 1), (1, 1), (2, 1), (3, 1), (4, 1), (5, 1), (6, 1), (7, 1), (8, 1), (9, 1), (10, 1), (11, 1)] := ⟨Try.underlying27, by kernel_rfl⟩
theorem pl42 : PL Try.prog 42 fs42 [(0, 1), (1, 1), (2, 1), (3, 1), (4, 1), (5, 12), (17, 1), (18, 1), (19, 1), (20, 1), (21, 1)] := ⟨Try.underlying42, by kernel_rfl⟩
theorem sh29 : Try.prog.stoodInHeld 29 = false := by kernel_rfl
theorem sh51 : Try.prog.stoodInHeld 51 = false := by kernel_rfl
theorem sh90 : Try.prog.stoodInHeld 90 = false := by kernel_rfl
theorem sh94 : Try.prog.stoodInHeld 94 = false := by kernel_rfl
theorem ti23 : TI Try.prog 23 (.slice 29) (.slice none 0 0) 1 24 := TI.mk' Try.underlying23 (by kernel_rfl)
theorem ti27 : TI Try.prog 27 ds27 (.agg [(.int .i64 0), (.int .i64 0), (.int .i64 0), (.int .i64 0), (.int .i64 0), (.int .i64 0), (.slice none 0 0), (.int .i64 0), (.int .i64 0), (.slice none 0 0), (.slice none 0 0), (.slice none 0 0)].toArray) 12 160 := TI.mk' Try.underlying27 (by kernel_rfl)
theorem ti29 : TI Try.prog 29 ds29 (.agg [(.int .i64 0), (.int .i64 0), (.int .i64 0), (.int .i64 0), (.int .i64 0), (.int .i64 0), (.int .i64 0)].toArray) 7 56 := TI.mk' Try.underlying29 (by kernel_rfl)
theorem ti3 : TI Try.prog 3 (.int .i64) (.int .i64 0) 1 8 := TI.mk' Try.underlying3 (by kernel_rfl)
theorem ti42 : TI Try.prog 42 ds42 (.agg [(.int .i64 0), (.int .i64 0), (.int .i64 0), (.int .i64 0), (.bool false), (.int .i64 0), (.int .i64 0), (.int .i64 0), (.int .i64 0), (.int .i64 0), (.int .i64 0), (.slice none 0 0), (.int .i64 0), (.int .i64 0), (.slice none 0 0), (.slice none 0 0), (.slice none 0 0), (.slice none 0 0), (.slice none 0 0), (.int .i64 0), (.int .i64 0), (.int .i64 0)].toArray) 22 272 := TI.mk' Try.underlying42 (by kernel_rfl)
theorem ti51 : TI Try.prog 51 ds51 (.agg [(.int .i64 0), (.int .i64 0), (.int .i64 0)].toArray) 3 24 := TI.mk' Try.underlying51 (by kernel_rfl)
theorem ti69 : TI Try.prog 69 ds69 (.agg [(.int .i64 0), (.int .i64 0), (.int .i64 0), (.int .i64 0), (.int .i64 0), (.int .i64 0), (.int .i64 0), (.int .i64 0), (.slice none 0 0), (.int .i64 0), (.slice none 0 0), (.slice none 0 0)].toArray) 12 144 := TI.mk' Try.underlying69 (by kernel_rfl)
theorem ti90 : TI Try.prog 90 ds90 (.agg [(.int .i64 0), (.int .i64 0), (.int .i64 0), (.int .i64 0)].toArray) 4 32 := TI.mk' Try.underlying90 (by kernel_rfl)
theorem ti94 : TI Try.prog 94 ds94 (.agg [(.int .i64 0), (.int .i64 0)].toArray) 2 16 := TI.mk' Try.underlying94 (by kernel_rfl)

/-! ### (*plenum/pair.Pair).Tick (function 4) -/
abbrev f_pair_Pair_Tick_nil.R := T_api_Packet × Bool
noncomputable def f_pair_Pair_Tick_nil : Option f_pair_Pair_Tick_nil.R := some ((⟨0, 0, 0, 0, 0, 0, [], 0, 0, [], [], []⟩ : T_api_Packet), false)
set_option maxHeartbeats 1000000 in
theorem f_pair_Pair_Tick_nil.ok {z w : World} {F G : Hp} (hG : G ⊆ F) {r : f_pair_Pair_Tick_nil.R} (H : f_pair_Pair_Tick_nil = some r) (HF : Fits z w F) :
    Calls Try.prog 4 [.pointer none].toArray w fun e w' => ∃ (N : Hp) (A0 : Option Addr) (c0 : Nat) (A2 : Option Addr) (c2 : Nat) (A4 : Option Addr) (c4 : Nat) (A6 : Option Addr) (c6 : Nat), e = .returned (.tuple #[.agg [.int .i64 r.1.f_Kind, .int .i64 r.1.f_Router, .int .i64 r.1.f_Bits, .int .i64 r.1.f_Prio, .int .i64 r.1.f_Dr, .int .i64 r.1.f_Bdr, .slice A0 r.1.f_Seen.length c0, .int .i64 r.1.f_Flags, .int .i64 r.1.f_Seq, .slice A2 r.1.f_Heads.length c2, .slice A4 r.1.f_Keys.length c4, .slice A6 r.1.f_Lsas.length c6].toArray, .bool r.2]) ∧ Fits z w' (N ++ F) ∧ RdS (kInt .i64) (N ++ G) A0 c0 r.1.f_Seen ∧ RdS k_T_api_Head (N ++ G) A2 c2 r.1.f_Heads ∧ RdS k_T_api_Key (N ++ G) A4 c4 r.1.f_Keys ∧ RdS (kShr (N ++ G) k_T_api_Lsa) (N ++ G) A6 c6 r.1.f_Lsas := by
  unfold f_pair_Pair_Tick_nil at H
  refine enter0 Try.func4 rfl Try.ntmps4 rfl (E := [(0, .pointer none)]) rfl ?_
  refine cSeq (fun K1 hK1 => ?_)
  refine cRgn [] trivial ?_
  refine eW (oAlloc HF ti27) rfl ?_
  rintro _ w1 ⟨g1, rfl, HF1⟩
  refine sL (asg rfl) rfl ?_
  refine lEnd (K := fun _ _ => True) ?_
  refine kN (?_)
  refine hK1 _ _ ?_
  refine cSeq (fun K2 hK2 => ?_)
  refine cSeq (fun K3 hK3 => ?_)
  refine cRgn [] trivial ?_
  refine sL (mv rfl) rfl ?_
  refine sL (bPEql0 rfl rfl Try.underlying30) rfl ?_
  refine lEnd (K := fun _ _ => True) ?_
  refine kN (?_)
  refine hK3 _ _ ?_
  refine cT rfl ?_
  refine cSeq (fun K4 hK4 => ?_)
  refine cRgn [] trivial ?_
  refine sL (bd (r := [.int .i64 0, .int .i64 0, .int .i64 0, .int .i64 0, .int .i64 0, .int .i64 0, .slice none 0 0, .int .i64 0, .int .i64 0, .slice none 0 0, .slice none 0 0, .slice none 0 0]) pl27 ti27 rfl rfl) rfl ?_
  refine eS (oSt (l1 := [.int .i64 0, .int .i64 0, .int .i64 0, .int .i64 0, .int .i64 0, .int .i64 0, .slice none 0 0, .int .i64 0, .int .i64 0, .slice none 0 0, .slice none 0 0, .slice none 0 0]) HF1 rfl rfl ti27 rfl (ones rfl) (Nat.le_of_ble_eq_true rfl) rfl) ?_
  rintro w2 HF2
  refine sL (asg rfl) rfl ?_
  refine lEnd (K := fun _ _ => True) ?_
  refine kN (?_)
  refine hK4 _ _ ?_
  refine cRet ?_
  obtain rfl := Option.some.inj H
  refine kR (?_)
  refine retB rfl (rvC rfl (lvA (cs := [.int .i64 0, .int .i64 0, .int .i64 0, .int .i64 0, .int .i64 0, .int .i64 0, .slice none 0 0, .int .i64 0, .int .i64 0, .slice none 0 0, .slice none 0 0, .slice none 0 0]) ti27 rfl rfl (HF2.boxes (o := 0) (n := 12) (mem_h) rfl))) rfl ?_
  have HF3 := HF2.sublist (sl_dc (List.Sublist.refl _))
  exact ⟨[], _, _, _, _, _, _, _, _, rfl, HF3, RdS.nil, RdS.nil, RdS.nil, RdS.nil⟩

/-! ### (*plenum/pair.Pair).Take (function 5) -/
abbrev f_pair_Pair_Take_nil_nil.R := T_api_Packet × Bool
noncomputable def f_pair_Pair_Take_nil_nil (a1 : T_api_Packet) : Option f_pair_Pair_Take_nil_nil.R := some ((⟨0, 0, 0, 0, 0, 0, [], 0, 0, [], [], []⟩ : T_api_Packet), false)
set_option maxHeartbeats 1000000 in
theorem f_pair_Pair_Take_nil_nil.ok {z w : World} {F G : Hp} (hG : G ⊆ F) {a1 : T_api_Packet} {A_a1_6 : Option Addr} {c_a1_6 : Nat} {X_a1_6 : Hp} {A_a1_9 : Option Addr} {c_a1_9 : Nat} {X_a1_9 : Hp} {A_a1_10 : Option Addr} {c_a1_10 : Nat} {X_a1_10 : Hp} {A_a1_11 : Option Addr} {c_a1_11 : Nat} {X_a1_11 : Hp} {r : f_pair_Pair_Take_nil_nil.R} (H : f_pair_Pair_Take_nil_nil a1 = some r) (HF : Fits z w F) (hX_a1_6 : X_a1_6 ⊆ F) (hr_a1_6 : RdS (kInt .i64) X_a1_6 A_a1_6 c_a1_6 a1.f_Seen) (hX_a1_9 : X_a1_9 ⊆ F) (hr_a1_9 : RdS k_T_api_Head X_a1_9 A_a1_9 c_a1_9 a1.f_Heads) (hX_a1_10 : X_a1_10 ⊆ F) (hr_a1_10 : RdS k_T_api_Key X_a1_10 A_a1_10 c_a1_10 a1.f_Keys) (hX_a1_11 : X_a1_11 ⊆ F) (hr_a1_11 : RdS (kShr G k_T_api_Lsa) X_a1_11 A_a1_11 c_a1_11 a1.f_Lsas) :
    Calls Try.prog 5 [.pointer none, .agg [.int .i64 a1.f_Kind, .int .i64 a1.f_Router, .int .i64 a1.f_Bits, .int .i64 a1.f_Prio, .int .i64 a1.f_Dr, .int .i64 a1.f_Bdr, .slice A_a1_6 a1.f_Seen.length c_a1_6, .int .i64 a1.f_Flags, .int .i64 a1.f_Seq, .slice A_a1_9 a1.f_Heads.length c_a1_9, .slice A_a1_10 a1.f_Keys.length c_a1_10, .slice A_a1_11 a1.f_Lsas.length c_a1_11].toArray, .pointer none].toArray w fun e w' => ∃ (N : Hp) (A0 : Option Addr) (c0 : Nat) (A2 : Option Addr) (c2 : Nat) (A4 : Option Addr) (c4 : Nat) (A6 : Option Addr) (c6 : Nat), e = .returned (.tuple #[.agg [.int .i64 r.1.f_Kind, .int .i64 r.1.f_Router, .int .i64 r.1.f_Bits, .int .i64 r.1.f_Prio, .int .i64 r.1.f_Dr, .int .i64 r.1.f_Bdr, .slice A0 r.1.f_Seen.length c0, .int .i64 r.1.f_Flags, .int .i64 r.1.f_Seq, .slice A2 r.1.f_Heads.length c2, .slice A4 r.1.f_Keys.length c4, .slice A6 r.1.f_Lsas.length c6].toArray, .bool r.2]) ∧ Fits z w' (N ++ F) ∧ RdS (kInt .i64) (N ++ G) A0 c0 r.1.f_Seen ∧ RdS k_T_api_Head (N ++ G) A2 c2 r.1.f_Heads ∧ RdS k_T_api_Key (N ++ G) A4 c4 r.1.f_Keys ∧ RdS (kShr (N ++ G) k_T_api_Lsa) (N ++ G) A6 c6 r.1.f_Lsas := by
  unfold f_pair_Pair_Take_nil_nil at H
  refine enter0 Try.func5 rfl Try.ntmps5 rfl (E := [(0, .pointer none), (1, .agg [.int .i64 a1.f_Kind, .int .i64 a1.f_Router, .int .i64 a1.f_Bits, .int .i64 a1.f_Prio, .int .i64 a1.f_Dr, .int .i64 a1.f_Bdr, .slice A_a1_6 a1.f_Seen.length c_a1_6, .int .i64 a1.f_Flags, .int .i64 a1.f_Seq, .slice A_a1_9 a1.f_Heads.length c_a1_9, .slice A_a1_10 a1.f_Keys.length c_a1_10, .slice A_a1_11 a1.f_Lsas.length c_a1_11].toArray), (2, .pointer none)]) rfl ?_
  refine cSeq (fun K1 hK1 => ?_)
  refine cRgn [] trivial ?_
  refine eW (oBox HF rfl) rfl ?_
  rintro _ w1 ⟨g1, rfl, HF1⟩
  refine eW (oAlloc HF1 ti27) rfl ?_
  rintro _ w2 ⟨g2, rfl, HF2⟩
  refine sL (asg rfl) rfl ?_
  refine lEnd (K := fun _ _ => True) ?_
  refine kN (?_)
  refine hK1 _ _ ?_
  refine cSeq (fun K2 hK2 => ?_)
  refine cSeq (fun K3 hK3 => ?_)
  refine cRgn [(2, 12)] ⟨rfl, trivial⟩ ?_
  refine sL (mv rfl) rfl ?_
  refine sL (bPEql0 rfl rfl Try.underlying30) rfl ?_
  refine sL (mv rfl) rfl ?_
  refine sN rfl rfl rfl rfl ?_
  refine sN rfl rfl rfl rfl ?_
  refine sN rfl rfl rfl rfl ?_
  refine sL (pkT rfl rfl) rfl ?_
  refine lEnd (K := fun _ _ => True) ?_
  refine kN (?_)
  refine hK3 _ _ ?_
  refine cT rfl ?_
  refine cSeq (fun K4 hK4 => ?_)
  refine cRgn [] trivial ?_
  refine sL (bd (r := [.int .i64 0, .int .i64 0, .int .i64 0, .int .i64 0, .int .i64 0, .int .i64 0, .slice none 0 0, .int .i64 0, .int .i64 0, .slice none 0 0, .slice none 0 0, .slice none 0 0]) pl27 ti27 rfl rfl) rfl ?_
  refine eS (oSt (l1 := [.int .i64 0, .int .i64 0, .int .i64 0, .int .i64 0, .int .i64 0, .int .i64 0, .slice none 0 0, .int .i64 0, .int .i64 0, .slice none 0 0, .slice none 0 0, .slice none 0 0]) HF2 rfl rfl ti27 rfl (ones rfl) (Nat.le_of_ble_eq_true rfl) rfl) ?_
  rintro w3 HF3
  refine sL (asg rfl) rfl ?_
  refine lEnd (K := fun _ _ => True) ?_
  refine kN (?_)
  refine hK4 _ _ ?_
  refine cRet ?_
  obtain rfl := Option.some.inj H
  refine kR (?_)
  refine retB rfl (rvC rfl (lvA (cs := [.int .i64 0, .int .i64 0, .int .i64 0, .int .i64 0, .int .i64 0, .int .i64 0, .slice none 0 0, .int .i64 0, .int .i64 0, .slice none 0 0, .slice none 0 0, .slice none 0 0]) ti27 rfl rfl (HF3.boxes (o := 0) (n := 12) (mem_h) rfl))) rfl ?_
  have HF4 := HF3.sublist (sl_dc (sl_dc (List.Sublist.refl _)))
  exact ⟨[], _, _, _, _, _, _, _, _, rfl, HF4, RdS.nil, RdS.nil, RdS.nil, RdS.nil⟩

/-! ### (*plenum/pair.Pair).State (function 6) -/
abbrev f_pair_Pair_State_nil.R := Int
noncomputable def f_pair_Pair_State_nil : Option f_pair_Pair_State_nil.R := some 0
set_option maxHeartbeats 1000000 in
theorem f_pair_Pair_State_nil.ok {z w : World} {F : Hp} {r : f_pair_Pair_State_nil.R} (H : f_pair_Pair_State_nil = some r) (HF : Fits z w F) :
    Calls Try.prog 6 [.pointer none].toArray w fun e w' => e = .returned (.int .i64 r) ∧ Fits z w' F := by
  unfold f_pair_Pair_State_nil at H
  refine enter0 Try.func6 rfl Try.ntmps6 rfl (E := [(0, .pointer none)]) rfl ?_
  refine cSeq (fun K1 hK1 => ?_)
  refine cRgn [] trivial ?_
  refine sL (asg rfl) rfl ?_
  refine lEnd (K := fun _ _ => True) ?_
  refine kN (?_)
  refine hK1 _ _ ?_
  refine cSeq (fun K2 hK2 => ?_)
  refine cSeq (fun K3 hK3 => ?_)
  refine cRgn [] trivial ?_
  refine sL (mv rfl) rfl ?_
  refine sL (bPEql0 rfl rfl Try.underlying30) rfl ?_
  refine lEnd (K := fun _ _ => True) ?_
  refine kN (?_)
  refine hK3 _ _ ?_
  refine cT rfl ?_
  refine cSeq (fun K4 hK4 => ?_)
  refine cRgn [] trivial ?_
  refine sL (asg rfl) rfl ?_
  refine lEnd (K := fun _ _ => True) ?_
  refine kN (?_)
  refine hK4 _ _ ?_
  refine cRet ?_
  obtain rfl := Option.some.inj H
  refine kR (?_)
  refine ret1 rfl rfl ?_
  exact ⟨rfl, HF⟩

/-! ### (*plenum/pair.Pair).Wants (function 7) -/
abbrev f_pair_Pair_Wants_nil.R := List T_api_Key
noncomputable def f_pair_Pair_Wants_nil : Option f_pair_Pair_Wants_nil.R := some []
set_option maxHeartbeats 1000000 in
theorem f_pair_Pair_Wants_nil.ok {z w : World} {F : Hp} {r : f_pair_Pair_Wants_nil.R} (H : f_pair_Pair_Wants_nil = some r) (HF : Fits z w F) :
    Calls Try.prog 7 [.pointer none].toArray w fun e w' => ∃ (A0 : Option Addr) (c0 : Nat) (L0 : Hp), e = .returned (.slice A0 r.length c0) ∧ Fits z w' (L0 ++ F) ∧ OwnS k_T_api_Key L0 A0 c0 r := by
  unfold f_pair_Pair_Wants_nil at H
  refine enter0 Try.func7 rfl Try.ntmps7 rfl (E := [(0, .pointer none)]) rfl ?_
  refine cSeq (fun K1 hK1 => ?_)
  refine cRgn [] trivial ?_
  refine sL (asg rfl) rfl ?_
  refine lEnd (K := fun _ _ => True) ?_
  refine kN (?_)
  refine hK1 _ _ ?_
  refine cSeq (fun K2 hK2 => ?_)
  refine cSeq (fun K3 hK3 => ?_)
  refine cRgn [] trivial ?_
  refine sL (mv rfl) rfl ?_
  refine sL (bPEql0 rfl rfl Try.underlying30) rfl ?_
  refine lEnd (K := fun _ _ => True) ?_
  refine kN (?_)
  refine hK3 _ _ ?_
  refine cT rfl ?_
  refine cSeq (fun K4 hK4 => ?_)
  refine cRgn [] trivial ?_
  refine sL (asg rfl) rfl ?_
  refine lEnd (K := fun _ _ => True) ?_
  refine kN (?_)
  refine hK4 _ _ ?_
  refine cRet ?_
  obtain rfl := Option.some.inj H
  refine kR (?_)
  refine ret1 rfl rfl ?_
  exact ⟨none, 0, [], rfl, HF, OwnS.nil⟩

/-! ### plenum/plenumref1.Ints (function 23) -/
abbrev f_plenumref1_Ints.R := Bool
noncomputable def f_plenumref1_Ints.b0 (a0 : List Int) (a1 : List Int) (s1 : Int) : Option (Sum (Int) (Sum (Int) f_plenumref1_Ints.R)) := (if s1 < (a0.length : Int) then (if 0 ≤ s1 then (if s1 < (a1.length : Int) then (if (rd a0 s1) = (rd a1 s1) then some (.inl (IntKind.i64.wrap (s1 + 1))) else some (.inr (.inr false))) else none) else none) else some (.inr (.inl s1)))
noncomputable def f_plenumref1_Ints (a0 : List Int) (a1 : List Int) : Option f_plenumref1_Ints.R := (if (a0.length : Int) = (a1.length : Int) then ((loopO (f_plenumref1_Ints.b0 a0 a1) 0).bind fun y1 => match y1 with | .inl s1 => some true | .inr r_ => some r_) else some false)
set_option maxHeartbeats 1000000 in
theorem f_plenumref1_Ints.ok {z w : World} {F G : Hp} (hG : G ⊆ F) {a0 : List Int} {A_a0 : Option Addr} {c_a0 : Nat} {X_a0 : Hp} {a1 : List Int} {A_a1 : Option Addr} {c_a1 : Nat} {X_a1 : Hp} {r : f_plenumref1_Ints.R} (H : f_plenumref1_Ints a0 a1 = some r) (HF : Fits z w F) (hX_a0 : X_a0 ⊆ F) (hr_a0 : RdS (kInt .i64) X_a0 A_a0 c_a0 a0) (hX_a1 : X_a1 ⊆ F) (hr_a1 : RdS (kInt .i64) X_a1 A_a1 c_a1 a1) :
    Calls Try.prog 23 [.slice A_a0 a0.length c_a0, .slice A_a1 a1.length c_a1].toArray w fun e w' => e = .returned (.bool r) ∧ Fits z w' F := by
  unfold f_plenumref1_Ints at H
  refine enter0 Try.func23 rfl Try.ntmps23 rfl (E := [(0, .slice A_a0 a0.length c_a0), (1, .slice A_a1 a1.length c_a1)]) rfl ?_
  refine cSeq (fun K1 hK1 => ?_)
  refine cRgn [] trivial ?_
  refine sL (asg rfl) rfl ?_
  refine lEnd (K := fun _ _ => True) ?_
  refine kN (?_)
  refine hK1 _ _ ?_
  refine cSeq (fun K2 hK2 => ?_)
  refine cSeq (fun K3 hK3 => ?_)
  refine cRgn [] trivial ?_
  refine sL (mv rfl) rfl ?_
  refine sL (lnS rfl Try.underlying22) rfl ?_
  refine sL (mv rfl) rfl ?_
  refine sL (lnS rfl Try.underlying22) rfl ?_
  refine sL (bNeq rfl rfl) rfl ?_
  refine lEnd (K := fun _ _ => True) ?_
  refine kN (?_)
  refine hK3 _ _ ?_
  by_cases c1 : (a0.length : Int) = (a1.length : Int)
  · replace H := itT c1 H
    refine cSet (i := 10) rfl (nF c1) ?_
    refine cF rfl ?_
    refine cSkip ?_
    refine kN (?_)
    refine hK2 _ _ ?_
    refine cSeq (fun K4 hK4 => ?_)
    refine cSeq (fun K5 hK5 => ?_)
    refine cRgn [] trivial ?_
    refine sL (asg rfl) rfl ?_
    refine lEnd (K := fun _ _ => True) ?_
    refine kN (?_)
    refine hK5 _ _ ?_
    replace H := bnd H; obtain ⟨y1, J1, Ho1⟩ := H
    refine cLoopB (f_plenumref1_Ints.b0 a0 a1) (fun (s1 : Int) a w => Env 26 [(0, .slice A_a0 a0.length c_a0), (1, .slice A_a1 a1.length c_a1), (4, .bool false), (5, .int .i64 s1)] a ∧ Fits z w F) J1 (fun a hE => ⟨hE.keep (Keep.cons rfl (Keep.cons rfl (Keep.cons rfl (Keep.cons rfl (Keep.nil))))), HF⟩) ?_ ?_
    · rintro s1 a w3 y2 ⟨hE, HF3⟩ H Hx1
      refine go_ hE ?_
      refine cSeq (fun K16 hK16 => ?_)
      refine cSeq (fun K17 hK17 => ?_)
      refine cRgn [] trivial ?_
      refine sL (mv rfl) rfl ?_
      refine sL (mv rfl) rfl ?_
      refine sL (lnS rfl Try.underlying22) rfl ?_
      refine sL (bLss rfl rfl) rfl ?_
      refine lEnd (K := fun _ _ => True) ?_
      refine kN (?_)
      refine hK17 _ _ ?_
      by_cases c12 : s1 < (a0.length : Int)
      · replace H := itT c12 H
        refine cSet (i := 14) rfl (dT c12) ?_
        refine cT rfl ?_
        refine cSkip ?_
        refine kN (?_)
        refine hK16 _ _ ?_
        refine cSeq (fun K18 hK18 => ?_)
        refine cBlock ?_
        refine cSeq (fun K19 hK19 => ?_)
        refine cDraw mo_ HF3 rfl (fun w => Fits z w F) (fun w4 HF4 => ?_)
        refine hTake 0 rfl (by kernel_rfl) (pThen (pBlock (pThen (pThen (pBlock (pThen (pThen pFn))))))) (fun w_ hS_ => mv rfl) HF4 rfl rfl ?_
        refine hTake 1 rfl (by kernel_rfl) (pThen (pBlock (pThen (pThen (pBlock (pThen (pThen pFn))))))) (fun w_ hS_ => mv rfl) HF4 rfl rfl ?_
        replace H := chk H; obtain ⟨c15, H⟩ := H
        obtain ⟨g11, o11, _, rfl, rfl, q11⟩ := RdS.at_ hr_a0 c15 c12
        refine hTake 2 rfl (by kernel_rfl) (pThen (pBlock (pThen (pThen (pBlock (pThen (pThen pFn))))))) (fun w_ hS_ => ia rfl rfl Try.underlying22 ti3 c15 c12) HF4 rfl rfl ?_
        refine hTake 3 rfl (by kernel_rfl) (pThen (pBlock (pThen (pThen (pBlock (pThen (pThen pFn))))))) (fun w_ hS_ => ld rfl Try.underlying3 rfl (hS_.cells (hX_a0) (q11 0 _ rfl))) HF4 rfl rfl ?_
        refine hTake 4 rfl (by kernel_rfl) (pThen (pBlock (pThen (pThen (pBlock (pThen (pThen pFn))))))) (fun w_ hS_ => mv rfl) HF4 rfl rfl ?_
        refine hTake 5 rfl (by kernel_rfl) (pThen (pBlock (pThen (pThen (pBlock (pThen (pThen pFn))))))) (fun w_ hS_ => mv rfl) HF4 rfl rfl ?_
        replace H := chk H; obtain ⟨c16, H⟩ := H
        obtain ⟨g12, o12, _, rfl, rfl, q12⟩ := RdS.at_ hr_a1 c15 c16
        refine hTake 6 rfl (by kernel_rfl) (pThen (pBlock (pThen (pThen (pBlock (pThen (pThen pFn))))))) (fun w_ hS_ => ia rfl rfl Try.underlying22 ti3 c15 c16) HF4 rfl rfl ?_
        refine hTake 7 rfl (by kernel_rfl) (pThen (pBlock (pThen (pThen (pBlock (pThen (pThen pFn))))))) (fun w_ hS_ => ld rfl Try.underlying3 rfl (hS_.cells (hX_a1) (q12 0 _ rfl))) HF4 rfl rfl ?_
        refine hTake 8 rfl (by kernel_rfl) (pThen (pBlock (pThen (pThen (pBlock (pThen (pThen pFn))))))) (fun w_ hS_ => bNeq rfl rfl) HF4 rfl rfl ?_
        refine hEnd (by kernel_rfl) ?_
        refine kN (?_)
        refine hK19 _ _ ?_
        by_cases c17 : (rd a0 s1) = (rd a1 s1)
        · replace H := itT c17 H
          refine cSet (i := 25) rfl (nF c17) ?_
          refine cF rfl ?_
          refine cSkip ?_
          refine jN (kN (?_))
          refine hK18 _ _ ?_
          refine cRgn [] trivial ?_
          refine sL (mv rfl) rfl ?_
          refine sL (bAdd rfl rfl) rfl ?_
          refine sL (asg rfl) rfl ?_
          refine lEnd (K := fun _ _ => True) ?_
          refine kN (?_)
          exact ofEnv (fun a hE => ⟨_, (Option.some.inj H).symm, ⟨hE.keep (Keep.cons rfl (Keep.cons rfl (Keep.cons rfl (Keep.cons rfl (Keep.nil))))), HF4⟩⟩)
        · replace H := itF c17 H
          refine cSet (i := 25) rfl (nT c17) ?_
          refine cT rfl ?_
          refine cSeq (fun K20 hK20 => ?_)
          refine cRgn [] trivial ?_
          refine sL (asg rfl) rfl ?_
          refine lEnd (K := fun _ _ => True) ?_
          refine kN (?_)
          refine hK20 _ _ ?_
          refine cRet ?_
          have e_ := Hx1 _ (Option.some.inj H).symm
          subst e_
          replace H := Ho1
          obtain rfl := Option.some.inj H
          refine jR (kR (kR (jR (kR (kR (?_))))))
          refine ret1 rfl rfl ?_
          exact ⟨rfl, HF4⟩
      · replace H := itF c12 H
        refine cSet (i := 14) rfl (dF c12) ?_
        refine cF rfl ?_
        refine cExit ?_
        refine kX (kX (jX (kN (?_))))
        exact ofEnv (fun a hE => ⟨_, (Option.some.inj H).symm, ⟨hE.keep (Keep.cons rfl (Keep.cons rfl (Keep.cons rfl (Keep.cons rfl (Keep.nil))))), HF3⟩⟩)
    · rintro s1 a w5 rfl ⟨hE, HF5⟩
      replace H := Ho1
      refine go_k hE ?_
      refine kN (?_)
      refine hK4 _ _ ?_
      refine cSeq (fun K21 hK21 => ?_)
      refine cRgn [] trivial ?_
      refine sL (asg rfl) rfl ?_
      refine lEnd (K := fun _ _ => True) ?_
      refine kN (?_)
      refine hK21 _ _ ?_
      refine cRet ?_
      obtain rfl := Option.some.inj H
      refine ret1 rfl rfl ?_
      exact ⟨rfl, HF5⟩
  · replace H := itF c1 H
    refine cSet (i := 10) rfl (nT c1) ?_
    refine cT rfl ?_
    refine cSeq (fun K22 hK22 => ?_)
    refine cRgn [] trivial ?_
    refine sL (asg rfl) rfl ?_
    refine lEnd (K := fun _ _ => True) ?_
    refine kN (?_)
    refine hK22 _ _ ?_
    refine cRet ?_
    obtain rfl := Option.some.inj H
    refine kR (?_)
    refine ret1 rfl rfl ?_
    exact ⟨rfl, HF⟩

/-! ### plenum/plenumref1.Heads (function 24) -/
abbrev f_plenumref1_Heads.R := Bool
noncomputable def f_plenumref1_Heads.b0 (a0 : List T_api_Head) (a1 : List T_api_Head) (s1 : Int) : Option (Sum (Int) (Sum (Int) f_plenumref1_Heads.R)) := (if s1 < (a0.length : Int) then (if 0 ≤ s1 then (if s1 < (a1.length : Int) then (if (rd a0 s1) = (rd a1 s1) then some (.inl (IntKind.i64.wrap (s1 + 1))) else some (.inr (.inr false))) else none) else none) else some (.inr (.inl s1)))
noncomputable def f_plenumref1_Heads (a0 : List T_api_Head) (a1 : List T_api_Head) : Option f_plenumref1_Heads.R := (if (a0.length : Int) = (a1.length : Int) then ((loopO (f_plenumref1_Heads.b0 a0 a1) 0).bind fun y1 => match y1 with | .inl s1 => some true | .inr r_ => some r_) else some false)
set_option maxHeartbeats 1000000 in
theorem f_plenumref1_Heads.ok {z w : World} {F G : Hp} (hG : G ⊆ F) {a0 : List T_api_Head} {A_a0 : Option Addr} {c_a0 : Nat} {X_a0 : Hp} {a1 : List T_api_Head} {A_a1 : Option Addr} {c_a1 : Nat} {X_a1 : Hp} {r : f_plenumref1_Heads.R} (H : f_plenumref1_Heads a0 a1 = some r) (HF : Fits z w F) (hX_a0 : X_a0 ⊆ F) (hr_a0 : RdS k_T_api_Head X_a0 A_a0 c_a0 a0) (hX_a1 : X_a1 ⊆ F) (hr_a1 : RdS k_T_api_Head X_a1 A_a1 c_a1 a1) :
    Calls Try.prog 24 [.slice A_a0 a0.length c_a0, .slice A_a1 a1.length c_a1].toArray w fun e w' => e = .returned (.bool r) ∧ Fits z w' F := by
  unfold f_plenumref1_Heads at H
  refine enter0 Try.func24 rfl Try.ntmps24 rfl (E := [(0, .slice A_a0 a0.length c_a0), (1, .slice A_a1 a1.length c_a1)]) rfl ?_
  refine cSeq (fun K1 hK1 => ?_)
  refine cRgn [] trivial ?_
  refine sL (asg rfl) rfl ?_
  refine lEnd (K := fun _ _ => True) ?_
  refine kN (?_)
  refine hK1 _ _ ?_
  refine cSeq (fun K2 hK2 => ?_)
  refine cSeq (fun K3 hK3 => ?_)
  refine cRgn [] trivial ?_
  refine sL (mv rfl) rfl ?_
  refine sL (lnS rfl Try.underlying23) rfl ?_
  refine sL (mv rfl) rfl ?_
  refine sL (lnS rfl Try.underlying23) rfl ?_
  refine sL (bNeq rfl rfl) rfl ?_
  refine lEnd (K := fun _ _ => True) ?_
  refine kN (?_)
  refine hK3 _ _ ?_
  by_cases c1 : (a0.length : Int) = (a1.length : Int)
  · replace H := itT c1 H
    refine cSet (i := 10) rfl (nF c1) ?_
    refine cF rfl ?_
    refine cSkip ?_
    refine kN (?_)
    refine hK2 _ _ ?_
    refine cSeq (fun K4 hK4 => ?_)
    refine cSeq (fun K5 hK5 => ?_)
    refine cRgn [] trivial ?_
    refine sL (asg rfl) rfl ?_
    refine lEnd (K := fun _ _ => True) ?_
    refine kN (?_)
    refine hK5 _ _ ?_
    replace H := bnd H; obtain ⟨y1, J1, Ho1⟩ := H
    refine cLoopB (f_plenumref1_Heads.b0 a0 a1) (fun (s1 : Int) a w => Env 26 [(0, .slice A_a0 a0.length c_a0), (1, .slice A_a1 a1.length c_a1), (4, .bool false), (5, .int .i64 s1)] a ∧ Fits z w F) J1 (fun a hE => ⟨hE.keep (Keep.cons rfl (Keep.cons rfl (Keep.cons rfl (Keep.cons rfl (Keep.nil))))), HF⟩) ?_ ?_
    · rintro s1 a w3 y2 ⟨hE, HF3⟩ H Hx1
      refine go_ hE ?_
      refine cSeq (fun K16 hK16 => ?_)
      refine cSeq (fun K17 hK17 => ?_)
      refine cRgn [] trivial ?_
      refine sL (mv rfl) rfl ?_
      refine sL (mv rfl) rfl ?_
      refine sL (lnS rfl Try.underlying23) rfl ?_
      refine sL (bLss rfl rfl) rfl ?_
      refine lEnd (K := fun _ _ => True) ?_
      refine kN (?_)
      refine hK17 _ _ ?_
      by_cases c12 : s1 < (a0.length : Int)
      · replace H := itT c12 H
        refine cSet (i := 14) rfl (dT c12) ?_
        refine cT rfl ?_
        refine cSkip ?_
        refine kN (?_)
        refine hK16 _ _ ?_
        refine cSeq (fun K18 hK18 => ?_)
        refine cBlock ?_
        refine cSeq (fun K19 hK19 => ?_)
        refine cDraw mo_ HF3 rfl (fun w => Fits z w F) (fun w4 HF4 => ?_)
        refine hTake 0 rfl (by kernel_rfl) (pThen (pBlock (pThen (pThen (pBlock (pThen (pThen pFn))))))) (fun w_ hS_ => mv rfl) HF4 rfl rfl ?_
        refine hTake 1 rfl (by kernel_rfl) (pThen (pBlock (pThen (pThen (pBlock (pThen (pThen pFn))))))) (fun w_ hS_ => mv rfl) HF4 rfl rfl ?_
        replace H := chk H; obtain ⟨c15, H⟩ := H
        obtain ⟨g11, o11, _, rfl, rfl, q11⟩ := RdS.at_ hr_a0 c15 c12
        refine hTake 2 rfl (by kernel_rfl) (pThen (pBlock (pThen (pThen (pBlock (pThen (pThen pFn))))))) (fun w_ hS_ => ia rfl rfl Try.underlying23 ti29 c15 c12) HF4 rfl rfl ?_
        refine hTake 3 rfl (by kernel_rfl) (pThen (pBlock (pThen (pThen (pBlock (pThen (pThen pFn))))))) (fun w_ hS_ => ldA rfl ti29 rfl rfl (fun j v hj => hS_.cells (hX_a0) (q11 j v hj))) HF4 rfl rfl ?_
        refine hTake 4 rfl (by kernel_rfl) (pThen (pBlock (pThen (pThen (pBlock (pThen (pThen pFn))))))) (fun w_ hS_ => mv rfl) HF4 rfl rfl ?_
        refine hTake 5 rfl (by kernel_rfl) (pThen (pBlock (pThen (pThen (pBlock (pThen (pThen pFn))))))) (fun w_ hS_ => mv rfl) HF4 rfl rfl ?_
        replace H := chk H; obtain ⟨c16, H⟩ := H
        obtain ⟨g12, o12, _, rfl, rfl, q12⟩ := RdS.at_ hr_a1 c15 c16
        refine hTake 6 rfl (by kernel_rfl) (pThen (pBlock (pThen (pThen (pBlock (pThen (pThen pFn))))))) (fun w_ hS_ => ia rfl rfl Try.underlying23 ti29 c15 c16) HF4 rfl rfl ?_
        refine hTake 7 rfl (by kernel_rfl) (pThen (pBlock (pThen (pThen (pBlock (pThen (pThen pFn))))))) (fun w_ hS_ => ldA rfl ti29 rfl rfl (fun j v hj => hS_.cells (hX_a1) (q12 j v hj))) HF4 rfl rfl ?_
        refine hTake 8 rfl (by kernel_rfl) (pThen (pBlock (pThen (pThen (pBlock (pThen (pThen pFn))))))) (fun w_ hS_ => bAggNeq (xs := [.int .i64 ((rd a0 s1).f_Age), .int .i64 ((rd a0 s1).f_Kind), .int .i64 ((rd a0 s1).f_Id), .int .i64 ((rd a0 s1).f_Adv), .int .i64 ((rd a0 s1).f_Seq), .int .i64 ((rd a0 s1).f_Sum), .int .i64 ((rd a0 s1).f_Len)]) (ys := [.int .i64 ((rd a1 s1).f_Age), .int .i64 ((rd a1 s1).f_Kind), .int .i64 ((rd a1 s1).f_Id), .int .i64 ((rd a1 s1).f_Adv), .int .i64 ((rd a1 s1).f_Seq), .int .i64 ((rd a1 s1).f_Sum), .int .i64 ((rd a1 s1).f_Len)]) (n := 2) rfl rfl eg29 (eqStruct Try.underlying29 sh29 (eqFcons (by decide) (pt1 Try.underlying3 rfl rfl) (pt1 Try.underlying3 rfl rfl) (eqInt Try.underlying3) (eqFcons (by decide) (pt1 Try.underlying3 rfl rfl) (pt1 Try.underlying3 rfl rfl) (eqInt Try.underlying3) (eqFcons (by decide) (pt1 Try.underlying3 rfl rfl) (pt1 Try.underlying3 rfl rfl) (eqInt Try.underlying3) (eqFcons (by decide) (pt1 Try.underlying3 rfl rfl) (pt1 Try.underlying3 rfl rfl) (eqInt Try.underlying3) (eqFcons (by decide) (pt1 Try.underlying3 rfl rfl) (pt1 Try.underlying3 rfl rfl) (eqInt Try.underlying3) (eqFcons (by decide) (pt1 Try.underlying3 rfl rfl) (pt1 Try.underlying3 rfl rfl) (eqInt Try.underlying3) (eqFcons (by decide) (pt1 Try.underlying3 rfl rfl) (pt1 Try.underlying3 rfl rfl) (eqInt Try.underlying3) eqFnil)))))))) rfl (eq_T_api_Head (rd a0 s1) (rd a1 s1))) HF4 rfl rfl ?_
        refine hEnd (by kernel_rfl) ?_
        refine kN (?_)
        refine hK19 _ _ ?_
        by_cases c17 : (rd a0 s1) = (rd a1 s1)
        · replace H := itT c17 H
          refine cSet (i := 25) rfl (nF c17) ?_
          refine cF rfl ?_
          refine cSkip ?_
          refine jN (kN (?_))
          refine hK18 _ _ ?_
          refine cRgn [] trivial ?_
          refine sL (mv rfl) rfl ?_
          refine sL (bAdd rfl rfl) rfl ?_
          refine sL (asg rfl) rfl ?_
          refine lEnd (K := fun _ _ => True) ?_
          refine kN (?_)
          exact ofEnv (fun a hE => ⟨_, (Option.some.inj H).symm, ⟨hE.keep (Keep.cons rfl (Keep.cons rfl (Keep.cons rfl (Keep.cons rfl (Keep.nil))))), HF4⟩⟩)
        · replace H := itF c17 H
          refine cSet (i := 25) rfl (nT c17) ?_
          refine cT rfl ?_
          refine cSeq (fun K20 hK20 => ?_)
          refine cRgn [] trivial ?_
          refine sL (asg rfl) rfl ?_
          refine lEnd (K := fun _ _ => True) ?_
          refine kN (?_)
          refine hK20 _ _ ?_
          refine cRet ?_
          have e_ := Hx1 _ (Option.some.inj H).symm
          subst e_
          replace H := Ho1
          obtain rfl := Option.some.inj H
          refine jR (kR (kR (jR (kR (kR (?_))))))
          refine ret1 rfl rfl ?_
          exact ⟨rfl, HF4⟩
      · replace H := itF c12 H
        refine cSet (i := 14) rfl (dF c12) ?_
        refine cF rfl ?_
        refine cExit ?_
        refine kX (kX (jX (kN (?_))))
        exact ofEnv (fun a hE => ⟨_, (Option.some.inj H).symm, ⟨hE.keep (Keep.cons rfl (Keep.cons rfl (Keep.cons rfl (Keep.cons rfl (Keep.nil))))), HF3⟩⟩)
    · rintro s1 a w5 rfl ⟨hE, HF5⟩
      replace H := Ho1
      refine go_k hE ?_
      refine kN (?_)
      refine hK4 _ _ ?_
      refine cSeq (fun K21 hK21 => ?_)
      refine cRgn [] trivial ?_
      refine sL (asg rfl) rfl ?_
      refine lEnd (K := fun _ _ => True) ?_
      refine kN (?_)
      refine hK21 _ _ ?_
      refine cRet ?_
      obtain rfl := Option.some.inj H
      refine ret1 rfl rfl ?_
      exact ⟨rfl, HF5⟩
  · replace H := itF c1 H
    refine cSet (i := 10) rfl (nT c1) ?_
    refine cT rfl ?_
    refine cSeq (fun K22 hK22 => ?_)
    refine cRgn [] trivial ?_
    refine sL (asg rfl) rfl ?_
    refine lEnd (K := fun _ _ => True) ?_
    refine kN (?_)
    refine hK22 _ _ ?_
    refine cRet ?_
    obtain rfl := Option.some.inj H
    refine kR (?_)
    refine ret1 rfl rfl ?_
    exact ⟨rfl, HF⟩

/-! ### plenum/plenumref1.Keys (function 25) -/
abbrev f_plenumref1_Keys.R := Bool
noncomputable def f_plenumref1_Keys.b0 (a0 : List T_api_Key) (a1 : List T_api_Key) (s1 : Int) : Option (Sum (Int) (Sum (Int) f_plenumref1_Keys.R)) := (if s1 < (a0.length : Int) then (if 0 ≤ s1 then (if s1 < (a1.length : Int) then (if (rd a0 s1) = (rd a1 s1) then some (.inl (IntKind.i64.wrap (s1 + 1))) else some (.inr (.inr false))) else none) else none) else some (.inr (.inl s1)))
noncomputable def f_plenumref1_Keys (a0 : List T_api_Key) (a1 : List T_api_Key) : Option f_plenumref1_Keys.R := (if (a0.length : Int) = (a1.length : Int) then ((loopO (f_plenumref1_Keys.b0 a0 a1) 0).bind fun y1 => match y1 with | .inl s1 => some true | .inr r_ => some r_) else some false)
set_option maxHeartbeats 1000000 in
theorem f_plenumref1_Keys.ok {z w : World} {F G : Hp} (hG : G ⊆ F) {a0 : List T_api_Key} {A_a0 : Option Addr} {c_a0 : Nat} {X_a0 : Hp} {a1 : List T_api_Key} {A_a1 : Option Addr} {c_a1 : Nat} {X_a1 : Hp} {r : f_plenumref1_Keys.R} (H : f_plenumref1_Keys a0 a1 = some r) (HF : Fits z w F) (hX_a0 : X_a0 ⊆ F) (hr_a0 : RdS k_T_api_Key X_a0 A_a0 c_a0 a0) (hX_a1 : X_a1 ⊆ F) (hr_a1 : RdS k_T_api_Key X_a1 A_a1 c_a1 a1) :
    Calls Try.prog 25 [.slice A_a0 a0.length c_a0, .slice A_a1 a1.length c_a1].toArray w fun e w' => e = .returned (.bool r) ∧ Fits z w' F := by
  unfold f_plenumref1_Keys at H
  refine enter0 Try.func25 rfl Try.ntmps25 rfl (E := [(0, .slice A_a0 a0.length c_a0), (1, .slice A_a1 a1.length c_a1)]) rfl ?_
  refine cSeq (fun K1 hK1 => ?_)
  refine cRgn [] trivial ?_
  refine sL (asg rfl) rfl ?_
  refine lEnd (K := fun _ _ => True) ?_
  refine kN (?_)
  refine hK1 _ _ ?_
  refine cSeq (fun K2 hK2 => ?_)
  refine cSeq (fun K3 hK3 => ?_)
  refine cRgn [] trivial ?_
  refine sL (mv rfl) rfl ?_
  refine sL (lnS rfl Try.underlying24) rfl ?_
  refine sL (mv rfl) rfl ?_
  refine sL (lnS rfl Try.underlying24) rfl ?_
  refine sL (bNeq rfl rfl) rfl ?_
  refine lEnd (K := fun _ _ => True) ?_
  refine kN (?_)
  refine hK3 _ _ ?_
  by_cases c1 : (a0.length : Int) = (a1.length : Int)
  · replace H := itT c1 H
    refine cSet (i := 10) rfl (nF c1) ?_
    refine cF rfl ?_
    refine cSkip ?_
    refine kN (?_)
    refine hK2 _ _ ?_
    refine cSeq (fun K4 hK4 => ?_)
    refine cSeq (fun K5 hK5 => ?_)
    refine cRgn [] trivial ?_
    refine sL (asg rfl) rfl ?_
    refine lEnd (K := fun _ _ => True) ?_
    refine kN (?_)
    refine hK5 _ _ ?_
    replace H := bnd H; obtain ⟨y1, J1, Ho1⟩ := H
    refine cLoopB (f_plenumref1_Keys.b0 a0 a1) (fun (s1 : Int) a w => Env 26 [(0, .slice A_a0 a0.length c_a0), (1, .slice A_a1 a1.length c_a1), (4, .bool false), (5, .int .i64 s1)] a ∧ Fits z w F) J1 (fun a hE => ⟨hE.keep (Keep.cons rfl (Keep.cons rfl (Keep.cons rfl (Keep.cons rfl (Keep.nil))))), HF⟩) ?_ ?_
    · rintro s1 a w3 y2 ⟨hE, HF3⟩ H Hx1
      refine go_ hE ?_
      refine cSeq (fun K16 hK16 => ?_)
      refine cSeq (fun K17 hK17 => ?_)
      refine cRgn [] trivial ?_
      refine sL (mv rfl) rfl ?_
      refine sL (mv rfl) rfl ?_
      refine sL (lnS rfl Try.underlying24) rfl ?_
      refine sL (bLss rfl rfl) rfl ?_
      refine lEnd (K := fun _ _ => True) ?_
      refine kN (?_)
      refine hK17 _ _ ?_
      by_cases c12 : s1 < (a0.length : Int)
      · replace H := itT c12 H
        refine cSet (i := 14) rfl (dT c12) ?_
        refine cT rfl ?_
        refine cSkip ?_
        refine kN (?_)
        refine hK16 _ _ ?_
        refine cSeq (fun K18 hK18 => ?_)
        refine cBlock ?_
        refine cSeq (fun K19 hK19 => ?_)
        refine cDraw mo_ HF3 rfl (fun w => Fits z w F) (fun w4 HF4 => ?_)
        refine hTake 0 rfl (by kernel_rfl) (pThen (pBlock (pThen (pThen (pBlock (pThen (pThen pFn))))))) (fun w_ hS_ => mv rfl) HF4 rfl rfl ?_
        refine hTake 1 rfl (by kernel_rfl) (pThen (pBlock (pThen (pThen (pBlock (pThen (pThen pFn))))))) (fun w_ hS_ => mv rfl) HF4 rfl rfl ?_
        replace H := chk H; obtain ⟨c15, H⟩ := H
        obtain ⟨g11, o11, _, rfl, rfl, q11⟩ := RdS.at_ hr_a0 c15 c12
        refine hTake 2 rfl (by kernel_rfl) (pThen (pBlock (pThen (pThen (pBlock (pThen (pThen pFn))))))) (fun w_ hS_ => ia rfl rfl Try.underlying24 ti51 c15 c12) HF4 rfl rfl ?_
        refine hTake 3 rfl (by kernel_rfl) (pThen (pBlock (pThen (pThen (pBlock (pThen (pThen pFn))))))) (fun w_ hS_ => ldA rfl ti51 rfl rfl (fun j v hj => hS_.cells (hX_a0) (q11 j v hj))) HF4 rfl rfl ?_
        refine hTake 4 rfl (by kernel_rfl) (pThen (pBlock (pThen (pThen (pBlock (pThen (pThen pFn))))))) (fun w_ hS_ => mv rfl) HF4 rfl rfl ?_
        refine hTake 5 rfl (by kernel_rfl) (pThen (pBlock (pThen (pThen (pBlock (pThen (pThen pFn))))))) (fun w_ hS_ => mv rfl) HF4 rfl rfl ?_
        replace H := chk H; obtain ⟨c16, H⟩ := H
        obtain ⟨g12, o12, _, rfl, rfl, q12⟩ := RdS.at_ hr_a1 c15 c16
        refine hTake 6 rfl (by kernel_rfl) (pThen (pBlock (pThen (pThen (pBlock (pThen (pThen pFn))))))) (fun w_ hS_ => ia rfl rfl Try.underlying24 ti51 c15 c16) HF4 rfl rfl ?_
        refine hTake 7 rfl (by kernel_rfl) (pThen (pBlock (pThen (pThen (pBlock (pThen (pThen pFn))))))) (fun w_ hS_ => ldA rfl ti51 rfl rfl (fun j v hj => hS_.cells (hX_a1) (q12 j v hj))) HF4 rfl rfl ?_
        refine hTake 8 rfl (by kernel_rfl) (pThen (pBlock (pThen (pThen (pBlock (pThen (pThen pFn))))))) (fun w_ hS_ => bAggNeq (xs := [.int .i64 ((rd a0 s1).f_Kind), .int .i64 ((rd a0 s1).f_Id), .int .i64 ((rd a0 s1).f_Adv)]) (ys := [.int .i64 ((rd a1 s1).f_Kind), .int .i64 ((rd a1 s1).f_Id), .int .i64 ((rd a1 s1).f_Adv)]) (n := 2) rfl rfl eg51 (eqStruct Try.underlying51 sh51 (eqFcons (by decide) (pt1 Try.underlying3 rfl rfl) (pt1 Try.underlying3 rfl rfl) (eqInt Try.underlying3) (eqFcons (by decide) (pt1 Try.underlying3 rfl rfl) (pt1 Try.underlying3 rfl rfl) (eqInt Try.underlying3) (eqFcons (by decide) (pt1 Try.underlying3 rfl rfl) (pt1 Try.underlying3 rfl rfl) (eqInt Try.underlying3) eqFnil)))) rfl (eq_T_api_Key (rd a0 s1) (rd a1 s1))) HF4 rfl rfl ?_
        refine hEnd (by kernel_rfl) ?_
        refine kN (?_)
        refine hK19 _ _ ?_
        by_cases c17 : (rd a0 s1) = (rd a1 s1)
        · replace H := itT c17 H
          refine cSet (i := 25) rfl (nF c17) ?_
          refine cF rfl ?_
          refine cSkip ?_
          refine jN (kN (?_))
          refine hK18 _ _ ?_
          refine cRgn [] trivial ?_
          refine sL (mv rfl) rfl ?_
          refine sL (bAdd rfl rfl) rfl ?_
          refine sL (asg rfl) rfl ?_
          refine lEnd (K := fun _ _ => True) ?_
          refine kN (?_)
          exact ofEnv (fun a hE => ⟨_, (Option.some.inj H).symm, ⟨hE.keep (Keep.cons rfl (Keep.cons rfl (Keep.cons rfl (Keep.cons rfl (Keep.nil))))), HF4⟩⟩)
        · replace H := itF c17 H
          refine cSet (i := 25) rfl (nT c17) ?_
          refine cT rfl ?_
          refine cSeq (fun K20 hK20 => ?_)
          refine cRgn [] trivial ?_
          refine sL (asg rfl) rfl ?_
          refine lEnd (K := fun _ _ => True) ?_
          refine kN (?_)
          refine hK20 _ _ ?_
          refine cRet ?_
          have e_ := Hx1 _ (Option.some.inj H).symm
          subst e_
          replace H := Ho1
          obtain rfl := Option.some.inj H
          refine jR (kR (kR (jR (kR (kR (?_))))))
          refine ret1 rfl rfl ?_
          exact ⟨rfl, HF4⟩
      · replace H := itF c12 H
        refine cSet (i := 14) rfl (dF c12) ?_
        refine cF rfl ?_
        refine cExit ?_
        refine kX (kX (jX (kN (?_))))
        exact ofEnv (fun a hE => ⟨_, (Option.some.inj H).symm, ⟨hE.keep (Keep.cons rfl (Keep.cons rfl (Keep.cons rfl (Keep.cons rfl (Keep.nil))))), HF3⟩⟩)
    · rintro s1 a w5 rfl ⟨hE, HF5⟩
      replace H := Ho1
      refine go_k hE ?_
      refine kN (?_)
      refine hK4 _ _ ?_
      refine cSeq (fun K21 hK21 => ?_)
      refine cRgn [] trivial ?_
      refine sL (asg rfl) rfl ?_
      refine lEnd (K := fun _ _ => True) ?_
      refine kN (?_)
      refine hK21 _ _ ?_
      refine cRet ?_
      obtain rfl := Option.some.inj H
      refine ret1 rfl rfl ?_
      exact ⟨rfl, HF5⟩
  · replace H := itF c1 H
    refine cSet (i := 10) rfl (nT c1) ?_
    refine cT rfl ?_
    refine cSeq (fun K22 hK22 => ?_)
    refine cRgn [] trivial ?_
    refine sL (asg rfl) rfl ?_
    refine lEnd (K := fun _ _ => True) ?_
    refine kN (?_)
    refine hK22 _ _ ?_
    refine cRet ?_
    obtain rfl := Option.some.inj H
    refine kR (?_)
    refine ret1 rfl rfl ?_
    exact ⟨rfl, HF⟩

/-! ### plenum/plenumref1.Verts (function 52) -/
abbrev f_plenumref1_Verts.R := Bool
noncomputable def f_plenumref1_Verts.b0 (a0 : List T_api_Vert) (a1 : List T_api_Vert) (s1 : Int) : Option (Sum (Int) (Sum (Int) f_plenumref1_Verts.R)) := (if s1 < (a0.length : Int) then (if 0 ≤ s1 then (if s1 < (a1.length : Int) then (if (rd a0 s1) = (rd a1 s1) then some (.inl (IntKind.i64.wrap (s1 + 1))) else some (.inr (.inr false))) else none) else none) else some (.inr (.inl s1)))
noncomputable def f_plenumref1_Verts (a0 : List T_api_Vert) (a1 : List T_api_Vert) : Option f_plenumref1_Verts.R := (if (a0.length : Int) = (a1.length : Int) then ((loopO (f_plenumref1_Verts.b0 a0 a1) 0).bind fun y1 => match y1 with | .inl s1 => some true | .inr r_ => some r_) else some false)
set_option maxHeartbeats 1000000 in
theorem f_plenumref1_Verts.ok {z w : World} {F G : Hp} (hG : G ⊆ F) {a0 : List T_api_Vert} {A_a0 : Option Addr} {c_a0 : Nat} {X_a0 : Hp} {a1 : List T_api_Vert} {A_a1 : Option Addr} {c_a1 : Nat} {X_a1 : Hp} {r : f_plenumref1_Verts.R} (H : f_plenumref1_Verts a0 a1 = some r) (HF : Fits z w F) (hX_a0 : X_a0 ⊆ F) (hr_a0 : RdS k_T_api_Vert X_a0 A_a0 c_a0 a0) (hX_a1 : X_a1 ⊆ F) (hr_a1 : RdS k_T_api_Vert X_a1 A_a1 c_a1 a1) :
    Calls Try.prog 52 [.slice A_a0 a0.length c_a0, .slice A_a1 a1.length c_a1].toArray w fun e w' => e = .returned (.bool r) ∧ Fits z w' F := by
  unfold f_plenumref1_Verts at H
  refine enter0 Try.func52 rfl Try.ntmps52 rfl (E := [(0, .slice A_a0 a0.length c_a0), (1, .slice A_a1 a1.length c_a1)]) rfl ?_
  refine cSeq (fun K1 hK1 => ?_)
  refine cRgn [] trivial ?_
  refine sL (asg rfl) rfl ?_
  refine lEnd (K := fun _ _ => True) ?_
  refine kN (?_)
  refine hK1 _ _ ?_
  refine cSeq (fun K2 hK2 => ?_)
  refine cSeq (fun K3 hK3 => ?_)
  refine cRgn [] trivial ?_
  refine sL (mv rfl) rfl ?_
  refine sL (lnS rfl Try.underlying67) rfl ?_
  refine sL (mv rfl) rfl ?_
  refine sL (lnS rfl Try.underlying67) rfl ?_
  refine sL (bNeq rfl rfl) rfl ?_
  refine lEnd (K := fun _ _ => True) ?_
  refine kN (?_)
  refine hK3 _ _ ?_
  by_cases c1 : (a0.length : Int) = (a1.length : Int)
  · replace H := itT c1 H
    refine cSet (i := 10) rfl (nF c1) ?_
    refine cF rfl ?_
    refine cSkip ?_
    refine kN (?_)
    refine hK2 _ _ ?_
    refine cSeq (fun K4 hK4 => ?_)
    refine cSeq (fun K5 hK5 => ?_)
    refine cRgn [] trivial ?_
    refine sL (asg rfl) rfl ?_
    refine lEnd (K := fun _ _ => True) ?_
    refine kN (?_)
    refine hK5 _ _ ?_
    replace H := bnd H; obtain ⟨y1, J1, Ho1⟩ := H
    refine cLoopB (f_plenumref1_Verts.b0 a0 a1) (fun (s1 : Int) a w => Env 26 [(0, .slice A_a0 a0.length c_a0), (1, .slice A_a1 a1.length c_a1), (4, .bool false), (5, .int .i64 s1)] a ∧ Fits z w F) J1 (fun a hE => ⟨hE.keep (Keep.cons rfl (Keep.cons rfl (Keep.cons rfl (Keep.cons rfl (Keep.nil))))), HF⟩) ?_ ?_
    · rintro s1 a w3 y2 ⟨hE, HF3⟩ H Hx1
      refine go_ hE ?_
      refine cSeq (fun K16 hK16 => ?_)
      refine cSeq (fun K17 hK17 => ?_)
      refine cRgn [] trivial ?_
      refine sL (mv rfl) rfl ?_
      refine sL (mv rfl) rfl ?_
      refine sL (lnS rfl Try.underlying67) rfl ?_
      refine sL (bLss rfl rfl) rfl ?_
      refine lEnd (K := fun _ _ => True) ?_
      refine kN (?_)
      refine hK17 _ _ ?_
      by_cases c12 : s1 < (a0.length : Int)
      · replace H := itT c12 H
        refine cSet (i := 14) rfl (dT c12) ?_
        refine cT rfl ?_
        refine cSkip ?_
        refine kN (?_)
        refine hK16 _ _ ?_
        refine cSeq (fun K18 hK18 => ?_)
        refine cBlock ?_
        refine cSeq (fun K19 hK19 => ?_)
        refine cDraw mo_ HF3 rfl (fun w => Fits z w F) (fun w4 HF4 => ?_)
        refine hTake 0 rfl (by kernel_rfl) (pThen (pBlock (pThen (pThen (pBlock (pThen (pThen pFn))))))) (fun w_ hS_ => mv rfl) HF4 rfl rfl ?_
        refine hTake 1 rfl (by kernel_rfl) (pThen (pBlock (pThen (pThen (pBlock (pThen (pThen pFn))))))) (fun w_ hS_ => mv rfl) HF4 rfl rfl ?_
        replace H := chk H; obtain ⟨c15, H⟩ := H
        obtain ⟨g11, o11, _, rfl, rfl, q11⟩ := RdS.at_ hr_a0 c15 c12
        refine hTake 2 rfl (by kernel_rfl) (pThen (pBlock (pThen (pThen (pBlock (pThen (pThen pFn))))))) (fun w_ hS_ => ia rfl rfl Try.underlying67 ti94 c15 c12) HF4 rfl rfl ?_
        refine hTake 3 rfl (by kernel_rfl) (pThen (pBlock (pThen (pThen (pBlock (pThen (pThen pFn))))))) (fun w_ hS_ => ldA rfl ti94 rfl rfl (fun j v hj => hS_.cells (hX_a0) (q11 j v hj))) HF4 rfl rfl ?_
        refine hTake 4 rfl (by kernel_rfl) (pThen (pBlock (pThen (pThen (pBlock (pThen (pThen pFn))))))) (fun w_ hS_ => mv rfl) HF4 rfl rfl ?_
        refine hTake 5 rfl (by kernel_rfl) (pThen (pBlock (pThen (pThen (pBlock (pThen (pThen pFn))))))) (fun w_ hS_ => mv rfl) HF4 rfl rfl ?_
        replace H := chk H; obtain ⟨c16, H⟩ := H
        obtain ⟨g12, o12, _, rfl, rfl, q12⟩ := RdS.at_ hr_a1 c15 c16
        refine hTake 6 rfl (by kernel_rfl) (pThen (pBlock (pThen (pThen (pBlock (pThen (pThen pFn))))))) (fun w_ hS_ => ia rfl rfl Try.underlying67 ti94 c15 c16) HF4 rfl rfl ?_
        refine hTake 7 rfl (by kernel_rfl) (pThen (pBlock (pThen (pThen (pBlock (pThen (pThen pFn))))))) (fun w_ hS_ => ldA rfl ti94 rfl rfl (fun j v hj => hS_.cells (hX_a1) (q12 j v hj))) HF4 rfl rfl ?_
        refine hTake 8 rfl (by kernel_rfl) (pThen (pBlock (pThen (pThen (pBlock (pThen (pThen pFn))))))) (fun w_ hS_ => bAggNeq (xs := [.int .i64 ((rd a0 s1).f_Kind), .int .i64 ((rd a0 s1).f_Id)]) (ys := [.int .i64 ((rd a1 s1).f_Kind), .int .i64 ((rd a1 s1).f_Id)]) (n := 2) rfl rfl eg94 (eqStruct Try.underlying94 sh94 (eqFcons (by decide) (pt1 Try.underlying3 rfl rfl) (pt1 Try.underlying3 rfl rfl) (eqInt Try.underlying3) (eqFcons (by decide) (pt1 Try.underlying3 rfl rfl) (pt1 Try.underlying3 rfl rfl) (eqInt Try.underlying3) eqFnil))) rfl (eq_T_api_Vert (rd a0 s1) (rd a1 s1))) HF4 rfl rfl ?_
        refine hEnd (by kernel_rfl) ?_
        refine kN (?_)
        refine hK19 _ _ ?_
        by_cases c17 : (rd a0 s1) = (rd a1 s1)
        · replace H := itT c17 H
          refine cSet (i := 25) rfl (nF c17) ?_
          refine cF rfl ?_
          refine cSkip ?_
          refine jN (kN (?_))
          refine hK18 _ _ ?_
          refine cRgn [] trivial ?_
          refine sL (mv rfl) rfl ?_
          refine sL (bAdd rfl rfl) rfl ?_
          refine sL (asg rfl) rfl ?_
          refine lEnd (K := fun _ _ => True) ?_
          refine kN (?_)
          exact ofEnv (fun a hE => ⟨_, (Option.some.inj H).symm, ⟨hE.keep (Keep.cons rfl (Keep.cons rfl (Keep.cons rfl (Keep.cons rfl (Keep.nil))))), HF4⟩⟩)
        · replace H := itF c17 H
          refine cSet (i := 25) rfl (nT c17) ?_
          refine cT rfl ?_
          refine cSeq (fun K20 hK20 => ?_)
          refine cRgn [] trivial ?_
          refine sL (asg rfl) rfl ?_
          refine lEnd (K := fun _ _ => True) ?_
          refine kN (?_)
          refine hK20 _ _ ?_
          refine cRet ?_
          have e_ := Hx1 _ (Option.some.inj H).symm
          subst e_
          replace H := Ho1
          obtain rfl := Option.some.inj H
          refine jR (kR (kR (jR (kR (kR (?_))))))
          refine ret1 rfl rfl ?_
          exact ⟨rfl, HF4⟩
      · replace H := itF c12 H
        refine cSet (i := 14) rfl (dF c12) ?_
        refine cF rfl ?_
        refine cExit ?_
        refine kX (kX (jX (kN (?_))))
        exact ofEnv (fun a hE => ⟨_, (Option.some.inj H).symm, ⟨hE.keep (Keep.cons rfl (Keep.cons rfl (Keep.cons rfl (Keep.cons rfl (Keep.nil))))), HF3⟩⟩)
    · rintro s1 a w5 rfl ⟨hE, HF5⟩
      replace H := Ho1
      refine go_k hE ?_
      refine kN (?_)
      refine hK4 _ _ ?_
      refine cSeq (fun K21 hK21 => ?_)
      refine cRgn [] trivial ?_
      refine sL (asg rfl) rfl ?_
      refine lEnd (K := fun _ _ => True) ?_
      refine kN (?_)
      refine hK21 _ _ ?_
      refine cRet ?_
      obtain rfl := Option.some.inj H
      refine ret1 rfl rfl ?_
      exact ⟨rfl, HF5⟩
  · replace H := itF c1 H
    refine cSet (i := 10) rfl (nT c1) ?_
    refine cT rfl ?_
    refine cSeq (fun K22 hK22 => ?_)
    refine cRgn [] trivial ?_
    refine sL (asg rfl) rfl ?_
    refine lEnd (K := fun _ _ => True) ?_
    refine kN (?_)
    refine hK22 _ _ ?_
    refine cRet ?_
    obtain rfl := Option.some.inj H
    refine kR (?_)
    refine ret1 rfl rfl ?_
    exact ⟨rfl, HF⟩

/-! ### plenum/plenumref1.Body (function 44) -/
abbrev f_plenumref1_Body.R := Bool
noncomputable def f_plenumref1_Body.b0 (a0 : T_api_Lsa) (a1 : T_api_Lsa) (s2 : Int) : Option (Sum (Int) (Sum (Int) f_plenumref1_Body.R)) := (if s2 < (a0.f_Links.length : Int) then (if 0 ≤ s2 then (if s2 < (a1.f_Links.length : Int) then (if (rd a0.f_Links s2) = (rd a1.f_Links s2) then some (.inl (IntKind.i64.wrap (s2 + 1))) else some (.inr (.inr false))) else none) else none) else some (.inr (.inl s2)))
noncomputable def f_plenumref1_Body (a0 : T_api_Lsa) (a1 : T_api_Lsa) : Option f_plenumref1_Body.R := ((((if a0.f_Head.f_Kind = a1.f_Head.f_Kind then (if a0.f_Flags = a1.f_Flags then (if (a0.f_Links.length : Int) = (a1.f_Links.length : Int) then (if a0.f_Bits = a1.f_Bits then ((f_plenumref1_Ints a0.f_Routers a1.f_Routers).bind fun t3 => (if t3 = true then ((f_plenumref1_Verts a0.f_Verts a1.f_Verts).bind fun t4 => some (.inl (!t4))) else some (.inl true))) else some (.inl true)) else some (.inl true)) else some (.inl true)) else some (.inl true)) : Option (Sum (Bool) f_plenumref1_Body.R))).bind fun y1 => match y1 with | .inl s1 => (if s1 = true then some false else ((loopO (f_plenumref1_Body.b0 a0 a1) 0).bind fun y2 => match y2 with | .inl s2 => some true | .inr r_ => some r_)) | .inr r_ => some r_)
set_option maxHeartbeats 1000000 in
theorem f_plenumref1_Body.ok {z w : World} {F G : Hp} (hG : G ⊆ F) {a0 : T_api_Lsa} {A_a0_8 : Option Addr} {c_a0_8 : Nat} {X_a0_8 : Hp} {A_a0_10 : Option Addr} {c_a0_10 : Nat} {X_a0_10 : Hp} {A_a0_11 : Option Addr} {c_a0_11 : Nat} {X_a0_11 : Hp} {a1 : T_api_Lsa} {A_a1_8 : Option Addr} {c_a1_8 : Nat} {X_a1_8 : Hp} {A_a1_10 : Option Addr} {c_a1_10 : Nat} {X_a1_10 : Hp} {A_a1_11 : Option Addr} {c_a1_11 : Nat} {X_a1_11 : Hp} {r : f_plenumref1_Body.R} (H : f_plenumref1_Body a0 a1 = some r) (HF : Fits z w F) (hX_a0_8 : X_a0_8 ⊆ F) (hr_a0_8 : RdS k_T_api_Link X_a0_8 A_a0_8 c_a0_8 a0.f_Links) (hX_a0_10 : X_a0_10 ⊆ F) (hr_a0_10 : RdS (kInt .i64) X_a0_10 A_a0_10 c_a0_10 a0.f_Routers) (hX_a0_11 : X_a0_11 ⊆ F) (hr_a0_11 : RdS k_T_api_Vert X_a0_11 A_a0_11 c_a0_11 a0.f_Verts) (hX_a1_8 : X_a1_8 ⊆ F) (hr_a1_8 : RdS k_T_api_Link X_a1_8 A_a1_8 c_a1_8 a1.f_Links) (hX_a1_10 : X_a1_10 ⊆ F) (hr_a1_10 : RdS (kInt .i64) X_a1_10 A_a1_10 c_a1_10 a1.f_Routers) (hX_a1_11 : X_a1_11 ⊆ F) (hr_a1_11 : RdS k_T_api_Vert X_a1_11 A_a1_11 c_a1_11 a1.f_Verts) :
    Calls Try.prog 44 [.agg [.int .i64 a0.f_Head.f_Age, .int .i64 a0.f_Head.f_Kind, .int .i64 a0.f_Head.f_Id, .int .i64 a0.f_Head.f_Adv, .int .i64 a0.f_Head.f_Seq, .int .i64 a0.f_Head.f_Sum, .int .i64 a0.f_Head.f_Len, .int .i64 a0.f_Flags, .slice A_a0_8 a0.f_Links.length c_a0_8, .int .i64 a0.f_Bits, .slice A_a0_10 a0.f_Routers.length c_a0_10, .slice A_a0_11 a0.f_Verts.length c_a0_11].toArray, .agg [.int .i64 a1.f_Head.f_Age, .int .i64 a1.f_Head.f_Kind, .int .i64 a1.f_Head.f_Id, .int .i64 a1.f_Head.f_Adv, .int .i64 a1.f_Head.f_Seq, .int .i64 a1.f_Head.f_Sum, .int .i64 a1.f_Head.f_Len, .int .i64 a1.f_Flags, .slice A_a1_8 a1.f_Links.length c_a1_8, .int .i64 a1.f_Bits, .slice A_a1_10 a1.f_Routers.length c_a1_10, .slice A_a1_11 a1.f_Verts.length c_a1_11].toArray].toArray w fun e w' => e = .returned (.bool r) ∧ Fits z w' F := by
  unfold f_plenumref1_Body at H
  refine enter0 Try.func44 rfl Try.ntmps44 rfl (E := [(0, .agg [.int .i64 a0.f_Head.f_Age, .int .i64 a0.f_Head.f_Kind, .int .i64 a0.f_Head.f_Id, .int .i64 a0.f_Head.f_Adv, .int .i64 a0.f_Head.f_Seq, .int .i64 a0.f_Head.f_Sum, .int .i64 a0.f_Head.f_Len, .int .i64 a0.f_Flags, .slice A_a0_8 a0.f_Links.length c_a0_8, .int .i64 a0.f_Bits, .slice A_a0_10 a0.f_Routers.length c_a0_10, .slice A_a0_11 a0.f_Verts.length c_a0_11].toArray), (1, .agg [.int .i64 a1.f_Head.f_Age, .int .i64 a1.f_Head.f_Kind, .int .i64 a1.f_Head.f_Id, .int .i64 a1.f_Head.f_Adv, .int .i64 a1.f_Head.f_Seq, .int .i64 a1.f_Head.f_Sum, .int .i64 a1.f_Head.f_Len, .int .i64 a1.f_Flags, .slice A_a1_8 a1.f_Links.length c_a1_8, .int .i64 a1.f_Bits, .slice A_a1_10 a1.f_Routers.length c_a1_10, .slice A_a1_11 a1.f_Verts.length c_a1_11].toArray)]) rfl ?_
  refine cSeq (fun K1 hK1 => ?_)
  refine cRgn [] trivial ?_
  refine eW (oBox HF rfl) rfl ?_
  rintro _ w1 ⟨g1, rfl, HF1⟩
  refine eW (oBox HF1 rfl) rfl ?_
  rintro _ w2 ⟨g2, rfl, HF2⟩
  refine sL (asg rfl) rfl ?_
  refine lEnd (K := fun _ _ => True) ?_
  refine kN (?_)
  refine hK1 _ _ ?_
  refine cSeq (fun K2 hK2 => ?_)
  refine cSeq (fun K3 hK3 => ?_)
  replace H := bnd H; obtain ⟨y1, H, Ho1⟩ := H
  refine cJoin (y := y1) (fun (s1 : Bool) a w => Env 70 [(2, .pointer (some ⟨g1, 0, none⟩)), (3, .pointer (some ⟨g2, 0, none⟩)), (4, .bool false), (51, .bool s1)] a ∧ Fits z w (bk g2 69 [.int .i64 a1.f_Head.f_Age, .int .i64 a1.f_Head.f_Kind, .int .i64 a1.f_Head.f_Id, .int .i64 a1.f_Head.f_Adv, .int .i64 a1.f_Head.f_Seq, .int .i64 a1.f_Head.f_Sum, .int .i64 a1.f_Head.f_Len, .int .i64 a1.f_Flags, .slice A_a1_8 a1.f_Links.length c_a1_8, .int .i64 a1.f_Bits, .slice A_a1_10 a1.f_Routers.length c_a1_10, .slice A_a1_11 a1.f_Verts.length c_a1_11] :: (bk g1 69 [.int .i64 a0.f_Head.f_Age, .int .i64 a0.f_Head.f_Kind, .int .i64 a0.f_Head.f_Id, .int .i64 a0.f_Head.f_Adv, .int .i64 a0.f_Head.f_Seq, .int .i64 a0.f_Head.f_Sum, .int .i64 a0.f_Head.f_Len, .int .i64 a0.f_Flags, .slice A_a0_8 a0.f_Links.length c_a0_8, .int .i64 a0.f_Bits, .slice A_a0_10 a0.f_Routers.length c_a0_10, .slice A_a0_11 a0.f_Verts.length c_a0_11] :: F))) ?_ ?_
  · refine cRgn [(7, 13), (14, 20), (23, 29), (30, 36), (38, 44)] ⟨rfl, rfl, rfl, rfl, rfl, trivial⟩ ?_
    refine sL (fa69_0 rfl) rfl ?_
    refine sL (fa29_1 rfl) rfl ?_
    refine sL (ld rfl Try.underlying3 rfl (HF2.box (mem_c mem_h) rfl)) rfl ?_
    refine sL (fa69_0 rfl) rfl ?_
    refine sL (fa29_1 rfl) rfl ?_
    refine sL (ld rfl Try.underlying3 rfl (HF2.box (mem_h) rfl)) rfl ?_
    refine sL (bNeq rfl rfl) rfl ?_
    refine sL (mv rfl) rfl ?_
    by_cases c6 : a0.f_Head.f_Kind = a1.f_Head.f_Kind
    · replace H := itT c6 H
      refine lSet (i := 13) rfl (nF c6) ?_
      refine sG rfl rfl (fa69_1 rfl) rfl ?_
      refine sG rfl rfl (ld rfl Try.underlying3 rfl (HF2.box (mem_c mem_h) rfl)) rfl ?_
      refine sG rfl rfl (fa69_1 rfl) rfl ?_
      refine sG rfl rfl (ld rfl Try.underlying3 rfl (HF2.box (mem_h) rfl)) rfl ?_
      refine sG rfl rfl (bNeq rfl rfl) rfl ?_
      refine sL (pkF rfl rfl) rfl ?_
      refine sL (mv rfl) rfl ?_
      by_cases c7 : a0.f_Flags = a1.f_Flags
      · replace H := itT c7 H
        refine lSet (i := 20) rfl (nF c7) ?_
        refine sG rfl rfl (fa69_2 rfl) rfl ?_
        refine sG rfl rfl (ld rfl Try.underlying66 rfl (HF2.box (mem_c mem_h) rfl)) rfl ?_
        refine sG rfl rfl (lnS rfl Try.underlying66) rfl ?_
        refine sG rfl rfl (fa69_2 rfl) rfl ?_
        refine sG rfl rfl (ld rfl Try.underlying66 rfl (HF2.box (mem_h) rfl)) rfl ?_
        refine sG rfl rfl (lnS rfl Try.underlying66) rfl ?_
        refine sG rfl rfl (bNeq rfl rfl) rfl ?_
        refine sL (pkF rfl rfl) rfl ?_
        refine sL (mv rfl) rfl ?_
        by_cases c8 : (a0.f_Links.length : Int) = (a1.f_Links.length : Int)
        · replace H := itT c8 H
          refine lSet (i := 29) rfl (nF c8) ?_
          refine sG rfl rfl (fa69_3 rfl) rfl ?_
          refine sG rfl rfl (ld rfl Try.underlying3 rfl (HF2.box (mem_c mem_h) rfl)) rfl ?_
          refine sG rfl rfl (fa69_3 rfl) rfl ?_
          refine sG rfl rfl (ld rfl Try.underlying3 rfl (HF2.box (mem_h) rfl)) rfl ?_
          refine sG rfl rfl (bNeq rfl rfl) rfl ?_
          refine sL (pkF rfl rfl) rfl ?_
          refine sL (mv rfl) rfl ?_
          by_cases c9 : a0.f_Bits = a1.f_Bits
          · replace H := itT c9 H
            refine lSet (i := 36) rfl (nF c9) ?_
            refine sG rfl rfl (fa69_4 rfl) rfl ?_
            refine sG rfl rfl (ld rfl Try.underlying22 rfl (HF2.box (mem_c mem_h) rfl)) rfl ?_
            refine sG rfl rfl (fa69_4 rfl) rfl ?_
            refine sG rfl rfl (ld rfl Try.underlying22 rfl (HF2.box (mem_h) rfl)) rfl ?_
            replace H := bnd H; obtain ⟨t3, J3, H⟩ := H
            refine eCallG rfl rfl isf23 rfl rfl rfl (f_plenumref1_Ints.ok (a0 := a0.f_Routers) (a1 := a1.f_Routers) (sub_c (sub_c hG)) J3 HF2 (sub_c (sub_c hX_a0_10)) hr_a0_10 (sub_c (sub_c hX_a1_10)) hr_a1_10) ?_
            rintro _ w5 ⟨rfl, HF5⟩
            refine ⟨_, rfl, ?_⟩
            refine sG rfl rfl (uNot rfl) rfl ?_
            refine sL (pkF rfl rfl) rfl ?_
            refine sL (mv rfl) rfl ?_
            by_cases c10 : t3 = true
            · replace H := itT c10 H
              refine lSet (i := 44) rfl (wF c10) ?_
              refine sG rfl rfl (fa69_5 rfl) rfl ?_
              refine sG rfl rfl (ld rfl Try.underlying67 rfl (HF5.box (mem_c mem_h) rfl)) rfl ?_
              refine sG rfl rfl (fa69_5 rfl) rfl ?_
              refine sG rfl rfl (ld rfl Try.underlying67 rfl (HF5.box (mem_h) rfl)) rfl ?_
              replace H := bnd H; obtain ⟨t4, J4, H⟩ := H
              refine eCallG rfl rfl isf52 rfl rfl rfl (f_plenumref1_Verts.ok (a0 := a0.f_Verts) (a1 := a1.f_Verts) (sub_c (sub_c hG)) J4 HF5 (sub_c (sub_c hX_a0_11)) hr_a0_11 (sub_c (sub_c hX_a1_11)) hr_a1_11) ?_
              rintro _ w6 ⟨rfl, HF6⟩
              refine ⟨_, rfl, ?_⟩
              refine sG rfl rfl (uNot rfl) rfl ?_
              refine sL (pkF rfl rfl) rfl ?_
              refine lEnd (K := fun _ _ => True) ?_
              refine kN (?_)
              exact ofEnv (fun a hE => ⟨_, (Option.some.inj H).symm, ⟨hE.keep (Keep.cons rfl (Keep.cons rfl (Keep.cons rfl (Keep.cons rfl (Keep.nil))))), HF6⟩⟩)
            · replace H := itF c10 H
              refine lSet (i := 44) rfl (wT c10) ?_
              refine sN rfl rfl rfl rfl ?_
              refine sN rfl rfl rfl rfl ?_
              refine sN rfl rfl rfl rfl ?_
              refine sN rfl rfl rfl rfl ?_
              refine sN rfl rfl rfl rfl ?_
              refine sN rfl rfl rfl rfl ?_
              refine sL (pkT rfl rfl) rfl ?_
              refine lEnd (K := fun _ _ => True) ?_
              refine kN (?_)
              exact ofEnv (fun a hE => ⟨_, (Option.some.inj H).symm, ⟨hE.keep (Keep.cons rfl (Keep.cons rfl (Keep.cons rfl (Keep.cons rfl (Keep.nil))))), HF5⟩⟩)
          · replace H := itF c9 H
            refine lSet (i := 36) rfl (nT c9) ?_
            refine sN rfl rfl rfl rfl ?_
            refine sN rfl rfl rfl rfl ?_
            refine sN rfl rfl rfl rfl ?_
            refine sN rfl rfl rfl rfl ?_
            refine sN rfl rfl rfl rfl ?_
            refine sN rfl rfl rfl rfl ?_
            refine sL (pkT rfl rfl) rfl ?_
            refine sL (mv rfl) rfl ?_
            refine sN rfl rfl rfl rfl ?_
            refine sN rfl rfl rfl rfl ?_
            refine sN rfl rfl rfl rfl ?_
            refine sN rfl rfl rfl rfl ?_
            refine sN rfl rfl rfl rfl ?_
            refine sN rfl rfl rfl rfl ?_
            refine sL (pkT rfl rfl) rfl ?_
            refine lEnd (K := fun _ _ => True) ?_
            refine kN (?_)
            exact ofEnv (fun a hE => ⟨_, (Option.some.inj H).symm, ⟨hE.keep (Keep.cons rfl (Keep.cons rfl (Keep.cons rfl (Keep.cons rfl (Keep.nil))))), HF2⟩⟩)
        · replace H := itF c8 H
          refine lSet (i := 29) rfl (nT c8) ?_
          refine sN rfl rfl rfl rfl ?_
          refine sN rfl rfl rfl rfl ?_
          refine sN rfl rfl rfl rfl ?_
          refine sN rfl rfl rfl rfl ?_
          refine sN rfl rfl rfl rfl ?_
          refine sL (pkT rfl rfl) rfl ?_
          refine sL (mv rfl) rfl ?_
          refine sN rfl rfl rfl rfl ?_
          refine sN rfl rfl rfl rfl ?_
          refine sN rfl rfl rfl rfl ?_
          refine sN rfl rfl rfl rfl ?_
          refine sN rfl rfl rfl rfl ?_
          refine sN rfl rfl rfl rfl ?_
          refine sL (pkT rfl rfl) rfl ?_
          refine sL (mv rfl) rfl ?_
          refine sN rfl rfl rfl rfl ?_
          refine sN rfl rfl rfl rfl ?_
          refine sN rfl rfl rfl rfl ?_
          refine sN rfl rfl rfl rfl ?_
          refine sN rfl rfl rfl rfl ?_
          refine sN rfl rfl rfl rfl ?_
          refine sL (pkT rfl rfl) rfl ?_
          refine lEnd (K := fun _ _ => True) ?_
          refine kN (?_)
          exact ofEnv (fun a hE => ⟨_, (Option.some.inj H).symm, ⟨hE.keep (Keep.cons rfl (Keep.cons rfl (Keep.cons rfl (Keep.cons rfl (Keep.nil))))), HF2⟩⟩)
      · replace H := itF c7 H
        refine lSet (i := 20) rfl (nT c7) ?_
        refine sN rfl rfl rfl rfl ?_
        refine sN rfl rfl rfl rfl ?_
        refine sN rfl rfl rfl rfl ?_
        refine sN rfl rfl rfl rfl ?_
        refine sN rfl rfl rfl rfl ?_
        refine sN rfl rfl rfl rfl ?_
        refine sN rfl rfl rfl rfl ?_
        refine sL (pkT rfl rfl) rfl ?_
        refine sL (mv rfl) rfl ?_
        refine sN rfl rfl rfl rfl ?_
        refine sN rfl rfl rfl rfl ?_
        refine sN rfl rfl rfl rfl ?_
        refine sN rfl rfl rfl rfl ?_
        refine sN rfl rfl rfl rfl ?_
        refine sL (pkT rfl rfl) rfl ?_
        refine sL (mv rfl) rfl ?_
        refine sN rfl rfl rfl rfl ?_
        refine sN rfl rfl rfl rfl ?_
        refine sN rfl rfl rfl rfl ?_
        refine sN rfl rfl rfl rfl ?_
        refine sN rfl rfl rfl rfl ?_
        refine sN rfl rfl rfl rfl ?_
        refine sL (pkT rfl rfl) rfl ?_
        refine sL (mv rfl) rfl ?_
        refine sN rfl rfl rfl rfl ?_
        refine sN rfl rfl rfl rfl ?_
        refine sN rfl rfl rfl rfl ?_
        refine sN rfl rfl rfl rfl ?_
        refine sN rfl rfl rfl rfl ?_
        refine sN rfl rfl rfl rfl ?_
        refine sL (pkT rfl rfl) rfl ?_
        refine lEnd (K := fun _ _ => True) ?_
        refine kN (?_)
        exact ofEnv (fun a hE => ⟨_, (Option.some.inj H).symm, ⟨hE.keep (Keep.cons rfl (Keep.cons rfl (Keep.cons rfl (Keep.cons rfl (Keep.nil))))), HF2⟩⟩)
    · replace H := itF c6 H
      refine lSet (i := 13) rfl (nT c6) ?_
      refine sN rfl rfl rfl rfl ?_
      refine sN rfl rfl rfl rfl ?_
      refine sN rfl rfl rfl rfl ?_
      refine sN rfl rfl rfl rfl ?_
      refine sN rfl rfl rfl rfl ?_
      refine sL (pkT rfl rfl) rfl ?_
      refine sL (mv rfl) rfl ?_
      refine sN rfl rfl rfl rfl ?_
      refine sN rfl rfl rfl rfl ?_
      refine sN rfl rfl rfl rfl ?_
      refine sN rfl rfl rfl rfl ?_
      refine sN rfl rfl rfl rfl ?_
      refine sN rfl rfl rfl rfl ?_
      refine sN rfl rfl rfl rfl ?_
      refine sL (pkT rfl rfl) rfl ?_
      refine sL (mv rfl) rfl ?_
      refine sN rfl rfl rfl rfl ?_
      refine sN rfl rfl rfl rfl ?_
      refine sN rfl rfl rfl rfl ?_
      refine sN rfl rfl rfl rfl ?_
      refine sN rfl rfl rfl rfl ?_
      refine sL (pkT rfl rfl) rfl ?_
      refine sL (mv rfl) rfl ?_
      refine sN rfl rfl rfl rfl ?_
      refine sN rfl rfl rfl rfl ?_
      refine sN rfl rfl rfl rfl ?_
      refine sN rfl rfl rfl rfl ?_
      refine sN rfl rfl rfl rfl ?_
      refine sN rfl rfl rfl rfl ?_
      refine sL (pkT rfl rfl) rfl ?_
      refine sL (mv rfl) rfl ?_
      refine sN rfl rfl rfl rfl ?_
      refine sN rfl rfl rfl rfl ?_
      refine sN rfl rfl rfl rfl ?_
      refine sN rfl rfl rfl rfl ?_
      refine sN rfl rfl rfl rfl ?_
      refine sN rfl rfl rfl rfl ?_
      refine sL (pkT rfl rfl) rfl ?_
      refine lEnd (K := fun _ _ => True) ?_
      refine kN (?_)
      exact ofEnv (fun a hE => ⟨_, (Option.some.inj H).symm, ⟨hE.keep (Keep.cons rfl (Keep.cons rfl (Keep.cons rfl (Keep.cons rfl (Keep.nil))))), HF2⟩⟩)
  · rintro s1 a w7 rfl ⟨hE, HF7⟩
    replace H := Ho1
    refine go_k hE ?_
    refine kN (?_)
    refine hK3 _ _ ?_
    by_cases c11 : s1 = true
    · replace H := itT c11 H
      refine cSet (i := 51) rfl (vT c11) ?_
      refine cT rfl ?_
      refine cSeq (fun K4 hK4 => ?_)
      refine cRgn [] trivial ?_
      refine sL (asg rfl) rfl ?_
      refine lEnd (K := fun _ _ => True) ?_
      refine kN (?_)
      refine hK4 _ _ ?_
      refine cRet ?_
      obtain rfl := Option.some.inj H
      refine kR (?_)
      refine ret1 rfl rfl ?_
      have HF8 := HF7.sublist (sl_dc (sl_dc (List.Sublist.refl _)))
      exact ⟨rfl, HF8⟩
    · replace H := itF c11 H
      refine cSet (i := 51) rfl (vF c11) ?_
      refine cF rfl ?_
      refine cSkip ?_
      refine kN (?_)
      refine hK2 _ _ ?_
      refine cSeq (fun K5 hK5 => ?_)
      refine cSeq (fun K6 hK6 => ?_)
      refine cRgn [] trivial ?_
      refine sL (asg rfl) rfl ?_
      refine lEnd (K := fun _ _ => True) ?_
      refine kN (?_)
      refine hK6 _ _ ?_
      replace H := bnd H; obtain ⟨y2, J5, Ho2⟩ := H
      refine cLoopB (f_plenumref1_Body.b0 a0 a1) (fun (s2 : Int) a w => Env 70 [(2, .pointer (some ⟨g1, 0, none⟩)), (3, .pointer (some ⟨g2, 0, none⟩)), (4, .bool false), (5, .int .i64 s2)] a ∧ Fits z w (bk g2 69 [.int .i64 a1.f_Head.f_Age, .int .i64 a1.f_Head.f_Kind, .int .i64 a1.f_Head.f_Id, .int .i64 a1.f_Head.f_Adv, .int .i64 a1.f_Head.f_Seq, .int .i64 a1.f_Head.f_Sum, .int .i64 a1.f_Head.f_Len, .int .i64 a1.f_Flags, .slice A_a1_8 a1.f_Links.length c_a1_8, .int .i64 a1.f_Bits, .slice A_a1_10 a1.f_Routers.length c_a1_10, .slice A_a1_11 a1.f_Verts.length c_a1_11] :: (bk g1 69 [.int .i64 a0.f_Head.f_Age, .int .i64 a0.f_Head.f_Kind, .int .i64 a0.f_Head.f_Id, .int .i64 a0.f_Head.f_Adv, .int .i64 a0.f_Head.f_Seq, .int .i64 a0.f_Head.f_Sum, .int .i64 a0.f_Head.f_Len, .int .i64 a0.f_Flags, .slice A_a0_8 a0.f_Links.length c_a0_8, .int .i64 a0.f_Bits, .slice A_a0_10 a0.f_Routers.length c_a0_10, .slice A_a0_11 a0.f_Verts.length c_a0_11] :: F))) J5 (fun a hE => ⟨hE.keep (Keep.cons rfl (Keep.cons rfl (Keep.cons rfl (Keep.cons rfl (Keep.nil))))), HF7⟩) ?_ ?_
      · rintro s2 a w10 y3 ⟨hE, HF11⟩ H Hx1
        refine go_ hE ?_
        refine cSeq (fun K17 hK17 => ?_)
        refine cSeq (fun K18 hK18 => ?_)
        refine cRgn [] trivial ?_
        refine sL (mv rfl) rfl ?_
        refine sL (fa69_2 rfl) rfl ?_
        refine sL (ld rfl Try.underlying66 rfl (HF11.box (mem_c mem_h) rfl)) rfl ?_
        refine sL (lnS rfl Try.underlying66) rfl ?_
        refine sL (bLss rfl rfl) rfl ?_
        refine lEnd (K := fun _ _ => True) ?_
        refine kN (?_)
        refine hK18 _ _ ?_
        by_cases c22 : s2 < (a0.f_Links.length : Int)
        · replace H := itT c22 H
          refine cSet (i := 56) rfl (dT c22) ?_
          refine cT rfl ?_
          refine cSkip ?_
          refine kN (?_)
          refine hK17 _ _ ?_
          refine cSeq (fun K19 hK19 => ?_)
          refine cBlock ?_
          refine cSeq (fun K20 hK20 => ?_)
          refine cDraw mo_ HF11 rfl (fun w => Fits z w (bk g2 69 [.int .i64 a1.f_Head.f_Age, .int .i64 a1.f_Head.f_Kind, .int .i64 a1.f_Head.f_Id, .int .i64 a1.f_Head.f_Adv, .int .i64 a1.f_Head.f_Seq, .int .i64 a1.f_Head.f_Sum, .int .i64 a1.f_Head.f_Len, .int .i64 a1.f_Flags, .slice A_a1_8 a1.f_Links.length c_a1_8, .int .i64 a1.f_Bits, .slice A_a1_10 a1.f_Routers.length c_a1_10, .slice A_a1_11 a1.f_Verts.length c_a1_11] :: (bk g1 69 [.int .i64 a0.f_Head.f_Age, .int .i64 a0.f_Head.f_Kind, .int .i64 a0.f_Head.f_Id, .int .i64 a0.f_Head.f_Adv, .int .i64 a0.f_Head.f_Seq, .int .i64 a0.f_Head.f_Sum, .int .i64 a0.f_Head.f_Len, .int .i64 a0.f_Flags, .slice A_a0_8 a0.f_Links.length c_a0_8, .int .i64 a0.f_Bits, .slice A_a0_10 a0.f_Routers.length c_a0_10, .slice A_a0_11 a0.f_Verts.length c_a0_11] :: F))) (fun w11 HF12 => ?_)
          refine hTake 0 rfl (by kernel_rfl) (pThen (pBlock (pThen (pThen (pBlock (pThen (pThen pFn))))))) (fun w_ hS_ => fa69_2 rfl) HF12 rfl rfl ?_
          refine hTake 1 rfl (by kernel_rfl) (pThen (pBlock (pThen (pThen (pBlock (pThen (pThen pFn))))))) (fun w_ hS_ => ld rfl Try.underlying66 rfl (hS_.box (mem_c mem_h) rfl)) HF12 rfl rfl ?_
          refine hTake 2 rfl (by kernel_rfl) (pThen (pBlock (pThen (pThen (pBlock (pThen (pThen pFn))))))) (fun w_ hS_ => mv rfl) HF12 rfl rfl ?_
          replace H := chk H; obtain ⟨c25, H⟩ := H
          obtain ⟨g13, o11, _, rfl, rfl, q11⟩ := RdS.at_ hr_a0_8 c25 c22
          refine hTake 3 rfl (by kernel_rfl) (pThen (pBlock (pThen (pThen (pBlock (pThen (pThen pFn))))))) (fun w_ hS_ => ia rfl rfl Try.underlying66 ti90 c25 c22) HF12 rfl rfl ?_
          refine hTake 4 rfl (by kernel_rfl) (pThen (pBlock (pThen (pThen (pBlock (pThen (pThen pFn))))))) (fun w_ hS_ => ldA rfl ti90 rfl rfl (fun j v hj => hS_.cells ((sub_c (sub_c hX_a0_8))) (q11 j v hj))) HF12 rfl rfl ?_
          refine hTake 5 rfl (by kernel_rfl) (pThen (pBlock (pThen (pThen (pBlock (pThen (pThen pFn))))))) (fun w_ hS_ => fa69_2 rfl) HF12 rfl rfl ?_
          refine hTake 6 rfl (by kernel_rfl) (pThen (pBlock (pThen (pThen (pBlock (pThen (pThen pFn))))))) (fun w_ hS_ => ld rfl Try.underlying66 rfl (hS_.box (mem_h) rfl)) HF12 rfl rfl ?_
          refine hTake 7 rfl (by kernel_rfl) (pThen (pBlock (pThen (pThen (pBlock (pThen (pThen pFn))))))) (fun w_ hS_ => mv rfl) HF12 rfl rfl ?_
          replace H := chk H; obtain ⟨c26, H⟩ := H
          obtain ⟨g14, o12, _, rfl, rfl, q12⟩ := RdS.at_ hr_a1_8 c25 c26
          refine hTake 8 rfl (by kernel_rfl) (pThen (pBlock (pThen (pThen (pBlock (pThen (pThen pFn))))))) (fun w_ hS_ => ia rfl rfl Try.underlying66 ti90 c25 c26) HF12 rfl rfl ?_
          refine hTake 9 rfl (by kernel_rfl) (pThen (pBlock (pThen (pThen (pBlock (pThen (pThen pFn))))))) (fun w_ hS_ => ldA rfl ti90 rfl rfl (fun j v hj => hS_.cells ((sub_c (sub_c hX_a1_8))) (q12 j v hj))) HF12 rfl rfl ?_
          refine hTake 10 rfl (by kernel_rfl) (pThen (pBlock (pThen (pThen (pBlock (pThen (pThen pFn))))))) (fun w_ hS_ => bAggNeq (xs := [.int .i64 ((rd a0.f_Links s2).f_Kind), .int .i64 ((rd a0.f_Links s2).f_Id), .int .i64 ((rd a0.f_Links s2).f_Data), .int .i64 ((rd a0.f_Links s2).f_Cost)]) (ys := [.int .i64 ((rd a1.f_Links s2).f_Kind), .int .i64 ((rd a1.f_Links s2).f_Id), .int .i64 ((rd a1.f_Links s2).f_Data), .int .i64 ((rd a1.f_Links s2).f_Cost)]) (n := 2) rfl rfl eg90 (eqStruct Try.underlying90 sh90 (eqFcons (by decide) (pt1 Try.underlying3 rfl rfl) (pt1 Try.underlying3 rfl rfl) (eqInt Try.underlying3) (eqFcons (by decide) (pt1 Try.underlying3 rfl rfl) (pt1 Try.underlying3 rfl rfl) (eqInt Try.underlying3) (eqFcons (by decide) (pt1 Try.underlying3 rfl rfl) (pt1 Try.underlying3 rfl rfl) (eqInt Try.underlying3) (eqFcons (by decide) (pt1 Try.underlying3 rfl rfl) (pt1 Try.underlying3 rfl rfl) (eqInt Try.underlying3) eqFnil))))) rfl (eq_T_api_Link (rd a0.f_Links s2) (rd a1.f_Links s2))) HF12 rfl rfl ?_
          refine hEnd (by kernel_rfl) ?_
          refine kN (?_)
          refine hK20 _ _ ?_
          by_cases c27 : (rd a0.f_Links s2) = (rd a1.f_Links s2)
          · replace H := itT c27 H
            refine cSet (i := 69) rfl (nF c27) ?_
            refine cF rfl ?_
            refine cSkip ?_
            refine jN (kN (?_))
            refine hK19 _ _ ?_
            refine cRgn [] trivial ?_
            refine sL (mv rfl) rfl ?_
            refine sL (bAdd rfl rfl) rfl ?_
            refine sL (asg rfl) rfl ?_
            refine lEnd (K := fun _ _ => True) ?_
            refine kN (?_)
            exact ofEnv (fun a hE => ⟨_, (Option.some.inj H).symm, ⟨hE.keep (Keep.cons rfl (Keep.cons rfl (Keep.cons rfl (Keep.cons rfl (Keep.nil))))), HF12⟩⟩)
          · replace H := itF c27 H
            refine cSet (i := 69) rfl (nT c27) ?_
            refine cT rfl ?_
            refine cSeq (fun K21 hK21 => ?_)
            refine cRgn [] trivial ?_
            refine sL (asg rfl) rfl ?_
            refine lEnd (K := fun _ _ => True) ?_
            refine kN (?_)
            refine hK21 _ _ ?_
            refine cRet ?_
            have e_ := Hx1 _ (Option.some.inj H).symm
            subst e_
            replace H := Ho2
            obtain rfl := Option.some.inj H
            refine jR (kR (kR (jR (kR (kR (?_))))))
            refine ret1 rfl rfl ?_
            have HF13 := HF12.sublist (sl_dc (sl_dc (List.Sublist.refl _)))
            exact ⟨rfl, HF13⟩
        · replace H := itF c22 H
          refine cSet (i := 56) rfl (dF c22) ?_
          refine cF rfl ?_
          refine cExit ?_
          refine kX (kX (jX (kN (?_))))
          exact ofEnv (fun a hE => ⟨_, (Option.some.inj H).symm, ⟨hE.keep (Keep.cons rfl (Keep.cons rfl (Keep.cons rfl (Keep.cons rfl (Keep.nil))))), HF11⟩⟩)
      · rintro s2 a w12 rfl ⟨hE, HF14⟩
        replace H := Ho2
        refine go_k hE ?_
        refine kN (?_)
        refine hK5 _ _ ?_
        refine cSeq (fun K22 hK22 => ?_)
        refine cRgn [] trivial ?_
        refine sL (asg rfl) rfl ?_
        refine lEnd (K := fun _ _ => True) ?_
        refine kN (?_)
        refine hK22 _ _ ?_
        refine cRet ?_
        obtain rfl := Option.some.inj H
        refine ret1 rfl rfl ?_
        have HF15 := HF14.sublist (sl_dc (sl_dc (List.Sublist.refl _)))
        exact ⟨rfl, HF15⟩

/-! ### plenum/plenumref1.SameLsa (function 35) -/
abbrev f_plenumref1_SameLsa.R := Bool
noncomputable def f_plenumref1_SameLsa (a0 : T_api_Lsa) (a1 : T_api_Lsa) : Option f_plenumref1_SameLsa.R := (if a0.f_Head = a1.f_Head then ((f_plenumref1_Body a0 a1).bind fun t1 => some t1) else some false)
set_option maxHeartbeats 1000000 in
theorem f_plenumref1_SameLsa.ok {z w : World} {F G : Hp} (hG : G ⊆ F) {a0 : T_api_Lsa} {A_a0_8 : Option Addr} {c_a0_8 : Nat} {X_a0_8 : Hp} {A_a0_10 : Option Addr} {c_a0_10 : Nat} {X_a0_10 : Hp} {A_a0_11 : Option Addr} {c_a0_11 : Nat} {X_a0_11 : Hp} {a1 : T_api_Lsa} {A_a1_8 : Option Addr} {c_a1_8 : Nat} {X_a1_8 : Hp} {A_a1_10 : Option Addr} {c_a1_10 : Nat} {X_a1_10 : Hp} {A_a1_11 : Option Addr} {c_a1_11 : Nat} {X_a1_11 : Hp} {r : f_plenumref1_SameLsa.R} (H : f_plenumref1_SameLsa a0 a1 = some r) (HF : Fits z w F) (hX_a0_8 : X_a0_8 ⊆ F) (hr_a0_8 : RdS k_T_api_Link X_a0_8 A_a0_8 c_a0_8 a0.f_Links) (hX_a0_10 : X_a0_10 ⊆ F) (hr_a0_10 : RdS (kInt .i64) X_a0_10 A_a0_10 c_a0_10 a0.f_Routers) (hX_a0_11 : X_a0_11 ⊆ F) (hr_a0_11 : RdS k_T_api_Vert X_a0_11 A_a0_11 c_a0_11 a0.f_Verts) (hX_a1_8 : X_a1_8 ⊆ F) (hr_a1_8 : RdS k_T_api_Link X_a1_8 A_a1_8 c_a1_8 a1.f_Links) (hX_a1_10 : X_a1_10 ⊆ F) (hr_a1_10 : RdS (kInt .i64) X_a1_10 A_a1_10 c_a1_10 a1.f_Routers) (hX_a1_11 : X_a1_11 ⊆ F) (hr_a1_11 : RdS k_T_api_Vert X_a1_11 A_a1_11 c_a1_11 a1.f_Verts) :
    Calls Try.prog 35 [.agg [.int .i64 a0.f_Head.f_Age, .int .i64 a0.f_Head.f_Kind, .int .i64 a0.f_Head.f_Id, .int .i64 a0.f_Head.f_Adv, .int .i64 a0.f_Head.f_Seq, .int .i64 a0.f_Head.f_Sum, .int .i64 a0.f_Head.f_Len, .int .i64 a0.f_Flags, .slice A_a0_8 a0.f_Links.length c_a0_8, .int .i64 a0.f_Bits, .slice A_a0_10 a0.f_Routers.length c_a0_10, .slice A_a0_11 a0.f_Verts.length c_a0_11].toArray, .agg [.int .i64 a1.f_Head.f_Age, .int .i64 a1.f_Head.f_Kind, .int .i64 a1.f_Head.f_Id, .int .i64 a1.f_Head.f_Adv, .int .i64 a1.f_Head.f_Seq, .int .i64 a1.f_Head.f_Sum, .int .i64 a1.f_Head.f_Len, .int .i64 a1.f_Flags, .slice A_a1_8 a1.f_Links.length c_a1_8, .int .i64 a1.f_Bits, .slice A_a1_10 a1.f_Routers.length c_a1_10, .slice A_a1_11 a1.f_Verts.length c_a1_11].toArray].toArray w fun e w' => e = .returned (.bool r) ∧ Fits z w' F := by
  unfold f_plenumref1_SameLsa at H
  refine enter0 Try.func35 rfl Try.ntmps35 rfl (E := [(0, .agg [.int .i64 a0.f_Head.f_Age, .int .i64 a0.f_Head.f_Kind, .int .i64 a0.f_Head.f_Id, .int .i64 a0.f_Head.f_Adv, .int .i64 a0.f_Head.f_Seq, .int .i64 a0.f_Head.f_Sum, .int .i64 a0.f_Head.f_Len, .int .i64 a0.f_Flags, .slice A_a0_8 a0.f_Links.length c_a0_8, .int .i64 a0.f_Bits, .slice A_a0_10 a0.f_Routers.length c_a0_10, .slice A_a0_11 a0.f_Verts.length c_a0_11].toArray), (1, .agg [.int .i64 a1.f_Head.f_Age, .int .i64 a1.f_Head.f_Kind, .int .i64 a1.f_Head.f_Id, .int .i64 a1.f_Head.f_Adv, .int .i64 a1.f_Head.f_Seq, .int .i64 a1.f_Head.f_Sum, .int .i64 a1.f_Head.f_Len, .int .i64 a1.f_Flags, .slice A_a1_8 a1.f_Links.length c_a1_8, .int .i64 a1.f_Bits, .slice A_a1_10 a1.f_Routers.length c_a1_10, .slice A_a1_11 a1.f_Verts.length c_a1_11].toArray)]) rfl ?_
  refine cSeq (fun K1 hK1 => ?_)
  refine cRgn [] trivial ?_
  refine eW (oBox HF rfl) rfl ?_
  rintro _ w1 ⟨g1, rfl, HF1⟩
  refine eW (oBox HF1 rfl) rfl ?_
  rintro _ w2 ⟨g2, rfl, HF2⟩
  refine sL (asg rfl) rfl ?_
  refine lEnd (K := fun _ _ => True) ?_
  refine kN (?_)
  refine hK1 _ _ ?_
  refine cSeq (fun K2 hK2 => ?_)
  refine cRgn [(5, 10)] ⟨rfl, trivial⟩ ?_
  refine sL (fa69_0 rfl) rfl ?_
  refine sL (ldA (cs := [.int .i64 a0.f_Head.f_Age, .int .i64 a0.f_Head.f_Kind, .int .i64 a0.f_Head.f_Id, .int .i64 a0.f_Head.f_Adv, .int .i64 a0.f_Head.f_Seq, .int .i64 a0.f_Head.f_Sum, .int .i64 a0.f_Head.f_Len]) rfl ti29 rfl rfl (HF2.boxes (o := 0) (n := 7) (mem_c mem_h) rfl)) rfl ?_
  refine sL (fa69_0 rfl) rfl ?_
  refine sL (ldA (cs := [.int .i64 a1.f_Head.f_Age, .int .i64 a1.f_Head.f_Kind, .int .i64 a1.f_Head.f_Id, .int .i64 a1.f_Head.f_Adv, .int .i64 a1.f_Head.f_Seq, .int .i64 a1.f_Head.f_Sum, .int .i64 a1.f_Head.f_Len]) rfl ti29 rfl rfl (HF2.boxes (o := 0) (n := 7) (mem_h) rfl)) rfl ?_
  refine sL (bAggEql (xs := [.int .i64 a0.f_Head.f_Age, .int .i64 a0.f_Head.f_Kind, .int .i64 a0.f_Head.f_Id, .int .i64 a0.f_Head.f_Adv, .int .i64 a0.f_Head.f_Seq, .int .i64 a0.f_Head.f_Sum, .int .i64 a0.f_Head.f_Len]) (ys := [.int .i64 a1.f_Head.f_Age, .int .i64 a1.f_Head.f_Kind, .int .i64 a1.f_Head.f_Id, .int .i64 a1.f_Head.f_Adv, .int .i64 a1.f_Head.f_Seq, .int .i64 a1.f_Head.f_Sum, .int .i64 a1.f_Head.f_Len]) (n := 2) rfl rfl eg29 (eqStruct Try.underlying29 sh29 (eqFcons (by decide) (pt1 Try.underlying3 rfl rfl) (pt1 Try.underlying3 rfl rfl) (eqInt Try.underlying3) (eqFcons (by decide) (pt1 Try.underlying3 rfl rfl) (pt1 Try.underlying3 rfl rfl) (eqInt Try.underlying3) (eqFcons (by decide) (pt1 Try.underlying3 rfl rfl) (pt1 Try.underlying3 rfl rfl) (eqInt Try.underlying3) (eqFcons (by decide) (pt1 Try.underlying3 rfl rfl) (pt1 Try.underlying3 rfl rfl) (eqInt Try.underlying3) (eqFcons (by decide) (pt1 Try.underlying3 rfl rfl) (pt1 Try.underlying3 rfl rfl) (eqInt Try.underlying3) (eqFcons (by decide) (pt1 Try.underlying3 rfl rfl) (pt1 Try.underlying3 rfl rfl) (eqInt Try.underlying3) (eqFcons (by decide) (pt1 Try.underlying3 rfl rfl) (pt1 Try.underlying3 rfl rfl) (eqInt Try.underlying3) eqFnil)))))))) rfl (eq_T_api_Head a0.f_Head a1.f_Head)) rfl ?_
  refine sL (mv rfl) rfl ?_
  by_cases c1 : a0.f_Head = a1.f_Head
  · replace H := itT c1 H
    refine lSet (i := 10) rfl (dT c1) ?_
    refine sG rfl rfl (ldA (cs := [.int .i64 a0.f_Head.f_Age, .int .i64 a0.f_Head.f_Kind, .int .i64 a0.f_Head.f_Id, .int .i64 a0.f_Head.f_Adv, .int .i64 a0.f_Head.f_Seq, .int .i64 a0.f_Head.f_Sum, .int .i64 a0.f_Head.f_Len, .int .i64 a0.f_Flags, .slice A_a0_8 a0.f_Links.length c_a0_8, .int .i64 a0.f_Bits, .slice A_a0_10 a0.f_Routers.length c_a0_10, .slice A_a0_11 a0.f_Verts.length c_a0_11]) rfl ti69 rfl rfl (HF2.boxes (o := 0) (n := 12) (mem_c mem_h) rfl)) rfl ?_
    refine sG rfl rfl (ldA (cs := [.int .i64 a1.f_Head.f_Age, .int .i64 a1.f_Head.f_Kind, .int .i64 a1.f_Head.f_Id, .int .i64 a1.f_Head.f_Adv, .int .i64 a1.f_Head.f_Seq, .int .i64 a1.f_Head.f_Sum, .int .i64 a1.f_Head.f_Len, .int .i64 a1.f_Flags, .slice A_a1_8 a1.f_Links.length c_a1_8, .int .i64 a1.f_Bits, .slice A_a1_10 a1.f_Routers.length c_a1_10, .slice A_a1_11 a1.f_Verts.length c_a1_11]) rfl ti69 rfl rfl (HF2.boxes (o := 0) (n := 12) (mem_h) rfl)) rfl ?_
    replace H := bnd H; obtain ⟨t1, J1, H⟩ := H
    refine eCallG rfl rfl isf44 rfl rfl rfl (f_plenumref1_Body.ok (a0 := a0) (a1 := a1) (sub_c (sub_c hG)) J1 HF2 (sub_c (sub_c hX_a0_8)) hr_a0_8 (sub_c (sub_c hX_a0_10)) hr_a0_10 (sub_c (sub_c hX_a0_11)) hr_a0_11 (sub_c (sub_c hX_a1_8)) hr_a1_8 (sub_c (sub_c hX_a1_10)) hr_a1_10 (sub_c (sub_c hX_a1_11)) hr_a1_11) ?_
    rintro _ w3 ⟨rfl, HF3⟩
    refine ⟨_, rfl, ?_⟩
    refine sL (pkT rfl rfl) rfl ?_
    refine sL (asg rfl) rfl ?_
    refine lEnd (K := fun _ _ => True) ?_
    refine kN (?_)
    refine hK2 _ _ ?_
    refine cRet ?_
    obtain rfl := Option.some.inj H
    refine ret1 rfl rfl ?_
    have HF4 := HF3.sublist (sl_dc (sl_dc (List.Sublist.refl _)))
    exact ⟨rfl, HF4⟩
  · replace H := itF c1 H
    refine lSet (i := 10) rfl (dF c1) ?_
    refine sN rfl rfl rfl rfl ?_
    refine sN rfl rfl rfl rfl ?_
    refine sN rfl rfl rfl rfl ?_
    refine sL (pkF rfl rfl) rfl ?_
    refine sL (asg rfl) rfl ?_
    refine lEnd (K := fun _ _ => True) ?_
    refine kN (?_)
    refine hK2 _ _ ?_
    refine cRet ?_
    obtain rfl := Option.some.inj H
    refine ret1 rfl rfl ?_
    have HF5 := HF2.sublist (sl_dc (sl_dc (List.Sublist.refl _)))
    exact ⟨rfl, HF5⟩

/-! ### plenum/plenumref1.Lsas (function 26) -/
abbrev f_plenumref1_Lsas.R := Bool
noncomputable def f_plenumref1_Lsas.b0 (a0 : List T_api_Lsa) (a1 : List T_api_Lsa) (s1 : Int) : Option (Sum (Int) (Sum (Int) f_plenumref1_Lsas.R)) := (if s1 < (a0.length : Int) then (if 0 ≤ s1 then (if s1 < (a1.length : Int) then ((f_plenumref1_SameLsa (rd a0 s1) (rd a1 s1)).bind fun t6 => (if t6 = true then some (.inl (IntKind.i64.wrap (s1 + 1))) else some (.inr (.inr false)))) else none) else none) else some (.inr (.inl s1)))
noncomputable def f_plenumref1_Lsas (a0 : List T_api_Lsa) (a1 : List T_api_Lsa) : Option f_plenumref1_Lsas.R := (if (a0.length : Int) = (a1.length : Int) then ((loopO (f_plenumref1_Lsas.b0 a0 a1) 0).bind fun y1 => match y1 with | .inl s1 => some true | .inr r_ => some r_) else some false)
set_option maxHeartbeats 1000000 in
theorem f_plenumref1_Lsas.ok {z w : World} {F G : Hp} (hG : G ⊆ F) {a0 : List T_api_Lsa} {A_a0 : Option Addr} {c_a0 : Nat} {X_a0 : Hp} {a1 : List T_api_Lsa} {A_a1 : Option Addr} {c_a1 : Nat} {X_a1 : Hp} {r : f_plenumref1_Lsas.R} (H : f_plenumref1_Lsas a0 a1 = some r) (HF : Fits z w F) (hX_a0 : X_a0 ⊆ F) (hr_a0 : RdS (kShr G k_T_api_Lsa) X_a0 A_a0 c_a0 a0) (hX_a1 : X_a1 ⊆ F) (hr_a1 : RdS (kShr G k_T_api_Lsa) X_a1 A_a1 c_a1 a1) :
    Calls Try.prog 26 [.slice A_a0 a0.length c_a0, .slice A_a1 a1.length c_a1].toArray w fun e w' => e = .returned (.bool r) ∧ Fits z w' F := by
  unfold f_plenumref1_Lsas at H
  refine enter0 Try.func26 rfl Try.ntmps26 rfl (E := [(0, .slice A_a0 a0.length c_a0), (1, .slice A_a1 a1.length c_a1)]) rfl ?_
  refine cSeq (fun K1 hK1 => ?_)
  refine cRgn [] trivial ?_
  refine sL (asg rfl) rfl ?_
  refine lEnd (K := fun _ _ => True) ?_
  refine kN (?_)
  refine hK1 _ _ ?_
  refine cSeq (fun K2 hK2 => ?_)
  refine cSeq (fun K3 hK3 => ?_)
  refine cRgn [] trivial ?_
  refine sL (mv rfl) rfl ?_
  refine sL (lnS rfl Try.underlying25) rfl ?_
  refine sL (mv rfl) rfl ?_
  refine sL (lnS rfl Try.underlying25) rfl ?_
  refine sL (bNeq rfl rfl) rfl ?_
  refine lEnd (K := fun _ _ => True) ?_
  refine kN (?_)
  refine hK3 _ _ ?_
  by_cases c1 : (a0.length : Int) = (a1.length : Int)
  · replace H := itT c1 H
    refine cSet (i := 10) rfl (nF c1) ?_
    refine cF rfl ?_
    refine cSkip ?_
    refine kN (?_)
    refine hK2 _ _ ?_
    refine cSeq (fun K4 hK4 => ?_)
    refine cSeq (fun K5 hK5 => ?_)
    refine cRgn [] trivial ?_
    refine sL (asg rfl) rfl ?_
    refine lEnd (K := fun _ _ => True) ?_
    refine kN (?_)
    refine hK5 _ _ ?_
    replace H := bnd H; obtain ⟨y1, J7, Ho1⟩ := H
    refine cLoopB (f_plenumref1_Lsas.b0 a0 a1) (fun (s1 : Int) a w => Env 27 [(0, .slice A_a0 a0.length c_a0), (1, .slice A_a1 a1.length c_a1), (4, .bool false), (5, .int .i64 s1)] a ∧ Fits z w F) J7 (fun a hE => ⟨hE.keep (Keep.cons rfl (Keep.cons rfl (Keep.cons rfl (Keep.cons rfl (Keep.nil))))), HF⟩) ?_ ?_
    · rintro s1 a w7 y2 ⟨hE, HF7⟩ H Hx1
      refine go_ hE ?_
      refine cSeq (fun K16 hK16 => ?_)
      refine cSeq (fun K17 hK17 => ?_)
      refine cRgn [] trivial ?_
      refine sL (mv rfl) rfl ?_
      refine sL (mv rfl) rfl ?_
      refine sL (lnS rfl Try.underlying25) rfl ?_
      refine sL (bLss rfl rfl) rfl ?_
      refine lEnd (K := fun _ _ => True) ?_
      refine kN (?_)
      refine hK17 _ _ ?_
      by_cases c36 : s1 < (a0.length : Int)
      · replace H := itT c36 H
        refine cSet (i := 14) rfl (dT c36) ?_
        refine cT rfl ?_
        refine cSkip ?_
        refine kN (?_)
        refine hK16 _ _ ?_
        refine cSeq (fun K18 hK18 => ?_)
        refine cBlock ?_
        refine cSeq (fun K19 hK19 => ?_)
        refine cDraw mo_ HF7 rfl (fun w => Fits z w F) (fun w9 HF9 => ?_)
        refine hTake 0 rfl (by kernel_rfl) (pThen (pBlock (pThen (pThen (pBlock (pThen (pThen pFn))))))) (fun w_ hS_ => mv rfl) HF9 rfl rfl ?_
        refine hTake 1 rfl (by kernel_rfl) (pThen (pBlock (pThen (pThen (pBlock (pThen (pThen pFn))))))) (fun w_ hS_ => mv rfl) HF9 rfl rfl ?_
        replace H := chk H; obtain ⟨c45, H⟩ := H
        obtain ⟨g11, o11, e22, rfl, hk11, q11⟩ := RdS.at_ hr_a0 c45 c36
        obtain ⟨A31, c46, A32, c47, A33, c48, rfl, hr31, hr32, hr33⟩ := rd_T_api_Lsa hk11
        refine hTake 2 rfl (by kernel_rfl) (pThen (pBlock (pThen (pThen (pBlock (pThen (pThen pFn))))))) (fun w_ hS_ => ia rfl rfl Try.underlying25 ti69 c45 c36) HF9 rfl rfl ?_
        refine hTake 3 rfl (by kernel_rfl) (pThen (pBlock (pThen (pThen (pBlock (pThen (pThen pFn))))))) (fun w_ hS_ => ldA rfl ti69 rfl rfl (fun j v hj => hS_.cells (hX_a0) (q11 j v hj))) HF9 rfl rfl ?_
        refine hTake 4 rfl (by kernel_rfl) (pThen (pBlock (pThen (pThen (pBlock (pThen (pThen pFn))))))) (fun w_ hS_ => mv rfl) HF9 rfl rfl ?_
        refine hTake 5 rfl (by kernel_rfl) (pThen (pBlock (pThen (pThen (pBlock (pThen (pThen pFn))))))) (fun w_ hS_ => mv rfl) HF9 rfl rfl ?_
        replace H := chk H; obtain ⟨c49, H⟩ := H
        obtain ⟨g12, o12, e24, rfl, hk12, q12⟩ := RdS.at_ hr_a1 c45 c49
        obtain ⟨A34, c50, A35, c51, A36, c52, rfl, hr34, hr35, hr36⟩ := rd_T_api_Lsa hk12
        refine hTake 6 rfl (by kernel_rfl) (pThen (pBlock (pThen (pThen (pBlock (pThen (pThen pFn))))))) (fun w_ hS_ => ia rfl rfl Try.underlying25 ti69 c45 c49) HF9 rfl rfl ?_
        refine hTake 7 rfl (by kernel_rfl) (pThen (pBlock (pThen (pThen (pBlock (pThen (pThen pFn))))))) (fun w_ hS_ => ldA rfl ti69 rfl rfl (fun j v hj => hS_.cells (hX_a1) (q12 j v hj))) HF9 rfl rfl ?_
        refine h1 8 (by kernel_rfl) rfl ?_
        replace H := bnd H; obtain ⟨t6, J6, H⟩ := H
        refine qCall rfl gd0 isf35 rfl rfl rfl (f_plenumref1_SameLsa.ok (a0 := (rd a0 s1)) (a1 := (rd a1 s1)) hG J6 HF9 hG hr31 hG hr32 hG hr33 hG hr34 hG hr35 hG hr36) ?_
        rintro _ w10 ⟨rfl, HF10⟩
        refine ⟨_, rfl, HF10, ?_⟩
        refine hTake 9 rfl (by kernel_rfl) (pThen (pBlock (pThen (pThen (pBlock (pThen (pThen pFn))))))) (fun w_ hS_ => uNot rfl) HF10 rfl rfl ?_
        refine hEnd (by kernel_rfl) ?_
        refine kN (?_)
        refine hK19 _ _ ?_
        by_cases c53 : t6 = true
        · replace H := itT c53 H
          refine cSet (i := 26) rfl (wF c53) ?_
          refine cF rfl ?_
          refine cSkip ?_
          refine jN (kN (?_))
          refine hK18 _ _ ?_
          refine cRgn [] trivial ?_
          refine sL (mv rfl) rfl ?_
          refine sL (bAdd rfl rfl) rfl ?_
          refine sL (asg rfl) rfl ?_
          refine lEnd (K := fun _ _ => True) ?_
          refine kN (?_)
          exact ofEnv (fun a hE => ⟨_, (Option.some.inj H).symm, ⟨hE.keep (Keep.cons rfl (Keep.cons rfl (Keep.cons rfl (Keep.cons rfl (Keep.nil))))), HF10⟩⟩)
        · replace H := itF c53 H
          refine cSet (i := 26) rfl (wT c53) ?_
          refine cT rfl ?_
          refine cSeq (fun K20 hK20 => ?_)
          refine cRgn [] trivial ?_
          refine sL (asg rfl) rfl ?_
          refine lEnd (K := fun _ _ => True) ?_
          refine kN (?_)
          refine hK20 _ _ ?_
          refine cRet ?_
          have e_ := Hx1 _ (Option.some.inj H).symm
          subst e_
          replace H := Ho1
          obtain rfl := Option.some.inj H
          refine jR (kR (kR (jR (kR (kR (?_))))))
          refine ret1 rfl rfl ?_
          exact ⟨rfl, HF10⟩
      · replace H := itF c36 H
        refine cSet (i := 14) rfl (dF c36) ?_
        refine cF rfl ?_
        refine cExit ?_
        refine kX (kX (jX (kN (?_))))
        exact ofEnv (fun a hE => ⟨_, (Option.some.inj H).symm, ⟨hE.keep (Keep.cons rfl (Keep.cons rfl (Keep.cons rfl (Keep.cons rfl (Keep.nil))))), HF7⟩⟩)
    · rintro s1 a w11 rfl ⟨hE, HF11⟩
      replace H := Ho1
      refine go_k hE ?_
      refine kN (?_)
      refine hK4 _ _ ?_
      refine cSeq (fun K21 hK21 => ?_)
      refine cRgn [] trivial ?_
      refine sL (asg rfl) rfl ?_
      refine lEnd (K := fun _ _ => True) ?_
      refine kN (?_)
      refine hK21 _ _ ?_
      refine cRet ?_
      obtain rfl := Option.some.inj H
      refine ret1 rfl rfl ?_
      exact ⟨rfl, HF11⟩
  · replace H := itF c1 H
    refine cSet (i := 10) rfl (nT c1) ?_
    refine cT rfl ?_
    refine cSeq (fun K22 hK22 => ?_)
    refine cRgn [] trivial ?_
    refine sL (asg rfl) rfl ?_
    refine lEnd (K := fun _ _ => True) ?_
    refine kN (?_)
    refine hK22 _ _ ?_
    refine cRet ?_
    obtain rfl := Option.some.inj H
    refine kR (?_)
    refine ret1 rfl rfl ?_
    exact ⟨rfl, HF⟩

/-! ### plenum/plenumref1.SamePacket (function 8) -/
abbrev f_plenumref1_SamePacket.R := Bool
noncomputable def f_plenumref1_SamePacket (a0 : T_api_Packet) (a1 : T_api_Packet) : Option f_plenumref1_SamePacket.R := (if a0.f_Kind = a1.f_Kind then (if a0.f_Router = a1.f_Router then (if a0.f_Bits = a1.f_Bits then (if a0.f_Prio = a1.f_Prio then (if a0.f_Dr = a1.f_Dr then (if a0.f_Bdr = a1.f_Bdr then ((f_plenumref1_Ints a0.f_Seen a1.f_Seen).bind fun t1 => (if t1 = true then (if a0.f_Flags = a1.f_Flags then (if a0.f_Seq = a1.f_Seq then ((f_plenumref1_Heads a0.f_Heads a1.f_Heads).bind fun t2 => (if t2 = true then ((f_plenumref1_Keys a0.f_Keys a1.f_Keys).bind fun t3 => (if t3 = true then ((f_plenumref1_Lsas a0.f_Lsas a1.f_Lsas).bind fun t4 => some t4) else some false)) else some false)) else some false) else some false) else some false)) else some false) else some false) else some false) else some false) else some false) else some false)
set_option maxHeartbeats 1000000 in
theorem f_plenumref1_SamePacket.ok {z w : World} {F G : Hp} (hG : G ⊆ F) {a0 : T_api_Packet} {A_a0_6 : Option Addr} {c_a0_6 : Nat} {X_a0_6 : Hp} {A_a0_9 : Option Addr} {c_a0_9 : Nat} {X_a0_9 : Hp} {A_a0_10 : Option Addr} {c_a0_10 : Nat} {X_a0_10 : Hp} {A_a0_11 : Option Addr} {c_a0_11 : Nat} {X_a0_11 : Hp} {a1 : T_api_Packet} {A_a1_6 : Option Addr} {c_a1_6 : Nat} {X_a1_6 : Hp} {A_a1_9 : Option Addr} {c_a1_9 : Nat} {X_a1_9 : Hp} {A_a1_10 : Option Addr} {c_a1_10 : Nat} {X_a1_10 : Hp} {A_a1_11 : Option Addr} {c_a1_11 : Nat} {X_a1_11 : Hp} {r : f_plenumref1_SamePacket.R} (H : f_plenumref1_SamePacket a0 a1 = some r) (HF : Fits z w F) (hX_a0_6 : X_a0_6 ⊆ F) (hr_a0_6 : RdS (kInt .i64) X_a0_6 A_a0_6 c_a0_6 a0.f_Seen) (hX_a0_9 : X_a0_9 ⊆ F) (hr_a0_9 : RdS k_T_api_Head X_a0_9 A_a0_9 c_a0_9 a0.f_Heads) (hX_a0_10 : X_a0_10 ⊆ F) (hr_a0_10 : RdS k_T_api_Key X_a0_10 A_a0_10 c_a0_10 a0.f_Keys) (hX_a0_11 : X_a0_11 ⊆ F) (hr_a0_11 : RdS (kShr G k_T_api_Lsa) X_a0_11 A_a0_11 c_a0_11 a0.f_Lsas) (hX_a1_6 : X_a1_6 ⊆ F) (hr_a1_6 : RdS (kInt .i64) X_a1_6 A_a1_6 c_a1_6 a1.f_Seen) (hX_a1_9 : X_a1_9 ⊆ F) (hr_a1_9 : RdS k_T_api_Head X_a1_9 A_a1_9 c_a1_9 a1.f_Heads) (hX_a1_10 : X_a1_10 ⊆ F) (hr_a1_10 : RdS k_T_api_Key X_a1_10 A_a1_10 c_a1_10 a1.f_Keys) (hX_a1_11 : X_a1_11 ⊆ F) (hr_a1_11 : RdS (kShr G k_T_api_Lsa) X_a1_11 A_a1_11 c_a1_11 a1.f_Lsas) :
    Calls Try.prog 8 [.agg [.int .i64 a0.f_Kind, .int .i64 a0.f_Router, .int .i64 a0.f_Bits, .int .i64 a0.f_Prio, .int .i64 a0.f_Dr, .int .i64 a0.f_Bdr, .slice A_a0_6 a0.f_Seen.length c_a0_6, .int .i64 a0.f_Flags, .int .i64 a0.f_Seq, .slice A_a0_9 a0.f_Heads.length c_a0_9, .slice A_a0_10 a0.f_Keys.length c_a0_10, .slice A_a0_11 a0.f_Lsas.length c_a0_11].toArray, .agg [.int .i64 a1.f_Kind, .int .i64 a1.f_Router, .int .i64 a1.f_Bits, .int .i64 a1.f_Prio, .int .i64 a1.f_Dr, .int .i64 a1.f_Bdr, .slice A_a1_6 a1.f_Seen.length c_a1_6, .int .i64 a1.f_Flags, .int .i64 a1.f_Seq, .slice A_a1_9 a1.f_Heads.length c_a1_9, .slice A_a1_10 a1.f_Keys.length c_a1_10, .slice A_a1_11 a1.f_Lsas.length c_a1_11].toArray].toArray w fun e w' => e = .returned (.bool r) ∧ Fits z w' F := by
  unfold f_plenumref1_SamePacket at H
  refine enter0 Try.func8 rfl Try.ntmps8 rfl (E := [(0, .agg [.int .i64 a0.f_Kind, .int .i64 a0.f_Router, .int .i64 a0.f_Bits, .int .i64 a0.f_Prio, .int .i64 a0.f_Dr, .int .i64 a0.f_Bdr, .slice A_a0_6 a0.f_Seen.length c_a0_6, .int .i64 a0.f_Flags, .int .i64 a0.f_Seq, .slice A_a0_9 a0.f_Heads.length c_a0_9, .slice A_a0_10 a0.f_Keys.length c_a0_10, .slice A_a0_11 a0.f_Lsas.length c_a0_11].toArray), (1, .agg [.int .i64 a1.f_Kind, .int .i64 a1.f_Router, .int .i64 a1.f_Bits, .int .i64 a1.f_Prio, .int .i64 a1.f_Dr, .int .i64 a1.f_Bdr, .slice A_a1_6 a1.f_Seen.length c_a1_6, .int .i64 a1.f_Flags, .int .i64 a1.f_Seq, .slice A_a1_9 a1.f_Heads.length c_a1_9, .slice A_a1_10 a1.f_Keys.length c_a1_10, .slice A_a1_11 a1.f_Lsas.length c_a1_11].toArray)]) rfl ?_
  refine cSeq (fun K1 hK1 => ?_)
  refine cRgn [] trivial ?_
  refine eW (oBox HF rfl) rfl ?_
  rintro _ w1 ⟨g1, rfl, HF1⟩
  refine eW (oBox HF1 rfl) rfl ?_
  rintro _ w2 ⟨g2, rfl, HF2⟩
  refine sL (asg rfl) rfl ?_
  refine lEnd (K := fun _ _ => True) ?_
  refine kN (?_)
  refine hK1 _ _ ?_
  refine cSeq (fun K2 hK2 => ?_)
  refine cRgn [(5, 10), (12, 17), (19, 24), (26, 31), (33, 38), (40, 45), (47, 52), (54, 59), (61, 66), (68, 73), (75, 80)] ⟨rfl, rfl, rfl, rfl, rfl, rfl, rfl, rfl, rfl, rfl, rfl, trivial⟩ ?_
  refine sL (fa27_0 rfl) rfl ?_
  refine sL (ld rfl Try.underlying3 rfl (HF2.box (mem_c mem_h) rfl)) rfl ?_
  refine sL (fa27_0 rfl) rfl ?_
  refine sL (ld rfl Try.underlying3 rfl (HF2.box (mem_h) rfl)) rfl ?_
  refine sL (bEql rfl rfl) rfl ?_
  refine sL (mv rfl) rfl ?_
  by_cases c1 : a0.f_Kind = a1.f_Kind
  · replace H := itT c1 H
    refine lSet (i := 10) rfl (dT c1) ?_
    refine sG rfl rfl (fa27_1 rfl) rfl ?_
    refine sG rfl rfl (ld rfl Try.underlying3 rfl (HF2.box (mem_c mem_h) rfl)) rfl ?_
    refine sG rfl rfl (fa27_1 rfl) rfl ?_
    refine sG rfl rfl (ld rfl Try.underlying3 rfl (HF2.box (mem_h) rfl)) rfl ?_
    refine sG rfl rfl (bEql rfl rfl) rfl ?_
    refine sL (pkT rfl rfl) rfl ?_
    refine sL (mv rfl) rfl ?_
    by_cases c2 : a0.f_Router = a1.f_Router
    · replace H := itT c2 H
      refine lSet (i := 17) rfl (dT c2) ?_
      refine sG rfl rfl (fa27_2 rfl) rfl ?_
      refine sG rfl rfl (ld rfl Try.underlying3 rfl (HF2.box (mem_c mem_h) rfl)) rfl ?_
      refine sG rfl rfl (fa27_2 rfl) rfl ?_
      refine sG rfl rfl (ld rfl Try.underlying3 rfl (HF2.box (mem_h) rfl)) rfl ?_
      refine sG rfl rfl (bEql rfl rfl) rfl ?_
      refine sL (pkT rfl rfl) rfl ?_
      refine sL (mv rfl) rfl ?_
      by_cases c3 : a0.f_Bits = a1.f_Bits
      · replace H := itT c3 H
        refine lSet (i := 24) rfl (dT c3) ?_
        refine sG rfl rfl (fa27_3 rfl) rfl ?_
        refine sG rfl rfl (ld rfl Try.underlying3 rfl (HF2.box (mem_c mem_h) rfl)) rfl ?_
        refine sG rfl rfl (fa27_3 rfl) rfl ?_
        refine sG rfl rfl (ld rfl Try.underlying3 rfl (HF2.box (mem_h) rfl)) rfl ?_
        refine sG rfl rfl (bEql rfl rfl) rfl ?_
        refine sL (pkT rfl rfl) rfl ?_
        refine sL (mv rfl) rfl ?_
        by_cases c4 : a0.f_Prio = a1.f_Prio
        · replace H := itT c4 H
          refine lSet (i := 31) rfl (dT c4) ?_
          refine sG rfl rfl (fa27_4 rfl) rfl ?_
          refine sG rfl rfl (ld rfl Try.underlying3 rfl (HF2.box (mem_c mem_h) rfl)) rfl ?_
          refine sG rfl rfl (fa27_4 rfl) rfl ?_
          refine sG rfl rfl (ld rfl Try.underlying3 rfl (HF2.box (mem_h) rfl)) rfl ?_
          refine sG rfl rfl (bEql rfl rfl) rfl ?_
          refine sL (pkT rfl rfl) rfl ?_
          refine sL (mv rfl) rfl ?_
          by_cases c5 : a0.f_Dr = a1.f_Dr
          · replace H := itT c5 H
            refine lSet (i := 38) rfl (dT c5) ?_
            refine sG rfl rfl (fa27_5 rfl) rfl ?_
            refine sG rfl rfl (ld rfl Try.underlying3 rfl (HF2.box (mem_c mem_h) rfl)) rfl ?_
            refine sG rfl rfl (fa27_5 rfl) rfl ?_
            refine sG rfl rfl (ld rfl Try.underlying3 rfl (HF2.box (mem_h) rfl)) rfl ?_
            refine sG rfl rfl (bEql rfl rfl) rfl ?_
            refine sL (pkT rfl rfl) rfl ?_
            refine sL (mv rfl) rfl ?_
            by_cases c6 : a0.f_Bdr = a1.f_Bdr
            · replace H := itT c6 H
              refine lSet (i := 45) rfl (dT c6) ?_
              refine sG rfl rfl (fa27_6 rfl) rfl ?_
              refine sG rfl rfl (ld rfl Try.underlying22 rfl (HF2.box (mem_c mem_h) rfl)) rfl ?_
              refine sG rfl rfl (fa27_6 rfl) rfl ?_
              refine sG rfl rfl (ld rfl Try.underlying22 rfl (HF2.box (mem_h) rfl)) rfl ?_
              replace H := bnd H; obtain ⟨t1, J1, H⟩ := H
              refine eCallG rfl rfl isf23 rfl rfl rfl (f_plenumref1_Ints.ok (a0 := a0.f_Seen) (a1 := a1.f_Seen) (sub_c (sub_c hG)) J1 HF2 (sub_c (sub_c hX_a0_6)) hr_a0_6 (sub_c (sub_c hX_a1_6)) hr_a1_6) ?_
              rintro _ w3 ⟨rfl, HF3⟩
              refine ⟨_, rfl, ?_⟩
              refine sL (pkT rfl rfl) rfl ?_
              refine sL (mv rfl) rfl ?_
              by_cases c7 : t1 = true
              · replace H := itT c7 H
                refine lSet (i := 52) rfl (vT c7) ?_
                refine sG rfl rfl (fa27_7 rfl) rfl ?_
                refine sG rfl rfl (ld rfl Try.underlying3 rfl (HF3.box (mem_c mem_h) rfl)) rfl ?_
                refine sG rfl rfl (fa27_7 rfl) rfl ?_
                refine sG rfl rfl (ld rfl Try.underlying3 rfl (HF3.box (mem_h) rfl)) rfl ?_
                refine sG rfl rfl (bEql rfl rfl) rfl ?_
                refine sL (pkT rfl rfl) rfl ?_
                refine sL (mv rfl) rfl ?_
                by_cases c8 : a0.f_Flags = a1.f_Flags
                · replace H := itT c8 H
                  refine lSet (i := 59) rfl (dT c8) ?_
                  refine sG rfl rfl (fa27_8 rfl) rfl ?_
                  refine sG rfl rfl (ld rfl Try.underlying3 rfl (HF3.box (mem_c mem_h) rfl)) rfl ?_
                  refine sG rfl rfl (fa27_8 rfl) rfl ?_
                  refine sG rfl rfl (ld rfl Try.underlying3 rfl (HF3.box (mem_h) rfl)) rfl ?_
                  refine sG rfl rfl (bEql rfl rfl) rfl ?_
                  refine sL (pkT rfl rfl) rfl ?_
                  refine sL (mv rfl) rfl ?_
                  by_cases c9 : a0.f_Seq = a1.f_Seq
                  · replace H := itT c9 H
                    refine lSet (i := 66) rfl (dT c9) ?_
                    refine sG rfl rfl (fa27_9 rfl) rfl ?_
                    refine sG rfl rfl (ld rfl Try.underlying23 rfl (HF3.box (mem_c mem_h) rfl)) rfl ?_
                    refine sG rfl rfl (fa27_9 rfl) rfl ?_
                    refine sG rfl rfl (ld rfl Try.underlying23 rfl (HF3.box (mem_h) rfl)) rfl ?_
                    replace H := bnd H; obtain ⟨t2, J2, H⟩ := H
                    refine eCallG rfl rfl isf24 rfl rfl rfl (f_plenumref1_Heads.ok (a0 := a0.f_Heads) (a1 := a1.f_Heads) (sub_c (sub_c hG)) J2 HF3 (sub_c (sub_c hX_a0_9)) hr_a0_9 (sub_c (sub_c hX_a1_9)) hr_a1_9) ?_
                    rintro _ w4 ⟨rfl, HF4⟩
                    refine ⟨_, rfl, ?_⟩
                    refine sL (pkT rfl rfl) rfl ?_
                    refine sL (mv rfl) rfl ?_
                    by_cases c10 : t2 = true
                    · replace H := itT c10 H
                      refine lSet (i := 73) rfl (vT c10) ?_
                      refine sG rfl rfl (fa27_10 rfl) rfl ?_
                      refine sG rfl rfl (ld rfl Try.underlying24 rfl (HF4.box (mem_c mem_h) rfl)) rfl ?_
                      refine sG rfl rfl (fa27_10 rfl) rfl ?_
                      refine sG rfl rfl (ld rfl Try.underlying24 rfl (HF4.box (mem_h) rfl)) rfl ?_
                      replace H := bnd H; obtain ⟨t3, J3, H⟩ := H
                      refine eCallG rfl rfl isf25 rfl rfl rfl (f_plenumref1_Keys.ok (a0 := a0.f_Keys) (a1 := a1.f_Keys) (sub_c (sub_c hG)) J3 HF4 (sub_c (sub_c hX_a0_10)) hr_a0_10 (sub_c (sub_c hX_a1_10)) hr_a1_10) ?_
                      rintro _ w5 ⟨rfl, HF5⟩
                      refine ⟨_, rfl, ?_⟩
                      refine sL (pkT rfl rfl) rfl ?_
                      refine sL (mv rfl) rfl ?_
                      by_cases c11 : t3 = true
                      · replace H := itT c11 H
                        refine lSet (i := 80) rfl (vT c11) ?_
                        refine sG rfl rfl (fa27_11 rfl) rfl ?_
                        refine sG rfl rfl (ld rfl Try.underlying25 rfl (HF5.box (mem_c mem_h) rfl)) rfl ?_
                        refine sG rfl rfl (fa27_11 rfl) rfl ?_
                        refine sG rfl rfl (ld rfl Try.underlying25 rfl (HF5.box (mem_h) rfl)) rfl ?_
                        replace H := bnd H; obtain ⟨t4, J4, H⟩ := H
                        refine eCallG rfl rfl isf26 rfl rfl rfl (f_plenumref1_Lsas.ok (a0 := a0.f_Lsas) (a1 := a1.f_Lsas) (sub_c (sub_c hG)) J4 HF5 (sub_c (sub_c hX_a0_11)) hr_a0_11 (sub_c (sub_c hX_a1_11)) hr_a1_11) ?_
                        rintro _ w6 ⟨rfl, HF6⟩
                        refine ⟨_, rfl, ?_⟩
                        refine sL (pkT rfl rfl) rfl ?_
                        refine sL (asg rfl) rfl ?_
                        refine lEnd (K := fun _ _ => True) ?_
                        refine kN (?_)
                        refine hK2 _ _ ?_
                        refine cRet ?_
                        obtain rfl := Option.some.inj H
                        refine ret1 rfl rfl ?_
                        have HF7 := HF6.sublist (sl_dc (sl_dc (List.Sublist.refl _)))
                        exact ⟨rfl, HF7⟩
                      · replace H := itF c11 H
                        refine lSet (i := 80) rfl (vF c11) ?_
                        refine sN rfl rfl rfl rfl ?_
                        refine sN rfl rfl rfl rfl ?_
                        refine sN rfl rfl rfl rfl ?_
                        refine sN rfl rfl rfl rfl ?_
                        refine sN rfl rfl rfl rfl ?_
                        refine sL (pkF rfl rfl) rfl ?_
                        refine sL (asg rfl) rfl ?_
                        refine lEnd (K := fun _ _ => True) ?_
                        refine kN (?_)
                        refine hK2 _ _ ?_
                        refine cRet ?_
                        obtain rfl := Option.some.inj H
                        refine ret1 rfl rfl ?_
                        have HF8 := HF5.sublist (sl_dc (sl_dc (List.Sublist.refl _)))
                        exact ⟨rfl, HF8⟩
                    · replace H := itF c10 H
                      refine lSet (i := 73) rfl (vF c10) ?_
                      refine sN rfl rfl rfl rfl ?_
                      refine sN rfl rfl rfl rfl ?_
                      refine sN rfl rfl rfl rfl ?_
                      refine sN rfl rfl rfl rfl ?_
                      refine sN rfl rfl rfl rfl ?_
                      refine sL (pkF rfl rfl) rfl ?_
                      refine sL (mv rfl) rfl ?_
                      refine sN rfl rfl rfl rfl ?_
                      refine sN rfl rfl rfl rfl ?_
                      refine sN rfl rfl rfl rfl ?_
                      refine sN rfl rfl rfl rfl ?_
                      refine sN rfl rfl rfl rfl ?_
                      refine sL (pkF rfl rfl) rfl ?_
                      refine sL (asg rfl) rfl ?_
                      refine lEnd (K := fun _ _ => True) ?_
                      refine kN (?_)
                      refine hK2 _ _ ?_
                      refine cRet ?_
                      obtain rfl := Option.some.inj H
                      refine ret1 rfl rfl ?_
                      have HF9 := HF4.sublist (sl_dc (sl_dc (List.Sublist.refl _)))
                      exact ⟨rfl, HF9⟩
                  · replace H := itF c9 H
                    refine lSet (i := 66) rfl (dF c9) ?_
                    refine sN rfl rfl rfl rfl ?_
                    refine sN rfl rfl rfl rfl ?_
                    refine sN rfl rfl rfl rfl ?_
                    refine sN rfl rfl rfl rfl ?_
                    refine sN rfl rfl rfl rfl ?_
                    refine sL (pkF rfl rfl) rfl ?_
                    refine sL (mv rfl) rfl ?_
                    refine sN rfl rfl rfl rfl ?_
                    refine sN rfl rfl rfl rfl ?_
                    refine sN rfl rfl rfl rfl ?_
                    refine sN rfl rfl rfl rfl ?_
                    refine sN rfl rfl rfl rfl ?_
                    refine sL (pkF rfl rfl) rfl ?_
                    refine sL (mv rfl) rfl ?_
                    refine sN rfl rfl rfl rfl ?_
                    refine sN rfl rfl rfl rfl ?_
                    refine sN rfl rfl rfl rfl ?_
                    refine sN rfl rfl rfl rfl ?_
                    refine sN rfl rfl rfl rfl ?_
                    refine sL (pkF rfl rfl) rfl ?_
                    refine sL (asg rfl) rfl ?_
                    refine lEnd (K := fun _ _ => True) ?_
                    refine kN (?_)
                    refine hK2 _ _ ?_
                    refine cRet ?_
                    obtain rfl := Option.some.inj H
                    refine ret1 rfl rfl ?_
                    have HF10 := HF3.sublist (sl_dc (sl_dc (List.Sublist.refl _)))
                    exact ⟨rfl, HF10⟩
                · replace H := itF c8 H
                  refine lSet (i := 59) rfl (dF c8) ?_
                  refine sN rfl rfl rfl rfl ?_
                  refine sN rfl rfl rfl rfl ?_
                  refine sN rfl rfl rfl rfl ?_
                  refine sN rfl rfl rfl rfl ?_
                  refine sN rfl rfl rfl rfl ?_
                  refine sL (pkF rfl rfl) rfl ?_
                  refine sL (mv rfl) rfl ?_
                  refine sN rfl rfl rfl rfl ?_
                  refine sN rfl rfl rfl rfl ?_
                  refine sN rfl rfl rfl rfl ?_
                  refine sN rfl rfl rfl rfl ?_
                  refine sN rfl rfl rfl rfl ?_
                  refine sL (pkF rfl rfl) rfl ?_
                  refine sL (mv rfl) rfl ?_
                  refine sN rfl rfl rfl rfl ?_
                  refine sN rfl rfl rfl rfl ?_
                  refine sN rfl rfl rfl rfl ?_
                  refine sN rfl rfl rfl rfl ?_
                  refine sN rfl rfl rfl rfl ?_
                  refine sL (pkF rfl rfl) rfl ?_
                  refine sL (mv rfl) rfl ?_
                  refine sN rfl rfl rfl rfl ?_
                  refine sN rfl rfl rfl rfl ?_
                  refine sN rfl rfl rfl rfl ?_
                  refine sN rfl rfl rfl rfl ?_
                  refine sN rfl rfl rfl rfl ?_
                  refine sL (pkF rfl rfl) rfl ?_
                  refine sL (asg rfl) rfl ?_
                  refine lEnd (K := fun _ _ => True) ?_
                  refine kN (?_)
                  refine hK2 _ _ ?_
                  refine cRet ?_
                  obtain rfl := Option.some.inj H
                  refine ret1 rfl rfl ?_
                  have HF11 := HF3.sublist (sl_dc (sl_dc (List.Sublist.refl _)))
                  exact ⟨rfl, HF11⟩
              · replace H := itF c7 H
                refine lSet (i := 52) rfl (vF c7) ?_
                refine sN rfl rfl rfl rfl ?_
                refine sN rfl rfl rfl rfl ?_
                refine sN rfl rfl rfl rfl ?_
                refine sN rfl rfl rfl rfl ?_
                refine sN rfl rfl rfl rfl ?_
                refine sL (pkF rfl rfl) rfl ?_
                refine sL (mv rfl) rfl ?_
                refine sN rfl rfl rfl rfl ?_
                refine sN rfl rfl rfl rfl ?_
                refine sN rfl rfl rfl rfl ?_
                refine sN rfl rfl rfl rfl ?_
                refine sN rfl rfl rfl rfl ?_
                refine sL (pkF rfl rfl) rfl ?_
                refine sL (mv rfl) rfl ?_
                refine sN rfl rfl rfl rfl ?_
                refine sN rfl rfl rfl rfl ?_
                refine sN rfl rfl rfl rfl ?_
                refine sN rfl rfl rfl rfl ?_
                refine sN rfl rfl rfl rfl ?_
                refine sL (pkF rfl rfl) rfl ?_
                refine sL (mv rfl) rfl ?_
                refine sN rfl rfl rfl rfl ?_
                refine sN rfl rfl rfl rfl ?_
                refine sN rfl rfl rfl rfl ?_
                refine sN rfl rfl rfl rfl ?_
                refine sN rfl rfl rfl rfl ?_
                refine sL (pkF rfl rfl) rfl ?_
                refine sL (mv rfl) rfl ?_
                refine sN rfl rfl rfl rfl ?_
                refine sN rfl rfl rfl rfl ?_
                refine sN rfl rfl rfl rfl ?_
                refine sN rfl rfl rfl rfl ?_
                refine sN rfl rfl rfl rfl ?_
                refine sL (pkF rfl rfl) rfl ?_
                refine sL (asg rfl) rfl ?_
                refine lEnd (K := fun _ _ => True) ?_
                refine kN (?_)
                refine hK2 _ _ ?_
                refine cRet ?_
                obtain rfl := Option.some.inj H
                refine ret1 rfl rfl ?_
                have HF12 := HF3.sublist (sl_dc (sl_dc (List.Sublist.refl _)))
                exact ⟨rfl, HF12⟩
            · replace H := itF c6 H
              refine lSet (i := 45) rfl (dF c6) ?_
              refine sN rfl rfl rfl rfl ?_
              refine sN rfl rfl rfl rfl ?_
              refine sN rfl rfl rfl rfl ?_
              refine sN rfl rfl rfl rfl ?_
              refine sN rfl rfl rfl rfl ?_
              refine sL (pkF rfl rfl) rfl ?_
              refine sL (mv rfl) rfl ?_
              refine sN rfl rfl rfl rfl ?_
              refine sN rfl rfl rfl rfl ?_
              refine sN rfl rfl rfl rfl ?_
              refine sN rfl rfl rfl rfl ?_
              refine sN rfl rfl rfl rfl ?_
              refine sL (pkF rfl rfl) rfl ?_
              refine sL (mv rfl) rfl ?_
              refine sN rfl rfl rfl rfl ?_
              refine sN rfl rfl rfl rfl ?_
              refine sN rfl rfl rfl rfl ?_
              refine sN rfl rfl rfl rfl ?_
              refine sN rfl rfl rfl rfl ?_
              refine sL (pkF rfl rfl) rfl ?_
              refine sL (mv rfl) rfl ?_
              refine sN rfl rfl rfl rfl ?_
              refine sN rfl rfl rfl rfl ?_
              refine sN rfl rfl rfl rfl ?_
              refine sN rfl rfl rfl rfl ?_
              refine sN rfl rfl rfl rfl ?_
              refine sL (pkF rfl rfl) rfl ?_
              refine sL (mv rfl) rfl ?_
              refine sN rfl rfl rfl rfl ?_
              refine sN rfl rfl rfl rfl ?_
              refine sN rfl rfl rfl rfl ?_
              refine sN rfl rfl rfl rfl ?_
              refine sN rfl rfl rfl rfl ?_
              refine sL (pkF rfl rfl) rfl ?_
              refine sL (mv rfl) rfl ?_
              refine sN rfl rfl rfl rfl ?_
              refine sN rfl rfl rfl rfl ?_
              refine sN rfl rfl rfl rfl ?_
              refine sN rfl rfl rfl rfl ?_
              refine sN rfl rfl rfl rfl ?_
              refine sL (pkF rfl rfl) rfl ?_
              refine sL (asg rfl) rfl ?_
              refine lEnd (K := fun _ _ => True) ?_
              refine kN (?_)
              refine hK2 _ _ ?_
              refine cRet ?_
              obtain rfl := Option.some.inj H
              refine ret1 rfl rfl ?_
              have HF13 := HF2.sublist (sl_dc (sl_dc (List.Sublist.refl _)))
              exact ⟨rfl, HF13⟩
          · replace H := itF c5 H
            refine lSet (i := 38) rfl (dF c5) ?_
            refine sN rfl rfl rfl rfl ?_
            refine sN rfl rfl rfl rfl ?_
            refine sN rfl rfl rfl rfl ?_
            refine sN rfl rfl rfl rfl ?_
            refine sN rfl rfl rfl rfl ?_
            refine sL (pkF rfl rfl) rfl ?_
            refine sL (mv rfl) rfl ?_
            refine sN rfl rfl rfl rfl ?_
            refine sN rfl rfl rfl rfl ?_
            refine sN rfl rfl rfl rfl ?_
            refine sN rfl rfl rfl rfl ?_
            refine sN rfl rfl rfl rfl ?_
            refine sL (pkF rfl rfl) rfl ?_
            refine sL (mv rfl) rfl ?_
            refine sN rfl rfl rfl rfl ?_
            refine sN rfl rfl rfl rfl ?_
            refine sN rfl rfl rfl rfl ?_
            refine sN rfl rfl rfl rfl ?_
            refine sN rfl rfl rfl rfl ?_
            refine sL (pkF rfl rfl) rfl ?_
            refine sL (mv rfl) rfl ?_
            refine sN rfl rfl rfl rfl ?_
            refine sN rfl rfl rfl rfl ?_
            refine sN rfl rfl rfl rfl ?_
            refine sN rfl rfl rfl rfl ?_
            refine sN rfl rfl rfl rfl ?_
            refine sL (pkF rfl rfl) rfl ?_
            refine sL (mv rfl) rfl ?_
            refine sN rfl rfl rfl rfl ?_
            refine sN rfl rfl rfl rfl ?_
            refine sN rfl rfl rfl rfl ?_
            refine sN rfl rfl rfl rfl ?_
            refine sN rfl rfl rfl rfl ?_
            refine sL (pkF rfl rfl) rfl ?_
            refine sL (mv rfl) rfl ?_
            refine sN rfl rfl rfl rfl ?_
            refine sN rfl rfl rfl rfl ?_
            refine sN rfl rfl rfl rfl ?_
            refine sN rfl rfl rfl rfl ?_
            refine sN rfl rfl rfl rfl ?_
            refine sL (pkF rfl rfl) rfl ?_
            refine sL (mv rfl) rfl ?_
            refine sN rfl rfl rfl rfl ?_
            refine sN rfl rfl rfl rfl ?_
            refine sN rfl rfl rfl rfl ?_
            refine sN rfl rfl rfl rfl ?_
            refine sN rfl rfl rfl rfl ?_
            refine sL (pkF rfl rfl) rfl ?_
            refine sL (asg rfl) rfl ?_
            refine lEnd (K := fun _ _ => True) ?_
            refine kN (?_)
            refine hK2 _ _ ?_
            refine cRet ?_
            obtain rfl := Option.some.inj H
            refine ret1 rfl rfl ?_
            have HF14 := HF2.sublist (sl_dc (sl_dc (List.Sublist.refl _)))
            exact ⟨rfl, HF14⟩
        · replace H := itF c4 H
          refine lSet (i := 31) rfl (dF c4) ?_
          refine sN rfl rfl rfl rfl ?_
          refine sN rfl rfl rfl rfl ?_
          refine sN rfl rfl rfl rfl ?_
          refine sN rfl rfl rfl rfl ?_
          refine sN rfl rfl rfl rfl ?_
          refine sL (pkF rfl rfl) rfl ?_
          refine sL (mv rfl) rfl ?_
          refine sN rfl rfl rfl rfl ?_
          refine sN rfl rfl rfl rfl ?_
          refine sN rfl rfl rfl rfl ?_
          refine sN rfl rfl rfl rfl ?_
          refine sN rfl rfl rfl rfl ?_
          refine sL (pkF rfl rfl) rfl ?_
          refine sL (mv rfl) rfl ?_
          refine sN rfl rfl rfl rfl ?_
          refine sN rfl rfl rfl rfl ?_
          refine sN rfl rfl rfl rfl ?_
          refine sN rfl rfl rfl rfl ?_
          refine sN rfl rfl rfl rfl ?_
          refine sL (pkF rfl rfl) rfl ?_
          refine sL (mv rfl) rfl ?_
          refine sN rfl rfl rfl rfl ?_
          refine sN rfl rfl rfl rfl ?_
          refine sN rfl rfl rfl rfl ?_
          refine sN rfl rfl rfl rfl ?_
          refine sN rfl rfl rfl rfl ?_
          refine sL (pkF rfl rfl) rfl ?_
          refine sL (mv rfl) rfl ?_
          refine sN rfl rfl rfl rfl ?_
          refine sN rfl rfl rfl rfl ?_
          refine sN rfl rfl rfl rfl ?_
          refine sN rfl rfl rfl rfl ?_
          refine sN rfl rfl rfl rfl ?_
          refine sL (pkF rfl rfl) rfl ?_
          refine sL (mv rfl) rfl ?_
          refine sN rfl rfl rfl rfl ?_
          refine sN rfl rfl rfl rfl ?_
          refine sN rfl rfl rfl rfl ?_
          refine sN rfl rfl rfl rfl ?_
          refine sN rfl rfl rfl rfl ?_
          refine sL (pkF rfl rfl) rfl ?_
          refine sL (mv rfl) rfl ?_
          refine sN rfl rfl rfl rfl ?_
          refine sN rfl rfl rfl rfl ?_
          refine sN rfl rfl rfl rfl ?_
          refine sN rfl rfl rfl rfl ?_
          refine sN rfl rfl rfl rfl ?_
          refine sL (pkF rfl rfl) rfl ?_
          refine sL (mv rfl) rfl ?_
          refine sN rfl rfl rfl rfl ?_
          refine sN rfl rfl rfl rfl ?_
          refine sN rfl rfl rfl rfl ?_
          refine sN rfl rfl rfl rfl ?_
          refine sN rfl rfl rfl rfl ?_
          refine sL (pkF rfl rfl) rfl ?_
          refine sL (asg rfl) rfl ?_
          refine lEnd (K := fun _ _ => True) ?_
          refine kN (?_)
          refine hK2 _ _ ?_
          refine cRet ?_
          obtain rfl := Option.some.inj H
          refine ret1 rfl rfl ?_
          have HF15 := HF2.sublist (sl_dc (sl_dc (List.Sublist.refl _)))
          exact ⟨rfl, HF15⟩
      · replace H := itF c3 H
        refine lSet (i := 24) rfl (dF c3) ?_
        refine sN rfl rfl rfl rfl ?_
        refine sN rfl rfl rfl rfl ?_
        refine sN rfl rfl rfl rfl ?_
        refine sN rfl rfl rfl rfl ?_
        refine sN rfl rfl rfl rfl ?_
        refine sL (pkF rfl rfl) rfl ?_
        refine sL (mv rfl) rfl ?_
        refine sN rfl rfl rfl rfl ?_
        refine sN rfl rfl rfl rfl ?_
        refine sN rfl rfl rfl rfl ?_
        refine sN rfl rfl rfl rfl ?_
        refine sN rfl rfl rfl rfl ?_
        refine sL (pkF rfl rfl) rfl ?_
        refine sL (mv rfl) rfl ?_
        refine sN rfl rfl rfl rfl ?_
        refine sN rfl rfl rfl rfl ?_
        refine sN rfl rfl rfl rfl ?_
        refine sN rfl rfl rfl rfl ?_
        refine sN rfl rfl rfl rfl ?_
        refine sL (pkF rfl rfl) rfl ?_
        refine sL (mv rfl) rfl ?_
        refine sN rfl rfl rfl rfl ?_
        refine sN rfl rfl rfl rfl ?_
        refine sN rfl rfl rfl rfl ?_
        refine sN rfl rfl rfl rfl ?_
        refine sN rfl rfl rfl rfl ?_
        refine sL (pkF rfl rfl) rfl ?_
        refine sL (mv rfl) rfl ?_
        refine sN rfl rfl rfl rfl ?_
        refine sN rfl rfl rfl rfl ?_
        refine sN rfl rfl rfl rfl ?_
        refine sN rfl rfl rfl rfl ?_
        refine sN rfl rfl rfl rfl ?_
        refine sL (pkF rfl rfl) rfl ?_
        refine sL (mv rfl) rfl ?_
        refine sN rfl rfl rfl rfl ?_
        refine sN rfl rfl rfl rfl ?_
        refine sN rfl rfl rfl rfl ?_
        refine sN rfl rfl rfl rfl ?_
        refine sN rfl rfl rfl rfl ?_
        refine sL (pkF rfl rfl) rfl ?_
        refine sL (mv rfl) rfl ?_
        refine sN rfl rfl rfl rfl ?_
        refine sN rfl rfl rfl rfl ?_
        refine sN rfl rfl rfl rfl ?_
        refine sN rfl rfl rfl rfl ?_
        refine sN rfl rfl rfl rfl ?_
        refine sL (pkF rfl rfl) rfl ?_
        refine sL (mv rfl) rfl ?_
        refine sN rfl rfl rfl rfl ?_
        refine sN rfl rfl rfl rfl ?_
        refine sN rfl rfl rfl rfl ?_
        refine sN rfl rfl rfl rfl ?_
        refine sN rfl rfl rfl rfl ?_
        refine sL (pkF rfl rfl) rfl ?_
        refine sL (mv rfl) rfl ?_
        refine sN rfl rfl rfl rfl ?_
        refine sN rfl rfl rfl rfl ?_
        refine sN rfl rfl rfl rfl ?_
        refine sN rfl rfl rfl rfl ?_
        refine sN rfl rfl rfl rfl ?_
        refine sL (pkF rfl rfl) rfl ?_
        refine sL (asg rfl) rfl ?_
        refine lEnd (K := fun _ _ => True) ?_
        refine kN (?_)
        refine hK2 _ _ ?_
        refine cRet ?_
        obtain rfl := Option.some.inj H
        refine ret1 rfl rfl ?_
        have HF16 := HF2.sublist (sl_dc (sl_dc (List.Sublist.refl _)))
        exact ⟨rfl, HF16⟩
    · replace H := itF c2 H
      refine lSet (i := 17) rfl (dF c2) ?_
      refine sN rfl rfl rfl rfl ?_
      refine sN rfl rfl rfl rfl ?_
      refine sN rfl rfl rfl rfl ?_
      refine sN rfl rfl rfl rfl ?_
      refine sN rfl rfl rfl rfl ?_
      refine sL (pkF rfl rfl) rfl ?_
      refine sL (mv rfl) rfl ?_
      refine sN rfl rfl rfl rfl ?_
      refine sN rfl rfl rfl rfl ?_
      refine sN rfl rfl rfl rfl ?_
      refine sN rfl rfl rfl rfl ?_
      refine sN rfl rfl rfl rfl ?_
      refine sL (pkF rfl rfl) rfl ?_
      refine sL (mv rfl) rfl ?_
      refine sN rfl rfl rfl rfl ?_
      refine sN rfl rfl rfl rfl ?_
      refine sN rfl rfl rfl rfl ?_
      refine sN rfl rfl rfl rfl ?_
      refine sN rfl rfl rfl rfl ?_
      refine sL (pkF rfl rfl) rfl ?_
      refine sL (mv rfl) rfl ?_
      refine sN rfl rfl rfl rfl ?_
      refine sN rfl rfl rfl rfl ?_
      refine sN rfl rfl rfl rfl ?_
      refine sN rfl rfl rfl rfl ?_
      refine sN rfl rfl rfl rfl ?_
      refine sL (pkF rfl rfl) rfl ?_
      refine sL (mv rfl) rfl ?_
      refine sN rfl rfl rfl rfl ?_
      refine sN rfl rfl rfl rfl ?_
      refine sN rfl rfl rfl rfl ?_
      refine sN rfl rfl rfl rfl ?_
      refine sN rfl rfl rfl rfl ?_
      refine sL (pkF rfl rfl) rfl ?_
      refine sL (mv rfl) rfl ?_
      refine sN rfl rfl rfl rfl ?_
      refine sN rfl rfl rfl rfl ?_
      refine sN rfl rfl rfl rfl ?_
      refine sN rfl rfl rfl rfl ?_
      refine sN rfl rfl rfl rfl ?_
      refine sL (pkF rfl rfl) rfl ?_
      refine sL (mv rfl) rfl ?_
      refine sN rfl rfl rfl rfl ?_
      refine sN rfl rfl rfl rfl ?_
      refine sN rfl rfl rfl rfl ?_
      refine sN rfl rfl rfl rfl ?_
      refine sN rfl rfl rfl rfl ?_
      refine sL (pkF rfl rfl) rfl ?_
      refine sL (mv rfl) rfl ?_
      refine sN rfl rfl rfl rfl ?_
      refine sN rfl rfl rfl rfl ?_
      refine sN rfl rfl rfl rfl ?_
      refine sN rfl rfl rfl rfl ?_
      refine sN rfl rfl rfl rfl ?_
      refine sL (pkF rfl rfl) rfl ?_
      refine sL (mv rfl) rfl ?_
      refine sN rfl rfl rfl rfl ?_
      refine sN rfl rfl rfl rfl ?_
      refine sN rfl rfl rfl rfl ?_
      refine sN rfl rfl rfl rfl ?_
      refine sN rfl rfl rfl rfl ?_
      refine sL (pkF rfl rfl) rfl ?_
      refine sL (mv rfl) rfl ?_
      refine sN rfl rfl rfl rfl ?_
      refine sN rfl rfl rfl rfl ?_
      refine sN rfl rfl rfl rfl ?_
      refine sN rfl rfl rfl rfl ?_
      refine sN rfl rfl rfl rfl ?_
      refine sL (pkF rfl rfl) rfl ?_
      refine sL (asg rfl) rfl ?_
      refine lEnd (K := fun _ _ => True) ?_
      refine kN (?_)
      refine hK2 _ _ ?_
      refine cRet ?_
      obtain rfl := Option.some.inj H
      refine ret1 rfl rfl ?_
      have HF17 := HF2.sublist (sl_dc (sl_dc (List.Sublist.refl _)))
      exact ⟨rfl, HF17⟩
  · replace H := itF c1 H
    refine lSet (i := 10) rfl (dF c1) ?_
    refine sN rfl rfl rfl rfl ?_
    refine sN rfl rfl rfl rfl ?_
    refine sN rfl rfl rfl rfl ?_
    refine sN rfl rfl rfl rfl ?_
    refine sN rfl rfl rfl rfl ?_
    refine sL (pkF rfl rfl) rfl ?_
    refine sL (mv rfl) rfl ?_
    refine sN rfl rfl rfl rfl ?_
    refine sN rfl rfl rfl rfl ?_
    refine sN rfl rfl rfl rfl ?_
    refine sN rfl rfl rfl rfl ?_
    refine sN rfl rfl rfl rfl ?_
    refine sL (pkF rfl rfl) rfl ?_
    refine sL (mv rfl) rfl ?_
    refine sN rfl rfl rfl rfl ?_
    refine sN rfl rfl rfl rfl ?_
    refine sN rfl rfl rfl rfl ?_
    refine sN rfl rfl rfl rfl ?_
    refine sN rfl rfl rfl rfl ?_
    refine sL (pkF rfl rfl) rfl ?_
    refine sL (mv rfl) rfl ?_
    refine sN rfl rfl rfl rfl ?_
    refine sN rfl rfl rfl rfl ?_
    refine sN rfl rfl rfl rfl ?_
    refine sN rfl rfl rfl rfl ?_
    refine sN rfl rfl rfl rfl ?_
    refine sL (pkF rfl rfl) rfl ?_
    refine sL (mv rfl) rfl ?_
    refine sN rfl rfl rfl rfl ?_
    refine sN rfl rfl rfl rfl ?_
    refine sN rfl rfl rfl rfl ?_
    refine sN rfl rfl rfl rfl ?_
    refine sN rfl rfl rfl rfl ?_
    refine sL (pkF rfl rfl) rfl ?_
    refine sL (mv rfl) rfl ?_
    refine sN rfl rfl rfl rfl ?_
    refine sN rfl rfl rfl rfl ?_
    refine sN rfl rfl rfl rfl ?_
    refine sN rfl rfl rfl rfl ?_
    refine sN rfl rfl rfl rfl ?_
    refine sL (pkF rfl rfl) rfl ?_
    refine sL (mv rfl) rfl ?_
    refine sN rfl rfl rfl rfl ?_
    refine sN rfl rfl rfl rfl ?_
    refine sN rfl rfl rfl rfl ?_
    refine sN rfl rfl rfl rfl ?_
    refine sN rfl rfl rfl rfl ?_
    refine sL (pkF rfl rfl) rfl ?_
    refine sL (mv rfl) rfl ?_
    refine sN rfl rfl rfl rfl ?_
    refine sN rfl rfl rfl rfl ?_
    refine sN rfl rfl rfl rfl ?_
    refine sN rfl rfl rfl rfl ?_
    refine sN rfl rfl rfl rfl ?_
    refine sL (pkF rfl rfl) rfl ?_
    refine sL (mv rfl) rfl ?_
    refine sN rfl rfl rfl rfl ?_
    refine sN rfl rfl rfl rfl ?_
    refine sN rfl rfl rfl rfl ?_
    refine sN rfl rfl rfl rfl ?_
    refine sN rfl rfl rfl rfl ?_
    refine sL (pkF rfl rfl) rfl ?_
    refine sL (mv rfl) rfl ?_
    refine sN rfl rfl rfl rfl ?_
    refine sN rfl rfl rfl rfl ?_
    refine sN rfl rfl rfl rfl ?_
    refine sN rfl rfl rfl rfl ?_
    refine sN rfl rfl rfl rfl ?_
    refine sL (pkF rfl rfl) rfl ?_
    refine sL (mv rfl) rfl ?_
    refine sN rfl rfl rfl rfl ?_
    refine sN rfl rfl rfl rfl ?_
    refine sN rfl rfl rfl rfl ?_
    refine sN rfl rfl rfl rfl ?_
    refine sN rfl rfl rfl rfl ?_
    refine sL (pkF rfl rfl) rfl ?_
    refine sL (asg rfl) rfl ?_
    refine lEnd (K := fun _ _ => True) ?_
    refine kN (?_)
    refine hK2 _ _ ?_
    refine cRet ?_
    obtain rfl := Option.some.inj H
    refine ret1 rfl rfl ?_
    have HF18 := HF2.sublist (sl_dc (sl_dc (List.Sublist.refl _)))
    exact ⟨rfl, HF18⟩

/-! ### (*plenum/pair.Pair).Again (function 9) -/
abbrev f_pair_Pair_Again_nil.R := T_api_Packet
noncomputable def f_pair_Pair_Again_nil : Option f_pair_Pair_Again_nil.R := some (⟨0, 0, 0, 0, 0, 0, [], 0, 0, [], [], []⟩ : T_api_Packet)
set_option maxHeartbeats 1000000 in
theorem f_pair_Pair_Again_nil.ok {z w : World} {F G : Hp} (hG : G ⊆ F) {r : f_pair_Pair_Again_nil.R} (H : f_pair_Pair_Again_nil = some r) (HF : Fits z w F) :
    Calls Try.prog 9 [.pointer none].toArray w fun e w' => ∃ (N : Hp) (A0 : Option Addr) (c0 : Nat) (A2 : Option Addr) (c2 : Nat) (A4 : Option Addr) (c4 : Nat) (A6 : Option Addr) (c6 : Nat), e = .returned (.agg [.int .i64 r.f_Kind, .int .i64 r.f_Router, .int .i64 r.f_Bits, .int .i64 r.f_Prio, .int .i64 r.f_Dr, .int .i64 r.f_Bdr, .slice A0 r.f_Seen.length c0, .int .i64 r.f_Flags, .int .i64 r.f_Seq, .slice A2 r.f_Heads.length c2, .slice A4 r.f_Keys.length c4, .slice A6 r.f_Lsas.length c6].toArray) ∧ Fits z w' (N ++ F) ∧ RdS (kInt .i64) (N ++ G) A0 c0 r.f_Seen ∧ RdS k_T_api_Head (N ++ G) A2 c2 r.f_Heads ∧ RdS k_T_api_Key (N ++ G) A4 c4 r.f_Keys ∧ RdS (kShr (N ++ G) k_T_api_Lsa) (N ++ G) A6 c6 r.f_Lsas := by
  unfold f_pair_Pair_Again_nil at H
  refine enter0 Try.func9 rfl Try.ntmps9 rfl (E := [(0, .pointer none)]) rfl ?_
  refine cSeq (fun K1 hK1 => ?_)
  refine cRgn [] trivial ?_
  refine eW (oAlloc HF ti27) rfl ?_
  rintro _ w1 ⟨g1, rfl, HF1⟩
  refine lEnd (K := fun _ _ => True) ?_
  refine kN (?_)
  refine hK1 _ _ ?_
  refine cSeq (fun K2 hK2 => ?_)
  refine cSeq (fun K3 hK3 => ?_)
  refine cRgn [] trivial ?_
  refine sL (mv rfl) rfl ?_
  refine sL (bPEql0 rfl rfl Try.underlying30) rfl ?_
  refine lEnd (K := fun _ _ => True) ?_
  refine kN (?_)
  refine hK3 _ _ ?_
  refine cT rfl ?_
  refine cSeq (fun K4 hK4 => ?_)
  refine cRgn [] trivial ?_
  refine sL (bd (r := [.int .i64 0, .int .i64 0, .int .i64 0, .int .i64 0, .int .i64 0, .int .i64 0, .slice none 0 0, .int .i64 0, .int .i64 0, .slice none 0 0, .slice none 0 0, .slice none 0 0]) pl27 ti27 rfl rfl) rfl ?_
  refine eS (oSt (l1 := [.int .i64 0, .int .i64 0, .int .i64 0, .int .i64 0, .int .i64 0, .int .i64 0, .slice none 0 0, .int .i64 0, .int .i64 0, .slice none 0 0, .slice none 0 0, .slice none 0 0]) HF1 rfl rfl ti27 rfl (ones rfl) (Nat.le_of_ble_eq_true rfl) rfl) ?_
  rintro w2 HF2
  refine lEnd (K := fun _ _ => True) ?_
  refine kN (?_)
  refine hK4 _ _ ?_
  refine cRet ?_
  obtain rfl := Option.some.inj H
  refine kR (?_)
  refine retA rfl (rvC rfl (lvA (cs := [.int .i64 0, .int .i64 0, .int .i64 0, .int .i64 0, .int .i64 0, .int .i64 0, .slice none 0 0, .int .i64 0, .int .i64 0, .slice none 0 0, .slice none 0 0, .slice none 0 0]) ti27 rfl rfl (HF2.boxes (o := 0) (n := 12) (mem_h) rfl))) ?_
  have HF3 := HF2.sublist (sl_dc (List.Sublist.refl _))
  exact ⟨[], _, _, _, _, _, _, _, _, rfl, HF3, RdS.nil, RdS.nil, RdS.nil, RdS.nil⟩

/-! ### (*plenum/pair.Pair).Met (function 10) -/
abbrev f_pair_Pair_Met_nil.R := Bool
noncomputable def f_pair_Pair_Met_nil (a1 : T_api_Head) : Option f_pair_Pair_Met_nil.R := some false
set_option maxHeartbeats 1000000 in
theorem f_pair_Pair_Met_nil.ok {z w : World} {F : Hp} {a1 : T_api_Head} {r : f_pair_Pair_Met_nil.R} (H : f_pair_Pair_Met_nil a1 = some r) (HF : Fits z w F) :
    Calls Try.prog 10 [.pointer none, .agg [.int .i64 a1.f_Age, .int .i64 a1.f_Kind, .int .i64 a1.f_Id, .int .i64 a1.f_Adv, .int .i64 a1.f_Seq, .int .i64 a1.f_Sum, .int .i64 a1.f_Len].toArray].toArray w fun e w' => e = .returned (.bool r) ∧ Fits z w' F := by
  unfold f_pair_Pair_Met_nil at H
  refine enter0 Try.func10 rfl Try.ntmps10 rfl (E := [(0, .pointer none), (1, .agg [.int .i64 a1.f_Age, .int .i64 a1.f_Kind, .int .i64 a1.f_Id, .int .i64 a1.f_Adv, .int .i64 a1.f_Seq, .int .i64 a1.f_Sum, .int .i64 a1.f_Len].toArray)]) rfl ?_
  refine cSeq (fun K1 hK1 => ?_)
  refine cRgn [] trivial ?_
  refine eW (oBox HF rfl) rfl ?_
  rintro _ w1 ⟨g1, rfl, HF1⟩
  refine sL (asg rfl) rfl ?_
  refine lEnd (K := fun _ _ => True) ?_
  refine kN (?_)
  refine hK1 _ _ ?_
  refine cSeq (fun K2 hK2 => ?_)
  refine cSeq (fun K3 hK3 => ?_)
  refine cRgn [] trivial ?_
  refine sL (mv rfl) rfl ?_
  refine sL (bPEql0 rfl rfl Try.underlying30) rfl ?_
  refine lEnd (K := fun _ _ => True) ?_
  refine kN (?_)
  refine hK3 _ _ ?_
  refine cT rfl ?_
  refine cSeq (fun K4 hK4 => ?_)
  refine cRgn [] trivial ?_
  refine sL (asg rfl) rfl ?_
  refine lEnd (K := fun _ _ => True) ?_
  refine kN (?_)
  refine hK4 _ _ ?_
  refine cRet ?_
  obtain rfl := Option.some.inj H
  refine kR (?_)
  refine ret1 rfl rfl ?_
  have HF2 := HF1.sublist (sl_dc (List.Sublist.refl _))
  exact ⟨rfl, HF2⟩

/-! ### plenum/pair.low (function 15) -/
abbrev f_pair_low.R := Int
noncomputable def f_pair_low (a0 : Int) : Option f_pair_low.R := some (IntKind.i64.wrap (IntKind.u32.wrap a0))
set_option maxHeartbeats 1000000 in
theorem f_pair_low.ok {z w : World} {F : Hp} {a0 : Int} {r : f_pair_low.R} (H : f_pair_low a0 = some r) (HF : Fits z w F) :
    Calls Try.prog 15 [.int .i64 a0].toArray w fun e w' => e = .returned (.int .i64 r) ∧ Fits z w' F := by
  unfold f_pair_low at H
  refine enter0 Try.func15 rfl Try.ntmps15 rfl (E := [(0, .int .i64 a0)]) rfl ?_
  refine cSeq (fun K1 hK1 => ?_)
  refine cRgn [] trivial ?_
  refine sL (asg rfl) rfl ?_
  refine lEnd (K := fun _ _ => True) ?_
  refine kN (?_)
  refine hK1 _ _ ?_
  refine cSeq (fun K2 hK2 => ?_)
  refine cRgn [] trivial ?_
  refine sL (mv rfl) rfl ?_
  refine sL (cvI rfl Try.underlying3 Try.underlying65) rfl ?_
  refine sL (cvI rfl Try.underlying65 Try.underlying3) rfl ?_
  refine sL (asg rfl) rfl ?_
  refine lEnd (K := fun _ _ => True) ?_
  refine kN (?_)
  refine hK2 _ _ ?_
  refine cRet ?_
  obtain rfl := Option.some.inj H
  refine ret1 rfl rfl ?_
  exact ⟨rfl, HF⟩

/-! ### slices.Clone[[]plenum/api.Head,plenum/api.Head] (function 32) -/
abbrev f_slices_Clone_api_Head_api_Head.R := List T_api_Head
noncomputable def f_slices_Clone_api_Head_api_Head (a0 : List T_api_Head) : Option f_slices_Clone_api_Head_api_Head.R := (if (0 + a0.length) * 56 ≤ 140737488355328 then some a0 else none)
set_option maxHeartbeats 1000000 in
theorem f_slices_Clone_api_Head_api_Head.ok {z w : World} {F G : Hp} (hG : G ⊆ F) {a0 : List T_api_Head} {A_a0 : Option Addr} {c_a0 : Nat} {X_a0 : Hp} {r : f_slices_Clone_api_Head_api_Head.R} (H : f_slices_Clone_api_Head_api_Head a0 = some r) (HF : Fits z w F) (hX_a0 : X_a0 ⊆ F) (hr_a0 : RdS k_T_api_Head X_a0 A_a0 c_a0 a0) :
    Calls Try.prog 32 [.slice A_a0 a0.length c_a0].toArray w fun e w' => ∃ (A0 : Option Addr) (c0 : Nat) (L0 : Hp), e = .returned (.slice A0 r.length c0) ∧ Fits z w' (L0 ++ F) ∧ OwnS k_T_api_Head L0 A0 c0 r := by
  unfold f_slices_Clone_api_Head_api_Head at H
  refine enter0 Try.func32 rfl Try.ntmps32 rfl (E := [(0, .slice A_a0 a0.length c_a0)]) rfl ?_
  refine cSeq (fun K1 hK1 => ?_)
  refine cRgn [] trivial ?_
  refine sL (asg rfl) rfl ?_
  refine lEnd (K := fun _ _ => True) ?_
  refine kN (?_)
  refine hK1 _ _ ?_
  refine cSeq (fun K2 hK2 => ?_)
  refine cSeq (fun K3 hK3 => ?_)
  refine cRgn [] trivial ?_
  refine sL (mv rfl) rfl ?_
  refine sL (bSlEql rfl rfl Try.underlying23) rfl ?_
  refine lEnd (K := fun _ _ => True) ?_
  refine kN (?_)
  refine hK3 _ _ ?_
  rcases hr_a0.nilq with ⟨rfl, e1⟩ | ⟨h1, h2⟩
  · subst e1
    replace H : (some [] : Option f_slices_Clone_api_Head_api_Head.R) = some r := by simpa using H
    refine cSet (i := 4) (v := .bool true) rfl rfl ?_
    refine cT rfl ?_
    refine cSeq (fun K4 hK4 => ?_)
    refine cRgn [] trivial ?_
    refine sL (asg rfl) rfl ?_
    refine lEnd (K := fun _ _ => True) ?_
    refine kN (?_)
    refine hK4 _ _ ?_
    refine cRet ?_
    obtain rfl := Option.some.inj H
    refine kR (?_)
    refine ret1 rfl rfl ?_
    exact ⟨none, 0, [], rfl, HF, OwnS.nil⟩
  · refine cSet (i := 4) rfl (nilF h1) ?_
    refine cF rfl ?_
    refine cSkip ?_
    refine kN (?_)
    refine hK2 _ _ ?_
    refine cSeq (fun K5 hK5 => ?_)
    refine cRgn [] trivial ?_
    refine eW (oLit (r := []) k_T_api_Head ([] : List T_api_Head) HF Try.underlying23 ti29 rfl rfl rfl rfl ⟨rfl, rfl⟩ rfl rfl) rfl ?_
    rintro _ w1 ⟨L1, A1, c1, rfl, HF1, ho1⟩
    refine sL (mv rfl) rfl ?_
    replace H := chk H; obtain ⟨c2, H⟩ := H
    refine eW (oApp (xs := ([] : List T_api_Head)) (ys := a0) k_T_api_Head HF1 rfl rfl Try.underlying23 Try.underlying23 ti29 rfl ho1 (srcR shrF hr_a0 HF1 (sub_a hX_a0)) c2 rfl) rfl ?_
    rintro _ w2 ⟨L2, A2, c3, rfl, HF2, ho2⟩
    refine sL (asg rfl) rfl ?_
    refine lEnd (K := fun _ _ => True) ?_
    refine kN (?_)
    refine hK5 _ _ ?_
    refine cRet ?_
    obtain rfl := Option.some.inj H
    refine ret1 rfl rfl ?_
    exact ⟨_, _, L2, rfl, HF2, ho2⟩

/-! ### plenum/pair.copied (function 12) -/
abbrev f_pair_copied.R := T_api_Packet
noncomputable def f_pair_copied (a0 : T_api_Packet) : Option f_pair_copied.R := ((f_slices_Clone_api_Head_api_Head a0.f_Heads).bind fun t1 => some (⟨a0.f_Kind, a0.f_Router, a0.f_Bits, a0.f_Prio, a0.f_Dr, a0.f_Bdr, a0.f_Seen, a0.f_Flags, a0.f_Seq, t1, a0.f_Keys, a0.f_Lsas⟩ : T_api_Packet))
set_option maxHeartbeats 1000000 in
theorem f_pair_copied.ok {z w : World} {F G : Hp} (hG : G ⊆ F) {a0 : T_api_Packet} {A_a0_6 : Option Addr} {c_a0_6 : Nat} {A_a0_9 : Option Addr} {c_a0_9 : Nat} {X_a0_9 : Hp} {A_a0_10 : Option Addr} {c_a0_10 : Nat} {A_a0_11 : Option Addr} {c_a0_11 : Nat} {r : f_pair_copied.R} (H : f_pair_copied a0 = some r) (HF : Fits z w F) (hr_a0_6 : RdS (kInt .i64) G A_a0_6 c_a0_6 a0.f_Seen) (hX_a0_9 : X_a0_9 ⊆ F) (hr_a0_9 : RdS k_T_api_Head X_a0_9 A_a0_9 c_a0_9 a0.f_Heads) (hr_a0_10 : RdS k_T_api_Key G A_a0_10 c_a0_10 a0.f_Keys) (hr_a0_11 : RdS (kShr G k_T_api_Lsa) G A_a0_11 c_a0_11 a0.f_Lsas) :
    Calls Try.prog 12 [.agg [.int .i64 a0.f_Kind, .int .i64 a0.f_Router, .int .i64 a0.f_Bits, .int .i64 a0.f_Prio, .int .i64 a0.f_Dr, .int .i64 a0.f_Bdr, .slice A_a0_6 a0.f_Seen.length c_a0_6, .int .i64 a0.f_Flags, .int .i64 a0.f_Seq, .slice A_a0_9 a0.f_Heads.length c_a0_9, .slice A_a0_10 a0.f_Keys.length c_a0_10, .slice A_a0_11 a0.f_Lsas.length c_a0_11].toArray].toArray w fun e w' => ∃ (N : Hp) (A0 : Option Addr) (c0 : Nat) (A2 : Option Addr) (c2 : Nat) (A4 : Option Addr) (c4 : Nat) (A6 : Option Addr) (c6 : Nat), e = .returned (.agg [.int .i64 r.f_Kind, .int .i64 r.f_Router, .int .i64 r.f_Bits, .int .i64 r.f_Prio, .int .i64 r.f_Dr, .int .i64 r.f_Bdr, .slice A0 r.f_Seen.length c0, .int .i64 r.f_Flags, .int .i64 r.f_Seq, .slice A2 r.f_Heads.length c2, .slice A4 r.f_Keys.length c4, .slice A6 r.f_Lsas.length c6].toArray) ∧ Fits z w' (N ++ F) ∧ RdS (kInt .i64) (N ++ G) A0 c0 r.f_Seen ∧ RdS k_T_api_Head (N ++ G) A2 c2 r.f_Heads ∧ RdS k_T_api_Key (N ++ G) A4 c4 r.f_Keys ∧ RdS (kShr (N ++ G) k_T_api_Lsa) (N ++ G) A6 c6 r.f_Lsas := by
  unfold f_pair_copied at H
  refine enter0 Try.func12 rfl Try.ntmps12 rfl (E := [(0, .agg [.int .i64 a0.f_Kind, .int .i64 a0.f_Router, .int .i64 a0.f_Bits, .int .i64 a0.f_Prio, .int .i64 a0.f_Dr, .int .i64 a0.f_Bdr, .slice A_a0_6 a0.f_Seen.length c_a0_6, .int .i64 a0.f_Flags, .int .i64 a0.f_Seq, .slice A_a0_9 a0.f_Heads.length c_a0_9, .slice A_a0_10 a0.f_Keys.length c_a0_10, .slice A_a0_11 a0.f_Lsas.length c_a0_11].toArray)]) rfl ?_
  refine cSeq (fun K1 hK1 => ?_)
  refine cRgn [] trivial ?_
  refine eW (oBox HF rfl) rfl ?_
  rintro _ w1 ⟨g1, rfl, HF1⟩
  refine eW (oAlloc HF1 ti27) rfl ?_
  rintro _ w2 ⟨g2, rfl, HF2⟩
  refine lEnd (K := fun _ _ => True) ?_
  refine kN (?_)
  refine hK1 _ _ ?_
  refine cSeq (fun K2 hK2 => ?_)
  refine cRgn [] trivial ?_
  refine sL (fa27_9 rfl) rfl ?_
  refine sL (ld rfl Try.underlying23 rfl (HF2.box (mem_c mem_h) rfl)) rfl ?_
  replace H := bnd H; obtain ⟨t1, J1, H⟩ := H
  refine eCall isf32 rfl rfl rfl (f_slices_Clone_api_Head_api_Head.ok (a0 := a0.f_Heads) (sub_c (sub_c hG)) J1 HF2 (sub_c (sub_c hX_a0_9)) hr_a0_9) ?_
  rintro _ w3 ⟨A1, c1, L1, rfl, HF3, ho1⟩
  refine ⟨_, rfl, ?_⟩
  refine sL (fa27_9 rfl) rfl ?_
  have HF4 := HF3.perm (perm_f1 (perm_c1 (List.Perm.refl _)))
  refine eS (oSt1 (l1 := [.int .i64 a0.f_Kind, .int .i64 a0.f_Router, .int .i64 a0.f_Bits, .int .i64 a0.f_Prio, .int .i64 a0.f_Dr, .int .i64 a0.f_Bdr, .slice A_a0_6 a0.f_Seen.length c_a0_6, .int .i64 a0.f_Flags, .int .i64 a0.f_Seq, .slice A1 t1.length c1, .slice A_a0_10 a0.f_Keys.length c_a0_10, .slice A_a0_11 a0.f_Lsas.length c_a0_11]) HF4 rfl rfl ti23 rfl rfl rfl) ?_
  rintro w4 HF5
  refine lEnd (K := fun _ _ => True) ?_
  refine kN (?_)
  refine hK2 _ _ ?_
  refine cSeq (fun K3 hK3 => ?_)
  refine cRgn [] trivial ?_
  refine sL (ldA (cs := [.int .i64 a0.f_Kind, .int .i64 a0.f_Router, .int .i64 a0.f_Bits, .int .i64 a0.f_Prio, .int .i64 a0.f_Dr, .int .i64 a0.f_Bdr, .slice A_a0_6 a0.f_Seen.length c_a0_6, .int .i64 a0.f_Flags, .int .i64 a0.f_Seq, .slice A1 t1.length c1, .slice A_a0_10 a0.f_Keys.length c_a0_10, .slice A_a0_11 a0.f_Lsas.length c_a0_11]) rfl ti27 rfl rfl (HF5.boxes (o := 0) (n := 12) (mem_h) rfl)) rfl ?_
  have HF6 := HF5.perm (perm_c1 (perm_f1 (List.Perm.refl _)))
  refine eS (oSt (l1 := [.int .i64 a0.f_Kind, .int .i64 a0.f_Router, .int .i64 a0.f_Bits, .int .i64 a0.f_Prio, .int .i64 a0.f_Dr, .int .i64 a0.f_Bdr, .slice A_a0_6 a0.f_Seen.length c_a0_6, .int .i64 a0.f_Flags, .int .i64 a0.f_Seq, .slice A1 t1.length c1, .slice A_a0_10 a0.f_Keys.length c_a0_10, .slice A_a0_11 a0.f_Lsas.length c_a0_11]) HF6 rfl rfl ti27 rfl (ones rfl) (Nat.le_of_ble_eq_true rfl) rfl) ?_
  rintro w5 HF7
  refine lEnd (K := fun _ _ => True) ?_
  refine kN (?_)
  refine hK3 _ _ ?_
  refine cRet ?_
  have hs1 : G ⊆ L1 ++ G := sub_a sub_r
  have hz1 : RdS k_T_api_Head (L1 ++ G) A1 c1 t1 := RdS.mono ho1.rd sub_h
  obtain rfl := Option.some.inj H
  refine retA rfl (rvC rfl (lvA (cs := [.int .i64 a0.f_Kind, .int .i64 a0.f_Router, .int .i64 a0.f_Bits, .int .i64 a0.f_Prio, .int .i64 a0.f_Dr, .int .i64 a0.f_Bdr, .slice A_a0_6 a0.f_Seen.length c_a0_6, .int .i64 a0.f_Flags, .int .i64 a0.f_Seq, .slice A1 t1.length c1, .slice A_a0_10 a0.f_Keys.length c_a0_10, .slice A_a0_11 a0.f_Lsas.length c_a0_11]) ti27 rfl rfl (HF7.boxes (o := 0) (n := 12) (mem_h) rfl))) ?_
  have HF8 := HF7.sublist (sl_dc (sl_dc (List.Sublist.refl _)))
  exact ⟨L1, _, _, _, _, _, _, _, _, rfl, HF8, (RdS.mono hr_a0_6 hs1), hz1, (RdS.mono hr_a0_10 hs1), (RdS.lift hr_a0_11 hs1 hs1)⟩

/-! ### (*plenum/pair.Pair).tell (function 16) -/
abbrev f_pair_Pair_tell_obj.R := T_api_Packet × Bool × Int × Int × Int × Int × Int × Int × (List Int) × Int × Int × (List T_api_Head) × (List T_api_Key) × (List T_api_Lsa) × Int
noncomputable def f_pair_Pair_tell_obj (a0 : T_pair_Pair) (a1 : T_api_Packet) : Option f_pair_Pair_tell_obj.R := ((f_pair_copied (⟨2, a0.f_self, a1.f_Bits, a1.f_Prio, a1.f_Dr, a1.f_Bdr, a1.f_Seen, a1.f_Flags, a1.f_Seq, a1.f_Heads, a1.f_Keys, a1.f_Lsas⟩ : T_api_Packet)).bind fun t1 => some (t1, true, 2, a0.f_self, a1.f_Bits, a1.f_Prio, a1.f_Dr, a1.f_Bdr, a1.f_Seen, a1.f_Flags, a1.f_Seq, a1.f_Heads, a1.f_Keys, a1.f_Lsas, 3))
set_option maxHeartbeats 1000000 in
theorem f_pair_Pair_tell_obj.ok {z w : World} {F G : Hp} (hG : G ⊆ F) {a0 : T_pair_Pair} {g_a0 : Nat} {A_a0_11 : Option Addr} {c_a0_11 : Nat} {A_a0_14 : Option Addr} {c_a0_14 : Nat} {A_a0_15 : Option Addr} {c_a0_15 : Nat} {A_a0_16 : Option Addr} {c_a0_16 : Nat} {A_a0_17 : Option Addr} {c_a0_17 : Nat} {L_a0_17 : Hp} {A_a0_18 : Option Addr} {c_a0_18 : Nat} {L_a0_18 : Hp} {a1 : T_api_Packet} {A_a1_6 : Option Addr} {c_a1_6 : Nat} {A_a1_9 : Option Addr} {c_a1_9 : Nat} {A_a1_10 : Option Addr} {c_a1_10 : Nat} {A_a1_11 : Option Addr} {c_a1_11 : Nat} {r : f_pair_Pair_tell_obj.R} (H : f_pair_Pair_tell_obj a0 a1 = some r) (HF : Fits z w (bk g_a0 42 [.int .i64 a0.f_self, .int .i64 a0.f_other, .int .i64 a0.f_seq, .int .i64 a0.f_state, .bool a0.f_master, .int .i64 a0.f_last.f_Kind, .int .i64 a0.f_last.f_Router, .int .i64 a0.f_last.f_Bits, .int .i64 a0.f_last.f_Prio, .int .i64 a0.f_last.f_Dr, .int .i64 a0.f_last.f_Bdr, .slice A_a0_11 a0.f_last.f_Seen.length c_a0_11, .int .i64 a0.f_last.f_Flags, .int .i64 a0.f_last.f_Seq, .slice A_a0_14 a0.f_last.f_Heads.length c_a0_14, .slice A_a0_15 a0.f_last.f_Keys.length c_a0_15, .slice A_a0_16 a0.f_last.f_Lsas.length c_a0_16, .slice A_a0_17 a0.f_heads.length c_a0_17, .slice A_a0_18 a0.f_wants.length c_a0_18, .int .i64 a0.f_left, .int .i64 a0.f_flags, .int .i64 a0.f_number] :: (L_a0_17 ++ (L_a0_18 ++ F)))) (hr_a0_11 : RdS (kInt .i64) G A_a0_11 c_a0_11 a0.f_last.f_Seen) (hr_a0_14 : RdS k_T_api_Head G A_a0_14 c_a0_14 a0.f_last.f_Heads) (hr_a0_15 : RdS k_T_api_Key G A_a0_15 c_a0_15 a0.f_last.f_Keys) (hr_a0_16 : RdS (kShr G k_T_api_Lsa) G A_a0_16 c_a0_16 a0.f_last.f_Lsas) (ho_a0_17 : OwnS k_T_api_Head L_a0_17 A_a0_17 c_a0_17 a0.f_heads) (ho_a0_18 : OwnS k_T_api_Head L_a0_18 A_a0_18 c_a0_18 a0.f_wants) (hr_a1_6 : RdS (kInt .i64) G A_a1_6 c_a1_6 a1.f_Seen) (hr_a1_9 : RdS k_T_api_Head G A_a1_9 c_a1_9 a1.f_Heads) (hr_a1_10 : RdS k_T_api_Key G A_a1_10 c_a1_10 a1.f_Keys) (hr_a1_11 : RdS (kShr G k_T_api_Lsa) G A_a1_11 c_a1_11 a1.f_Lsas) :
    Calls Try.prog 16 [.pointer (some ⟨g_a0, 0, none⟩), .agg [.int .i64 a1.f_Kind, .int .i64 a1.f_Router, .int .i64 a1.f_Bits, .int .i64 a1.f_Prio, .int .i64 a1.f_Dr, .int .i64 a1.f_Bdr, .slice A_a1_6 a1.f_Seen.length c_a1_6, .int .i64 a1.f_Flags, .int .i64 a1.f_Seq, .slice A_a1_9 a1.f_Heads.length c_a1_9, .slice A_a1_10 a1.f_Keys.length c_a1_10, .slice A_a1_11 a1.f_Lsas.length c_a1_11].toArray].toArray w fun e w' => ∃ (N : Hp) (A0 : Option Addr) (c0 : Nat) (A2 : Option Addr) (c2 : Nat) (A4 : Option Addr) (c4 : Nat) (A6 : Option Addr) (c6 : Nat) (A8 : Option Addr) (c8 : Nat) (A10 : Option Addr) (c10 : Nat) (A12 : Option Addr) (c12 : Nat) (A14 : Option Addr) (c14 : Nat), e = .returned (.tuple #[.agg [.int .i64 r.1.f_Kind, .int .i64 r.1.f_Router, .int .i64 r.1.f_Bits, .int .i64 r.1.f_Prio, .int .i64 r.1.f_Dr, .int .i64 r.1.f_Bdr, .slice A0 r.1.f_Seen.length c0, .int .i64 r.1.f_Flags, .int .i64 r.1.f_Seq, .slice A2 r.1.f_Heads.length c2, .slice A4 r.1.f_Keys.length c4, .slice A6 r.1.f_Lsas.length c6].toArray, .bool r.2.1]) ∧ Fits z w' (bk g_a0 42 [.int .i64 a0.f_self, .int .i64 a0.f_other, .int .i64 a0.f_seq, .int .i64 a0.f_state, .bool a0.f_master, .int .i64 r.2.2.1, .int .i64 r.2.2.2.1, .int .i64 r.2.2.2.2.1, .int .i64 r.2.2.2.2.2.1, .int .i64 r.2.2.2.2.2.2.1, .int .i64 r.2.2.2.2.2.2.2.1, .slice A8 r.2.2.2.2.2.2.2.2.1.length c8, .int .i64 r.2.2.2.2.2.2.2.2.2.1, .int .i64 r.2.2.2.2.2.2.2.2.2.2.1, .slice A10 r.2.2.2.2.2.2.2.2.2.2.2.1.length c10, .slice A12 r.2.2.2.2.2.2.2.2.2.2.2.2.1.length c12, .slice A14 r.2.2.2.2.2.2.2.2.2.2.2.2.2.1.length c14, .slice A_a0_17 a0.f_heads.length c_a0_17, .slice A_a0_18 a0.f_wants.length c_a0_18, .int .i64 r.2.2.2.2.2.2.2.2.2.2.2.2.2.2, .int .i64 a0.f_flags, .int .i64 a0.f_number] :: (L_a0_17 ++ (L_a0_18 ++ (N ++ F)))) ∧ RdS (kInt .i64) (N ++ G) A0 c0 r.1.f_Seen ∧ RdS k_T_api_Head (N ++ G) A2 c2 r.1.f_Heads ∧ RdS k_T_api_Key (N ++ G) A4 c4 r.1.f_Keys ∧ RdS (kShr (N ++ G) k_T_api_Lsa) (N ++ G) A6 c6 r.1.f_Lsas ∧ RdS (kInt .i64) (N ++ G) A8 c8 r.2.2.2.2.2.2.2.2.1 ∧ RdS k_T_api_Head (N ++ G) A10 c10 r.2.2.2.2.2.2.2.2.2.2.2.1 ∧ RdS k_T_api_Key (N ++ G) A12 c12 r.2.2.2.2.2.2.2.2.2.2.2.2.1 ∧ RdS (kShr (N ++ G) k_T_api_Lsa) (N ++ G) A14 c14 r.2.2.2.2.2.2.2.2.2.2.2.2.2.1 := by
  unfold f_pair_Pair_tell_obj at H
  refine enter0 Try.func16 rfl Try.ntmps16 rfl (E := [(0, .pointer (some ⟨g_a0, 0, none⟩)), (1, .agg [.int .i64 a1.f_Kind, .int .i64 a1.f_Router, .int .i64 a1.f_Bits, .int .i64 a1.f_Prio, .int .i64 a1.f_Dr, .int .i64 a1.f_Bdr, .slice A_a1_6 a1.f_Seen.length c_a1_6, .int .i64 a1.f_Flags, .int .i64 a1.f_Seq, .slice A_a1_9 a1.f_Heads.length c_a1_9, .slice A_a1_10 a1.f_Keys.length c_a1_10, .slice A_a1_11 a1.f_Lsas.length c_a1_11].toArray)]) rfl ?_
  refine cSeq (fun K1 hK1 => ?_)
  refine cRgn [] trivial ?_
  refine eW (oBox HF rfl) rfl ?_
  rintro _ w1 ⟨g1, rfl, HF1⟩
  refine eW (oAlloc HF1 ti27) rfl ?_
  rintro _ w2 ⟨g2, rfl, HF2⟩
  refine sL (asg rfl) rfl ?_
  refine lEnd (K := fun _ _ => True) ?_
  refine kN (?_)
  refine hK1 _ _ ?_
  refine cSeq (fun K2 hK2 => ?_)
  refine cDraw mo_ HF2 rfl (fun w => Fits z w (bk g2 27 [.int .i64 0, .int .i64 0, .int .i64 0, .int .i64 0, .int .i64 0, .int .i64 0, .slice none 0 0, .int .i64 0, .int .i64 0, .slice none 0 0, .slice none 0 0, .slice none 0 0] :: (bk g_a0 42 [.int .i64 a0.f_self, .int .i64 a0.f_other, .int .i64 a0.f_seq, .int .i64 a0.f_state, .bool a0.f_master, .int .i64 a0.f_last.f_Kind, .int .i64 a0.f_last.f_Router, .int .i64 a0.f_last.f_Bits, .int .i64 a0.f_last.f_Prio, .int .i64 a0.f_last.f_Dr, .int .i64 a0.f_last.f_Bdr, .slice A_a0_11 a0.f_last.f_Seen.length c_a0_11, .int .i64 a0.f_last.f_Flags, .int .i64 a0.f_last.f_Seq, .slice A_a0_14 a0.f_last.f_Heads.length c_a0_14, .slice A_a0_15 a0.f_last.f_Keys.length c_a0_15, .slice A_a0_16 a0.f_last.f_Lsas.length c_a0_16, .slice A_a0_17 a0.f_heads.length c_a0_17, .slice A_a0_18 a0.f_wants.length c_a0_18, .int .i64 a0.f_left, .int .i64 a0.f_flags, .int .i64 a0.f_number] :: (L_a0_17 ++ (L_a0_18 ++ F))))) (fun w5 HF16 => ?_)
  have HF17 := HF16.sublist (sl_c (sl_dc (sl_c (sl_a (sl_a (List.Sublist.refl _))))))
  refine hTake 0 rfl (by kernel_rfl) (pThen pFn) (fun w_ hS_ => mv rfl) HF17 rfl rfl ?_
  refine hTake 1 rfl (by kernel_rfl) (pThen pFn) (fun w_ hS_ => nc rfl) HF17 rfl rfl ?_
  refine hTake 2 rfl (by kernel_rfl) (pThen pFn) (fun w_ hS_ => fa42_0 rfl) HF17 rfl rfl ?_
  refine hTake 3 rfl (by kernel_rfl) (pThen pFn) (fun w_ hS_ => ld rfl Try.underlying3 rfl (hS_.box (mem_c mem_h) rfl)) HF17 rfl rfl ?_
  refine hTake 4 rfl (by kernel_rfl) (pThen pFn) (fun w_ hS_ => fa27_0 rfl) HF17 rfl rfl ?_
  refine h1 5 (by kernel_rfl) rfl ?_
  have HF18 := HF16.perm (perm_c1 (List.Perm.refl _))
  refine qS rfl gd0 (oSt1 (l1 := [.int .i64 2, .int .i64 a1.f_Router, .int .i64 a1.f_Bits, .int .i64 a1.f_Prio, .int .i64 a1.f_Dr, .int .i64 a1.f_Bdr, .slice A_a1_6 a1.f_Seen.length c_a1_6, .int .i64 a1.f_Flags, .int .i64 a1.f_Seq, .slice A_a1_9 a1.f_Heads.length c_a1_9, .slice A_a1_10 a1.f_Keys.length c_a1_10, .slice A_a1_11 a1.f_Lsas.length c_a1_11]) HF18 rfl rfl ti3 rfl rfl rfl) ?_
  rintro w6 HF19
  have HF20 := HF19.sublist (sl_dc (sl_c (sl_c (sl_a (sl_a (List.Sublist.refl _))))))
  refine ⟨HF20, ?_⟩
  refine hTake 6 rfl (by kernel_rfl) (pThen pFn) (fun w_ hS_ => fa27_1 rfl) HF20 rfl rfl ?_
  refine h1 7 (by kernel_rfl) rfl ?_
  refine qS rfl gd0 (oSt1 (l1 := [.int .i64 2, .int .i64 a0.f_self, .int .i64 a1.f_Bits, .int .i64 a1.f_Prio, .int .i64 a1.f_Dr, .int .i64 a1.f_Bdr, .slice A_a1_6 a1.f_Seen.length c_a1_6, .int .i64 a1.f_Flags, .int .i64 a1.f_Seq, .slice A_a1_9 a1.f_Heads.length c_a1_9, .slice A_a1_10 a1.f_Keys.length c_a1_10, .slice A_a1_11 a1.f_Lsas.length c_a1_11]) HF19 rfl rfl ti3 rfl rfl rfl) ?_
  rintro w7 HF21
  have HF22 := HF21.sublist (sl_dc (sl_c (sl_c (sl_a (sl_a (List.Sublist.refl _))))))
  refine ⟨HF22, ?_⟩
  refine hEnd (by kernel_rfl) ?_
  refine kN (?_)
  refine hK2 _ _ ?_
  refine cSeq (fun K3 hK3 => ?_)
  refine cRgn [] trivial ?_
  refine sL (mv rfl) rfl ?_
  refine sL (mv rfl) rfl ?_
  refine sL (ldA (cs := [.int .i64 2, .int .i64 a0.f_self, .int .i64 a1.f_Bits, .int .i64 a1.f_Prio, .int .i64 a1.f_Dr, .int .i64 a1.f_Bdr, .slice A_a1_6 a1.f_Seen.length c_a1_6, .int .i64 a1.f_Flags, .int .i64 a1.f_Seq, .slice A_a1_9 a1.f_Heads.length c_a1_9, .slice A_a1_10 a1.f_Keys.length c_a1_10, .slice A_a1_11 a1.f_Lsas.length c_a1_11]) rfl ti27 rfl rfl (HF21.boxes (o := 0) (n := 12) (mem_h) rfl)) rfl ?_
  refine sL (nc rfl) rfl ?_
  refine sL (fa42_5 rfl) rfl ?_
  have HF23 := HF21.perm (perm_c1 (perm_c1 (List.Perm.refl _)))
  refine eS (oSt (l1 := [.int .i64 a0.f_self, .int .i64 a0.f_other, .int .i64 a0.f_seq, .int .i64 a0.f_state, .bool a0.f_master, .int .i64 2, .int .i64 a0.f_self, .int .i64 a1.f_Bits, .int .i64 a1.f_Prio, .int .i64 a1.f_Dr, .int .i64 a1.f_Bdr, .slice A_a1_6 a1.f_Seen.length c_a1_6, .int .i64 a1.f_Flags, .int .i64 a1.f_Seq, .slice A_a1_9 a1.f_Heads.length c_a1_9, .slice A_a1_10 a1.f_Keys.length c_a1_10, .slice A_a1_11 a1.f_Lsas.length c_a1_11, .slice A_a0_17 a0.f_heads.length c_a0_17, .slice A_a0_18 a0.f_wants.length c_a0_18, .int .i64 a0.f_left, .int .i64 a0.f_flags, .int .i64 a0.f_number]) HF23 rfl rfl ti27 rfl (ones rfl) (Nat.le_of_ble_eq_true rfl) rfl) ?_
  rintro w8 HF24
  refine sL (nc rfl) rfl ?_
  refine sL (fa42_8 rfl) rfl ?_
  refine eS (oSt1 (l1 := [.int .i64 a0.f_self, .int .i64 a0.f_other, .int .i64 a0.f_seq, .int .i64 a0.f_state, .bool a0.f_master, .int .i64 2, .int .i64 a0.f_self, .int .i64 a1.f_Bits, .int .i64 a1.f_Prio, .int .i64 a1.f_Dr, .int .i64 a1.f_Bdr, .slice A_a1_6 a1.f_Seen.length c_a1_6, .int .i64 a1.f_Flags, .int .i64 a1.f_Seq, .slice A_a1_9 a1.f_Heads.length c_a1_9, .slice A_a1_10 a1.f_Keys.length c_a1_10, .slice A_a1_11 a1.f_Lsas.length c_a1_11, .slice A_a0_17 a0.f_heads.length c_a0_17, .slice A_a0_18 a0.f_wants.length c_a0_18, .int .i64 3, .int .i64 a0.f_flags, .int .i64 a0.f_number]) HF24 rfl rfl ti3 rfl rfl rfl) ?_
  rintro w9 HF25
  refine lEnd (K := fun _ _ => True) ?_
  refine kN (?_)
  refine hK3 _ _ ?_
  refine cSeq (fun K4 hK4 => ?_)
  refine cRgn [] trivial ?_
  refine sL (ldA (cs := [.int .i64 2, .int .i64 a0.f_self, .int .i64 a1.f_Bits, .int .i64 a1.f_Prio, .int .i64 a1.f_Dr, .int .i64 a1.f_Bdr, .slice A_a1_6 a1.f_Seen.length c_a1_6, .int .i64 a1.f_Flags, .int .i64 a1.f_Seq, .slice A_a1_9 a1.f_Heads.length c_a1_9, .slice A_a1_10 a1.f_Keys.length c_a1_10, .slice A_a1_11 a1.f_Lsas.length c_a1_11]) rfl ti27 rfl rfl (HF25.boxes (o := 0) (n := 12) (mem_c mem_h) rfl)) rfl ?_
  replace H := bnd H; obtain ⟨t1, J1, H⟩ := H
  refine eCall isf12 rfl rfl rfl (f_pair_copied.ok (a0 := (⟨2, a0.f_self, a1.f_Bits, a1.f_Prio, a1.f_Dr, a1.f_Bdr, a1.f_Seen, a1.f_Flags, a1.f_Seq, a1.f_Heads, a1.f_Keys, a1.f_Lsas⟩ : T_api_Packet)) (sub_c (sub_c (sub_c (sub_a (sub_a hG))))) J1 HF25 hr_a1_6 (sub_c (sub_c (sub_c (sub_a (sub_a hG))))) hr_a1_9 hr_a1_10 hr_a1_11) ?_
  rintro _ w10 ⟨N1, A1, c1, A2, c2, A3, c3, A4, c4, rfl, HF26, hr1, hr2, hr3, hr4⟩
  have HF27 := HF26.perm (perm_c (perm_c (perm_c (perm_f (perm_f (List.Perm.refl _)))))).symm
  have hs1 : G ⊆ N1 ++ G := sub_a sub_r
  refine ⟨_, rfl, ?_⟩
  have HF28 := HF27.perm (perm_c1 (perm_c1 (List.Perm.refl _)))
  refine eS (oSt (l1 := [.int .i64 t1.f_Kind, .int .i64 t1.f_Router, .int .i64 t1.f_Bits, .int .i64 t1.f_Prio, .int .i64 t1.f_Dr, .int .i64 t1.f_Bdr, .slice A1 t1.f_Seen.length c1, .int .i64 t1.f_Flags, .int .i64 t1.f_Seq, .slice A2 t1.f_Heads.length c2, .slice A3 t1.f_Keys.length c3, .slice A4 t1.f_Lsas.length c4]) HF28 rfl rfl ti27 rfl (ones rfl) (Nat.le_of_ble_eq_true rfl) rfl) ?_
  rintro w11 HF29
  refine sL (asg rfl) rfl ?_
  refine lEnd (K := fun _ _ => True) ?_
  refine kN (?_)
  refine hK4 _ _ ?_
  refine cRet ?_
  obtain rfl := Option.some.inj H
  refine retB rfl (rvC rfl (lvA (cs := [.int .i64 t1.f_Kind, .int .i64 t1.f_Router, .int .i64 t1.f_Bits, .int .i64 t1.f_Prio, .int .i64 t1.f_Dr, .int .i64 t1.f_Bdr, .slice A1 t1.f_Seen.length c1, .int .i64 t1.f_Flags, .int .i64 t1.f_Seq, .slice A2 t1.f_Heads.length c2, .slice A3 t1.f_Keys.length c3, .slice A4 t1.f_Lsas.length c4]) ti27 rfl rfl (HF29.boxes (o := 0) (n := 12) (mem_h) rfl))) rfl ?_
  have HF30 := HF29.sublist (sl_dc (sl_c (sl_dc (sl_a (sl_a (List.Sublist.refl _))))))
  exact ⟨N1, _, _, _, _, _, _, _, _, _, _, _, _, _, _, _, _, rfl, HF30, hr1, hr2, hr3, hr4, (RdS.mono hr_a1_6 hs1), (RdS.mono hr_a1_9 hs1), (RdS.mono hr_a1_10 hs1), (RdS.lift hr_a1_11 hs1 hs1)⟩

/-! ### (*plenum/pair.Pair).begin (function 27) -/
abbrev f_pair_Pair_begin_obj.R := T_api_Packet × Int × Int × Bool × Int × Int × Int × Int × Int × Int × (List Int) × Int × Int × (List T_api_Head) × (List T_api_Key) × (List T_api_Lsa) × (List T_api_Head) × (List T_api_Head) × Int × Int × Int
noncomputable def f_pair_Pair_begin_obj (a0 : T_pair_Pair) (a1 : Int) : Option f_pair_Pair_begin_obj.R := ((f_pair_low a1).bind fun t2 => ((f_pair_Pair_tell_obj (⟨a0.f_self, a0.f_other, t2, 1, false, (⟨0, 0, 0, 0, 0, 0, [], 0, 0, [], [], []⟩ : T_api_Packet), [], [], 0, 0, 0⟩ : T_pair_Pair) (⟨0, 0, 0, 0, 0, 0, [], 7, t2, [], [], []⟩ : T_api_Packet)).bind fun (t3, t4, t5, t6, t7, t8, t9, t10, t11, t12, t13, t14, t15, t16, t17) => some (t3, t2, 1, false, t5, t6, t7, t8, t9, t10, t11, t12, t13, t14, t15, t16, [], [], t17, 0, 0)))
set_option maxHeartbeats 1000000 in
theorem f_pair_Pair_begin_obj.ok {z w : World} {F G : Hp} (hG : G ⊆ F) {a0 : T_pair_Pair} {g_a0 : Nat} {A_a0_11 : Option Addr} {c_a0_11 : Nat} {A_a0_14 : Option Addr} {c_a0_14 : Nat} {A_a0_15 : Option Addr} {c_a0_15 : Nat} {A_a0_16 : Option Addr} {c_a0_16 : Nat} {A_a0_17 : Option Addr} {c_a0_17 : Nat} {L_a0_17 : Hp} {A_a0_18 : Option Addr} {c_a0_18 : Nat} {L_a0_18 : Hp} {a1 : Int} {r : f_pair_Pair_begin_obj.R} (H : f_pair_Pair_begin_obj a0 a1 = some r) (HF : Fits z w (bk g_a0 42 [.int .i64 a0.f_self, .int .i64 a0.f_other, .int .i64 a0.f_seq, .int .i64 a0.f_state, .bool a0.f_master, .int .i64 a0.f_last.f_Kind, .int .i64 a0.f_last.f_Router, .int .i64 a0.f_last.f_Bits, .int .i64 a0.f_last.f_Prio, .int .i64 a0.f_last.f_Dr, .int .i64 a0.f_last.f_Bdr, .slice A_a0_11 a0.f_last.f_Seen.length c_a0_11, .int .i64 a0.f_last.f_Flags, .int .i64 a0.f_last.f_Seq, .slice A_a0_14 a0.f_last.f_Heads.length c_a0_14, .slice A_a0_15 a0.f_last.f_Keys.length c_a0_15, .slice A_a0_16 a0.f_last.f_Lsas.length c_a0_16, .slice A_a0_17 a0.f_heads.length c_a0_17, .slice A_a0_18 a0.f_wants.length c_a0_18, .int .i64 a0.f_left, .int .i64 a0.f_flags, .int .i64 a0.f_number] :: (L_a0_17 ++ (L_a0_18 ++ F)))) (hr_a0_11 : RdS (kInt .i64) G A_a0_11 c_a0_11 a0.f_last.f_Seen) (hr_a0_14 : RdS k_T_api_Head G A_a0_14 c_a0_14 a0.f_last.f_Heads) (hr_a0_15 : RdS k_T_api_Key G A_a0_15 c_a0_15 a0.f_last.f_Keys) (hr_a0_16 : RdS (kShr G k_T_api_Lsa) G A_a0_16 c_a0_16 a0.f_last.f_Lsas) (ho_a0_17 : OwnS k_T_api_Head L_a0_17 A_a0_17 c_a0_17 a0.f_heads) (ho_a0_18 : OwnS k_T_api_Head L_a0_18 A_a0_18 c_a0_18 a0.f_wants) :
    Calls Try.prog 27 [.pointer (some ⟨g_a0, 0, none⟩), .int .i64 a1].toArray w fun e w' => ∃ (N : Hp) (A0 : Option Addr) (c0 : Nat) (A2 : Option Addr) (c2 : Nat) (A4 : Option Addr) (c4 : Nat) (A6 : Option Addr) (c6 : Nat) (A8 : Option Addr) (c8 : Nat) (A10 : Option Addr) (c10 : Nat) (A12 : Option Addr) (c12 : Nat) (A14 : Option Addr) (c14 : Nat) (A16 : Option Addr) (c16 : Nat) (L16 : Hp) (A19 : Option Addr) (c19 : Nat) (L19 : Hp), e = .returned (.agg [.int .i64 r.1.f_Kind, .int .i64 r.1.f_Router, .int .i64 r.1.f_Bits, .int .i64 r.1.f_Prio, .int .i64 r.1.f_Dr, .int .i64 r.1.f_Bdr, .slice A0 r.1.f_Seen.length c0, .int .i64 r.1.f_Flags, .int .i64 r.1.f_Seq, .slice A2 r.1.f_Heads.length c2, .slice A4 r.1.f_Keys.length c4, .slice A6 r.1.f_Lsas.length c6].toArray) ∧ Fits z w' (bk g_a0 42 [.int .i64 a0.f_self, .int .i64 a0.f_other, .int .i64 r.2.1, .int .i64 r.2.2.1, .bool r.2.2.2.1, .int .i64 r.2.2.2.2.1, .int .i64 r.2.2.2.2.2.1, .int .i64 r.2.2.2.2.2.2.1, .int .i64 r.2.2.2.2.2.2.2.1, .int .i64 r.2.2.2.2.2.2.2.2.1, .int .i64 r.2.2.2.2.2.2.2.2.2.1, .slice A8 r.2.2.2.2.2.2.2.2.2.2.1.length c8, .int .i64 r.2.2.2.2.2.2.2.2.2.2.2.1, .int .i64 r.2.2.2.2.2.2.2.2.2.2.2.2.1, .slice A10 r.2.2.2.2.2.2.2.2.2.2.2.2.2.1.length c10, .slice A12 r.2.2.2.2.2.2.2.2.2.2.2.2.2.2.1.length c12, .slice A14 r.2.2.2.2.2.2.2.2.2.2.2.2.2.2.2.1.length c14, .slice A16 r.2.2.2.2.2.2.2.2.2.2.2.2.2.2.2.2.1.length c16, .slice A19 r.2.2.2.2.2.2.2.2.2.2.2.2.2.2.2.2.2.1.length c19, .int .i64 r.2.2.2.2.2.2.2.2.2.2.2.2.2.2.2.2.2.2.1, .int .i64 r.2.2.2.2.2.2.2.2.2.2.2.2.2.2.2.2.2.2.2.1, .int .i64 r.2.2.2.2.2.2.2.2.2.2.2.2.2.2.2.2.2.2.2.2] :: (L16 ++ (L19 ++ (N ++ F)))) ∧ RdS (kInt .i64) (N ++ G) A0 c0 r.1.f_Seen ∧ RdS k_T_api_Head (N ++ G) A2 c2 r.1.f_Heads ∧ RdS k_T_api_Key (N ++ G) A4 c4 r.1.f_Keys ∧ RdS (kShr (N ++ G) k_T_api_Lsa) (N ++ G) A6 c6 r.1.f_Lsas ∧ RdS (kInt .i64) (N ++ G) A8 c8 r.2.2.2.2.2.2.2.2.2.2.1 ∧ RdS k_T_api_Head (N ++ G) A10 c10 r.2.2.2.2.2.2.2.2.2.2.2.2.2.1 ∧ RdS k_T_api_Key (N ++ G) A12 c12 r.2.2.2.2.2.2.2.2.2.2.2.2.2.2.1 ∧ RdS (kShr (N ++ G) k_T_api_Lsa) (N ++ G) A14 c14 r.2.2.2.2.2.2.2.2.2.2.2.2.2.2.2.1 ∧ OwnS k_T_api_Head L16 A16 c16 r.2.2.2.2.2.2.2.2.2.2.2.2.2.2.2.2.1 ∧ OwnS k_T_api_Head L19 A19 c19 r.2.2.2.2.2.2.2.2.2.2.2.2.2.2.2.2.2.1 := by
  unfold f_pair_Pair_begin_obj at H
  refine enter0 Try.func27 rfl Try.ntmps27 rfl (E := [(0, .pointer (some ⟨g_a0, 0, none⟩)), (1, .int .i64 a1)]) rfl ?_
  refine cSeq (fun K1 hK1 => ?_)
  refine cRgn [] trivial ?_
  refine eW (oAlloc HF ti27) rfl ?_
  rintro _ w1 ⟨g1, rfl, HF1⟩
  refine lEnd (K := fun _ _ => True) ?_
  refine kN (?_)
  refine hK1 _ _ ?_
  refine cSeq (fun K2 hK2 => ?_)
  refine cDraw mo_ HF1 rfl (fun w => Fits z w (bk g1 27 [.int .i64 0, .int .i64 0, .int .i64 0, .int .i64 0, .int .i64 0, .int .i64 0, .slice none 0 0, .int .i64 0, .int .i64 0, .slice none 0 0, .slice none 0 0, .slice none 0 0] :: (L_a0_17 ++ (L_a0_18 ++ F)))) (fun w4 HF9 => ?_)
  have HF10 := HF9.sublist (sl_c (sl_dc (sl_a (sl_a (List.Sublist.refl _)))))
  refine hTake 0 rfl (by kernel_rfl) (pThen pFn) (fun w_ hS_ => mv rfl) HF10 rfl rfl ?_
  refine hTake 1 rfl (by kernel_rfl) (pThen pFn) (fun w_ hS_ => mv rfl) HF10 rfl rfl ?_
  refine hTake 2 rfl (by kernel_rfl) (pThen pFn) (fun w_ hS_ => nc rfl) HF10 rfl rfl ?_
  refine hTake 3 rfl (by kernel_rfl) (pThen pFn) (fun w_ hS_ => fa42_0 rfl) HF10 rfl rfl ?_
  refine hTake 5 rfl (by kernel_rfl) (pThen pFn) (fun w_ hS_ => mv rfl) HF10 rfl rfl ?_
  refine hTake 6 rfl (by kernel_rfl) (pThen pFn) (fun w_ hS_ => nc rfl) HF10 rfl rfl ?_
  refine hTake 7 rfl (by kernel_rfl) (pThen pFn) (fun w_ hS_ => fa42_1 rfl) HF10 rfl rfl ?_
  refine hTake 9 rfl (by kernel_rfl) (pThen pFn) (fun w_ hS_ => mv rfl) HF10 rfl rfl ?_
  refine h3 4 8 10 (by kernel_rfl) rfl rfl rfl ?_ ?_ ?_
  · refine qL rfl gd0 (ld rfl Try.underlying3 rfl (HF9.box (mem_c mem_h) rfl)) rfl HF10 ?_
    refine h2 8 10 (by kernel_rfl) rfl rfl ?_ ?_
    · refine qL rfl gd0 (ld rfl Try.underlying3 rfl (HF9.box (mem_c mem_h) rfl)) rfl HF10 ?_
      refine h1 10 (by kernel_rfl) rfl ?_
      replace H := bnd H; obtain ⟨t2, J2, H⟩ := H
      refine qCall rfl gd0 isf15 rfl rfl rfl (f_pair_low.ok J2 HF9) ?_
      rintro _ w5 ⟨rfl, HF11⟩
      have HF12 := HF11.sublist (sl_c (sl_dc (sl_a (sl_a (List.Sublist.refl _)))))
      refine ⟨_, rfl, HF12, ?_⟩
      refine hTake 11 rfl (by kernel_rfl) (pThen pFn) (fun w_ hS_ => bd (r := [.int .i64 a0.f_self, .int .i64 a0.f_other, .int .i64 t2, .int .i64 1, .bool false, .int .i64 0, .int .i64 0, .int .i64 0, .int .i64 0, .int .i64 0, .int .i64 0, .slice none 0 0, .int .i64 0, .int .i64 0, .slice none 0 0, .slice none 0 0, .slice none 0 0, .slice none 0 0, .slice none 0 0, .int .i64 0, .int .i64 0, .int .i64 0]) pl42 ti42 rfl rfl) HF12 rfl rfl ?_
      refine hTake 12 rfl (by kernel_rfl) (pThen pFn) (fun w_ hS_ => nc rfl) HF12 rfl rfl ?_
      refine h1 13 (by kernel_rfl) rfl ?_
      have HF13 := HF11.perm (perm_c1 (List.Perm.refl _))
      refine qS rfl gd0 (oSt (l1 := [.int .i64 a0.f_self, .int .i64 a0.f_other, .int .i64 t2, .int .i64 1, .bool false, .int .i64 0, .int .i64 0, .int .i64 0, .int .i64 0, .int .i64 0, .int .i64 0, .slice none 0 0, .int .i64 0, .int .i64 0, .slice none 0 0, .slice none 0 0, .slice none 0 0, .slice none 0 0, .slice none 0 0, .int .i64 0, .int .i64 0, .int .i64 0]) HF13 rfl rfl ti42 rfl (ones rfl) (Nat.le_of_ble_eq_true rfl) rfl) ?_
      rintro w6 HF14
      have HF15 := HF14.sublist (sl_dc (sl_c (sl_a (sl_a (List.Sublist.refl _)))))
      refine ⟨HF15, ?_⟩
      refine hEnd (by kernel_rfl) ?_
      refine kN (?_)
      refine hK2 _ _ ?_
      refine cSeq (fun K3 hK3 => ?_)
      refine cRgn [] trivial ?_
      refine sL (mv rfl) rfl ?_
      refine sL (mv rfl) rfl ?_
      refine sL (nc rfl) rfl ?_
      refine sL (fa42_2 rfl) rfl ?_
      refine sL (ld rfl Try.underlying3 rfl (HF14.box (mem_h) rfl)) rfl ?_
      refine sL (bd (r := [.int .i64 0, .int .i64 0, .int .i64 0, .int .i64 0, .int .i64 0, .int .i64 0, .slice none 0 0, .int .i64 7, .int .i64 t2, .slice none 0 0, .slice none 0 0, .slice none 0 0]) pl27 ti27 rfl rfl) rfl ?_
      replace H := bnd H; obtain ⟨⟨t3, t4, t5, t6, t7, t8, t9, t10, t11, t12, t13, t14, t15, t16, t17⟩, J3, H⟩ := H
      refine eCall isf16 rfl rfl rfl (f_pair_Pair_tell_obj.ok (a0 := (⟨a0.f_self, a0.f_other, t2, 1, false, (⟨0, 0, 0, 0, 0, 0, [], 0, 0, [], [], []⟩ : T_api_Packet), [], [], 0, 0, 0⟩ : T_pair_Pair)) (a1 := (⟨0, 0, 0, 0, 0, 0, [], 7, t2, [], [], []⟩ : T_api_Packet)) (sub_c (sub_a (sub_a hG))) J3 HF14 RdS.nil RdS.nil RdS.nil RdS.nil OwnS.nil OwnS.nil RdS.nil RdS.nil RdS.nil RdS.nil) ?_
      rintro _ w7 ⟨N1, A1, c1, A2, c2, A3, c3, A4, c4, A5, c5, A6, c6, A7, c7, A8, c8, rfl, HF16, hr1, hr2, hr3, hr4, hr5, hr6, hr7, hr8⟩
      have HF17 := HF16.perm (pm_c (perm_c (perm_f (perm_f (List.Perm.refl _)))).symm)
      have hs1 : G ⊆ N1 ++ G := sub_a sub_r
      refine ⟨_, rfl, ?_⟩
      refine sL (mv rfl) rfl ?_
      refine sL (ex rfl rfl) rfl ?_
      refine sL (ex rfl rfl) rfl ?_
      refine eW (oAlloc HF17 ti27) rfl ?_
      rintro _ w8 ⟨g2, rfl, HF18⟩
      refine eS (oSt (l1 := [.int .i64 t3.f_Kind, .int .i64 t3.f_Router, .int .i64 t3.f_Bits, .int .i64 t3.f_Prio, .int .i64 t3.f_Dr, .int .i64 t3.f_Bdr, .slice A1 t3.f_Seen.length c1, .int .i64 t3.f_Flags, .int .i64 t3.f_Seq, .slice A2 t3.f_Heads.length c2, .slice A3 t3.f_Keys.length c3, .slice A4 t3.f_Lsas.length c4]) HF18 rfl rfl ti27 rfl (ones rfl) (Nat.le_of_ble_eq_true rfl) rfl) ?_
      rintro w9 HF19
      refine sL (asg rfl) rfl ?_
      refine lEnd (K := fun _ _ => True) ?_
      refine kN (?_)
      refine hK3 _ _ ?_
      refine cSeq (fun K4 hK4 => ?_)
      refine cRgn [] trivial ?_
      refine sL (ldA (cs := [.int .i64 t3.f_Kind, .int .i64 t3.f_Router, .int .i64 t3.f_Bits, .int .i64 t3.f_Prio, .int .i64 t3.f_Dr, .int .i64 t3.f_Bdr, .slice A1 t3.f_Seen.length c1, .int .i64 t3.f_Flags, .int .i64 t3.f_Seq, .slice A2 t3.f_Heads.length c2, .slice A3 t3.f_Keys.length c3, .slice A4 t3.f_Lsas.length c4]) rfl ti27 rfl rfl (HF19.boxes (o := 0) (n := 12) (mem_h) rfl)) rfl ?_
      have HF20 := HF19.perm (perm_c1 (perm_c1 (List.Perm.refl _)))
      refine eS (oSt (l1 := [.int .i64 t3.f_Kind, .int .i64 t3.f_Router, .int .i64 t3.f_Bits, .int .i64 t3.f_Prio, .int .i64 t3.f_Dr, .int .i64 t3.f_Bdr, .slice A1 t3.f_Seen.length c1, .int .i64 t3.f_Flags, .int .i64 t3.f_Seq, .slice A2 t3.f_Heads.length c2, .slice A3 t3.f_Keys.length c3, .slice A4 t3.f_Lsas.length c4]) HF20 rfl rfl ti27 rfl (ones rfl) (Nat.le_of_ble_eq_true rfl) rfl) ?_
      rintro w10 HF21
      refine lEnd (K := fun _ _ => True) ?_
      refine kN (?_)
      refine hK4 _ _ ?_
      refine cRet ?_
      obtain rfl := Option.some.inj H
      refine retA rfl (rvC rfl (lvA (cs := [.int .i64 t3.f_Kind, .int .i64 t3.f_Router, .int .i64 t3.f_Bits, .int .i64 t3.f_Prio, .int .i64 t3.f_Dr, .int .i64 t3.f_Bdr, .slice A1 t3.f_Seen.length c1, .int .i64 t3.f_Flags, .int .i64 t3.f_Seq, .slice A2 t3.f_Heads.length c2, .slice A3 t3.f_Keys.length c3, .slice A4 t3.f_Lsas.length c4]) ti27 rfl rfl (HF21.boxes (o := 0) (n := 12) (mem_h) rfl))) ?_
      have HF22 := HF21.sublist (sl_dc (sl_dc (sl_c (sl_da (sl_da (List.Sublist.refl _))))))
      exact ⟨N1, _, _, _, _, _, _, _, _, _, _, _, _, _, _, _, _, none, 0, [], none, 0, [], rfl, HF22, hr1, hr2, hr3, hr4, hr5, hr6, hr7, hr8, OwnS.nil, OwnS.nil⟩
    · replace H := bnd H; obtain ⟨t2, J2, H⟩ := H
      refine qCall rfl gd0 isf15 rfl rfl rfl (f_pair_low.ok J2 HF9) ?_
      rintro _ w5 ⟨rfl, HF11⟩
      have HF12 := HF11.sublist (sl_c (sl_dc (sl_a (sl_a (List.Sublist.refl _)))))
      refine ⟨_, rfl, HF12, ?_⟩
      refine h1 8 (by kernel_rfl) rfl ?_
      refine qL rfl gd0 (ld rfl Try.underlying3 rfl (HF11.box (mem_c mem_h) rfl)) rfl HF12 ?_
      refine hTake 11 rfl (by kernel_rfl) (pThen pFn) (fun w_ hS_ => bd (r := [.int .i64 a0.f_self, .int .i64 a0.f_other, .int .i64 t2, .int .i64 1, .bool false, .int .i64 0, .int .i64 0, .int .i64 0, .int .i64 0, .int .i64 0, .int .i64 0, .slice none 0 0, .int .i64 0, .int .i64 0, .slice none 0 0, .slice none 0 0, .slice none 0 0, .slice none 0 0, .slice none 0 0, .int .i64 0, .int .i64 0, .int .i64 0]) pl42 ti42 rfl rfl) HF12 rfl rfl ?_
      refine hTake 12 rfl (by kernel_rfl) (pThen pFn) (fun w_ hS_ => nc rfl) HF12 rfl rfl ?_
      refine h1 13 (by kernel_rfl) rfl ?_
      have HF13 := HF11.perm (perm_c1 (List.Perm.refl _))
      refine qS rfl gd0 (oSt (l1 := [.int .i64 a0.f_self, .int .i64 a0.f_other, .int .i64 t2, .int .i64 1, .bool false, .int .i64 0, .int .i64 0, .int .i64 0, .int .i64 0, .int .i64 0, .int .i64 0, .slice none 0 0, .int .i64 0, .int .i64 0, .slice none 0 0, .slice none 0 0, .slice none 0 0, .slice none 0 0, .slice none 0 0, .int .i64 0, .int .i64 0, .int .i64 0]) HF13 rfl rfl ti42 rfl (ones rfl) (Nat.le_of_ble_eq_true rfl) rfl) ?_
      rintro w6 HF14
      have HF15 := HF14.sublist (sl_dc (sl_c (sl_a (sl_a (List.Sublist.refl _)))))
      refine ⟨HF15, ?_⟩
      refine hEnd (by kernel_rfl) ?_
      refine kN (?_)
      refine hK2 _ _ ?_
      refine cSeq (fun K3 hK3 => ?_)
      refine cRgn [] trivial ?_
      refine sL (mv rfl) rfl ?_
      refine sL (mv rfl) rfl ?_
      refine sL (nc rfl) rfl ?_
      refine sL (fa42_2 rfl) rfl ?_
      refine sL (ld rfl Try.underlying3 rfl (HF14.box (mem_h) rfl)) rfl ?_
      refine sL (bd (r := [.int .i64 0, .int .i64 0, .int .i64 0, .int .i64 0, .int .i64 0, .int .i64 0, .slice none 0 0, .int .i64 7, .int .i64 t2, .slice none 0 0, .slice none 0 0, .slice none 0 0]) pl27 ti27 rfl rfl) rfl ?_
      replace H := bnd H; obtain ⟨⟨t3, t4, t5, t6, t7, t8, t9, t10, t11, t12, t13, t14, t15, t16, t17⟩, J3, H⟩ := H
      refine eCall isf16 rfl rfl rfl (f_pair_Pair_tell_obj.ok (a0 := (⟨a0.f_self, a0.f_other, t2, 1, false, (⟨0, 0, 0, 0, 0, 0, [], 0, 0, [], [], []⟩ : T_api_Packet), [], [], 0, 0, 0⟩ : T_pair_Pair)) (a1 := (⟨0, 0, 0, 0, 0, 0, [], 7, t2, [], [], []⟩ : T_api_Packet)) (sub_c (sub_a (sub_a hG))) J3 HF14 RdS.nil RdS.nil RdS.nil RdS.nil OwnS.nil OwnS.nil RdS.nil RdS.nil RdS.nil RdS.nil) ?_
      rintro _ w7 ⟨N1, A1, c1, A2, c2, A3, c3, A4, c4, A5, c5, A6, c6, A7, c7, A8, c8, rfl, HF16, hr1, hr2, hr3, hr4, hr5, hr6, hr7, hr8⟩
      have HF17 := HF16.perm (pm_c (perm_c (perm_f (perm_f (List.Perm.refl _)))).symm)
      have hs1 : G ⊆ N1 ++ G := sub_a sub_r
      refine ⟨_, rfl, ?_⟩
      refine sL (mv rfl) rfl ?_
      refine sL (ex rfl rfl) rfl ?_
      refine sL (ex rfl rfl) rfl ?_
      refine eW (oAlloc HF17 ti27) rfl ?_
      rintro _ w8 ⟨g2, rfl, HF18⟩
      refine eS (oSt (l1 := [.int .i64 t3.f_Kind, .int .i64 t3.f_Router, .int .i64 t3.f_Bits, .int .i64 t3.f_Prio, .int .i64 t3.f_Dr, .int .i64 t3.f_Bdr, .slice A1 t3.f_Seen.length c1, .int .i64 t3.f_Flags, .int .i64 t3.f_Seq, .slice A2 t3.f_Heads.length c2, .slice A3 t3.f_Keys.length c3, .slice A4 t3.f_Lsas.length c4]) HF18 rfl rfl ti27 rfl (ones rfl) (Nat.le_of_ble_eq_true rfl) rfl) ?_
      rintro w9 HF19
      refine sL (asg rfl) rfl ?_
      refine lEnd (K := fun _ _ => True) ?_
      refine kN (?_)
      refine hK3 _ _ ?_
      refine cSeq (fun K4 hK4 => ?_)
      refine cRgn [] trivial ?_
      refine sL (ldA (cs := [.int .i64 t3.f_Kind, .int .i64 t3.f_Router, .int .i64 t3.f_Bits, .int .i64 t3.f_Prio, .int .i64 t3.f_Dr, .int .i64 t3.f_Bdr, .slice A1 t3.f_Seen.length c1, .int .i64 t3.f_Flags, .int .i64 t3.f_Seq, .slice A2 t3.f_Heads.length c2, .slice A3 t3.f_Keys.length c3, .slice A4 t3.f_Lsas.length c4]) rfl ti27 rfl rfl (HF19.boxes (o := 0) (n := 12) (mem_h) rfl)) rfl ?_
      have HF20 := HF19.perm (perm_c1 (perm_c1 (List.Perm.refl _)))
      refine eS (oSt (l1 := [.int .i64 t3.f_Kind, .int .i64 t3.f_Router, .int .i64 t3.f_Bits, .int .i64 t3.f_Prio, .int .i64 t3.f_Dr, .int .i64 t3.f_Bdr, .slice A1 t3.f_Seen.length c1, .int .i64 t3.f_Flags, .int .i64 t3.f_Seq, .slice A2 t3.f_Heads.length c2, .slice A3 t3.f_Keys.length c3, .slice A4 t3.f_Lsas.length c4]) HF20 rfl rfl ti27 rfl (ones rfl) (Nat.le_of_ble_eq_true rfl) rfl) ?_
      rintro w10 HF21
      refine lEnd (K := fun _ _ => True) ?_
      refine kN (?_)
      refine hK4 _ _ ?_
      refine cRet ?_
      obtain rfl := Option.some.inj H
      refine retA rfl (rvC rfl (lvA (cs := [.int .i64 t3.f_Kind, .int .i64 t3.f_Router, .int .i64 t3.f_Bits, .int .i64 t3.f_Prio, .int .i64 t3.f_Dr, .int .i64 t3.f_Bdr, .slice A1 t3.f_Seen.length c1, .int .i64 t3.f_Flags, .int .i64 t3.f_Seq, .slice A2 t3.f_Heads.length c2, .slice A3 t3.f_Keys.length c3, .slice A4 t3.f_Lsas.length c4]) ti27 rfl rfl (HF21.boxes (o := 0) (n := 12) (mem_h) rfl))) ?_
      have HF22 := HF21.sublist (sl_dc (sl_dc (sl_c (sl_da (sl_da (List.Sublist.refl _))))))
      exact ⟨N1, _, _, _, _, _, _, _, _, _, _, _, _, _, _, _, _, none, 0, [], none, 0, [], rfl, HF22, hr1, hr2, hr3, hr4, hr5, hr6, hr7, hr8, OwnS.nil, OwnS.nil⟩
  · refine qL rfl gd0 (ld rfl Try.underlying3 rfl (HF9.box (mem_c mem_h) rfl)) rfl HF10 ?_
    refine h2 4 10 (by kernel_rfl) rfl rfl ?_ ?_
    · refine qL rfl gd0 (ld rfl Try.underlying3 rfl (HF9.box (mem_c mem_h) rfl)) rfl HF10 ?_
      refine h1 10 (by kernel_rfl) rfl ?_
      replace H := bnd H; obtain ⟨t2, J2, H⟩ := H
      refine qCall rfl gd0 isf15 rfl rfl rfl (f_pair_low.ok J2 HF9) ?_
      rintro _ w5 ⟨rfl, HF11⟩
      have HF12 := HF11.sublist (sl_c (sl_dc (sl_a (sl_a (List.Sublist.refl _)))))
      refine ⟨_, rfl, HF12, ?_⟩
      refine hTake 11 rfl (by kernel_rfl) (pThen pFn) (fun w_ hS_ => bd (r := [.int .i64 a0.f_self, .int .i64 a0.f_other, .int .i64 t2, .int .i64 1, .bool false, .int .i64 0, .int .i64 0, .int .i64 0, .int .i64 0, .int .i64 0, .int .i64 0, .slice none 0 0, .int .i64 0, .int .i64 0, .slice none 0 0, .slice none 0 0, .slice none 0 0, .slice none 0 0, .slice none 0 0, .int .i64 0, .int .i64 0, .int .i64 0]) pl42 ti42 rfl rfl) HF12 rfl rfl ?_
      refine hTake 12 rfl (by kernel_rfl) (pThen pFn) (fun w_ hS_ => nc rfl) HF12 rfl rfl ?_
      refine h1 13 (by kernel_rfl) rfl ?_
      have HF13 := HF11.perm (perm_c1 (List.Perm.refl _))
      refine qS rfl gd0 (oSt (l1 := [.int .i64 a0.f_self, .int .i64 a0.f_other, .int .i64 t2, .int .i64 1, .bool false, .int .i64 0, .int .i64 0, .int .i64 0, .int .i64 0, .int .i64 0, .int .i64 0, .slice none 0 0, .int .i64 0, .int .i64 0, .slice none 0 0, .slice none 0 0, .slice none 0 0, .slice none 0 0, .slice none 0 0, .int .i64 0, .int .i64 0, .int .i64 0]) HF13 rfl rfl ti42 rfl (ones rfl) (Nat.le_of_ble_eq_true rfl) rfl) ?_
      rintro w6 HF14
      have HF15 := HF14.sublist (sl_dc (sl_c (sl_a (sl_a (List.Sublist.refl _)))))
      refine ⟨HF15, ?_⟩
      refine hEnd (by kernel_rfl) ?_
      refine kN (?_)
      refine hK2 _ _ ?_
      refine cSeq (fun K3 hK3 => ?_)
      refine cRgn [] trivial ?_
      refine sL (mv rfl) rfl ?_
      refine sL (mv rfl) rfl ?_
      refine sL (nc rfl) rfl ?_
      refine sL (fa42_2 rfl) rfl ?_
      refine sL (ld rfl Try.underlying3 rfl (HF14.box (mem_h) rfl)) rfl ?_
      refine sL (bd (r := [.int .i64 0, .int .i64 0, .int .i64 0, .int .i64 0, .int .i64 0, .int .i64 0, .slice none 0 0, .int .i64 7, .int .i64 t2, .slice none 0 0, .slice none 0 0, .slice none 0 0]) pl27 ti27 rfl rfl) rfl ?_
      replace H := bnd H; obtain ⟨⟨t3, t4, t5, t6, t7, t8, t9, t10, t11, t12, t13, t14, t15, t16, t17⟩, J3, H⟩ := H
      refine eCall isf16 rfl rfl rfl (f_pair_Pair_tell_obj.ok (a0 := (⟨a0.f_self, a0.f_other, t2, 1, false, (⟨0, 0, 0, 0, 0, 0, [], 0, 0, [], [], []⟩ : T_api_Packet), [], [], 0, 0, 0⟩ : T_pair_Pair)) (a1 := (⟨0, 0, 0, 0, 0, 0, [], 7, t2, [], [], []⟩ : T_api_Packet)) (sub_c (sub_a (sub_a hG))) J3 HF14 RdS.nil RdS.nil RdS.nil RdS.nil OwnS.nil OwnS.nil RdS.nil RdS.nil RdS.nil RdS.nil) ?_
      rintro _ w7 ⟨N1, A1, c1, A2, c2, A3, c3, A4, c4, A5, c5, A6, c6, A7, c7, A8, c8, rfl, HF16, hr1, hr2, hr3, hr4, hr5, hr6, hr7, hr8⟩
      have HF17 := HF16.perm (pm_c (perm_c (perm_f (perm_f (List.Perm.refl _)))).symm)
      have hs1 : G ⊆ N1 ++ G := sub_a sub_r
      refine ⟨_, rfl, ?_⟩
      refine sL (mv rfl) rfl ?_
      refine sL (ex rfl rfl) rfl ?_
      refine sL (ex rfl rfl) rfl ?_
      refine eW (oAlloc HF17 ti27) rfl ?_
      rintro _ w8 ⟨g2, rfl, HF18⟩
      refine eS (oSt (l1 := [.int .i64 t3.f_Kind, .int .i64 t3.f_Router, .int .i64 t3.f_Bits, .int .i64 t3.f_Prio, .int .i64 t3.f_Dr, .int .i64 t3.f_Bdr, .slice A1 t3.f_Seen.length c1, .int .i64 t3.f_Flags, .int .i64 t3.f_Seq, .slice A2 t3.f_Heads.length c2, .slice A3 t3.f_Keys.length c3, .slice A4 t3.f_Lsas.length c4]) HF18 rfl rfl ti27 rfl (ones rfl) (Nat.le_of_ble_eq_true rfl) rfl) ?_
      rintro w9 HF19
      refine sL (asg rfl) rfl ?_
      refine lEnd (K := fun _ _ => True) ?_
      refine kN (?_)
      refine hK3 _ _ ?_
      refine cSeq (fun K4 hK4 => ?_)
      refine cRgn [] trivial ?_
      refine sL (ldA (cs := [.int .i64 t3.f_Kind, .int .i64 t3.f_Router, .int .i64 t3.f_Bits, .int .i64 t3.f_Prio, .int .i64 t3.f_Dr, .int .i64 t3.f_Bdr, .slice A1 t3.f_Seen.length c1, .int .i64 t3.f_Flags, .int .i64 t3.f_Seq, .slice A2 t3.f_Heads.length c2, .slice A3 t3.f_Keys.length c3, .slice A4 t3.f_Lsas.length c4]) rfl ti27 rfl rfl (HF19.boxes (o := 0) (n := 12) (mem_h) rfl)) rfl ?_
      have HF20 := HF19.perm (perm_c1 (perm_c1 (List.Perm.refl _)))
      refine eS (oSt (l1 := [.int .i64 t3.f_Kind, .int .i64 t3.f_Router, .int .i64 t3.f_Bits, .int .i64 t3.f_Prio, .int .i64 t3.f_Dr, .int .i64 t3.f_Bdr, .slice A1 t3.f_Seen.length c1, .int .i64 t3.f_Flags, .int .i64 t3.f_Seq, .slice A2 t3.f_Heads.length c2, .slice A3 t3.f_Keys.length c3, .slice A4 t3.f_Lsas.length c4]) HF20 rfl rfl ti27 rfl (ones rfl) (Nat.le_of_ble_eq_true rfl) rfl) ?_
      rintro w10 HF21
      refine lEnd (K := fun _ _ => True) ?_
      refine kN (?_)
      refine hK4 _ _ ?_
      refine cRet ?_
      obtain rfl := Option.some.inj H
      refine retA rfl (rvC rfl (lvA (cs := [.int .i64 t3.f_Kind, .int .i64 t3.f_Router, .int .i64 t3.f_Bits, .int .i64 t3.f_Prio, .int .i64 t3.f_Dr, .int .i64 t3.f_Bdr, .slice A1 t3.f_Seen.length c1, .int .i64 t3.f_Flags, .int .i64 t3.f_Seq, .slice A2 t3.f_Heads.length c2, .slice A3 t3.f_Keys.length c3, .slice A4 t3.f_Lsas.length c4]) ti27 rfl rfl (HF21.boxes (o := 0) (n := 12) (mem_h) rfl))) ?_
      have HF22 := HF21.sublist (sl_dc (sl_dc (sl_c (sl_da (sl_da (List.Sublist.refl _))))))
      exact ⟨N1, _, _, _, _, _, _, _, _, _, _, _, _, _, _, _, _, none, 0, [], none, 0, [], rfl, HF22, hr1, hr2, hr3, hr4, hr5, hr6, hr7, hr8, OwnS.nil, OwnS.nil⟩
    · replace H := bnd H; obtain ⟨t2, J2, H⟩ := H
      refine qCall rfl gd0 isf15 rfl rfl rfl (f_pair_low.ok J2 HF9) ?_
      rintro _ w5 ⟨rfl, HF11⟩
      have HF12 := HF11.sublist (sl_c (sl_dc (sl_a (sl_a (List.Sublist.refl _)))))
      refine ⟨_, rfl, HF12, ?_⟩
      refine h1 4 (by kernel_rfl) rfl ?_
      refine qL rfl gd0 (ld rfl Try.underlying3 rfl (HF11.box (mem_c mem_h) rfl)) rfl HF12 ?_
      refine hTake 11 rfl (by kernel_rfl) (pThen pFn) (fun w_ hS_ => bd (r := [.int .i64 a0.f_self, .int .i64 a0.f_other, .int .i64 t2, .int .i64 1, .bool false, .int .i64 0, .int .i64 0, .int .i64 0, .int .i64 0, .int .i64 0, .int .i64 0, .slice none 0 0, .int .i64 0, .int .i64 0, .slice none 0 0, .slice none 0 0, .slice none 0 0, .slice none 0 0, .slice none 0 0, .int .i64 0, .int .i64 0, .int .i64 0]) pl42 ti42 rfl rfl) HF12 rfl rfl ?_
      refine hTake 12 rfl (by kernel_rfl) (pThen pFn) (fun w_ hS_ => nc rfl) HF12 rfl rfl ?_
      refine h1 13 (by kernel_rfl) rfl ?_
      have HF13 := HF11.perm (perm_c1 (List.Perm.refl _))
      refine qS rfl gd0 (oSt (l1 := [.int .i64 a0.f_self, .int .i64 a0.f_other, .int .i64 t2, .int .i64 1, .bool false, .int .i64 0, .int .i64 0, .int .i64 0, .int .i64 0, .int .i64 0, .int .i64 0, .slice none 0 0, .int .i64 0, .int .i64 0, .slice none 0 0, .slice none 0 0, .slice none 0 0, .slice none 0 0, .slice none 0 0, .int .i64 0, .int .i64 0, .int .i64 0]) HF13 rfl rfl ti42 rfl (ones rfl) (Nat.le_of_ble_eq_true rfl) rfl) ?_
      rintro w6 HF14
      have HF15 := HF14.sublist (sl_dc (sl_c (sl_a (sl_a (List.Sublist.refl _)))))
      refine ⟨HF15, ?_⟩
      refine hEnd (by kernel_rfl) ?_
      refine kN (?_)
      refine hK2 _ _ ?_
      refine cSeq (fun K3 hK3 => ?_)
      refine cRgn [] trivial ?_
      refine sL (mv rfl) rfl ?_
      refine sL (mv rfl) rfl ?_
      refine sL (nc rfl) rfl ?_
      refine sL (fa42_2 rfl) rfl ?_
      refine sL (ld rfl Try.underlying3 rfl (HF14.box (mem_h) rfl)) rfl ?_
      refine sL (bd (r := [.int .i64 0, .int .i64 0, .int .i64 0, .int .i64 0, .int .i64 0, .int .i64 0, .slice none 0 0, .int .i64 7, .int .i64 t2, .slice none 0 0, .slice none 0 0, .slice none 0 0]) pl27 ti27 rfl rfl) rfl ?_
      replace H := bnd H; obtain ⟨⟨t3, t4, t5, t6, t7, t8, t9, t10, t11, t12, t13, t14, t15, t16, t17⟩, J3, H⟩ := H
      refine eCall isf16 rfl rfl rfl (f_pair_Pair_tell_obj.ok (a0 := (⟨a0.f_self, a0.f_other, t2, 1, false, (⟨0, 0, 0, 0, 0, 0, [], 0, 0, [], [], []⟩ : T_api_Packet), [], [], 0, 0, 0⟩ : T_pair_Pair)) (a1 := (⟨0, 0, 0, 0, 0, 0, [], 7, t2, [], [], []⟩ : T_api_Packet)) (sub_c (sub_a (sub_a hG))) J3 HF14 RdS.nil RdS.nil RdS.nil RdS.nil OwnS.nil OwnS.nil RdS.nil RdS.nil RdS.nil RdS.nil) ?_
      rintro _ w7 ⟨N1, A1, c1, A2, c2, A3, c3, A4, c4, A5, c5, A6, c6, A7, c7, A8, c8, rfl, HF16, hr1, hr2, hr3, hr4, hr5, hr6, hr7, hr8⟩
      have HF17 := HF16.perm (pm_c (perm_c (perm_f (perm_f (List.Perm.refl _)))).symm)
      have hs1 : G ⊆ N1 ++ G := sub_a sub_r
      refine ⟨_, rfl, ?_⟩
      refine sL (mv rfl) rfl ?_
      refine sL (ex rfl rfl) rfl ?_
      refine sL (ex rfl rfl) rfl ?_
      refine eW (oAlloc HF17 ti27) rfl ?_
      rintro _ w8 ⟨g2, rfl, HF18⟩
      refine eS (oSt (l1 := [.int .i64 t3.f_Kind, .int .i64 t3.f_Router, .int .i64 t3.f_Bits, .int .i64 t3.f_Prio, .int .i64 t3.f_Dr, .int .i64 t3.f_Bdr, .slice A1 t3.f_Seen.length c1, .int .i64 t3.f_Flags, .int .i64 t3.f_Seq, .slice A2 t3.f_Heads.length c2, .slice A3 t3.f_Keys.length c3, .slice A4 t3.f_Lsas.length c4]) HF18 rfl rfl ti27 rfl (ones rfl) (Nat.le_of_ble_eq_true rfl) rfl) ?_
      rintro w9 HF19
      refine sL (asg rfl) rfl ?_
      refine lEnd (K := fun _ _ => True) ?_
      refine kN (?_)
      refine hK3 _ _ ?_
      refine cSeq (fun K4 hK4 => ?_)
      refine cRgn [] trivial ?_
      refine sL (ldA (cs := [.int .i64 t3.f_Kind, .int .i64 t3.f_Router, .int .i64 t3.f_Bits, .int .i64 t3.f_Prio, .int .i64 t3.f_Dr, .int .i64 t3.f_Bdr, .slice A1 t3.f_Seen.length c1, .int .i64 t3.f_Flags, .int .i64 t3.f_Seq, .slice A2 t3.f_Heads.length c2, .slice A3 t3.f_Keys.length c3, .slice A4 t3.f_Lsas.length c4]) rfl ti27 rfl rfl (HF19.boxes (o := 0) (n := 12) (mem_h) rfl)) rfl ?_
      have HF20 := HF19.perm (perm_c1 (perm_c1 (List.Perm.refl _)))
      refine eS (oSt (l1 := [.int .i64 t3.f_Kind, .int .i64 t3.f_Router, .int .i64 t3.f_Bits, .int .i64 t3.f_Prio, .int .i64 t3.f_Dr, .int .i64 t3.f_Bdr, .slice A1 t3.f_Seen.length c1, .int .i64 t3.f_Flags, .int .i64 t3.f_Seq, .slice A2 t3.f_Heads.length c2, .slice A3 t3.f_Keys.length c3, .slice A4 t3.f_Lsas.length c4]) HF20 rfl rfl ti27 rfl (ones rfl) (Nat.le_of_ble_eq_true rfl) rfl) ?_
      rintro w10 HF21
      refine lEnd (K := fun _ _ => True) ?_
      refine kN (?_)
      refine hK4 _ _ ?_
      refine cRet ?_
      obtain rfl := Option.some.inj H
      refine retA rfl (rvC rfl (lvA (cs := [.int .i64 t3.f_Kind, .int .i64 t3.f_Router, .int .i64 t3.f_Bits, .int .i64 t3.f_Prio, .int .i64 t3.f_Dr, .int .i64 t3.f_Bdr, .slice A1 t3.f_Seen.length c1, .int .i64 t3.f_Flags, .int .i64 t3.f_Seq, .slice A2 t3.f_Heads.length c2, .slice A3 t3.f_Keys.length c3, .slice A4 t3.f_Lsas.length c4]) ti27 rfl rfl (HF21.boxes (o := 0) (n := 12) (mem_h) rfl))) ?_
      have HF22 := HF21.sublist (sl_dc (sl_dc (sl_c (sl_da (sl_da (List.Sublist.refl _))))))
      exact ⟨N1, _, _, _, _, _, _, _, _, _, _, _, _, _, _, _, _, none, 0, [], none, 0, [], rfl, HF22, hr1, hr2, hr3, hr4, hr5, hr6, hr7, hr8, OwnS.nil, OwnS.nil⟩
  · replace H := bnd H; obtain ⟨t2, J2, H⟩ := H
    refine qCall rfl gd0 isf15 rfl rfl rfl (f_pair_low.ok J2 HF9) ?_
    rintro _ w5 ⟨rfl, HF11⟩
    have HF12 := HF11.sublist (sl_c (sl_dc (sl_a (sl_a (List.Sublist.refl _)))))
    refine ⟨_, rfl, HF12, ?_⟩
    refine h2 4 8 (by kernel_rfl) rfl rfl ?_ ?_
    · refine qL rfl gd0 (ld rfl Try.underlying3 rfl (HF11.box (mem_c mem_h) rfl)) rfl HF12 ?_
      refine h1 8 (by kernel_rfl) rfl ?_
      refine qL rfl gd0 (ld rfl Try.underlying3 rfl (HF11.box (mem_c mem_h) rfl)) rfl HF12 ?_
      refine hTake 11 rfl (by kernel_rfl) (pThen pFn) (fun w_ hS_ => bd (r := [.int .i64 a0.f_self, .int .i64 a0.f_other, .int .i64 t2, .int .i64 1, .bool false, .int .i64 0, .int .i64 0, .int .i64 0, .int .i64 0, .int .i64 0, .int .i64 0, .slice none 0 0, .int .i64 0, .int .i64 0, .slice none 0 0, .slice none 0 0, .slice none 0 0, .slice none 0 0, .slice none 0 0, .int .i64 0, .int .i64 0, .int .i64 0]) pl42 ti42 rfl rfl) HF12 rfl rfl ?_
      refine hTake 12 rfl (by kernel_rfl) (pThen pFn) (fun w_ hS_ => nc rfl) HF12 rfl rfl ?_
      refine h1 13 (by kernel_rfl) rfl ?_
      have HF13 := HF11.perm (perm_c1 (List.Perm.refl _))
      refine qS rfl gd0 (oSt (l1 := [.int .i64 a0.f_self, .int .i64 a0.f_other, .int .i64 t2, .int .i64 1, .bool false, .int .i64 0, .int .i64 0, .int .i64 0, .int .i64 0, .int .i64 0, .int .i64 0, .slice none 0 0, .int .i64 0, .int .i64 0, .slice none 0 0, .slice none 0 0, .slice none 0 0, .slice none 0 0, .slice none 0 0, .int .i64 0, .int .i64 0, .int .i64 0]) HF13 rfl rfl ti42 rfl (ones rfl) (Nat.le_of_ble_eq_true rfl) rfl) ?_
      rintro w6 HF14
      have HF15 := HF14.sublist (sl_dc (sl_c (sl_a (sl_a (List.Sublist.refl _)))))
      refine ⟨HF15, ?_⟩
      refine hEnd (by kernel_rfl) ?_
      refine kN (?_)
      refine hK2 _ _ ?_
      refine cSeq (fun K3 hK3 => ?_)
      refine cRgn [] trivial ?_
      refine sL (mv rfl) rfl ?_
      refine sL (mv rfl) rfl ?_
      refine sL (nc rfl) rfl ?_
      refine sL (fa42_2 rfl) rfl ?_
      refine sL (ld rfl Try.underlying3 rfl (HF14.box (mem_h) rfl)) rfl ?_
      refine sL (bd (r := [.int .i64 0, .int .i64 0, .int .i64 0, .int .i64 0, .int .i64 0, .int .i64 0, .slice none 0 0, .int .i64 7, .int .i64 t2, .slice none 0 0, .slice none 0 0, .slice none 0 0]) pl27 ti27 rfl rfl) rfl ?_
      replace H := bnd H; obtain ⟨⟨t3, t4, t5, t6, t7, t8, t9, t10, t11, t12, t13, t14, t15, t16, t17⟩, J3, H⟩ := H
      refine eCall isf16 rfl rfl rfl (f_pair_Pair_tell_obj.ok (a0 := (⟨a0.f_self, a0.f_other, t2, 1, false, (⟨0, 0, 0, 0, 0, 0, [], 0, 0, [], [], []⟩ : T_api_Packet), [], [], 0, 0, 0⟩ : T_pair_Pair)) (a1 := (⟨0, 0, 0, 0, 0, 0, [], 7, t2, [], [], []⟩ : T_api_Packet)) (sub_c (sub_a (sub_a hG))) J3 HF14 RdS.nil RdS.nil RdS.nil RdS.nil OwnS.nil OwnS.nil RdS.nil RdS.nil RdS.nil RdS.nil) ?_
      rintro _ w7 ⟨N1, A1, c1, A2, c2, A3, c3, A4, c4, A5, c5, A6, c6, A7, c7, A8, c8, rfl, HF16, hr1, hr2, hr3, hr4, hr5, hr6, hr7, hr8⟩
      have HF17 := HF16.perm (pm_c (perm_c (perm_f (perm_f (List.Perm.refl _)))).symm)
      have hs1 : G ⊆ N1 ++ G := sub_a sub_r
      refine ⟨_, rfl, ?_⟩
      refine sL (mv rfl) rfl ?_
      refine sL (ex rfl rfl) rfl ?_
      refine sL (ex rfl rfl) rfl ?_
      refine eW (oAlloc HF17 ti27) rfl ?_
      rintro _ w8 ⟨g2, rfl, HF18⟩
      refine eS (oSt (l1 := [.int .i64 t3.f_Kind, .int .i64 t3.f_Router, .int .i64 t3.f_Bits, .int .i64 t3.f_Prio, .int .i64 t3.f_Dr, .int .i64 t3.f_Bdr, .slice A1 t3.f_Seen.length c1, .int .i64 t3.f_Flags, .int .i64 t3.f_Seq, .slice A2 t3.f_Heads.length c2, .slice A3 t3.f_Keys.length c3, .slice A4 t3.f_Lsas.length c4]) HF18 rfl rfl ti27 rfl (ones rfl) (Nat.le_of_ble_eq_true rfl) rfl) ?_
      rintro w9 HF19
      refine sL (asg rfl) rfl ?_
      refine lEnd (K := fun _ _ => True) ?_
      refine kN (?_)
      refine hK3 _ _ ?_
      refine cSeq (fun K4 hK4 => ?_)
      refine cRgn [] trivial ?_
      refine sL (ldA (cs := [.int .i64 t3.f_Kind, .int .i64 t3.f_Router, .int .i64 t3.f_Bits, .int .i64 t3.f_Prio, .int .i64 t3.f_Dr, .int .i64 t3.f_Bdr, .slice A1 t3.f_Seen.length c1, .int .i64 t3.f_Flags, .int .i64 t3.f_Seq, .slice A2 t3.f_Heads.length c2, .slice A3 t3.f_Keys.length c3, .slice A4 t3.f_Lsas.length c4]) rfl ti27 rfl rfl (HF19.boxes (o := 0) (n := 12) (mem_h) rfl)) rfl ?_
      have HF20 := HF19.perm (perm_c1 (perm_c1 (List.Perm.refl _)))
      refine eS (oSt (l1 := [.int .i64 t3.f_Kind, .int .i64 t3.f_Router, .int .i64 t3.f_Bits, .int .i64 t3.f_Prio, .int .i64 t3.f_Dr, .int .i64 t3.f_Bdr, .slice A1 t3.f_Seen.length c1, .int .i64 t3.f_Flags, .int .i64 t3.f_Seq, .slice A2 t3.f_Heads.length c2, .slice A3 t3.f_Keys.length c3, .slice A4 t3.f_Lsas.length c4]) HF20 rfl rfl ti27 rfl (ones rfl) (Nat.le_of_ble_eq_true rfl) rfl) ?_
      rintro w10 HF21
      refine lEnd (K := fun _ _ => True) ?_
      refine kN (?_)
      refine hK4 _ _ ?_
      refine cRet ?_
      obtain rfl := Option.some.inj H
      refine retA rfl (rvC rfl (lvA (cs := [.int .i64 t3.f_Kind, .int .i64 t3.f_Router, .int .i64 t3.f_Bits, .int .i64 t3.f_Prio, .int .i64 t3.f_Dr, .int .i64 t3.f_Bdr, .slice A1 t3.f_Seen.length c1, .int .i64 t3.f_Flags, .int .i64 t3.f_Seq, .slice A2 t3.f_Heads.length c2, .slice A3 t3.f_Keys.length c3, .slice A4 t3.f_Lsas.length c4]) ti27 rfl rfl (HF21.boxes (o := 0) (n := 12) (mem_h) rfl))) ?_
      have HF22 := HF21.sublist (sl_dc (sl_dc (sl_c (sl_da (sl_da (List.Sublist.refl _))))))
      exact ⟨N1, _, _, _, _, _, _, _, _, _, _, _, _, _, _, _, _, none, 0, [], none, 0, [], rfl, HF22, hr1, hr2, hr3, hr4, hr5, hr6, hr7, hr8, OwnS.nil, OwnS.nil⟩
    · refine qL rfl gd0 (ld rfl Try.underlying3 rfl (HF11.box (mem_c mem_h) rfl)) rfl HF12 ?_
      refine h1 4 (by kernel_rfl) rfl ?_
      refine qL rfl gd0 (ld rfl Try.underlying3 rfl (HF11.box (mem_c mem_h) rfl)) rfl HF12 ?_
      refine hTake 11 rfl (by kernel_rfl) (pThen pFn) (fun w_ hS_ => bd (r := [.int .i64 a0.f_self, .int .i64 a0.f_other, .int .i64 t2, .int .i64 1, .bool false, .int .i64 0, .int .i64 0, .int .i64 0, .int .i64 0, .int .i64 0, .int .i64 0, .slice none 0 0, .int .i64 0, .int .i64 0, .slice none 0 0, .slice none 0 0, .slice none 0 0, .slice none 0 0, .slice none 0 0, .int .i64 0, .int .i64 0, .int .i64 0]) pl42 ti42 rfl rfl) HF12 rfl rfl ?_
      refine hTake 12 rfl (by kernel_rfl) (pThen pFn) (fun w_ hS_ => nc rfl) HF12 rfl rfl ?_
      refine h1 13 (by kernel_rfl) rfl ?_
      have HF13 := HF11.perm (perm_c1 (List.Perm.refl _))
      refine qS rfl gd0 (oSt (l1 := [.int .i64 a0.f_self, .int .i64 a0.f_other, .int .i64 t2, .int .i64 1, .bool false, .int .i64 0, .int .i64 0, .int .i64 0, .int .i64 0, .int .i64 0, .int .i64 0, .slice none 0 0, .int .i64 0, .int .i64 0, .slice none 0 0, .slice none 0 0, .slice none 0 0, .slice none 0 0, .slice none 0 0, .int .i64 0, .int .i64 0, .int .i64 0]) HF13 rfl rfl ti42 rfl (ones rfl) (Nat.le_of_ble_eq_true rfl) rfl) ?_
      rintro w6 HF14
      have HF15 := HF14.sublist (sl_dc (sl_c (sl_a (sl_a (List.Sublist.refl _)))))
      refine ⟨HF15, ?_⟩
      refine hEnd (by kernel_rfl) ?_
      refine kN (?_)
      refine hK2 _ _ ?_
      refine cSeq (fun K3 hK3 => ?_)
      refine cRgn [] trivial ?_
      refine sL (mv rfl) rfl ?_
      refine sL (mv rfl) rfl ?_
      refine sL (nc rfl) rfl ?_
      refine sL (fa42_2 rfl) rfl ?_
      refine sL (ld rfl Try.underlying3 rfl (HF14.box (mem_h) rfl)) rfl ?_
      refine sL (bd (r := [.int .i64 0, .int .i64 0, .int .i64 0, .int .i64 0, .int .i64 0, .int .i64 0, .slice none 0 0, .int .i64 7, .int .i64 t2, .slice none 0 0, .slice none 0 0, .slice none 0 0]) pl27 ti27 rfl rfl) rfl ?_
      replace H := bnd H; obtain ⟨⟨t3, t4, t5, t6, t7, t8, t9, t10, t11, t12, t13, t14, t15, t16, t17⟩, J3, H⟩ := H
      refine eCall isf16 rfl rfl rfl (f_pair_Pair_tell_obj.ok (a0 := (⟨a0.f_self, a0.f_other, t2, 1, false, (⟨0, 0, 0, 0, 0, 0, [], 0, 0, [], [], []⟩ : T_api_Packet), [], [], 0, 0, 0⟩ : T_pair_Pair)) (a1 := (⟨0, 0, 0, 0, 0, 0, [], 7, t2, [], [], []⟩ : T_api_Packet)) (sub_c (sub_a (sub_a hG))) J3 HF14 RdS.nil RdS.nil RdS.nil RdS.nil OwnS.nil OwnS.nil RdS.nil RdS.nil RdS.nil RdS.nil) ?_
      rintro _ w7 ⟨N1, A1, c1, A2, c2, A3, c3, A4, c4, A5, c5, A6, c6, A7, c7, A8, c8, rfl, HF16, hr1, hr2, hr3, hr4, hr5, hr6, hr7, hr8⟩
      have HF17 := HF16.perm (pm_c (perm_c (perm_f (perm_f (List.Perm.refl _)))).symm)
      have hs1 : G ⊆ N1 ++ G := sub_a sub_r
      refine ⟨_, rfl, ?_⟩
      refine sL (mv rfl) rfl ?_
      refine sL (ex rfl rfl) rfl ?_
      refine sL (ex rfl rfl) rfl ?_
      refine eW (oAlloc HF17 ti27) rfl ?_
      rintro _ w8 ⟨g2, rfl, HF18⟩
      refine eS (oSt (l1 := [.int .i64 t3.f_Kind, .int .i64 t3.f_Router, .int .i64 t3.f_Bits, .int .i64 t3.f_Prio, .int .i64 t3.f_Dr, .int .i64 t3.f_Bdr, .slice A1 t3.f_Seen.length c1, .int .i64 t3.f_Flags, .int .i64 t3.f_Seq, .slice A2 t3.f_Heads.length c2, .slice A3 t3.f_Keys.length c3, .slice A4 t3.f_Lsas.length c4]) HF18 rfl rfl ti27 rfl (ones rfl) (Nat.le_of_ble_eq_true rfl) rfl) ?_
      rintro w9 HF19
      refine sL (asg rfl) rfl ?_
      refine lEnd (K := fun _ _ => True) ?_
      refine kN (?_)
      refine hK3 _ _ ?_
      refine cSeq (fun K4 hK4 => ?_)
      refine cRgn [] trivial ?_
      refine sL (ldA (cs := [.int .i64 t3.f_Kind, .int .i64 t3.f_Router, .int .i64 t3.f_Bits, .int .i64 t3.f_Prio, .int .i64 t3.f_Dr, .int .i64 t3.f_Bdr, .slice A1 t3.f_Seen.length c1, .int .i64 t3.f_Flags, .int .i64 t3.f_Seq, .slice A2 t3.f_Heads.length c2, .slice A3 t3.f_Keys.length c3, .slice A4 t3.f_Lsas.length c4]) rfl ti27 rfl rfl (HF19.boxes (o := 0) (n := 12) (mem_h) rfl)) rfl ?_
      have HF20 := HF19.perm (perm_c1 (perm_c1 (List.Perm.refl _)))
      refine eS (oSt (l1 := [.int .i64 t3.f_Kind, .int .i64 t3.f_Router, .int .i64 t3.f_Bits, .int .i64 t3.f_Prio, .int .i64 t3.f_Dr, .int .i64 t3.f_Bdr, .slice A1 t3.f_Seen.length c1, .int .i64 t3.f_Flags, .int .i64 t3.f_Seq, .slice A2 t3.f_Heads.length c2, .slice A3 t3.f_Keys.length c3, .slice A4 t3.f_Lsas.length c4]) HF20 rfl rfl ti27 rfl (ones rfl) (Nat.le_of_ble_eq_true rfl) rfl) ?_
      rintro w10 HF21
      refine lEnd (K := fun _ _ => True) ?_
      refine kN (?_)
      refine hK4 _ _ ?_
      refine cRet ?_
      obtain rfl := Option.some.inj H
      refine retA rfl (rvC rfl (lvA (cs := [.int .i64 t3.f_Kind, .int .i64 t3.f_Router, .int .i64 t3.f_Bits, .int .i64 t3.f_Prio, .int .i64 t3.f_Dr, .int .i64 t3.f_Bdr, .slice A1 t3.f_Seen.length c1, .int .i64 t3.f_Flags, .int .i64 t3.f_Seq, .slice A2 t3.f_Heads.length c2, .slice A3 t3.f_Keys.length c3, .slice A4 t3.f_Lsas.length c4]) ti27 rfl rfl (HF21.boxes (o := 0) (n := 12) (mem_h) rfl))) ?_
      have HF22 := HF21.sublist (sl_dc (sl_dc (sl_c (sl_da (sl_da (List.Sublist.refl _))))))
      exact ⟨N1, _, _, _, _, _, _, _, _, _, _, _, _, _, _, _, _, none, 0, [], none, 0, [], rfl, HF22, hr1, hr2, hr3, hr4, hr5, hr6, hr7, hr8, OwnS.nil, OwnS.nil⟩

/-! ### plenum/pair.New (function 31) -/
abbrev f_pair_New.R := T_pair_Pair × T_api_Packet
noncomputable def f_pair_New (a0 : Int) (a1 : Int) (a2 : Int) : Option f_pair_New.R := ((f_pair_Pair_begin_obj (⟨a0, a1, 0, 0, false, (⟨0, 0, 0, 0, 0, 0, [], 0, 0, [], [], []⟩ : T_api_Packet), [], [], 0, 0, 0⟩ : T_pair_Pair) a2).bind fun (t1, t2, t3, t4, t5, t6, t7, t8, t9, t10, t11, t12, t13, t14, t15, t16, t17, t18, t19, t20, t21) => some ((⟨a0, a1, t2, t3, t4, (⟨t5, t6, t7, t8, t9, t10, t11, t12, t13, t14, t15, t16⟩ : T_api_Packet), t17, t18, t19, t20, t21⟩ : T_pair_Pair), t1))
set_option maxHeartbeats 1000000 in
theorem f_pair_New.ok {z w : World} {F G : Hp} (hG : G ⊆ F) {a0 : Int} {a1 : Int} {a2 : Int} {r : f_pair_New.R} (H : f_pair_New a0 a1 a2 = some r) (HF : Fits z w F) :
    Calls Try.prog 31 [.int .i64 a0, .int .i64 a1, .int .i64 a2].toArray w fun e w' => ∃ (N : Hp) (g0 : Nat) (A1 : Option Addr) (c1 : Nat) (A3 : Option Addr) (c3 : Nat) (A5 : Option Addr) (c5 : Nat) (A7 : Option Addr) (c7 : Nat) (A9 : Option Addr) (c9 : Nat) (L9 : Hp) (A12 : Option Addr) (c12 : Nat) (L12 : Hp) (A15 : Option Addr) (c15 : Nat) (A17 : Option Addr) (c17 : Nat) (A19 : Option Addr) (c19 : Nat) (A21 : Option Addr) (c21 : Nat), e = .returned (.tuple #[.pointer (some ⟨g0, 0, none⟩), .agg [.int .i64 r.2.f_Kind, .int .i64 r.2.f_Router, .int .i64 r.2.f_Bits, .int .i64 r.2.f_Prio, .int .i64 r.2.f_Dr, .int .i64 r.2.f_Bdr, .slice A15 r.2.f_Seen.length c15, .int .i64 r.2.f_Flags, .int .i64 r.2.f_Seq, .slice A17 r.2.f_Heads.length c17, .slice A19 r.2.f_Keys.length c19, .slice A21 r.2.f_Lsas.length c21].toArray]) ∧ Fits z w' (bk g0 42 [.int .i64 r.1.f_self, .int .i64 r.1.f_other, .int .i64 r.1.f_seq, .int .i64 r.1.f_state, .bool r.1.f_master, .int .i64 r.1.f_last.f_Kind, .int .i64 r.1.f_last.f_Router, .int .i64 r.1.f_last.f_Bits, .int .i64 r.1.f_last.f_Prio, .int .i64 r.1.f_last.f_Dr, .int .i64 r.1.f_last.f_Bdr, .slice A1 r.1.f_last.f_Seen.length c1, .int .i64 r.1.f_last.f_Flags, .int .i64 r.1.f_last.f_Seq, .slice A3 r.1.f_last.f_Heads.length c3, .slice A5 r.1.f_last.f_Keys.length c5, .slice A7 r.1.f_last.f_Lsas.length c7, .slice A9 r.1.f_heads.length c9, .slice A12 r.1.f_wants.length c12, .int .i64 r.1.f_left, .int .i64 r.1.f_flags, .int .i64 r.1.f_number] :: (L9 ++ (L12 ++ (N ++ F)))) ∧ RdS (kInt .i64) (N ++ G) A1 c1 r.1.f_last.f_Seen ∧ RdS k_T_api_Head (N ++ G) A3 c3 r.1.f_last.f_Heads ∧ RdS k_T_api_Key (N ++ G) A5 c5 r.1.f_last.f_Keys ∧ RdS (kShr (N ++ G) k_T_api_Lsa) (N ++ G) A7 c7 r.1.f_last.f_Lsas ∧ OwnS k_T_api_Head L9 A9 c9 r.1.f_heads ∧ OwnS k_T_api_Head L12 A12 c12 r.1.f_wants ∧ RdS (kInt .i64) (N ++ G) A15 c15 r.2.f_Seen ∧ RdS k_T_api_Head (N ++ G) A17 c17 r.2.f_Heads ∧ RdS k_T_api_Key (N ++ G) A19 c19 r.2.f_Keys ∧ RdS (kShr (N ++ G) k_T_api_Lsa) (N ++ G) A21 c21 r.2.f_Lsas := by
  unfold f_pair_New at H
  refine enter0 Try.func31 rfl Try.ntmps31 rfl (E := [(0, .int .i64 a0), (1, .int .i64 a1), (2, .int .i64 a2)]) rfl ?_
  refine cSeq (fun K1 hK1 => ?_)
  refine cRgn [] trivial ?_
  refine sL (asg rfl) rfl ?_
  refine eW (oAlloc HF ti27) rfl ?_
  rintro _ w1 ⟨g1, rfl, HF1⟩
  refine lEnd (K := fun _ _ => True) ?_
  refine kN (?_)
  refine hK1 _ _ ?_
  refine cSeq (fun K2 hK2 => ?_)
  refine cRgn [] trivial ?_
  refine sL (mv rfl) rfl ?_
  refine sL (mv rfl) rfl ?_
  refine sL (bd (r := [.int .i64 a0, .int .i64 a1, .int .i64 0, .int .i64 0, .bool false, .int .i64 0, .int .i64 0, .int .i64 0, .int .i64 0, .int .i64 0, .int .i64 0, .slice none 0 0, .int .i64 0, .int .i64 0, .slice none 0 0, .slice none 0 0, .slice none 0 0, .slice none 0 0, .slice none 0 0, .int .i64 0, .int .i64 0, .int .i64 0]) pl42 ti42 rfl rfl) rfl ?_
  refine eW (oBox HF1 rfl) rfl ?_
  rintro _ w2 ⟨g2, rfl, HF2⟩
  refine sL (asg rfl) rfl ?_
  refine lEnd (K := fun _ _ => True) ?_
  refine kN (?_)
  refine hK2 _ _ ?_
  refine cSeq (fun K3 hK3 => ?_)
  refine cRgn [] trivial ?_
  refine sL (mv rfl) rfl ?_
  refine sL (mv rfl) rfl ?_
  refine sL (mv rfl) rfl ?_
  replace H := bnd H; obtain ⟨⟨t1, t2, t3, t4, t5, t6, t7, t8, t9, t10, t11, t12, t13, t14, t15, t16, t17, t18, t19, t20, t21⟩, J1, H⟩ := H
  refine eCall isf27 rfl rfl rfl (f_pair_Pair_begin_obj.ok (a0 := (⟨a0, a1, 0, 0, false, (⟨0, 0, 0, 0, 0, 0, [], 0, 0, [], [], []⟩ : T_api_Packet), [], [], 0, 0, 0⟩ : T_pair_Pair)) (sub_c hG) J1 HF2 RdS.nil RdS.nil RdS.nil RdS.nil OwnS.nil OwnS.nil) ?_
  rintro _ w3 ⟨N1, A1, c1, A2, c2, A3, c3, A4, c4, A5, c5, A6, c6, A7, c7, A8, c8, A9, c9, L1, A10, c10, L2, rfl, HF3, hr1, hr2, hr3, hr4, hr5, hr6, hr7, hr8, ho1, ho2⟩
  have HF4 := HF3.perm (pm_c (pm_a (pm_a (perm_c (List.Perm.refl _)).symm)))
  have hs1 : G ⊆ N1 ++ G := sub_a sub_r
  refine ⟨_, rfl, ?_⟩
  refine sL (asg rfl) rfl ?_
  have HF5 := HF4.perm (perm_c1 (perm_f1 (perm_f1 (List.Perm.refl _))))
  refine eS (oSt (l1 := [.int .i64 t1.f_Kind, .int .i64 t1.f_Router, .int .i64 t1.f_Bits, .int .i64 t1.f_Prio, .int .i64 t1.f_Dr, .int .i64 t1.f_Bdr, .slice A1 t1.f_Seen.length c1, .int .i64 t1.f_Flags, .int .i64 t1.f_Seq, .slice A2 t1.f_Heads.length c2, .slice A3 t1.f_Keys.length c3, .slice A4 t1.f_Lsas.length c4]) HF5 rfl rfl ti27 rfl (ones rfl) (Nat.le_of_ble_eq_true rfl) rfl) ?_
  rintro w4 HF6
  refine lEnd (K := fun _ _ => True) ?_
  refine kN (?_)
  refine hK3 _ _ ?_
  refine cRet ?_
  obtain rfl := Option.some.inj H
  refine retB rfl rfl (rvC rfl (lvA (cs := [.int .i64 t1.f_Kind, .int .i64 t1.f_Router, .int .i64 t1.f_Bits, .int .i64 t1.f_Prio, .int .i64 t1.f_Dr, .int .i64 t1.f_Bdr, .slice A1 t1.f_Seen.length c1, .int .i64 t1.f_Flags, .int .i64 t1.f_Seq, .slice A2 t1.f_Heads.length c2, .slice A3 t1.f_Keys.length c3, .slice A4 t1.f_Lsas.length c4]) ti27 rfl rfl (HF6.boxes (o := 0) (n := 12) (mem_h) rfl))) ?_
  have HF7 := HF6.sublist (sl_dc (sl_c (sl_a (sl_a (List.Sublist.refl _)))))
  exact ⟨N1, _, _, _, _, _, _, _, _, _, _, _, L1, _, _, L2, _, _, _, _, _, _, _, _, rfl, HF7, hr5, hr6, hr7, hr8, ho1, ho2, hr1, hr2, hr3, hr4⟩

/-! ### (*plenum/pair.Pair).State (function 6) -/
abbrev f_pair_Pair_State_obj.R := Int
noncomputable def f_pair_Pair_State_obj (a0 : T_pair_Pair) : Option f_pair_Pair_State_obj.R := some a0.f_state
set_option maxHeartbeats 1000000 in
theorem f_pair_Pair_State_obj.ok {z w : World} {F G : Hp} (hG : G ⊆ F) {a0 : T_pair_Pair} {g_a0 : Nat} {A_a0_11 : Option Addr} {c_a0_11 : Nat} {A_a0_14 : Option Addr} {c_a0_14 : Nat} {A_a0_15 : Option Addr} {c_a0_15 : Nat} {A_a0_16 : Option Addr} {c_a0_16 : Nat} {A_a0_17 : Option Addr} {c_a0_17 : Nat} {L_a0_17 : Hp} {A_a0_18 : Option Addr} {c_a0_18 : Nat} {L_a0_18 : Hp} {r : f_pair_Pair_State_obj.R} (H : f_pair_Pair_State_obj a0 = some r) (HF : Fits z w (bk g_a0 42 [.int .i64 a0.f_self, .int .i64 a0.f_other, .int .i64 a0.f_seq, .int .i64 a0.f_state, .bool a0.f_master, .int .i64 a0.f_last.f_Kind, .int .i64 a0.f_last.f_Router, .int .i64 a0.f_last.f_Bits, .int .i64 a0.f_last.f_Prio, .int .i64 a0.f_last.f_Dr, .int .i64 a0.f_last.f_Bdr, .slice A_a0_11 a0.f_last.f_Seen.length c_a0_11, .int .i64 a0.f_last.f_Flags, .int .i64 a0.f_last.f_Seq, .slice A_a0_14 a0.f_last.f_Heads.length c_a0_14, .slice A_a0_15 a0.f_last.f_Keys.length c_a0_15, .slice A_a0_16 a0.f_last.f_Lsas.length c_a0_16, .slice A_a0_17 a0.f_heads.length c_a0_17, .slice A_a0_18 a0.f_wants.length c_a0_18, .int .i64 a0.f_left, .int .i64 a0.f_flags, .int .i64 a0.f_number] :: (L_a0_17 ++ (L_a0_18 ++ F)))) (hr_a0_11 : RdS (kInt .i64) G A_a0_11 c_a0_11 a0.f_last.f_Seen) (hr_a0_14 : RdS k_T_api_Head G A_a0_14 c_a0_14 a0.f_last.f_Heads) (hr_a0_15 : RdS k_T_api_Key G A_a0_15 c_a0_15 a0.f_last.f_Keys) (hr_a0_16 : RdS (kShr G k_T_api_Lsa) G A_a0_16 c_a0_16 a0.f_last.f_Lsas) (ho_a0_17 : OwnS k_T_api_Head L_a0_17 A_a0_17 c_a0_17 a0.f_heads) (ho_a0_18 : OwnS k_T_api_Head L_a0_18 A_a0_18 c_a0_18 a0.f_wants) :
    Calls Try.prog 6 [.pointer (some ⟨g_a0, 0, none⟩)].toArray w fun e w' => e = .returned (.int .i64 r) ∧ Fits z w' (bk g_a0 42 [.int .i64 a0.f_self, .int .i64 a0.f_other, .int .i64 a0.f_seq, .int .i64 a0.f_state, .bool a0.f_master, .int .i64 a0.f_last.f_Kind, .int .i64 a0.f_last.f_Router, .int .i64 a0.f_last.f_Bits, .int .i64 a0.f_last.f_Prio, .int .i64 a0.f_last.f_Dr, .int .i64 a0.f_last.f_Bdr, .slice A_a0_11 a0.f_last.f_Seen.length c_a0_11, .int .i64 a0.f_last.f_Flags, .int .i64 a0.f_last.f_Seq, .slice A_a0_14 a0.f_last.f_Heads.length c_a0_14, .slice A_a0_15 a0.f_last.f_Keys.length c_a0_15, .slice A_a0_16 a0.f_last.f_Lsas.length c_a0_16, .slice A_a0_17 a0.f_heads.length c_a0_17, .slice A_a0_18 a0.f_wants.length c_a0_18, .int .i64 a0.f_left, .int .i64 a0.f_flags, .int .i64 a0.f_number] :: (L_a0_17 ++ (L_a0_18 ++ F))) := by
  unfold f_pair_Pair_State_obj at H
  refine enter0 Try.func6 rfl Try.ntmps6 rfl (E := [(0, .pointer (some ⟨g_a0, 0, none⟩))]) rfl ?_
  refine cSeq (fun K1 hK1 => ?_)
  refine cRgn [] trivial ?_
  refine sL (asg rfl) rfl ?_
  refine lEnd (K := fun _ _ => True) ?_
  refine kN (?_)
  refine hK1 _ _ ?_
  refine cSeq (fun K2 hK2 => ?_)
  refine cSeq (fun K3 hK3 => ?_)
  refine cRgn [] trivial ?_
  refine sL (mv rfl) rfl ?_
  refine sL (bPEql0 rfl rfl Try.underlying30) rfl ?_
  refine lEnd (K := fun _ _ => True) ?_
  refine kN (?_)
  refine hK3 _ _ ?_
  refine cF rfl ?_
  refine cSkip ?_
  refine kN (?_)
  refine hK2 _ _ ?_
  refine cSeq (fun K4 hK4 => ?_)
  refine cRgn [] trivial ?_
  refine sL (mv rfl) rfl ?_
  refine sL (nc rfl) rfl ?_
  refine sL (fa42_3 rfl) rfl ?_
  refine sL (ld rfl Try.underlying3 rfl (HF.box (mem_h) rfl)) rfl ?_
  refine sL (asg rfl) rfl ?_
  refine lEnd (K := fun _ _ => True) ?_
  refine kN (?_)
  refine hK4 _ _ ?_
  refine cRet ?_
  obtain rfl := Option.some.inj H
  refine ret1 rfl rfl ?_
  exact ⟨rfl, HF⟩

/-! ### plenum/plenumlaw13.awake (function 11) -/
abbrev f_plenumlaw13_awake.R := Bool
noncomputable def f_plenumlaw13_awake : Option f_plenumlaw13_awake.R := ((f_pair_New 1 2 5).bind fun (t1, t2) => (if t2.f_Flags = 7 then (if t2.f_Seq = 5 then (if t2.f_Kind = 2 then ((f_pair_Pair_State_obj t1).bind fun t3 => some (decide (t3 = 1))) else some false) else some false) else some false))
set_option maxHeartbeats 1000000 in
theorem f_plenumlaw13_awake.ok {z w : World} {F G : Hp} (hG : G ⊆ F) {r : f_plenumlaw13_awake.R} (H : f_plenumlaw13_awake = some r) (HF : Fits z w F) :
    Calls Try.prog 11 [].toArray w fun e w' => e = .returned (.bool r) ∧ Fits z w' F := by
  unfold f_plenumlaw13_awake at H
  refine enter0 Try.func11 rfl Try.ntmps11 rfl (E := []) rfl ?_
  refine cSeq (fun K1 hK1 => ?_)
  refine cRgn [] trivial ?_
  refine sL (asg rfl) rfl ?_
  refine lEnd (K := fun _ _ => True) ?_
  refine kN (?_)
  refine hK1 _ _ ?_
  refine cSeq (fun K2 hK2 => ?_)
  refine cRgn [] trivial ?_
  replace H := bnd H; obtain ⟨⟨t1, t2⟩, J1, H⟩ := H
  refine eCall isf31 rfl rfl rfl (f_pair_New.ok hG J1 HF) ?_
  rintro _ w1 ⟨N1, g1, A1, c1, A2, c2, A3, c3, A4, c4, A5, c5, L1, A6, c6, L2, A7, c7, A8, c8, A9, c9, A10, c10, rfl, HF1, hr1, hr2, hr3, hr4, ho1, ho2, hr5, hr6, hr7, hr8⟩
  have hs1 : G ⊆ N1 ++ G := sub_a sub_r
  refine ⟨_, rfl, ?_⟩
  refine sL (mv rfl) rfl ?_
  refine sL (ex rfl rfl) rfl ?_
  refine sL (ex rfl rfl) rfl ?_
  refine eW (oAlloc HF1 ti27) rfl ?_
  rintro _ w2 ⟨g2, rfl, HF2⟩
  refine sL (asg rfl) rfl ?_
  refine eS (oSt (l1 := [.int .i64 t2.f_Kind, .int .i64 t2.f_Router, .int .i64 t2.f_Bits, .int .i64 t2.f_Prio, .int .i64 t2.f_Dr, .int .i64 t2.f_Bdr, .slice A7 t2.f_Seen.length c7, .int .i64 t2.f_Flags, .int .i64 t2.f_Seq, .slice A8 t2.f_Heads.length c8, .slice A9 t2.f_Keys.length c9, .slice A10 t2.f_Lsas.length c10]) HF2 rfl rfl ti27 rfl (ones rfl) (Nat.le_of_ble_eq_true rfl) rfl) ?_
  rintro w3 HF3
  refine lEnd (K := fun _ _ => True) ?_
  refine kN (?_)
  refine hK2 _ _ ?_
  refine cSeq (fun K3 hK3 => ?_)
  refine cRgn [(2, 9), (7, 14), (12, 19), (17, 24)] ⟨rfl, rfl, rfl, rfl, trivial⟩ ?_
  refine sL (mv rfl) rfl ?_
  refine sL (bPNeq0 rfl rfl Try.underlying30) rfl ?_
  refine sL (mv rfl) rfl ?_
  refine sG rfl rfl (fa27_7 rfl) rfl ?_
  refine sG rfl rfl (ld rfl Try.underlying3 rfl (HF3.box (mem_h) rfl)) rfl ?_
  refine sG rfl rfl (bEql rfl rfl) rfl ?_
  refine sL (pkT rfl rfl) rfl ?_
  refine sL (mv rfl) rfl ?_
  by_cases c11 : t2.f_Flags = 7
  · replace H := itT c11 H
    refine lSet (i := 14) rfl (dT c11) ?_
    refine sG rfl rfl (fa27_8 rfl) rfl ?_
    refine sG rfl rfl (ld rfl Try.underlying3 rfl (HF3.box (mem_h) rfl)) rfl ?_
    refine sG rfl rfl (bEql rfl rfl) rfl ?_
    refine sL (pkT rfl rfl) rfl ?_
    refine sL (mv rfl) rfl ?_
    by_cases c12 : t2.f_Seq = 5
    · replace H := itT c12 H
      refine lSet (i := 19) rfl (dT c12) ?_
      refine sG rfl rfl (fa27_0 rfl) rfl ?_
      refine sG rfl rfl (ld rfl Try.underlying3 rfl (HF3.box (mem_h) rfl)) rfl ?_
      refine sG rfl rfl (bEql rfl rfl) rfl ?_
      refine sL (pkT rfl rfl) rfl ?_
      refine sL (mv rfl) rfl ?_
      by_cases c13 : t2.f_Kind = 2
      · replace H := itT c13 H
        refine lSet (i := 24) rfl (dT c13) ?_
        refine sG rfl rfl (mv rfl) rfl ?_
        have HF4 := HF3.perm (perm_c (perm_c (perm_f (List.Perm.refl _))))
        have HF5 := HF4.perm (perm_f (perm_c (perm_c (List.Perm.refl _))))
        have HF6 := HF5.perm (perm_f1 (perm_f1 (perm_c1 (List.Perm.refl _))))
        replace H := bnd H; obtain ⟨t3, J2, H⟩ := H
        refine eCallG rfl rfl isf6 rfl rfl rfl (f_pair_Pair_State_obj.ok (a0 := t1) (sub_c (sub_n hG)) J2 HF6 hr1 hr2 hr3 hr4 ho1 ho2) ?_
        rintro _ w4 ⟨rfl, HF7⟩
        refine ⟨_, rfl, ?_⟩
        refine sG rfl rfl (bEql rfl rfl) rfl ?_
        refine sL (pkT rfl rfl) rfl ?_
        refine sL (asg rfl) rfl ?_
        refine lEnd (K := fun _ _ => True) ?_
        refine kN (?_)
        refine hK3 _ _ ?_
        refine cRet ?_
        obtain rfl := Option.some.inj H
        refine ret1 rfl rfl ?_
        have HF8 := HF7.sublist (sl_dc (sl_da (sl_da (sl_dc (List.Sublist.refl _)))))
        have HF10 := HF8.sublist (sl_da (List.Sublist.refl _))
        exact ⟨rfl, HF10⟩
      · replace H := itF c13 H
        refine lSet (i := 24) rfl (dF c13) ?_
        refine sN rfl rfl rfl rfl ?_
        refine sN rfl rfl rfl rfl ?_
        refine sN rfl rfl rfl rfl ?_
        refine sL (pkF rfl rfl) rfl ?_
        refine sL (asg rfl) rfl ?_
        refine lEnd (K := fun _ _ => True) ?_
        refine kN (?_)
        refine hK3 _ _ ?_
        refine cRet ?_
        obtain rfl := Option.some.inj H
        refine ret1 rfl rfl ?_
        have HF11 := HF3.sublist (sl_dc (sl_dc (sl_da (sl_da (List.Sublist.refl _)))))
        have HF13 := HF11.sublist (sl_da (List.Sublist.refl _))
        exact ⟨rfl, HF13⟩
    · replace H := itF c12 H
      refine lSet (i := 19) rfl (dF c12) ?_
      refine sN rfl rfl rfl rfl ?_
      refine sN rfl rfl rfl rfl ?_
      refine sN rfl rfl rfl rfl ?_
      refine sL (pkF rfl rfl) rfl ?_
      refine sL (mv rfl) rfl ?_
      refine sN rfl rfl rfl rfl ?_
      refine sN rfl rfl rfl rfl ?_
      refine sN rfl rfl rfl rfl ?_
      refine sL (pkF rfl rfl) rfl ?_
      refine sL (asg rfl) rfl ?_
      refine lEnd (K := fun _ _ => True) ?_
      refine kN (?_)
      refine hK3 _ _ ?_
      refine cRet ?_
      obtain rfl := Option.some.inj H
      refine ret1 rfl rfl ?_
      have HF14 := HF3.sublist (sl_dc (sl_dc (sl_da (sl_da (List.Sublist.refl _)))))
      have HF16 := HF14.sublist (sl_da (List.Sublist.refl _))
      exact ⟨rfl, HF16⟩
  · replace H := itF c11 H
    refine lSet (i := 14) rfl (dF c11) ?_
    refine sN rfl rfl rfl rfl ?_
    refine sN rfl rfl rfl rfl ?_
    refine sN rfl rfl rfl rfl ?_
    refine sL (pkF rfl rfl) rfl ?_
    refine sL (mv rfl) rfl ?_
    refine sN rfl rfl rfl rfl ?_
    refine sN rfl rfl rfl rfl ?_
    refine sN rfl rfl rfl rfl ?_
    refine sL (pkF rfl rfl) rfl ?_
    refine sL (mv rfl) rfl ?_
    refine sN rfl rfl rfl rfl ?_
    refine sN rfl rfl rfl rfl ?_
    refine sN rfl rfl rfl rfl ?_
    refine sL (pkF rfl rfl) rfl ?_
    refine sL (asg rfl) rfl ?_
    refine lEnd (K := fun _ _ => True) ?_
    refine kN (?_)
    refine hK3 _ _ ?_
    refine cRet ?_
    obtain rfl := Option.some.inj H
    refine ret1 rfl rfl ?_
    have HF17 := HF3.sublist (sl_dc (sl_dc (sl_da (sl_da (List.Sublist.refl _)))))
    have HF19 := HF17.sublist (sl_da (List.Sublist.refl _))
    exact ⟨rfl, HF19⟩

/-! ### plenum/plenumlaw13.PairNil (function 3) -/
abbrev f_plenumlaw13_PairNil.R := Bool
noncomputable def f_plenumlaw13_PairNil (a0 : T_api_Packet) (a1 : T_api_Head) : Option f_plenumlaw13_PairNil.R := ((f_pair_Pair_Tick_nil).bind fun (t1, t2) => ((f_pair_Pair_Take_nil_nil a0).bind fun (t3, t4) => ((f_pair_Pair_State_nil).bind fun t13 => (if t13 = 0 then ((f_pair_Pair_Wants_nil).bind fun t14 => (if (t14.length : Int) = 0 then (if t2 = true then some false else (if t4 = true then some false else ((f_plenumref1_SamePacket t1 (⟨0, 0, 0, 0, 0, 0, [], 0, 0, [], [], []⟩ : T_api_Packet)).bind fun t15 => (if t15 = true then ((f_plenumref1_SamePacket t3 (⟨0, 0, 0, 0, 0, 0, [], 0, 0, [], [], []⟩ : T_api_Packet)).bind fun t16 => (if t16 = true then ((f_pair_Pair_Again_nil).bind fun t17 => ((f_plenumref1_SamePacket t17 (⟨0, 0, 0, 0, 0, 0, [], 0, 0, [], [], []⟩ : T_api_Packet)).bind fun t18 => (if t18 = true then ((f_pair_Pair_Met_nil a1).bind fun t19 => (if t19 = true then some false else ((f_plenumlaw13_awake).bind fun t20 => some t20))) else some false))) else some false)) else some false)))) else some false)) else some false))))
set_option maxHeartbeats 1000000 in
theorem f_plenumlaw13_PairNil.ok {z w : World} {F G : Hp} (hG : G ⊆ F) {a0 : T_api_Packet} {A_a0_6 : Option Addr} {c_a0_6 : Nat} {X_a0_6 : Hp} {A_a0_9 : Option Addr} {c_a0_9 : Nat} {X_a0_9 : Hp} {A_a0_10 : Option Addr} {c_a0_10 : Nat} {X_a0_10 : Hp} {A_a0_11 : Option Addr} {c_a0_11 : Nat} {X_a0_11 : Hp} {a1 : T_api_Head} {r : f_plenumlaw13_PairNil.R} (H : f_plenumlaw13_PairNil a0 a1 = some r) (HF : Fits z w F) (hX_a0_6 : X_a0_6 ⊆ F) (hr_a0_6 : RdS (kInt .i64) X_a0_6 A_a0_6 c_a0_6 a0.f_Seen) (hX_a0_9 : X_a0_9 ⊆ F) (hr_a0_9 : RdS k_T_api_Head X_a0_9 A_a0_9 c_a0_9 a0.f_Heads) (hX_a0_10 : X_a0_10 ⊆ F) (hr_a0_10 : RdS k_T_api_Key X_a0_10 A_a0_10 c_a0_10 a0.f_Keys) (hX_a0_11 : X_a0_11 ⊆ F) (hr_a0_11 : RdS (kShr G k_T_api_Lsa) X_a0_11 A_a0_11 c_a0_11 a0.f_Lsas) :
    Calls Try.prog 3 [.agg [.int .i64 a0.f_Kind, .int .i64 a0.f_Router, .int .i64 a0.f_Bits, .int .i64 a0.f_Prio, .int .i64 a0.f_Dr, .int .i64 a0.f_Bdr, .slice A_a0_6 a0.f_Seen.length c_a0_6, .int .i64 a0.f_Flags, .int .i64 a0.f_Seq, .slice A_a0_9 a0.f_Heads.length c_a0_9, .slice A_a0_10 a0.f_Keys.length c_a0_10, .slice A_a0_11 a0.f_Lsas.length c_a0_11].toArray, .agg [.int .i64 a1.f_Age, .int .i64 a1.f_Kind, .int .i64 a1.f_Id, .int .i64 a1.f_Adv, .int .i64 a1.f_Seq, .int .i64 a1.f_Sum, .int .i64 a1.f_Len].toArray].toArray w fun e w' => e = .returned (.bool r) ∧ Fits z w' F := by
  unfold f_plenumlaw13_PairNil at H
  refine enter0 Try.func3 rfl Try.ntmps3 rfl (E := [(0, .agg [.int .i64 a0.f_Kind, .int .i64 a0.f_Router, .int .i64 a0.f_Bits, .int .i64 a0.f_Prio, .int .i64 a0.f_Dr, .int .i64 a0.f_Bdr, .slice A_a0_6 a0.f_Seen.length c_a0_6, .int .i64 a0.f_Flags, .int .i64 a0.f_Seq, .slice A_a0_9 a0.f_Heads.length c_a0_9, .slice A_a0_10 a0.f_Keys.length c_a0_10, .slice A_a0_11 a0.f_Lsas.length c_a0_11].toArray), (1, .agg [.int .i64 a1.f_Age, .int .i64 a1.f_Kind, .int .i64 a1.f_Id, .int .i64 a1.f_Adv, .int .i64 a1.f_Seq, .int .i64 a1.f_Sum, .int .i64 a1.f_Len].toArray)]) rfl ?_
  refine cSeq (fun K1 hK1 => ?_)
  refine cRgn [] trivial ?_
  refine eW (oBox HF rfl) rfl ?_
  rintro _ w1 ⟨g1, rfl, HF1⟩
  refine eW (oBox HF1 rfl) rfl ?_
  rintro _ w2 ⟨g2, rfl, HF2⟩
  refine sL (asg rfl) rfl ?_
  refine lEnd (K := fun _ _ => True) ?_
  refine kN (?_)
  refine hK1 _ _ ?_
  refine cSeq (fun K2 hK2 => ?_)
  refine cRgn [] trivial ?_
  refine sL (asg rfl) rfl ?_
  refine lEnd (K := fun _ _ => True) ?_
  refine kN (?_)
  refine hK2 _ _ ?_
  refine cSeq (fun K3 hK3 => ?_)
  refine cRgn [] trivial ?_
  refine sL (mv rfl) rfl ?_
  replace H := bnd H; obtain ⟨⟨t1, t2⟩, J1, H⟩ := H
  refine eCall isf4 rfl rfl rfl (f_pair_Pair_Tick_nil.ok (sub_c (sub_c hG)) J1 HF2) ?_
  rintro _ w3 ⟨N1, A1, c1, A2, c2, A3, c3, A4, c4, rfl, HF3, hr1, hr2, hr3, hr4⟩
  have HF4 := HF3.perm (perm_c (perm_c (List.Perm.refl _))).symm
  have hs1 : G ⊆ N1 ++ G := sub_a sub_r
  refine ⟨_, rfl, ?_⟩
  refine sL (mv rfl) rfl ?_
  refine sL (ex rfl rfl) rfl ?_
  refine sL (ex rfl rfl) rfl ?_
  refine eW (oAlloc HF4 ti27) rfl ?_
  rintro _ w4 ⟨g3, rfl, HF5⟩
  refine eS (oSt (l1 := [.int .i64 t1.f_Kind, .int .i64 t1.f_Router, .int .i64 t1.f_Bits, .int .i64 t1.f_Prio, .int .i64 t1.f_Dr, .int .i64 t1.f_Bdr, .slice A1 t1.f_Seen.length c1, .int .i64 t1.f_Flags, .int .i64 t1.f_Seq, .slice A2 t1.f_Heads.length c2, .slice A3 t1.f_Keys.length c3, .slice A4 t1.f_Lsas.length c4]) HF5 rfl rfl ti27 rfl (ones rfl) (Nat.le_of_ble_eq_true rfl) rfl) ?_
  rintro w5 HF6
  refine sL (asg rfl) rfl ?_
  refine lEnd (K := fun _ _ => True) ?_
  refine kN (?_)
  refine hK3 _ _ ?_
  refine cSeq (fun K4 hK4 => ?_)
  refine cRgn [] trivial ?_
  refine sL (mv rfl) rfl ?_
  refine sL (ldA (cs := [.int .i64 a0.f_Kind, .int .i64 a0.f_Router, .int .i64 a0.f_Bits, .int .i64 a0.f_Prio, .int .i64 a0.f_Dr, .int .i64 a0.f_Bdr, .slice A_a0_6 a0.f_Seen.length c_a0_6, .int .i64 a0.f_Flags, .int .i64 a0.f_Seq, .slice A_a0_9 a0.f_Heads.length c_a0_9, .slice A_a0_10 a0.f_Keys.length c_a0_10, .slice A_a0_11 a0.f_Lsas.length c_a0_11]) rfl ti27 rfl rfl (HF6.boxes (o := 0) (n := 12) (mem_c (mem_c mem_h)) rfl)) rfl ?_
  replace H := bnd H; obtain ⟨⟨t3, t4⟩, J2, H⟩ := H
  refine eCall isf5 rfl rfl rfl (f_pair_Pair_Take_nil_nil.ok (a1 := a0) (sub_c (sub_c (sub_c (sub_n hG)))) J2 HF6 (sub_c (sub_c (sub_c (sub_a hX_a0_6)))) hr_a0_6 (sub_c (sub_c (sub_c (sub_a hX_a0_9)))) hr_a0_9 (sub_c (sub_c (sub_c (sub_a hX_a0_10)))) hr_a0_10 (sub_c (sub_c (sub_c (sub_a hX_a0_11)))) (RdS.lift hr_a0_11 hs1 sub_r)) ?_
  rintro _ w6 ⟨N2, A5, c5, A6, c6, A7, c7, A8, c8, rfl, HF7, hr5, hr6, hr7, hr8⟩
  have HF8 := HF7.perm (perm_c (perm_c (perm_c (List.Perm.refl _)))).symm
  obtain ⟨N3, hN1⟩ : ∃ N_, N_ = N2 ++ N1 := ⟨_, rfl⟩
  have HF9 := HF8; rw [← List.append_assoc N2 N1 F, ← hN1] at HF9
  have hs2 : N1 ++ G ⊆ N3 ++ G := frz_s hN1
  have hr9 := RdS.mono (Y := (N3 ++ G)) hr5 (frz_c hN1)
  have hr10 := RdS.mono (Y := (N3 ++ G)) hr6 (frz_c hN1)
  have hr11 := RdS.mono (Y := (N3 ++ G)) hr7 (frz_c hN1)
  have hr12 := RdS.lift (G' := (N3 ++ G)) hr8 (frz_c hN1) (frz_c hN1)
  refine ⟨_, rfl, ?_⟩
  refine sL (mv rfl) rfl ?_
  refine sL (ex rfl rfl) rfl ?_
  refine sL (ex rfl rfl) rfl ?_
  refine eW (oAlloc HF9 ti27) rfl ?_
  rintro _ w7 ⟨g4, rfl, HF10⟩
  refine eS (oSt (l1 := [.int .i64 t3.f_Kind, .int .i64 t3.f_Router, .int .i64 t3.f_Bits, .int .i64 t3.f_Prio, .int .i64 t3.f_Dr, .int .i64 t3.f_Bdr, .slice A5 t3.f_Seen.length c5, .int .i64 t3.f_Flags, .int .i64 t3.f_Seq, .slice A6 t3.f_Heads.length c6, .slice A7 t3.f_Keys.length c7, .slice A8 t3.f_Lsas.length c8]) HF10 rfl rfl ti27 rfl (ones rfl) (Nat.le_of_ble_eq_true rfl) rfl) ?_
  rintro w8 HF11
  refine sL (asg rfl) rfl ?_
  refine lEnd (K := fun _ _ => True) ?_
  refine kN (?_)
  refine hK4 _ _ ?_
  refine cSeq (fun K5 hK5 => ?_)
  refine cRgn [] trivial ?_
  refine sL (bd (r := [.int .i64 0, .int .i64 0, .int .i64 0, .int .i64 0, .int .i64 0, .int .i64 0, .slice none 0 0, .int .i64 0, .int .i64 0, .slice none 0 0, .slice none 0 0, .slice none 0 0]) pl27 ti27 rfl rfl) rfl ?_
  refine eW (oAlloc HF11 ti27) rfl ?_
  rintro _ w9 ⟨g5, rfl, HF12⟩
  refine eS (oSt (l1 := [.int .i64 0, .int .i64 0, .int .i64 0, .int .i64 0, .int .i64 0, .int .i64 0, .slice none 0 0, .int .i64 0, .int .i64 0, .slice none 0 0, .slice none 0 0, .slice none 0 0]) HF12 rfl rfl ti27 rfl (ones rfl) (Nat.le_of_ble_eq_true rfl) rfl) ?_
  rintro w10 HF13
  refine lEnd (K := fun _ _ => True) ?_
  refine kN (?_)
  refine hK5 _ _ ?_
  refine cSeq (fun K6 hK6 => ?_)
  refine cDraw mo_ HF13 rfl (fun w => Fits z w (bk g5 27 [.int .i64 0, .int .i64 0, .int .i64 0, .int .i64 0, .int .i64 0, .int .i64 0, .slice none 0 0, .int .i64 0, .int .i64 0, .slice none 0 0, .slice none 0 0, .slice none 0 0] :: (bk g4 27 [.int .i64 t3.f_Kind, .int .i64 t3.f_Router, .int .i64 t3.f_Bits, .int .i64 t3.f_Prio, .int .i64 t3.f_Dr, .int .i64 t3.f_Bdr, .slice A5 t3.f_Seen.length c5, .int .i64 t3.f_Flags, .int .i64 t3.f_Seq, .slice A6 t3.f_Heads.length c6, .slice A7 t3.f_Keys.length c7, .slice A8 t3.f_Lsas.length c8] :: (bk g3 27 [.int .i64 t1.f_Kind, .int .i64 t1.f_Router, .int .i64 t1.f_Bits, .int .i64 t1.f_Prio, .int .i64 t1.f_Dr, .int .i64 t1.f_Bdr, .slice A1 t1.f_Seen.length c1, .int .i64 t1.f_Flags, .int .i64 t1.f_Seq, .slice A2 t1.f_Heads.length c2, .slice A3 t1.f_Keys.length c3, .slice A4 t1.f_Lsas.length c4] :: (bk g2 29 [.int .i64 a1.f_Age, .int .i64 a1.f_Kind, .int .i64 a1.f_Id, .int .i64 a1.f_Adv, .int .i64 a1.f_Seq, .int .i64 a1.f_Sum, .int .i64 a1.f_Len] :: (bk g1 27 [.int .i64 a0.f_Kind, .int .i64 a0.f_Router, .int .i64 a0.f_Bits, .int .i64 a0.f_Prio, .int .i64 a0.f_Dr, .int .i64 a0.f_Bdr, .slice A_a0_6 a0.f_Seen.length c_a0_6, .int .i64 a0.f_Flags, .int .i64 a0.f_Seq, .slice A_a0_9 a0.f_Heads.length c_a0_9, .slice A_a0_10 a0.f_Keys.length c_a0_10, .slice A_a0_11 a0.f_Lsas.length c_a0_11] :: (N3 ++ F))))))) (fun w19 HF39 => ?_)
  refine hTake 0 rfl (by kernel_rfl) (pThen pFn) (fun w_ hS_ => mv rfl) HF39 rfl rfl ?_
  refine h1 1 (by kernel_rfl) rfl ?_
  replace H := bnd H; obtain ⟨t13, J11, H⟩ := H
  refine qCall rfl gd0 isf6 rfl rfl rfl (f_pair_Pair_State_nil.ok J11 HF39) ?_
  rintro _ w20 ⟨rfl, HF40⟩
  refine ⟨_, rfl, HF40, ?_⟩
  refine hTake 2 rfl (by kernel_rfl) (pThen pFn) (fun w_ hS_ => bEql rfl rfl) HF40 rfl rfl ?_
  refine hTake 3 rfl (by kernel_rfl) (pThen pFn) (fun w_ hS_ => mv rfl) HF40 rfl rfl ?_
  by_cases c22 : t13 = 0
  · replace H := itT c22 H
    refine hSet (i := 26) rfl (dT c22) ?_
    refine hTakeG 4 rfl rfl rfl (by kernel_rfl) (pThen pFn) (fun w_ hS_ => mv rfl) HF40 rfl rfl ?_
    refine h1 5 (by kernel_rfl) rfl ?_
    replace H := bnd H; obtain ⟨t14, J12, H⟩ := H
    refine qCall rfl (gd1 rfl rfl) isf7 rfl rfl rfl (f_pair_Pair_Wants_nil.ok J12 HF40) ?_
    rintro _ w21 ⟨A14, c23, L2, rfl, HF41, ho2⟩
    have HF42 := HF41.sublist (sl_da (sl_c (sl_c (sl_c (sl_c (sl_c (List.Sublist.refl _)))))))
    refine ⟨_, rfl, HF42, ?_⟩
    refine hTakeG 6 rfl rfl rfl (by kernel_rfl) (pThen pFn) (fun w_ hS_ => lnS rfl Try.underlying24) HF42 rfl rfl ?_
    refine hTakeG 7 rfl rfl rfl (by kernel_rfl) (pThen pFn) (fun w_ hS_ => bEql rfl rfl) HF42 rfl rfl ?_
    refine hTake 8 rfl (by kernel_rfl) (pThen pFn) (fun w_ hS_ => pkT rfl rfl) HF42 rfl rfl ?_
    refine hTake 9 rfl (by kernel_rfl) (pThen pFn) (fun w_ hS_ => mv rfl) HF42 rfl rfl ?_
    by_cases c24 : (t14.length : Int) = 0
    · replace H := itT c24 H
      refine hSet (i := 32) rfl (dT c24) ?_
      refine hTakeG 10 rfl rfl rfl (by kernel_rfl) (pThen pFn) (fun w_ hS_ => mv rfl) HF42 rfl rfl ?_
      refine hTakeG 11 rfl rfl rfl (by kernel_rfl) (pThen pFn) (fun w_ hS_ => uNot rfl) HF42 rfl rfl ?_
      refine hTake 12 rfl (by kernel_rfl) (pThen pFn) (fun w_ hS_ => pkT rfl rfl) HF42 rfl rfl ?_
      refine hTake 13 rfl (by kernel_rfl) (pThen pFn) (fun w_ hS_ => mv rfl) HF42 rfl rfl ?_
      by_cases c25 : t2 = true
      · replace H := itT c25 H
        refine hSet (i := 36) rfl (wF c25) ?_
        refine hTakeN 14 rfl rfl rfl (by kernel_rfl) (pThen pFn) HF42 rfl rfl ?_
        refine hTakeN 15 rfl rfl rfl (by kernel_rfl) (pThen pFn) HF42 rfl rfl ?_
        refine hTake 16 rfl (by kernel_rfl) (pThen pFn) (fun w_ hS_ => pkF rfl rfl) HF42 rfl rfl ?_
        refine hTake 17 rfl (by kernel_rfl) (pThen pFn) (fun w_ hS_ => mv rfl) HF42 rfl rfl ?_
        refine hTakeN 18 rfl rfl rfl (by kernel_rfl) (pThen pFn) HF42 rfl rfl ?_
        refine hTakeN 19 rfl rfl rfl (by kernel_rfl) (pThen pFn) HF42 rfl rfl ?_
        refine hTakeN 20 rfl rfl rfl (by kernel_rfl) (pThen pFn) HF42 rfl rfl ?_
        refine hTake 21 rfl (by kernel_rfl) (pThen pFn) (fun w_ hS_ => pkF rfl rfl) HF42 rfl rfl ?_
        refine hTake 22 rfl (by kernel_rfl) (pThen pFn) (fun w_ hS_ => mv rfl) HF42 rfl rfl ?_
        refine hTakeN 23 rfl rfl rfl (by kernel_rfl) (pThen pFn) HF42 rfl rfl ?_
        refine hTakeN 24 rfl rfl rfl (by kernel_rfl) (pThen pFn) HF42 rfl rfl ?_
        refine hTakeN 25 rfl rfl rfl (by kernel_rfl) (pThen pFn) HF42 rfl rfl ?_
        refine hTake 26 rfl (by kernel_rfl) (pThen pFn) (fun w_ hS_ => pkF rfl rfl) HF42 rfl rfl ?_
        refine hTake 27 rfl (by kernel_rfl) (pThen pFn) (fun w_ hS_ => mv rfl) HF42 rfl rfl ?_
        refine hTakeN 28 rfl rfl rfl (by kernel_rfl) (pThen pFn) HF42 rfl rfl ?_
        refine hTakeN 29 rfl rfl rfl (by kernel_rfl) (pThen pFn) HF42 rfl rfl ?_
        refine hTakeN 30 rfl rfl rfl (by kernel_rfl) (pThen pFn) HF42 rfl rfl ?_
        refine hTakeN 31 rfl rfl rfl (by kernel_rfl) (pThen pFn) HF42 rfl rfl ?_
        refine hTake 32 rfl (by kernel_rfl) (pThen pFn) (fun w_ hS_ => pkF rfl rfl) HF42 rfl rfl ?_
        refine hTake 33 rfl (by kernel_rfl) (pThen pFn) (fun w_ hS_ => mv rfl) HF42 rfl rfl ?_
        refine hTakeN 34 rfl rfl rfl (by kernel_rfl) (pThen pFn) HF42 rfl rfl ?_
        refine hTakeN 35 rfl rfl rfl (by kernel_rfl) (pThen pFn) HF42 rfl rfl ?_
        refine hTakeN 36 rfl rfl rfl (by kernel_rfl) (pThen pFn) HF42 rfl rfl ?_
        refine hTakeN 37 rfl rfl rfl (by kernel_rfl) (pThen pFn) HF42 rfl rfl ?_
        refine hTake 38 rfl (by kernel_rfl) (pThen pFn) (fun w_ hS_ => pkF rfl rfl) HF42 rfl rfl ?_
        refine hTake 39 rfl (by kernel_rfl) (pThen pFn) (fun w_ hS_ => mv rfl) HF42 rfl rfl ?_
        refine hTakeN 40 rfl rfl rfl (by kernel_rfl) (pThen pFn) HF42 rfl rfl ?_
        refine hTake 41 rfl (by kernel_rfl) (pThen pFn) (fun w_ hS_ => pkF rfl rfl) HF42 rfl rfl ?_
        refine hTake 42 rfl (by kernel_rfl) (pThen pFn) (fun w_ hS_ => asg rfl) HF42 rfl rfl ?_
        refine hEnd (by kernel_rfl) ?_
        refine kN (?_)
        refine hK6 _ _ ?_
        refine cRet ?_
        obtain rfl := Option.some.inj H
        refine ret1 rfl rfl ?_
        have HF43 := HF41.sublist (sl_da (sl_dc (sl_dc (sl_dc (sl_dc (sl_dc (List.Sublist.refl _)))))))
        have HF44 := Fits.conv (L' := ((N2 ++ N1) ++ F)) HF43 (by rw [hN1] <;> rfl)
        have HF45 := HF44.sublist (sl_da (List.Sublist.refl _))
        exact ⟨rfl, HF45⟩
      · replace H := itF c25 H
        refine hSet (i := 36) rfl (wT c25) ?_
        refine hTakeG 14 rfl rfl rfl (by kernel_rfl) (pThen pFn) (fun w_ hS_ => mv rfl) HF42 rfl rfl ?_
        refine hTakeG 15 rfl rfl rfl (by kernel_rfl) (pThen pFn) (fun w_ hS_ => uNot rfl) HF42 rfl rfl ?_
        refine hTake 16 rfl (by kernel_rfl) (pThen pFn) (fun w_ hS_ => pkT rfl rfl) HF42 rfl rfl ?_
        refine hTake 17 rfl (by kernel_rfl) (pThen pFn) (fun w_ hS_ => mv rfl) HF42 rfl rfl ?_
        by_cases c26 : t4 = true
        · replace H := itT c26 H
          refine hSet (i := 40) rfl (wF c26) ?_
          refine hTakeN 18 rfl rfl rfl (by kernel_rfl) (pThen pFn) HF42 rfl rfl ?_
          refine hTakeN 19 rfl rfl rfl (by kernel_rfl) (pThen pFn) HF42 rfl rfl ?_
          refine hTakeN 20 rfl rfl rfl (by kernel_rfl) (pThen pFn) HF42 rfl rfl ?_
          refine hTake 21 rfl (by kernel_rfl) (pThen pFn) (fun w_ hS_ => pkF rfl rfl) HF42 rfl rfl ?_
          refine hTake 22 rfl (by kernel_rfl) (pThen pFn) (fun w_ hS_ => mv rfl) HF42 rfl rfl ?_
          refine hTakeN 23 rfl rfl rfl (by kernel_rfl) (pThen pFn) HF42 rfl rfl ?_
          refine hTakeN 24 rfl rfl rfl (by kernel_rfl) (pThen pFn) HF42 rfl rfl ?_
          refine hTakeN 25 rfl rfl rfl (by kernel_rfl) (pThen pFn) HF42 rfl rfl ?_
          refine hTake 26 rfl (by kernel_rfl) (pThen pFn) (fun w_ hS_ => pkF rfl rfl) HF42 rfl rfl ?_
          refine hTake 27 rfl (by kernel_rfl) (pThen pFn) (fun w_ hS_ => mv rfl) HF42 rfl rfl ?_
          refine hTakeN 28 rfl rfl rfl (by kernel_rfl) (pThen pFn) HF42 rfl rfl ?_
          refine hTakeN 29 rfl rfl rfl (by kernel_rfl) (pThen pFn) HF42 rfl rfl ?_
          refine hTakeN 30 rfl rfl rfl (by kernel_rfl) (pThen pFn) HF42 rfl rfl ?_
          refine hTakeN 31 rfl rfl rfl (by kernel_rfl) (pThen pFn) HF42 rfl rfl ?_
          refine hTake 32 rfl (by kernel_rfl) (pThen pFn) (fun w_ hS_ => pkF rfl rfl) HF42 rfl rfl ?_
          refine hTake 33 rfl (by kernel_rfl) (pThen pFn) (fun w_ hS_ => mv rfl) HF42 rfl rfl ?_
          refine hTakeN 34 rfl rfl rfl (by kernel_rfl) (pThen pFn) HF42 rfl rfl ?_
          refine hTakeN 35 rfl rfl rfl (by kernel_rfl) (pThen pFn) HF42 rfl rfl ?_
          refine hTakeN 36 rfl rfl rfl (by kernel_rfl) (pThen pFn) HF42 rfl rfl ?_
          refine hTakeN 37 rfl rfl rfl (by kernel_rfl) (pThen pFn) HF42 rfl rfl ?_
          refine hTake 38 rfl (by kernel_rfl) (pThen pFn) (fun w_ hS_ => pkF rfl rfl) HF42 rfl rfl ?_
          refine hTake 39 rfl (by kernel_rfl) (pThen pFn) (fun w_ hS_ => mv rfl) HF42 rfl rfl ?_
          refine hTakeN 40 rfl rfl rfl (by kernel_rfl) (pThen pFn) HF42 rfl rfl ?_
          refine hTake 41 rfl (by kernel_rfl) (pThen pFn) (fun w_ hS_ => pkF rfl rfl) HF42 rfl rfl ?_
          refine hTake 42 rfl (by kernel_rfl) (pThen pFn) (fun w_ hS_ => asg rfl) HF42 rfl rfl ?_
          refine hEnd (by kernel_rfl) ?_
          refine kN (?_)
          refine hK6 _ _ ?_
          refine cRet ?_
          obtain rfl := Option.some.inj H
          refine ret1 rfl rfl ?_
          have HF46 := HF41.sublist (sl_da (sl_dc (sl_dc (sl_dc (sl_dc (sl_dc (List.Sublist.refl _)))))))
          have HF47 := Fits.conv (L' := ((N2 ++ N1) ++ F)) HF46 (by rw [hN1] <;> rfl)
          have HF48 := HF47.sublist (sl_da (List.Sublist.refl _))
          exact ⟨rfl, HF48⟩
        · replace H := itF c26 H
          refine hSet (i := 40) rfl (wT c26) ?_
          refine hTakeG 18 rfl rfl rfl (by kernel_rfl) (pThen pFn) (fun w_ hS_ => ldA (cs := [.int .i64 t1.f_Kind, .int .i64 t1.f_Router, .int .i64 t1.f_Bits, .int .i64 t1.f_Prio, .int .i64 t1.f_Dr, .int .i64 t1.f_Bdr, .slice A1 t1.f_Seen.length c1, .int .i64 t1.f_Flags, .int .i64 t1.f_Seq, .slice A2 t1.f_Heads.length c2, .slice A3 t1.f_Keys.length c3, .slice A4 t1.f_Lsas.length c4]) rfl ti27 rfl rfl (hS_.boxes (o := 0) (n := 12) (mem_c (mem_c mem_h)) rfl)) HF42 rfl rfl ?_
          refine hTakeG 19 rfl rfl rfl (by kernel_rfl) (pThen pFn) (fun w_ hS_ => ldA (cs := [.int .i64 0, .int .i64 0, .int .i64 0, .int .i64 0, .int .i64 0, .int .i64 0, .slice none 0 0, .int .i64 0, .int .i64 0, .slice none 0 0, .slice none 0 0, .slice none 0 0]) rfl ti27 rfl rfl (hS_.boxes (o := 0) (n := 12) (mem_h) rfl)) HF42 rfl rfl ?_
          refine h1 20 (by kernel_rfl) rfl ?_
          replace H := bnd H; obtain ⟨t15, J13, H⟩ := H
          refine qCall rfl (gd1 rfl rfl) isf8 rfl rfl rfl (f_plenumref1_SamePacket.ok (a0 := t1) (a1 := (⟨0, 0, 0, 0, 0, 0, [], 0, 0, [], [], []⟩ : T_api_Packet)) (sub_a (sub_c (sub_c (sub_c (sub_c (sub_c (sub_n hG))))))) J13 HF41 (sub_a (sub_c (sub_c (sub_c (sub_c (sub_c (sub_t hs2 (sub_n hG)))))))) hr1 (sub_a (sub_c (sub_c (sub_c (sub_c (sub_c (sub_t hs2 (sub_n hG)))))))) hr2 (sub_a (sub_c (sub_c (sub_c (sub_c (sub_c (sub_t hs2 (sub_n hG)))))))) hr3 (sub_a (sub_c (sub_c (sub_c (sub_c (sub_c (sub_t hs2 (sub_n hG)))))))) (RdS.lift hr4 hs2 sub_r) (sub_a (sub_c (sub_c (sub_c (sub_c (sub_c (sub_n hG))))))) RdS.nil (sub_a (sub_c (sub_c (sub_c (sub_c (sub_c (sub_n hG))))))) RdS.nil (sub_a (sub_c (sub_c (sub_c (sub_c (sub_c (sub_n hG))))))) RdS.nil (sub_a (sub_c (sub_c (sub_c (sub_c (sub_c (sub_n hG))))))) RdS.nil) ?_
          rintro _ w22 ⟨rfl, HF49⟩
          have HF50 := HF49.sublist (sl_da (sl_c (sl_c (sl_c (sl_c (sl_c (List.Sublist.refl _)))))))
          refine ⟨_, rfl, HF50, ?_⟩
          refine hTake 21 rfl (by kernel_rfl) (pThen pFn) (fun w_ hS_ => pkT rfl rfl) HF50 rfl rfl ?_
          refine hTake 22 rfl (by kernel_rfl) (pThen pFn) (fun w_ hS_ => mv rfl) HF50 rfl rfl ?_
          by_cases c27 : t15 = true
          · replace H := itT c27 H
            refine hSet (i := 45) rfl (vT c27) ?_
            refine hTakeG 23 rfl rfl rfl (by kernel_rfl) (pThen pFn) (fun w_ hS_ => ldA (cs := [.int .i64 t3.f_Kind, .int .i64 t3.f_Router, .int .i64 t3.f_Bits, .int .i64 t3.f_Prio, .int .i64 t3.f_Dr, .int .i64 t3.f_Bdr, .slice A5 t3.f_Seen.length c5, .int .i64 t3.f_Flags, .int .i64 t3.f_Seq, .slice A6 t3.f_Heads.length c6, .slice A7 t3.f_Keys.length c7, .slice A8 t3.f_Lsas.length c8]) rfl ti27 rfl rfl (hS_.boxes (o := 0) (n := 12) (mem_c mem_h) rfl)) HF50 rfl rfl ?_
            refine hTakeG 24 rfl rfl rfl (by kernel_rfl) (pThen pFn) (fun w_ hS_ => ldA (cs := [.int .i64 0, .int .i64 0, .int .i64 0, .int .i64 0, .int .i64 0, .int .i64 0, .slice none 0 0, .int .i64 0, .int .i64 0, .slice none 0 0, .slice none 0 0, .slice none 0 0]) rfl ti27 rfl rfl (hS_.boxes (o := 0) (n := 12) (mem_h) rfl)) HF50 rfl rfl ?_
            refine h1 25 (by kernel_rfl) rfl ?_
            replace H := bnd H; obtain ⟨t16, J14, H⟩ := H
            refine qCall rfl (gd1 rfl rfl) isf8 rfl rfl rfl (f_plenumref1_SamePacket.ok (a0 := t3) (a1 := (⟨0, 0, 0, 0, 0, 0, [], 0, 0, [], [], []⟩ : T_api_Packet)) (sub_a (sub_c (sub_c (sub_c (sub_c (sub_c (sub_n hG))))))) J14 HF49 (sub_a (sub_c (sub_c (sub_c (sub_c (sub_c (sub_n hG))))))) hr9 (sub_a (sub_c (sub_c (sub_c (sub_c (sub_c (sub_n hG))))))) hr10 (sub_a (sub_c (sub_c (sub_c (sub_c (sub_c (sub_n hG))))))) hr11 (sub_a (sub_c (sub_c (sub_c (sub_c (sub_c (sub_n hG))))))) hr12 (sub_a (sub_c (sub_c (sub_c (sub_c (sub_c (sub_n hG))))))) RdS.nil (sub_a (sub_c (sub_c (sub_c (sub_c (sub_c (sub_n hG))))))) RdS.nil (sub_a (sub_c (sub_c (sub_c (sub_c (sub_c (sub_n hG))))))) RdS.nil (sub_a (sub_c (sub_c (sub_c (sub_c (sub_c (sub_n hG))))))) RdS.nil) ?_
            rintro _ w23 ⟨rfl, HF51⟩
            have HF52 := HF51.sublist (sl_da (sl_c (sl_c (sl_c (sl_c (sl_c (List.Sublist.refl _)))))))
            refine ⟨_, rfl, HF52, ?_⟩
            refine hTake 26 rfl (by kernel_rfl) (pThen pFn) (fun w_ hS_ => pkT rfl rfl) HF52 rfl rfl ?_
            refine hTake 27 rfl (by kernel_rfl) (pThen pFn) (fun w_ hS_ => mv rfl) HF52 rfl rfl ?_
            by_cases c28 : t16 = true
            · replace H := itT c28 H
              refine hSet (i := 50) rfl (vT c28) ?_
              refine hTakeG 28 rfl rfl rfl (by kernel_rfl) (pThen pFn) (fun w_ hS_ => mv rfl) HF52 rfl rfl ?_
              refine hTakeG 30 rfl rfl rfl (by kernel_rfl) (pThen pFn) (fun w_ hS_ => ldA (cs := [.int .i64 0, .int .i64 0, .int .i64 0, .int .i64 0, .int .i64 0, .int .i64 0, .slice none 0 0, .int .i64 0, .int .i64 0, .slice none 0 0, .slice none 0 0, .slice none 0 0]) rfl ti27 rfl rfl (hS_.boxes (o := 0) (n := 12) (mem_h) rfl)) HF52 rfl rfl ?_
              refine h1 29 (by kernel_rfl) rfl ?_
              replace H := bnd H; obtain ⟨t17, J15, H⟩ := H
              refine qCall rfl (gd1 rfl rfl) isf9 rfl rfl rfl (f_pair_Pair_Again_nil.ok (sub_a (sub_c (sub_c (sub_c (sub_c (sub_c (sub_n hG))))))) J15 HF51) ?_
              rintro _ w24 ⟨N6, A15, c29, A16, c30, A17, c31, A18, c32, rfl, HF53, hr21, hr22, hr23, hr24⟩
              have HF54 := HF53.perm (perm_f (perm_c (perm_c (perm_c (perm_c (perm_c (List.Perm.refl _))))))).symm
              obtain ⟨N7, hN3⟩ : ∃ N_, N_ = N6 ++ N3 := ⟨_, rfl⟩
              have HF55 := HF54; rw [← List.append_assoc N6 N3 F, ← hN3] at HF55
              have hs4 : N3 ++ G ⊆ N7 ++ G := frz_s hN3
              have hr25 := RdS.mono (Y := (N7 ++ G)) hr21 (frz_c hN3)
              have hr26 := RdS.mono (Y := (N7 ++ G)) hr22 (frz_c hN3)
              have hr27 := RdS.mono (Y := (N7 ++ G)) hr23 (frz_c hN3)
              have hr28 := RdS.lift (G' := (N7 ++ G)) hr24 (frz_c hN3) (frz_c hN3)
              have HF56 := HF55.sublist (sl_da (sl_c (sl_c (sl_c (sl_c (sl_c (List.Sublist.refl _)))))))
              have HF57 := Fits.conv (L' := (bk g5 27 [.int .i64 0, .int .i64 0, .int .i64 0, .int .i64 0, .int .i64 0, .int .i64 0, .slice none 0 0, .int .i64 0, .int .i64 0, .slice none 0 0, .slice none 0 0, .slice none 0 0] :: (bk g4 27 [.int .i64 t3.f_Kind, .int .i64 t3.f_Router, .int .i64 t3.f_Bits, .int .i64 t3.f_Prio, .int .i64 t3.f_Dr, .int .i64 t3.f_Bdr, .slice A5 t3.f_Seen.length c5, .int .i64 t3.f_Flags, .int .i64 t3.f_Seq, .slice A6 t3.f_Heads.length c6, .slice A7 t3.f_Keys.length c7, .slice A8 t3.f_Lsas.length c8] :: (bk g3 27 [.int .i64 t1.f_Kind, .int .i64 t1.f_Router, .int .i64 t1.f_Bits, .int .i64 t1.f_Prio, .int .i64 t1.f_Dr, .int .i64 t1.f_Bdr, .slice A1 t1.f_Seen.length c1, .int .i64 t1.f_Flags, .int .i64 t1.f_Seq, .slice A2 t1.f_Heads.length c2, .slice A3 t1.f_Keys.length c3, .slice A4 t1.f_Lsas.length c4] :: (bk g2 29 [.int .i64 a1.f_Age, .int .i64 a1.f_Kind, .int .i64 a1.f_Id, .int .i64 a1.f_Adv, .int .i64 a1.f_Seq, .int .i64 a1.f_Sum, .int .i64 a1.f_Len] :: (bk g1 27 [.int .i64 a0.f_Kind, .int .i64 a0.f_Router, .int .i64 a0.f_Bits, .int .i64 a0.f_Prio, .int .i64 a0.f_Dr, .int .i64 a0.f_Bdr, .slice A_a0_6 a0.f_Seen.length c_a0_6, .int .i64 a0.f_Flags, .int .i64 a0.f_Seq, .slice A_a0_9 a0.f_Heads.length c_a0_9, .slice A_a0_10 a0.f_Keys.length c_a0_10, .slice A_a0_11 a0.f_Lsas.length c_a0_11] :: ((N6 ++ N3) ++ F))))))) HF56 (by rw [hN3] <;> rfl)
              have HF58 := HF57.sublist (sl_c (sl_c (sl_c (sl_c (sl_c (List.Sublist.append_right (sl_da (List.Sublist.refl _)) _))))))
              refine ⟨_, rfl, HF58, ?_⟩
              refine h1 31 (by kernel_rfl) rfl ?_
              replace H := bnd H; obtain ⟨t18, J16, H⟩ := H
              refine qCall rfl (gd1 rfl rfl) isf8 rfl rfl rfl (f_plenumref1_SamePacket.ok (a0 := t17) (a1 := (⟨0, 0, 0, 0, 0, 0, [], 0, 0, [], [], []⟩ : T_api_Packet)) (sub_a (sub_c (sub_c (sub_c (sub_c (sub_c (sub_n hG))))))) J16 HF55 (sub_a (sub_c (sub_c (sub_c (sub_c (sub_c (sub_n hG))))))) hr25 (sub_a (sub_c (sub_c (sub_c (sub_c (sub_c (sub_n hG))))))) hr26 (sub_a (sub_c (sub_c (sub_c (sub_c (sub_c (sub_n hG))))))) hr27 (sub_a (sub_c (sub_c (sub_c (sub_c (sub_c (sub_n hG))))))) hr28 (sub_a (sub_c (sub_c (sub_c (sub_c (sub_c (sub_n hG))))))) RdS.nil (sub_a (sub_c (sub_c (sub_c (sub_c (sub_c (sub_n hG))))))) RdS.nil (sub_a (sub_c (sub_c (sub_c (sub_c (sub_c (sub_n hG))))))) RdS.nil (sub_a (sub_c (sub_c (sub_c (sub_c (sub_c (sub_n hG))))))) RdS.nil) ?_
              rintro _ w25 ⟨rfl, HF59⟩
              have HF60 := HF59.sublist (sl_da (sl_c (sl_c (sl_c (sl_c (sl_c (List.Sublist.refl _)))))))
              have HF61 := Fits.conv (L' := (bk g5 27 [.int .i64 0, .int .i64 0, .int .i64 0, .int .i64 0, .int .i64 0, .int .i64 0, .slice none 0 0, .int .i64 0, .int .i64 0, .slice none 0 0, .slice none 0 0, .slice none 0 0] :: (bk g4 27 [.int .i64 t3.f_Kind, .int .i64 t3.f_Router, .int .i64 t3.f_Bits, .int .i64 t3.f_Prio, .int .i64 t3.f_Dr, .int .i64 t3.f_Bdr, .slice A5 t3.f_Seen.length c5, .int .i64 t3.f_Flags, .int .i64 t3.f_Seq, .slice A6 t3.f_Heads.length c6, .slice A7 t3.f_Keys.length c7, .slice A8 t3.f_Lsas.length c8] :: (bk g3 27 [.int .i64 t1.f_Kind, .int .i64 t1.f_Router, .int .i64 t1.f_Bits, .int .i64 t1.f_Prio, .int .i64 t1.f_Dr, .int .i64 t1.f_Bdr, .slice A1 t1.f_Seen.length c1, .int .i64 t1.f_Flags, .int .i64 t1.f_Seq, .slice A2 t1.f_Heads.length c2, .slice A3 t1.f_Keys.length c3, .slice A4 t1.f_Lsas.length c4] :: (bk g2 29 [.int .i64 a1.f_Age, .int .i64 a1.f_Kind, .int .i64 a1.f_Id, .int .i64 a1.f_Adv, .int .i64 a1.f_Seq, .int .i64 a1.f_Sum, .int .i64 a1.f_Len] :: (bk g1 27 [.int .i64 a0.f_Kind, .int .i64 a0.f_Router, .int .i64 a0.f_Bits, .int .i64 a0.f_Prio, .int .i64 a0.f_Dr, .int .i64 a0.f_Bdr, .slice A_a0_6 a0.f_Seen.length c_a0_6, .int .i64 a0.f_Flags, .int .i64 a0.f_Seq, .slice A_a0_9 a0.f_Heads.length c_a0_9, .slice A_a0_10 a0.f_Keys.length c_a0_10, .slice A_a0_11 a0.f_Lsas.length c_a0_11] :: ((N6 ++ N3) ++ F))))))) HF60 (by rw [hN3] <;> rfl)
              have HF62 := HF61.sublist (sl_c (sl_c (sl_c (sl_c (sl_c (List.Sublist.append_right (sl_da (List.Sublist.refl _)) _))))))
              refine ⟨_, rfl, HF62, ?_⟩
              refine hTake 32 rfl (by kernel_rfl) (pThen pFn) (fun w_ hS_ => pkT rfl rfl) HF62 rfl rfl ?_
              refine hTake 33 rfl (by kernel_rfl) (pThen pFn) (fun w_ hS_ => mv rfl) HF62 rfl rfl ?_
              by_cases c33 : t18 = true
              · replace H := itT c33 H
                refine hSet (i := 56) rfl (vT c33) ?_
                refine hTakeG 34 rfl rfl rfl (by kernel_rfl) (pThen pFn) (fun w_ hS_ => mv rfl) HF62 rfl rfl ?_
                refine hTakeG 35 rfl rfl rfl (by kernel_rfl) (pThen pFn) (fun w_ hS_ => ldA (cs := [.int .i64 a1.f_Age, .int .i64 a1.f_Kind, .int .i64 a1.f_Id, .int .i64 a1.f_Adv, .int .i64 a1.f_Seq, .int .i64 a1.f_Sum, .int .i64 a1.f_Len]) rfl ti29 rfl rfl (hS_.boxes (o := 0) (n := 7) (mem_c (mem_c (mem_c mem_h))) rfl)) HF62 rfl rfl ?_
                refine h1 36 (by kernel_rfl) rfl ?_
                replace H := bnd H; obtain ⟨t19, J17, H⟩ := H
                refine qCall rfl (gd1 rfl rfl) isf10 rfl rfl rfl (f_pair_Pair_Met_nil.ok (a1 := a1) J17 HF59) ?_
                rintro _ w26 ⟨rfl, HF63⟩
                have HF64 := HF63.sublist (sl_da (sl_c (sl_c (sl_c (sl_c (sl_c (List.Sublist.refl _)))))))
                have HF65 := Fits.conv (L' := (bk g5 27 [.int .i64 0, .int .i64 0, .int .i64 0, .int .i64 0, .int .i64 0, .int .i64 0, .slice none 0 0, .int .i64 0, .int .i64 0, .slice none 0 0, .slice none 0 0, .slice none 0 0] :: (bk g4 27 [.int .i64 t3.f_Kind, .int .i64 t3.f_Router, .int .i64 t3.f_Bits, .int .i64 t3.f_Prio, .int .i64 t3.f_Dr, .int .i64 t3.f_Bdr, .slice A5 t3.f_Seen.length c5, .int .i64 t3.f_Flags, .int .i64 t3.f_Seq, .slice A6 t3.f_Heads.length c6, .slice A7 t3.f_Keys.length c7, .slice A8 t3.f_Lsas.length c8] :: (bk g3 27 [.int .i64 t1.f_Kind, .int .i64 t1.f_Router, .int .i64 t1.f_Bits, .int .i64 t1.f_Prio, .int .i64 t1.f_Dr, .int .i64 t1.f_Bdr, .slice A1 t1.f_Seen.length c1, .int .i64 t1.f_Flags, .int .i64 t1.f_Seq, .slice A2 t1.f_Heads.length c2, .slice A3 t1.f_Keys.length c3, .slice A4 t1.f_Lsas.length c4] :: (bk g2 29 [.int .i64 a1.f_Age, .int .i64 a1.f_Kind, .int .i64 a1.f_Id, .int .i64 a1.f_Adv, .int .i64 a1.f_Seq, .int .i64 a1.f_Sum, .int .i64 a1.f_Len] :: (bk g1 27 [.int .i64 a0.f_Kind, .int .i64 a0.f_Router, .int .i64 a0.f_Bits, .int .i64 a0.f_Prio, .int .i64 a0.f_Dr, .int .i64 a0.f_Bdr, .slice A_a0_6 a0.f_Seen.length c_a0_6, .int .i64 a0.f_Flags, .int .i64 a0.f_Seq, .slice A_a0_9 a0.f_Heads.length c_a0_9, .slice A_a0_10 a0.f_Keys.length c_a0_10, .slice A_a0_11 a0.f_Lsas.length c_a0_11] :: ((N6 ++ N3) ++ F))))))) HF64 (by rw [hN3] <;> rfl)
                have HF66 := HF65.sublist (sl_c (sl_c (sl_c (sl_c (sl_c (List.Sublist.append_right (sl_da (List.Sublist.refl _)) _))))))
                refine ⟨_, rfl, HF66, ?_⟩
                refine hTakeG 37 rfl rfl rfl (by kernel_rfl) (pThen pFn) (fun w_ hS_ => uNot rfl) HF66 rfl rfl ?_
                refine hTake 38 rfl (by kernel_rfl) (pThen pFn) (fun w_ hS_ => pkT rfl rfl) HF66 rfl rfl ?_
                refine hTake 39 rfl (by kernel_rfl) (pThen pFn) (fun w_ hS_ => mv rfl) HF66 rfl rfl ?_
                by_cases c34 : t19 = true
                · replace H := itT c34 H
                  refine hSet (i := 62) rfl (wF c34) ?_
                  refine hTakeN 40 rfl rfl rfl (by kernel_rfl) (pThen pFn) HF66 rfl rfl ?_
                  refine hTake 41 rfl (by kernel_rfl) (pThen pFn) (fun w_ hS_ => pkF rfl rfl) HF66 rfl rfl ?_
                  refine hTake 42 rfl (by kernel_rfl) (pThen pFn) (fun w_ hS_ => asg rfl) HF66 rfl rfl ?_
                  refine hEnd (by kernel_rfl) ?_
                  refine kN (?_)
                  refine hK6 _ _ ?_
                  refine cRet ?_
                  obtain rfl := Option.some.inj H
                  refine ret1 rfl rfl ?_
                  have HF67 := HF63.sublist (sl_da (sl_dc (sl_dc (sl_dc (sl_dc (sl_dc (List.Sublist.refl _)))))))
                  have HF68 := Fits.conv (L' := ((N6 ++ (N2 ++ N1)) ++ F)) HF67 (by rw [hN3, hN1] <;> rfl)
                  have HF69 := HF68.sublist (sl_da (List.Sublist.refl _))
                  exact ⟨rfl, HF69⟩
                · replace H := itF c34 H
                  refine hSet (i := 62) rfl (wT c34) ?_
                  refine h1 40 (by kernel_rfl) rfl ?_
                  replace H := bnd H; obtain ⟨t20, J18, H⟩ := H
                  refine qCall rfl (gd1 rfl rfl) isf11 rfl rfl rfl (f_plenumlaw13_awake.ok (sub_a (sub_c (sub_c (sub_c (sub_c (sub_c (sub_n hG))))))) J18 HF63) ?_
                  rintro _ w27 ⟨rfl, HF70⟩
                  have HF71 := HF70.sublist (sl_da (sl_c (sl_c (sl_c (sl_c (sl_c (List.Sublist.refl _)))))))
                  have HF72 := Fits.conv (L' := (bk g5 27 [.int .i64 0, .int .i64 0, .int .i64 0, .int .i64 0, .int .i64 0, .int .i64 0, .slice none 0 0, .int .i64 0, .int .i64 0, .slice none 0 0, .slice none 0 0, .slice none 0 0] :: (bk g4 27 [.int .i64 t3.f_Kind, .int .i64 t3.f_Router, .int .i64 t3.f_Bits, .int .i64 t3.f_Prio, .int .i64 t3.f_Dr, .int .i64 t3.f_Bdr, .slice A5 t3.f_Seen.length c5, .int .i64 t3.f_Flags, .int .i64 t3.f_Seq, .slice A6 t3.f_Heads.length c6, .slice A7 t3.f_Keys.length c7, .slice A8 t3.f_Lsas.length c8] :: (bk g3 27 [.int .i64 t1.f_Kind, .int .i64 t1.f_Router, .int .i64 t1.f_Bits, .int .i64 t1.f_Prio, .int .i64 t1.f_Dr, .int .i64 t1.f_Bdr, .slice A1 t1.f_Seen.length c1, .int .i64 t1.f_Flags, .int .i64 t1.f_Seq, .slice A2 t1.f_Heads.length c2, .slice A3 t1.f_Keys.length c3, .slice A4 t1.f_Lsas.length c4] :: (bk g2 29 [.int .i64 a1.f_Age, .int .i64 a1.f_Kind, .int .i64 a1.f_Id, .int .i64 a1.f_Adv, .int .i64 a1.f_Seq, .int .i64 a1.f_Sum, .int .i64 a1.f_Len] :: (bk g1 27 [.int .i64 a0.f_Kind, .int .i64 a0.f_Router, .int .i64 a0.f_Bits, .int .i64 a0.f_Prio, .int .i64 a0.f_Dr, .int .i64 a0.f_Bdr, .slice A_a0_6 a0.f_Seen.length c_a0_6, .int .i64 a0.f_Flags, .int .i64 a0.f_Seq, .slice A_a0_9 a0.f_Heads.length c_a0_9, .slice A_a0_10 a0.f_Keys.length c_a0_10, .slice A_a0_11 a0.f_Lsas.length c_a0_11] :: ((N6 ++ N3) ++ F))))))) HF71 (by rw [hN3] <;> rfl)
                  have HF73 := HF72.sublist (sl_c (sl_c (sl_c (sl_c (sl_c (List.Sublist.append_right (sl_da (List.Sublist.refl _)) _))))))
                  refine ⟨_, rfl, HF73, ?_⟩
                  refine hTake 41 rfl (by kernel_rfl) (pThen pFn) (fun w_ hS_ => pkT rfl rfl) HF73 rfl rfl ?_
                  refine hTake 42 rfl (by kernel_rfl) (pThen pFn) (fun w_ hS_ => asg rfl) HF73 rfl rfl ?_
                  refine hEnd (by kernel_rfl) ?_
                  refine kN (?_)
                  refine hK6 _ _ ?_
                  refine cRet ?_
                  obtain rfl := Option.some.inj H
                  refine ret1 rfl rfl ?_
                  have HF74 := HF70.sublist (sl_da (sl_dc (sl_dc (sl_dc (sl_dc (sl_dc (List.Sublist.refl _)))))))
                  have HF75 := Fits.conv (L' := ((N6 ++ (N2 ++ N1)) ++ F)) HF74 (by rw [hN3, hN1] <;> rfl)
                  have HF76 := HF75.sublist (sl_da (List.Sublist.refl _))
                  exact ⟨rfl, HF76⟩
              · replace H := itF c33 H
                refine hSet (i := 56) rfl (vF c33) ?_
                refine hTakeN 34 rfl rfl rfl (by kernel_rfl) (pThen pFn) HF62 rfl rfl ?_
                refine hTakeN 35 rfl rfl rfl (by kernel_rfl) (pThen pFn) HF62 rfl rfl ?_
                refine hTakeN 36 rfl rfl rfl (by kernel_rfl) (pThen pFn) HF62 rfl rfl ?_
                refine hTakeN 37 rfl rfl rfl (by kernel_rfl) (pThen pFn) HF62 rfl rfl ?_
                refine hTake 38 rfl (by kernel_rfl) (pThen pFn) (fun w_ hS_ => pkF rfl rfl) HF62 rfl rfl ?_
                refine hTake 39 rfl (by kernel_rfl) (pThen pFn) (fun w_ hS_ => mv rfl) HF62 rfl rfl ?_
                refine hTakeN 40 rfl rfl rfl (by kernel_rfl) (pThen pFn) HF62 rfl rfl ?_
                refine hTake 41 rfl (by kernel_rfl) (pThen pFn) (fun w_ hS_ => pkF rfl rfl) HF62 rfl rfl ?_
                refine hTake 42 rfl (by kernel_rfl) (pThen pFn) (fun w_ hS_ => asg rfl) HF62 rfl rfl ?_
                refine hEnd (by kernel_rfl) ?_
                refine kN (?_)
                refine hK6 _ _ ?_
                refine cRet ?_
                obtain rfl := Option.some.inj H
                refine ret1 rfl rfl ?_
                have HF77 := HF59.sublist (sl_da (sl_dc (sl_dc (sl_dc (sl_dc (sl_dc (List.Sublist.refl _)))))))
                have HF78 := Fits.conv (L' := ((N6 ++ (N2 ++ N1)) ++ F)) HF77 (by rw [hN3, hN1] <;> rfl)
                have HF79 := HF78.sublist (sl_da (List.Sublist.refl _))
                exact ⟨rfl, HF79⟩
            · replace H := itF c28 H
              refine hSet (i := 50) rfl (vF c28) ?_
              refine hTakeN 28 rfl rfl rfl (by kernel_rfl) (pThen pFn) HF52 rfl rfl ?_
              refine hTakeN 29 rfl rfl rfl (by kernel_rfl) (pThen pFn) HF52 rfl rfl ?_
              refine hTakeN 30 rfl rfl rfl (by kernel_rfl) (pThen pFn) HF52 rfl rfl ?_
              refine hTakeN 31 rfl rfl rfl (by kernel_rfl) (pThen pFn) HF52 rfl rfl ?_
              refine hTake 32 rfl (by kernel_rfl) (pThen pFn) (fun w_ hS_ => pkF rfl rfl) HF52 rfl rfl ?_
              refine hTake 33 rfl (by kernel_rfl) (pThen pFn) (fun w_ hS_ => mv rfl) HF52 rfl rfl ?_
              refine hTakeN 34 rfl rfl rfl (by kernel_rfl) (pThen pFn) HF52 rfl rfl ?_
              refine hTakeN 35 rfl rfl rfl (by kernel_rfl) (pThen pFn) HF52 rfl rfl ?_
              refine hTakeN 36 rfl rfl rfl (by kernel_rfl) (pThen pFn) HF52 rfl rfl ?_
              refine hTakeN 37 rfl rfl rfl (by kernel_rfl) (pThen pFn) HF52 rfl rfl ?_
              refine hTake 38 rfl (by kernel_rfl) (pThen pFn) (fun w_ hS_ => pkF rfl rfl) HF52 rfl rfl ?_
              refine hTake 39 rfl (by kernel_rfl) (pThen pFn) (fun w_ hS_ => mv rfl) HF52 rfl rfl ?_
              refine hTakeN 40 rfl rfl rfl (by kernel_rfl) (pThen pFn) HF52 rfl rfl ?_
              refine hTake 41 rfl (by kernel_rfl) (pThen pFn) (fun w_ hS_ => pkF rfl rfl) HF52 rfl rfl ?_
              refine hTake 42 rfl (by kernel_rfl) (pThen pFn) (fun w_ hS_ => asg rfl) HF52 rfl rfl ?_
              refine hEnd (by kernel_rfl) ?_
              refine kN (?_)
              refine hK6 _ _ ?_
              refine cRet ?_
              obtain rfl := Option.some.inj H
              refine ret1 rfl rfl ?_
              have HF80 := HF51.sublist (sl_da (sl_dc (sl_dc (sl_dc (sl_dc (sl_dc (List.Sublist.refl _)))))))
              have HF81 := Fits.conv (L' := ((N2 ++ N1) ++ F)) HF80 (by rw [hN1] <;> rfl)
              have HF82 := HF81.sublist (sl_da (List.Sublist.refl _))
              exact ⟨rfl, HF82⟩
          · replace H := itF c27 H
            refine hSet (i := 45) rfl (vF c27) ?_
            refine hTakeN 23 rfl rfl rfl (by kernel_rfl) (pThen pFn) HF50 rfl rfl ?_
            refine hTakeN 24 rfl rfl rfl (by kernel_rfl) (pThen pFn) HF50 rfl rfl ?_
            refine hTakeN 25 rfl rfl rfl (by kernel_rfl) (pThen pFn) HF50 rfl rfl ?_
            refine hTake 26 rfl (by kernel_rfl) (pThen pFn) (fun w_ hS_ => pkF rfl rfl) HF50 rfl rfl ?_
            refine hTake 27 rfl (by kernel_rfl) (pThen pFn) (fun w_ hS_ => mv rfl) HF50 rfl rfl ?_
            refine hTakeN 28 rfl rfl rfl (by kernel_rfl) (pThen pFn) HF50 rfl rfl ?_
            refine hTakeN 29 rfl rfl rfl (by kernel_rfl) (pThen pFn) HF50 rfl rfl ?_
            refine hTakeN 30 rfl rfl rfl (by kernel_rfl) (pThen pFn) HF50 rfl rfl ?_
            refine hTakeN 31 rfl rfl rfl (by kernel_rfl) (pThen pFn) HF50 rfl rfl ?_
            refine hTake 32 rfl (by kernel_rfl) (pThen pFn) (fun w_ hS_ => pkF rfl rfl) HF50 rfl rfl ?_
            refine hTake 33 rfl (by kernel_rfl) (pThen pFn) (fun w_ hS_ => mv rfl) HF50 rfl rfl ?_
            refine hTakeN 34 rfl rfl rfl (by kernel_rfl) (pThen pFn) HF50 rfl rfl ?_
            refine hTakeN 35 rfl rfl rfl (by kernel_rfl) (pThen pFn) HF50 rfl rfl ?_
            refine hTakeN 36 rfl rfl rfl (by kernel_rfl) (pThen pFn) HF50 rfl rfl ?_
            refine hTakeN 37 rfl rfl rfl (by kernel_rfl) (pThen pFn) HF50 rfl rfl ?_
            refine hTake 38 rfl (by kernel_rfl) (pThen pFn) (fun w_ hS_ => pkF rfl rfl) HF50 rfl rfl ?_
            refine hTake 39 rfl (by kernel_rfl) (pThen pFn) (fun w_ hS_ => mv rfl) HF50 rfl rfl ?_
            refine hTakeN 40 rfl rfl rfl (by kernel_rfl) (pThen pFn) HF50 rfl rfl ?_
            refine hTake 41 rfl (by kernel_rfl) (pThen pFn) (fun w_ hS_ => pkF rfl rfl) HF50 rfl rfl ?_
            refine hTake 42 rfl (by kernel_rfl) (pThen pFn) (fun w_ hS_ => asg rfl) HF50 rfl rfl ?_
            refine hEnd (by kernel_rfl) ?_
            refine kN (?_)
            refine hK6 _ _ ?_
            refine cRet ?_
            obtain rfl := Option.some.inj H
            refine ret1 rfl rfl ?_
            have HF83 := HF49.sublist (sl_da (sl_dc (sl_dc (sl_dc (sl_dc (sl_dc (List.Sublist.refl _)))))))
            have HF84 := Fits.conv (L' := ((N2 ++ N1) ++ F)) HF83 (by rw [hN1] <;> rfl)
            have HF85 := HF84.sublist (sl_da (List.Sublist.refl _))
            exact ⟨rfl, HF85⟩
    · replace H := itF c24 H
      refine hSet (i := 32) rfl (dF c24) ?_
      refine hTakeN 10 rfl rfl rfl (by kernel_rfl) (pThen pFn) HF42 rfl rfl ?_
      refine hTakeN 11 rfl rfl rfl (by kernel_rfl) (pThen pFn) HF42 rfl rfl ?_
      refine hTake 12 rfl (by kernel_rfl) (pThen pFn) (fun w_ hS_ => pkF rfl rfl) HF42 rfl rfl ?_
      refine hTake 13 rfl (by kernel_rfl) (pThen pFn) (fun w_ hS_ => mv rfl) HF42 rfl rfl ?_
      refine hTakeN 14 rfl rfl rfl (by kernel_rfl) (pThen pFn) HF42 rfl rfl ?_
      refine hTakeN 15 rfl rfl rfl (by kernel_rfl) (pThen pFn) HF42 rfl rfl ?_
      refine hTake 16 rfl (by kernel_rfl) (pThen pFn) (fun w_ hS_ => pkF rfl rfl) HF42 rfl rfl ?_
      refine hTake 17 rfl (by kernel_rfl) (pThen pFn) (fun w_ hS_ => mv rfl) HF42 rfl rfl ?_
      refine hTakeN 18 rfl rfl rfl (by kernel_rfl) (pThen pFn) HF42 rfl rfl ?_
      refine hTakeN 19 rfl rfl rfl (by kernel_rfl) (pThen pFn) HF42 rfl rfl ?_
      refine hTakeN 20 rfl rfl rfl (by kernel_rfl) (pThen pFn) HF42 rfl rfl ?_
      refine hTake 21 rfl (by kernel_rfl) (pThen pFn) (fun w_ hS_ => pkF rfl rfl) HF42 rfl rfl ?_
      refine hTake 22 rfl (by kernel_rfl) (pThen pFn) (fun w_ hS_ => mv rfl) HF42 rfl rfl ?_
      refine hTakeN 23 rfl rfl rfl (by kernel_rfl) (pThen pFn) HF42 rfl rfl ?_
      refine hTakeN 24 rfl rfl rfl (by kernel_rfl) (pThen pFn) HF42 rfl rfl ?_
      refine hTakeN 25 rfl rfl rfl (by kernel_rfl) (pThen pFn) HF42 rfl rfl ?_
      refine hTake 26 rfl (by kernel_rfl) (pThen pFn) (fun w_ hS_ => pkF rfl rfl) HF42 rfl rfl ?_
      refine hTake 27 rfl (by kernel_rfl) (pThen pFn) (fun w_ hS_ => mv rfl) HF42 rfl rfl ?_
      refine hTakeN 28 rfl rfl rfl (by kernel_rfl) (pThen pFn) HF42 rfl rfl ?_
      refine hTakeN 29 rfl rfl rfl (by kernel_rfl) (pThen pFn) HF42 rfl rfl ?_
      refine hTakeN 30 rfl rfl rfl (by kernel_rfl) (pThen pFn) HF42 rfl rfl ?_
      refine hTakeN 31 rfl rfl rfl (by kernel_rfl) (pThen pFn) HF42 rfl rfl ?_
      refine hTake 32 rfl (by kernel_rfl) (pThen pFn) (fun w_ hS_ => pkF rfl rfl) HF42 rfl rfl ?_
      refine hTake 33 rfl (by kernel_rfl) (pThen pFn) (fun w_ hS_ => mv rfl) HF42 rfl rfl ?_
      refine hTakeN 34 rfl rfl rfl (by kernel_rfl) (pThen pFn) HF42 rfl rfl ?_
      refine hTakeN 35 rfl rfl rfl (by kernel_rfl) (pThen pFn) HF42 rfl rfl ?_
      refine hTakeN 36 rfl rfl rfl (by kernel_rfl) (pThen pFn) HF42 rfl rfl ?_
      refine hTakeN 37 rfl rfl rfl (by kernel_rfl) (pThen pFn) HF42 rfl rfl ?_
      refine hTake 38 rfl (by kernel_rfl) (pThen pFn) (fun w_ hS_ => pkF rfl rfl) HF42 rfl rfl ?_
      refine hTake 39 rfl (by kernel_rfl) (pThen pFn) (fun w_ hS_ => mv rfl) HF42 rfl rfl ?_
      refine hTakeN 40 rfl rfl rfl (by kernel_rfl) (pThen pFn) HF42 rfl rfl ?_
      refine hTake 41 rfl (by kernel_rfl) (pThen pFn) (fun w_ hS_ => pkF rfl rfl) HF42 rfl rfl ?_
      refine hTake 42 rfl (by kernel_rfl) (pThen pFn) (fun w_ hS_ => asg rfl) HF42 rfl rfl ?_
      refine hEnd (by kernel_rfl) ?_
      refine kN (?_)
      refine hK6 _ _ ?_
      refine cRet ?_
      obtain rfl := Option.some.inj H
      refine ret1 rfl rfl ?_
      have HF86 := HF41.sublist (sl_da (sl_dc (sl_dc (sl_dc (sl_dc (sl_dc (List.Sublist.refl _)))))))
      have HF87 := Fits.conv (L' := ((N2 ++ N1) ++ F)) HF86 (by rw [hN1] <;> rfl)
      have HF88 := HF87.sublist (sl_da (List.Sublist.refl _))
      exact ⟨rfl, HF88⟩
  · replace H := itF c22 H
    refine hSet (i := 26) rfl (dF c22) ?_
    refine hTakeN 4 rfl rfl rfl (by kernel_rfl) (pThen pFn) HF40 rfl rfl ?_
    refine hTakeN 5 rfl rfl rfl (by kernel_rfl) (pThen pFn) HF40 rfl rfl ?_
    refine hTakeN 6 rfl rfl rfl (by kernel_rfl) (pThen pFn) HF40 rfl rfl ?_
    refine hTakeN 7 rfl rfl rfl (by kernel_rfl) (pThen pFn) HF40 rfl rfl ?_
    refine hTake 8 rfl (by kernel_rfl) (pThen pFn) (fun w_ hS_ => pkF rfl rfl) HF40 rfl rfl ?_
    refine hTake 9 rfl (by kernel_rfl) (pThen pFn) (fun w_ hS_ => mv rfl) HF40 rfl rfl ?_
    refine hTakeN 10 rfl rfl rfl (by kernel_rfl) (pThen pFn) HF40 rfl rfl ?_
    refine hTakeN 11 rfl rfl rfl (by kernel_rfl) (pThen pFn) HF40 rfl rfl ?_
    refine hTake 12 rfl (by kernel_rfl) (pThen pFn) (fun w_ hS_ => pkF rfl rfl) HF40 rfl rfl ?_
    refine hTake 13 rfl (by kernel_rfl) (pThen pFn) (fun w_ hS_ => mv rfl) HF40 rfl rfl ?_
    refine hTakeN 14 rfl rfl rfl (by kernel_rfl) (pThen pFn) HF40 rfl rfl ?_
    refine hTakeN 15 rfl rfl rfl (by kernel_rfl) (pThen pFn) HF40 rfl rfl ?_
    refine hTake 16 rfl (by kernel_rfl) (pThen pFn) (fun w_ hS_ => pkF rfl rfl) HF40 rfl rfl ?_
    refine hTake 17 rfl (by kernel_rfl) (pThen pFn) (fun w_ hS_ => mv rfl) HF40 rfl rfl ?_
    refine hTakeN 18 rfl rfl rfl (by kernel_rfl) (pThen pFn) HF40 rfl rfl ?_
    refine hTakeN 19 rfl rfl rfl (by kernel_rfl) (pThen pFn) HF40 rfl rfl ?_
    refine hTakeN 20 rfl rfl rfl (by kernel_rfl) (pThen pFn) HF40 rfl rfl ?_
    refine hTake 21 rfl (by kernel_rfl) (pThen pFn) (fun w_ hS_ => pkF rfl rfl) HF40 rfl rfl ?_
    refine hTake 22 rfl (by kernel_rfl) (pThen pFn) (fun w_ hS_ => mv rfl) HF40 rfl rfl ?_
    refine hTakeN 23 rfl rfl rfl (by kernel_rfl) (pThen pFn) HF40 rfl rfl ?_
    refine hTakeN 24 rfl rfl rfl (by kernel_rfl) (pThen pFn) HF40 rfl rfl ?_
    refine hTakeN 25 rfl rfl rfl (by kernel_rfl) (pThen pFn) HF40 rfl rfl ?_
    refine hTake 26 rfl (by kernel_rfl) (pThen pFn) (fun w_ hS_ => pkF rfl rfl) HF40 rfl rfl ?_
    refine hTake 27 rfl (by kernel_rfl) (pThen pFn) (fun w_ hS_ => mv rfl) HF40 rfl rfl ?_
    refine hTakeN 28 rfl rfl rfl (by kernel_rfl) (pThen pFn) HF40 rfl rfl ?_
    refine hTakeN 29 rfl rfl rfl (by kernel_rfl) (pThen pFn) HF40 rfl rfl ?_
    refine hTakeN 30 rfl rfl rfl (by kernel_rfl) (pThen pFn) HF40 rfl rfl ?_
    refine hTakeN 31 rfl rfl rfl (by kernel_rfl) (pThen pFn) HF40 rfl rfl ?_
    refine hTake 32 rfl (by kernel_rfl) (pThen pFn) (fun w_ hS_ => pkF rfl rfl) HF40 rfl rfl ?_
    refine hTake 33 rfl (by kernel_rfl) (pThen pFn) (fun w_ hS_ => mv rfl) HF40 rfl rfl ?_
    refine hTakeN 34 rfl rfl rfl (by kernel_rfl) (pThen pFn) HF40 rfl rfl ?_
    refine hTakeN 35 rfl rfl rfl (by kernel_rfl) (pThen pFn) HF40 rfl rfl ?_
    refine hTakeN 36 rfl rfl rfl (by kernel_rfl) (pThen pFn) HF40 rfl rfl ?_
    refine hTakeN 37 rfl rfl rfl (by kernel_rfl) (pThen pFn) HF40 rfl rfl ?_
    refine hTake 38 rfl (by kernel_rfl) (pThen pFn) (fun w_ hS_ => pkF rfl rfl) HF40 rfl rfl ?_
    refine hTake 39 rfl (by kernel_rfl) (pThen pFn) (fun w_ hS_ => mv rfl) HF40 rfl rfl ?_
    refine hTakeN 40 rfl rfl rfl (by kernel_rfl) (pThen pFn) HF40 rfl rfl ?_
    refine hTake 41 rfl (by kernel_rfl) (pThen pFn) (fun w_ hS_ => pkF rfl rfl) HF40 rfl rfl ?_
    refine hTake 42 rfl (by kernel_rfl) (pThen pFn) (fun w_ hS_ => asg rfl) HF40 rfl rfl ?_
    refine hEnd (by kernel_rfl) ?_
    refine kN (?_)
    refine hK6 _ _ ?_
    refine cRet ?_
    obtain rfl := Option.some.inj H
    refine ret1 rfl rfl ?_
    have HF89 := HF40.sublist (sl_dc (sl_dc (sl_dc (sl_dc (sl_dc (List.Sublist.refl _))))))
    have HF90 := Fits.conv (L' := ((N2 ++ N1) ++ F)) HF89 (by rw [hN1] <;> rfl)
    have HF91 := HF90.sublist (sl_da (List.Sublist.refl _))
    exact ⟨rfl, HF91⟩

end Go.Proofs.YtkoehaadlkggoaaRRRR
