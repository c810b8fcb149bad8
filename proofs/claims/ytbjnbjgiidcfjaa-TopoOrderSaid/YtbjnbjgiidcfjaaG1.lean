/- For each Go function that the laws reach: a function on plain values with the same answers, and the proof that the call comes to them (none: nothing is told). Conditions: none beside each theorem's own. Written by gen.py out of the print of the loaded program. -/
import Derived.Test.YtbjnbjgiidcfjaaProg
import Derived.Test.YtbjnbjgiidcfjaaSp18
import Derived.KernelRfl
set_option linter.unusedVariables false
set_option linter.unusedSimpArgs false
namespace Go.Proofs.Ytbjnbjgiidcfjaa
open Go Go.Proofs.Ytbjnbjgiidcfjaa.Sp

structure T_api_Head where
  f_Age : Int
  f_Kind : Int
  f_Id : Int
  f_Adv : Int
  f_Seq : Int
  f_Sum : Int
  f_Len : Int
  deriving Inhabited, DecidableEq
def enc_T_api_Head (x : T_api_Head) : List Value := [.int .i64 x.f_Age, .int .i64 x.f_Kind, .int .i64 x.f_Id, .int .i64 x.f_Adv, .int .i64 x.f_Seq, .int .i64 x.f_Sum, .int .i64 x.f_Len]
theorem len_T_api_Head (x : T_api_Head) : (enc_T_api_Head x).length = 7 := rfl
theorem one_T_api_Head (x : T_api_Head) : ∀ v ∈ enc_T_api_Head x, v.oneCell' = true := by intro v hv; simp only [enc_T_api_Head, List.mem_cons, List.not_mem_nil, or_false] at hv; rcases hv with rfl | rfl | rfl | rfl | rfl | rfl | rfl <;> rfl
def k_T_api_Head : Kd T_api_Head := kFlat enc_T_api_Head 7 len_T_api_Head one_T_api_Head
structure T_api_Link where
  f_Kind : Int
  f_Id : Int
  f_Data : Int
  f_Cost : Int
  deriving Inhabited, DecidableEq
def enc_T_api_Link (x : T_api_Link) : List Value := [.int .i64 x.f_Kind, .int .i64 x.f_Id, .int .i64 x.f_Data, .int .i64 x.f_Cost]
theorem len_T_api_Link (x : T_api_Link) : (enc_T_api_Link x).length = 4 := rfl
theorem one_T_api_Link (x : T_api_Link) : ∀ v ∈ enc_T_api_Link x, v.oneCell' = true := by intro v hv; simp only [enc_T_api_Link, List.mem_cons, List.not_mem_nil, or_false] at hv; rcases hv with rfl | rfl | rfl | rfl <;> rfl
def k_T_api_Link : Kd T_api_Link := kFlat enc_T_api_Link 4 len_T_api_Link one_T_api_Link
structure T_api_Vert where
  f_Kind : Int
  f_Id : Int
  deriving Inhabited, DecidableEq
def enc_T_api_Vert (x : T_api_Vert) : List Value := [.int .i64 x.f_Kind, .int .i64 x.f_Id]
theorem len_T_api_Vert (x : T_api_Vert) : (enc_T_api_Vert x).length = 2 := rfl
theorem one_T_api_Vert (x : T_api_Vert) : ∀ v ∈ enc_T_api_Vert x, v.oneCell' = true := by intro v hv; simp only [enc_T_api_Vert, List.mem_cons, List.not_mem_nil, or_false] at hv; rcases hv with rfl | rfl <;> rfl
def k_T_api_Vert : Kd T_api_Vert := kFlat enc_T_api_Vert 2 len_T_api_Vert one_T_api_Vert
structure T_api_Lsa where
  f_Head : T_api_Head
  f_Flags : Int
  f_Links : List T_api_Link
  f_Bits : Int
  f_Routers : List Int
  f_Verts : List T_api_Vert
  deriving Inhabited, DecidableEq
def k_T_api_Lsa : Kd T_api_Lsa := kIso (kPair k_T_api_Head (kPair (kInt .i64) (kPair (kSl k_T_api_Link) (kPair (kInt .i64) (kPair (kSl (kInt .i64)) (kSl k_T_api_Vert)))))) (fun x => (x.f_Head, x.f_Flags, x.f_Links, x.f_Bits, x.f_Routers, x.f_Verts))
theorem rd_T_api_Lsa {G : Hp} {cs : List Value} {x : T_api_Lsa} (h : k_T_api_Lsa.rd G cs x) : ∃ (A8 : Option Addr) (c8 : Nat) (A10 : Option Addr) (c10 : Nat) (A11 : Option Addr) (c11 : Nat), cs = [.int .i64 x.f_Head.f_Age, .int .i64 x.f_Head.f_Kind, .int .i64 x.f_Head.f_Id, .int .i64 x.f_Head.f_Adv, .int .i64 x.f_Head.f_Seq, .int .i64 x.f_Head.f_Sum, .int .i64 x.f_Head.f_Len, .int .i64 x.f_Flags, .slice A8 x.f_Links.length c8, .int .i64 x.f_Bits, .slice A10 x.f_Routers.length c10, .slice A11 x.f_Verts.length c11] ∧ RdS k_T_api_Link G A8 c8 x.f_Links ∧ RdS (kInt .i64) G A10 c10 x.f_Routers ∧ RdS k_T_api_Vert G A11 c11 x.f_Verts := by
  obtain ⟨_, _, rfl, rfl, ⟨_, _, rfl, rfl, ⟨_, _, rfl, ⟨A8, c8, rfl, h8⟩, ⟨_, _, rfl, rfl, ⟨_, _, rfl, ⟨A10, c10, rfl, h10⟩, ⟨A11, c11, rfl, h11⟩⟩⟩⟩⟩⟩ := h
  exact ⟨A8, c8, A10, c10, A11, c11, rfl, h8, h10, h11⟩
theorem mk_T_api_Lsa {G : Hp} {x : T_api_Lsa} {A8 : Option Addr} {c8 : Nat} {A10 : Option Addr} {c10 : Nat} {A11 : Option Addr} {c11 : Nat} (h8 : RdS k_T_api_Link G A8 c8 x.f_Links) (h10 : RdS (kInt .i64) G A10 c10 x.f_Routers) (h11 : RdS k_T_api_Vert G A11 c11 x.f_Verts) : k_T_api_Lsa.rd G [.int .i64 x.f_Head.f_Age, .int .i64 x.f_Head.f_Kind, .int .i64 x.f_Head.f_Id, .int .i64 x.f_Head.f_Adv, .int .i64 x.f_Head.f_Seq, .int .i64 x.f_Head.f_Sum, .int .i64 x.f_Head.f_Len, .int .i64 x.f_Flags, .slice A8 x.f_Links.length c8, .int .i64 x.f_Bits, .slice A10 x.f_Routers.length c10, .slice A11 x.f_Verts.length c11] x :=
  ⟨_, _, rfl, rfl, ⟨_, _, rfl, rfl, ⟨_, _, rfl, ⟨_, _, rfl, h8⟩, ⟨_, _, rfl, rfl, ⟨_, _, rfl, ⟨_, _, rfl, h10⟩, ⟨_, _, rfl, h11⟩⟩⟩⟩⟩⟩
structure T_api_Key where
  f_Kind : Int
  f_Id : Int
  f_Adv : Int
  deriving Inhabited, DecidableEq
def enc_T_api_Key (x : T_api_Key) : List Value := [.int .i64 x.f_Kind, .int .i64 x.f_Id, .int .i64 x.f_Adv]
theorem len_T_api_Key (x : T_api_Key) : (enc_T_api_Key x).length = 3 := rfl
theorem one_T_api_Key (x : T_api_Key) : ∀ v ∈ enc_T_api_Key x, v.oneCell' = true := by intro v hv; simp only [enc_T_api_Key, List.mem_cons, List.not_mem_nil, or_false] at hv; rcases hv with rfl | rfl | rfl <;> rfl
def k_T_api_Key : Kd T_api_Key := kFlat enc_T_api_Key 3 len_T_api_Key one_T_api_Key
structure T_topo_area where
  f_routers : List T_api_Lsa
  f_networks : List T_api_Lsa
  f_router : List (Int × T_api_Lsa)
  f_network : List (Int × T_api_Lsa)
  deriving Inhabited, DecidableEq
structure T_api_Edge where
  f_From : T_api_Vert
  f_To : T_api_Vert
  f_Cost : Int
  f_Data : Int
  deriving Inhabited, DecidableEq
def enc_T_api_Edge (x : T_api_Edge) : List Value := [.int .i64 x.f_From.f_Kind, .int .i64 x.f_From.f_Id, .int .i64 x.f_To.f_Kind, .int .i64 x.f_To.f_Id, .int .i64 x.f_Cost, .int .i64 x.f_Data]
theorem len_T_api_Edge (x : T_api_Edge) : (enc_T_api_Edge x).length = 6 := rfl
theorem one_T_api_Edge (x : T_api_Edge) : ∀ v ∈ enc_T_api_Edge x, v.oneCell' = true := by intro v hv; simp only [enc_T_api_Edge, List.mem_cons, List.not_mem_nil, or_false] at hv; rcases hv with rfl | rfl | rfl | rfl | rfl | rfl <;> rfl
def k_T_api_Edge : Kd T_api_Edge := kFlat enc_T_api_Edge 6 len_T_api_Edge one_T_api_Edge
structure T_api_Stub where
  f_Router : Int
  f_Prefix : Int
  f_Bits : Int
  f_Cost : Int
  deriving Inhabited, DecidableEq
def enc_T_api_Stub (x : T_api_Stub) : List Value := [.int .i64 x.f_Router, .int .i64 x.f_Prefix, .int .i64 x.f_Bits, .int .i64 x.f_Cost]
theorem len_T_api_Stub (x : T_api_Stub) : (enc_T_api_Stub x).length = 4 := rfl
theorem one_T_api_Stub (x : T_api_Stub) : ∀ v ∈ enc_T_api_Stub x, v.oneCell' = true := by intro v hv; simp only [enc_T_api_Stub, List.mem_cons, List.not_mem_nil, or_false] at hv; rcases hv with rfl | rfl | rfl | rfl <;> rfl
def k_T_api_Stub : Kd T_api_Stub := kFlat enc_T_api_Stub 4 len_T_api_Stub one_T_api_Stub
structure T_api_Span where
  f_Vert : T_api_Vert
  f_Prefix : Int
  f_Bits : Int
  deriving Inhabited, DecidableEq
def enc_T_api_Span (x : T_api_Span) : List Value := [.int .i64 x.f_Vert.f_Kind, .int .i64 x.f_Vert.f_Id, .int .i64 x.f_Prefix, .int .i64 x.f_Bits]
theorem len_T_api_Span (x : T_api_Span) : (enc_T_api_Span x).length = 4 := rfl
theorem one_T_api_Span (x : T_api_Span) : ∀ v ∈ enc_T_api_Span x, v.oneCell' = true := by intro v hv; simp only [enc_T_api_Span, List.mem_cons, List.not_mem_nil, or_false] at hv; rcases hv with rfl | rfl | rfl | rfl <;> rfl
def k_T_api_Span : Kd T_api_Span := kFlat enc_T_api_Span 4 len_T_api_Span one_T_api_Span
structure T_api_Map where
  f_Verts : List T_api_Vert
  f_Edges : List T_api_Edge
  f_Stubs : List T_api_Stub
  f_Spans : List T_api_Span
  f_Wilds : List Int
  deriving Inhabited, DecidableEq
def k_T_api_Map : Kd T_api_Map := kIso (kPair (kSl k_T_api_Vert) (kPair (kSl k_T_api_Edge) (kPair (kSl k_T_api_Stub) (kPair (kSl k_T_api_Span) (kSl (kInt .i64)))))) (fun x => (x.f_Verts, x.f_Edges, x.f_Stubs, x.f_Spans, x.f_Wilds))
theorem rd_T_api_Map {G : Hp} {cs : List Value} {x : T_api_Map} (h : k_T_api_Map.rd G cs x) : ∃ (A0 : Option Addr) (c0 : Nat) (A1 : Option Addr) (c1 : Nat) (A2 : Option Addr) (c2 : Nat) (A3 : Option Addr) (c3 : Nat) (A4 : Option Addr) (c4 : Nat), cs = [.slice A0 x.f_Verts.length c0, .slice A1 x.f_Edges.length c1, .slice A2 x.f_Stubs.length c2, .slice A3 x.f_Spans.length c3, .slice A4 x.f_Wilds.length c4] ∧ RdS k_T_api_Vert G A0 c0 x.f_Verts ∧ RdS k_T_api_Edge G A1 c1 x.f_Edges ∧ RdS k_T_api_Stub G A2 c2 x.f_Stubs ∧ RdS k_T_api_Span G A3 c3 x.f_Spans ∧ RdS (kInt .i64) G A4 c4 x.f_Wilds := by
  obtain ⟨_, _, rfl, ⟨A0, c0, rfl, h0⟩, ⟨_, _, rfl, ⟨A1, c1, rfl, h1⟩, ⟨_, _, rfl, ⟨A2, c2, rfl, h2⟩, ⟨_, _, rfl, ⟨A3, c3, rfl, h3⟩, ⟨A4, c4, rfl, h4⟩⟩⟩⟩⟩ := h
  exact ⟨A0, c0, A1, c1, A2, c2, A3, c3, A4, c4, rfl, h0, h1, h2, h3, h4⟩
theorem mk_T_api_Map {G : Hp} {x : T_api_Map} {A0 : Option Addr} {c0 : Nat} {A1 : Option Addr} {c1 : Nat} {A2 : Option Addr} {c2 : Nat} {A3 : Option Addr} {c3 : Nat} {A4 : Option Addr} {c4 : Nat} (h0 : RdS k_T_api_Vert G A0 c0 x.f_Verts) (h1 : RdS k_T_api_Edge G A1 c1 x.f_Edges) (h2 : RdS k_T_api_Stub G A2 c2 x.f_Stubs) (h3 : RdS k_T_api_Span G A3 c3 x.f_Spans) (h4 : RdS (kInt .i64) G A4 c4 x.f_Wilds) : k_T_api_Map.rd G [.slice A0 x.f_Verts.length c0, .slice A1 x.f_Edges.length c1, .slice A2 x.f_Stubs.length c2, .slice A3 x.f_Spans.length c3, .slice A4 x.f_Wilds.length c4] x :=
  ⟨_, _, rfl, ⟨_, _, rfl, h0⟩, ⟨_, _, rfl, ⟨_, _, rfl, h1⟩, ⟨_, _, rfl, ⟨_, _, rfl, h2⟩, ⟨_, _, rfl, ⟨_, _, rfl, h3⟩, ⟨_, _, rfl, h4⟩⟩⟩⟩⟩
def fs32 : Array Field := #[Field.mk "Verts" 26 0 false "" "" 0, Field.mk "Edges" 27 1 false "" "" 24, Field.mk "Stubs" 28 2 false "" "" 48, Field.mk "Spans" 29 3 false "" "" 72, Field.mk "Wilds" 30 4 false "" "" 96]
def ds32 : TypeDesc := .struct fs32
def fs35 : Array Field := #[Field.mk "Kind" 3 0 false "" "" 0, Field.mk "Id" 3 1 false "" "" 8]
def ds35 : TypeDesc := .struct fs35
def fs37 : Array Field := #[Field.mk "From" 35 0 false "" "" 0, Field.mk "To" 35 2 false "" "" 16, Field.mk "Cost" 3 4 false "" "" 32, Field.mk "Data" 3 5 false "" "" 40]
def ds37 : TypeDesc := .struct fs37
def fs41 : Array Field := #[Field.mk "Age" 3 0 false "" "" 0, Field.mk "Kind" 3 1 false "" "" 8, Field.mk "Id" 3 2 false "" "" 16, Field.mk "Adv" 3 3 false "" "" 24, Field.mk "Seq" 3 4 false "" "" 32, Field.mk "Sum" 3 5 false "" "" 40, Field.mk "Len" 3 6 false "" "" 48]
def ds41 : TypeDesc := .struct fs41
def fs44 : Array Field := #[Field.mk "Head" 41 0 false "" "" 0, Field.mk "Flags" 3 7 false "" "" 56, Field.mk "Links" 42 8 false "" "" 64, Field.mk "Bits" 3 9 false "" "" 88, Field.mk "Routers" 30 10 false "" "" 96, Field.mk "Verts" 26 11 false "" "" 120]
def ds44 : TypeDesc := .struct fs44
def fs56 : Array Field := #[Field.mk "Kind" 3 0 false "" "" 0, Field.mk "Id" 3 1 false "" "" 8, Field.mk "Data" 3 2 false "" "" 16, Field.mk "Cost" 3 3 false "" "" 24]
def ds56 : TypeDesc := .struct fs56
def fs61 : Array Field := #[Field.mk "routers" 24 0 false "" "plenum/topo" 0, Field.mk "networks" 24 1 false "" "plenum/topo" 24, Field.mk "router" 59 2 false "" "plenum/topo" 48, Field.mk "network" 59 3 false "" "plenum/topo" 56]
def ds61 : TypeDesc := .struct fs61
def fs72 : Array Field := #[Field.mk "Router" 3 0 false "" "" 0, Field.mk "Prefix" 3 1 false "" "" 8, Field.mk "Bits" 3 2 false "" "" 16, Field.mk "Cost" 3 3 false "" "" 24]
def ds72 : TypeDesc := .struct fs72
def fs74 : Array Field := #[Field.mk "Vert" 35 0 false "" "" 0, Field.mk "Prefix" 3 2 false "" "" 16, Field.mk "Bits" 3 3 false "" "" 24]
def ds74 : TypeDesc := .struct fs74
def fs78 : Array Field := #[Field.mk "Kind" 3 0 false "" "" 0, Field.mk "Id" 3 1 false "" "" 8, Field.mk "Adv" 3 2 false "" "" 16]
def ds78 : TypeDesc := .struct fs78
theorem eg35 : Try.prog.eqGuardType Try.prog.depth 35 = false := by kernel_rfl
theorem eg37 : Try.prog.eqGuardType Try.prog.depth 37 = false := by kernel_rfl
theorem eg72 : Try.prog.eqGuardType Try.prog.depth 72 = false := by kernel_rfl
theorem eg74 : Try.prog.eqGuardType Try.prog.depth 74 = false := by kernel_rfl
theorem eg78 : Try.prog.eqGuardType Try.prog.depth 78 = false := by kernel_rfl
theorem eq_T_api_Vert (x y : T_api_Vert) : ((x.f_Kind == y.f_Kind) && ((x.f_Id == y.f_Id) && (true))) = decide (x = y) := by
  obtain ⟨v1, v2⟩ := x
  obtain ⟨v3, v4⟩ := y
  rw [Bool.eq_iff_iff]
  simp [bytes_eq, and_assoc]
theorem eq_T_api_Edge (x y : T_api_Edge) : (((x.f_From.f_Kind == y.f_From.f_Kind) && ((x.f_From.f_Id == y.f_From.f_Id) && (true))) && (((x.f_To.f_Kind == y.f_To.f_Kind) && ((x.f_To.f_Id == y.f_To.f_Id) && (true))) && ((x.f_Cost == y.f_Cost) && ((x.f_Data == y.f_Data) && (true))))) = decide (x = y) := by
  obtain ⟨⟨v1, v2⟩, ⟨v3, v4⟩, v5, v6⟩ := x
  obtain ⟨⟨v7, v8⟩, ⟨v9, v10⟩, v11, v12⟩ := y
  rw [Bool.eq_iff_iff]
  simp [bytes_eq, and_assoc]
theorem eq_T_api_Stub (x y : T_api_Stub) : ((x.f_Router == y.f_Router) && ((x.f_Prefix == y.f_Prefix) && ((x.f_Bits == y.f_Bits) && ((x.f_Cost == y.f_Cost) && (true))))) = decide (x = y) := by
  obtain ⟨v1, v2, v3, v4⟩ := x
  obtain ⟨v5, v6, v7, v8⟩ := y
  rw [Bool.eq_iff_iff]
  simp [bytes_eq, and_assoc]
theorem eq_T_api_Span (x y : T_api_Span) : (((x.f_Vert.f_Kind == y.f_Vert.f_Kind) && ((x.f_Vert.f_Id == y.f_Vert.f_Id) && (true))) && ((x.f_Prefix == y.f_Prefix) && ((x.f_Bits == y.f_Bits) && (true)))) = decide (x = y) := by
  obtain ⟨⟨v1, v2⟩, v3, v4⟩ := x
  obtain ⟨⟨v5, v6⟩, v7, v8⟩ := y
  rw [Bool.eq_iff_iff]
  simp [bytes_eq, and_assoc]
theorem eq_T_api_Key (x y : T_api_Key) : ((x.f_Kind == y.f_Kind) && ((x.f_Id == y.f_Id) && ((x.f_Adv == y.f_Adv) && (true)))) = decide (x = y) := by
  obtain ⟨v1, v2, v3⟩ := x
  obtain ⟨v4, v5, v6⟩ := y
  rw [Bool.eq_iff_iff]
  simp [bytes_eq, and_assoc]
theorem isf10 : IsF Try.prog 10 := IsF.mk Try.func10 rfl rfl
theorem isf11 : IsF Try.prog 11 := IsF.mk Try.func11 rfl rfl
theorem isf13 : IsF Try.prog 13 := IsF.mk Try.func13 rfl rfl
theorem isf14 : IsF Try.prog 14 := IsF.mk Try.func14 rfl rfl
theorem isf16 : IsF Try.prog 16 := IsF.mk Try.func16 rfl rfl
theorem isf17 : IsF Try.prog 17 := IsF.mk Try.func17 rfl rfl
theorem isf19 : IsF Try.prog 19 := IsF.mk Try.func19 rfl rfl
theorem isf20 : IsF Try.prog 20 := IsF.mk Try.func20 rfl rfl
theorem isf21 : IsF Try.prog 21 := IsF.mk Try.func21 rfl rfl
theorem isf22 : IsF Try.prog 22 := IsF.mk Try.func22 rfl rfl
theorem isf23 : IsF Try.prog 23 := IsF.mk Try.func23 rfl rfl
theorem isf24 : IsF Try.prog 24 := IsF.mk Try.func24 rfl rfl
theorem isf25 : IsF Try.prog 25 := IsF.mk Try.func25 rfl rfl
theorem isf26 : IsF Try.prog 26 := IsF.mk Try.func26 rfl rfl
theorem isf27 : IsF Try.prog 27 := IsF.mk Try.func27 rfl rfl
theorem isf28 : IsF Try.prog 28 := IsF.mk Try.func28 rfl rfl
theorem isf29 : IsF Try.prog 29 := IsF.mk Try.func29 rfl rfl
theorem isf30 : IsF Try.prog 30 := IsF.mk Try.func30 rfl rfl
theorem isf36 : IsF Try.prog 36 := IsF.mk Try.func36 rfl rfl
theorem isf37 : IsF Try.prog 37 := IsF.mk Try.func37 rfl rfl
theorem isf38 : IsF Try.prog 38 := IsF.mk Try.func38 rfl rfl
theorem isf40 : IsF Try.prog 40 := IsF.mk Try.func40 rfl rfl
theorem isf41 : IsF Try.prog 41 := IsF.mk Try.func41 rfl rfl
theorem isf42 : IsF Try.prog 42 := IsF.mk Try.func42 rfl rfl
theorem isf45 : IsF Try.prog 45 := IsF.mk Try.func45 rfl rfl
theorem isf46 : IsF Try.prog 46 := IsF.mk Try.func46 rfl rfl
theorem isf47 : IsF Try.prog 47 := IsF.mk Try.func47 rfl rfl
theorem isf48 : IsF Try.prog 48 := IsF.mk Try.func48 rfl rfl
theorem isf49 : IsF Try.prog 49 := IsF.mk Try.func49 rfl rfl
theorem isf50 : IsF Try.prog 50 := IsF.mk Try.func50 rfl rfl
theorem isf51 : IsF Try.prog 51 := IsF.mk Try.func51 rfl rfl
theorem isf52 : IsF Try.prog 52 := IsF.mk Try.func52 rfl rfl
theorem isf53 : IsF Try.prog 53 := IsF.mk Try.func53 rfl rfl
theorem isf54 : IsF Try.prog 54 := IsF.mk Try.func54 rfl rfl
theorem isf55 : IsF Try.prog 55 := IsF.mk Try.func55 rfl rfl
theorem isf60 : IsF Try.prog 60 := IsF.mk Try.func60 rfl rfl
theorem isf61 : IsF Try.prog 61 := IsF.mk Try.func61 rfl rfl
theorem isf62 : IsF Try.prog 62 := IsF.mk Try.func62 rfl rfl
theorem isf73 : IsF Try.prog 73 := IsF.mk Try.func73 rfl rfl
theorem isf74 : IsF Try.prog 74 := IsF.mk Try.func74 rfl rfl
theorem isf80 : IsF Try.prog 80 := IsF.mk Try.func80 rfl rfl
theorem isf82 : IsF Try.prog 82 := IsF.mk Try.func82 rfl rfl
theorem isf9 : IsF Try.prog 9 := IsF.mk Try.func9 rfl rfl
theorem fa32_0 {E : List (Nat × Value)} {w : World} {x : Operand} {g o : Nat} (hx : lv E x = some (.pointer (some ⟨g, o, none⟩))) : Run Try.prog E w (.fieldAddr 32 x 0) (.pointer (some ⟨g, o + 0, none⟩)) := fa (sz := 0) hx Try.underlying32 rfl rfl (by kernel_rfl)
theorem fa32_1 {E : List (Nat × Value)} {w : World} {x : Operand} {g o : Nat} (hx : lv E x = some (.pointer (some ⟨g, o, none⟩))) : Run Try.prog E w (.fieldAddr 32 x 1) (.pointer (some ⟨g, o + 1, none⟩)) := fa (sz := 0) hx Try.underlying32 rfl rfl (by kernel_rfl)
theorem fa32_2 {E : List (Nat × Value)} {w : World} {x : Operand} {g o : Nat} (hx : lv E x = some (.pointer (some ⟨g, o, none⟩))) : Run Try.prog E w (.fieldAddr 32 x 2) (.pointer (some ⟨g, o + 2, none⟩)) := fa (sz := 0) hx Try.underlying32 rfl rfl (by kernel_rfl)
theorem fa32_3 {E : List (Nat × Value)} {w : World} {x : Operand} {g o : Nat} (hx : lv E x = some (.pointer (some ⟨g, o, none⟩))) : Run Try.prog E w (.fieldAddr 32 x 3) (.pointer (some ⟨g, o + 3, none⟩)) := fa (sz := 0) hx Try.underlying32 rfl rfl (by kernel_rfl)
theorem fa32_4 {E : List (Nat × Value)} {w : World} {x : Operand} {g o : Nat} (hx : lv E x = some (.pointer (some ⟨g, o, none⟩))) : Run Try.prog E w (.fieldAddr 32 x 4) (.pointer (some ⟨g, o + 4, none⟩)) := fa (sz := 0) hx Try.underlying32 rfl rfl (by kernel_rfl)
theorem fa35_0 {E : List (Nat × Value)} {w : World} {x : Operand} {g o : Nat} (hx : lv E x = some (.pointer (some ⟨g, o, none⟩))) : Run Try.prog E w (.fieldAddr 35 x 0) (.pointer (some ⟨g, o + 0, none⟩)) := fa (sz := 0) hx Try.underlying35 rfl rfl (by kernel_rfl)
theorem fa35_1 {E : List (Nat × Value)} {w : World} {x : Operand} {g o : Nat} (hx : lv E x = some (.pointer (some ⟨g, o, none⟩))) : Run Try.prog E w (.fieldAddr 35 x 1) (.pointer (some ⟨g, o + 1, none⟩)) := fa (sz := 0) hx Try.underlying35 rfl rfl (by kernel_rfl)
theorem fa37_1 {E : List (Nat × Value)} {w : World} {x : Operand} {g o : Nat} (hx : lv E x = some (.pointer (some ⟨g, o, none⟩))) : Run Try.prog E w (.fieldAddr 37 x 1) (.pointer (some ⟨g, o + 2, none⟩)) := fa (sz := 1) hx Try.underlying37 rfl rfl (by kernel_rfl)
theorem fa41_0 {E : List (Nat × Value)} {w : World} {x : Operand} {g o : Nat} (hx : lv E x = some (.pointer (some ⟨g, o, none⟩))) : Run Try.prog E w (.fieldAddr 41 x 0) (.pointer (some ⟨g, o + 0, none⟩)) := fa (sz := 0) hx Try.underlying41 rfl rfl (by kernel_rfl)
theorem fa41_1 {E : List (Nat × Value)} {w : World} {x : Operand} {g o : Nat} (hx : lv E x = some (.pointer (some ⟨g, o, none⟩))) : Run Try.prog E w (.fieldAddr 41 x 1) (.pointer (some ⟨g, o + 1, none⟩)) := fa (sz := 0) hx Try.underlying41 rfl rfl (by kernel_rfl)
theorem fa41_2 {E : List (Nat × Value)} {w : World} {x : Operand} {g o : Nat} (hx : lv E x = some (.pointer (some ⟨g, o, none⟩))) : Run Try.prog E w (.fieldAddr 41 x 2) (.pointer (some ⟨g, o + 2, none⟩)) := fa (sz := 0) hx Try.underlying41 rfl rfl (by kernel_rfl)
theorem fa41_3 {E : List (Nat × Value)} {w : World} {x : Operand} {g o : Nat} (hx : lv E x = some (.pointer (some ⟨g, o, none⟩))) : Run Try.prog E w (.fieldAddr 41 x 3) (.pointer (some ⟨g, o + 3, none⟩)) := fa (sz := 0) hx Try.underlying41 rfl rfl (by kernel_rfl)
theorem fa41_4 {E : List (Nat × Value)} {w : World} {x : Operand} {g o : Nat} (hx : lv E x = some (.pointer (some ⟨g, o, none⟩))) : Run Try.prog E w (.fieldAddr 41 x 4) (.pointer (some ⟨g, o + 4, none⟩)) := fa (sz := 0) hx Try.underlying41 rfl rfl (by kernel_rfl)
theorem fa44_0 {E : List (Nat × Value)} {w : World} {x : Operand} {g o : Nat} (hx : lv E x = some (.pointer (some ⟨g, o, none⟩))) : Run Try.prog E w (.fieldAddr 44 x 0) (.pointer (some ⟨g, o + 0, none⟩)) := fa (sz := 6) hx Try.underlying44 rfl rfl (by kernel_rfl)
theorem fa44_1 {E : List (Nat × Value)} {w : World} {x : Operand} {g o : Nat} (hx : lv E x = some (.pointer (some ⟨g, o, none⟩))) : Run Try.prog E w (.fieldAddr 44 x 1) (.pointer (some ⟨g, o + 7, none⟩)) := fa (sz := 0) hx Try.underlying44 rfl rfl (by kernel_rfl)
theorem fa44_2 {E : List (Nat × Value)} {w : World} {x : Operand} {g o : Nat} (hx : lv E x = some (.pointer (some ⟨g, o, none⟩))) : Run Try.prog E w (.fieldAddr 44 x 2) (.pointer (some ⟨g, o + 8, none⟩)) := fa (sz := 0) hx Try.underlying44 rfl rfl (by kernel_rfl)
theorem fa44_3 {E : List (Nat × Value)} {w : World} {x : Operand} {g o : Nat} (hx : lv E x = some (.pointer (some ⟨g, o, none⟩))) : Run Try.prog E w (.fieldAddr 44 x 3) (.pointer (some ⟨g, o + 9, none⟩)) := fa (sz := 0) hx Try.underlying44 rfl rfl (by kernel_rfl)
theorem fa44_4 {E : List (Nat × Value)} {w : World} {x : Operand} {g o : Nat} (hx : lv E x = some (.pointer (some ⟨g, o, none⟩))) : Run Try.prog E w (.fieldAddr 44 x 4) (.pointer (some ⟨g, o + 10, none⟩)) := fa (sz := 0) hx Try.underlying44 rfl rfl (by kernel_rfl)
theorem fa44_5 {E : List (Nat × Value)} {w : World} {x : Operand} {g o : Nat} (hx : lv E x = some (.pointer (some ⟨g, o, none⟩))) : Run Try.prog E w (.fieldAddr 44 x 5) (.pointer (some ⟨g, o + 11, none⟩)) := fa (sz := 0) hx Try.underlying44 rfl rfl (by kernel_rfl)
theorem fa56_0 {E : List (Nat × Value)} {w : World} {x : Operand} {g o : Nat} (hx : lv E x = some (.pointer (some ⟨g, o, none⟩))) : Run Try.prog E w (.fieldAddr 56 x 0) (.pointer (some ⟨g, o + 0, none⟩)) := fa (sz := 0) hx Try.underlying56 rfl rfl (by kernel_rfl)
theorem fa56_1 {E : List (Nat × Value)} {w : World} {x : Operand} {g o : Nat} (hx : lv E x = some (.pointer (some ⟨g, o, none⟩))) : Run Try.prog E w (.fieldAddr 56 x 1) (.pointer (some ⟨g, o + 1, none⟩)) := fa (sz := 0) hx Try.underlying56 rfl rfl (by kernel_rfl)
theorem fa56_2 {E : List (Nat × Value)} {w : World} {x : Operand} {g o : Nat} (hx : lv E x = some (.pointer (some ⟨g, o, none⟩))) : Run Try.prog E w (.fieldAddr 56 x 2) (.pointer (some ⟨g, o + 2, none⟩)) := fa (sz := 0) hx Try.underlying56 rfl rfl (by kernel_rfl)
theorem fa56_3 {E : List (Nat × Value)} {w : World} {x : Operand} {g o : Nat} (hx : lv E x = some (.pointer (some ⟨g, o, none⟩))) : Run Try.prog E w (.fieldAddr 56 x 3) (.pointer (some ⟨g, o + 3, none⟩)) := fa (sz := 0) hx Try.underlying56 rfl rfl (by kernel_rfl)
theorem fa61_0 {E : List (Nat × Value)} {w : World} {x : Operand} {g o : Nat} (hx : lv E x = some (.pointer (some ⟨g, o, none⟩))) : Run Try.prog E w (.fieldAddr 61 x 0) (.pointer (some ⟨g, o + 0, none⟩)) := fa (sz := 0) hx Try.underlying61 rfl rfl (by kernel_rfl)
theorem fa61_1 {E : List (Nat × Value)} {w : World} {x : Operand} {g o : Nat} (hx : lv E x = some (.pointer (some ⟨g, o, none⟩))) : Run Try.prog E w (.fieldAddr 61 x 1) (.pointer (some ⟨g, o + 1, none⟩)) := fa (sz := 0) hx Try.underlying61 rfl rfl (by kernel_rfl)
theorem fa61_2 {E : List (Nat × Value)} {w : World} {x : Operand} {g o : Nat} (hx : lv E x = some (.pointer (some ⟨g, o, none⟩))) : Run Try.prog E w (.fieldAddr 61 x 2) (.pointer (some ⟨g, o + 2, none⟩)) := fa (sz := 0) hx Try.underlying61 rfl rfl (by kernel_rfl)
theorem fa61_3 {E : List (Nat × Value)} {w : World} {x : Operand} {g o : Nat} (hx : lv E x = some (.pointer (some ⟨g, o, none⟩))) : Run Try.prog E w (.fieldAddr 61 x 3) (.pointer (some ⟨g, o + 3, none⟩)) := fa (sz := 0) hx Try.underlying61 rfl rfl (by kernel_rfl)
theorem mo_ : Try.prog.follows .mixedOrders = true := by kernel_rfl
theorem pl35 : PL Try.prog 35 fs35 [(0, 1), (1, 1)] := ⟨Try.underlying35, by kernel_rfl⟩
theorem pl37 : PL Try.prog 37 fs37 [(0, 2), (2, 2), (4, 1), (5, 1)] := ⟨Try.underlying37, by kernel_rfl⟩
theorem pl41 : PL Try.prog 41 fs41 [(0, 1), (1, 1), (2, 1), (3, 1), (4, 1), (5, 1), (6, 1)] := ⟨Try.underlying41, by kernel_rfl⟩
theorem pl44 : PL Try.prog 44 fs44 [(0, 7), (7, 1), (8, 1), (9, 1), (10, 1), (11, 1)] := ⟨Try.underlying44, by kernel_rfl⟩
theorem pl56 : PL Try.prog 56 fs56 [(0, 1), (1, 1), (2, 1), (3, 1)] := ⟨Try.underlying56, by kernel_rfl⟩
theorem pl61 : PL Try.prog 61 fs61 [(0, 1), (1, 1), (2, 1), (3, 1)] := ⟨Try.underlying61, by kernel_rfl⟩
theorem pl72 : PL Try.prog 72 fs72 [(0, 1), (1, 1), (2, 1), (3, 1)] := ⟨Try.underlying72, by kernel_rfl⟩
theorem pl74 : PL Try.prog 74 fs74 [(0, 2), (2, 1), (3, 1)] := ⟨Try.underlying74, by kernel_rfl⟩
theorem pl78 : PL Try.prog 78 fs78 [(0, 1), (1, 1), (2, 1)] := ⟨Try.underlying78, by kernel_rfl⟩
theorem sh35 : Try.prog.stoodInHeld 35 = false := by kernel_rfl
theorem sh37 : Try.prog.stoodInHeld 37 = false := by kernel_rfl
theorem sh72 : Try.prog.stoodInHeld 72 = false := by kernel_rfl
theorem sh74 : Try.prog.stoodInHeld 74 = false := by kernel_rfl
theorem sh78 : Try.prog.stoodInHeld 78 = false := by kernel_rfl
theorem ti24 : TI Try.prog 24 (.slice 44) (.slice none 0 0) 1 24 := TI.mk' Try.underlying24 (by kernel_rfl)
theorem ti26 : TI Try.prog 26 (.slice 35) (.slice none 0 0) 1 24 := TI.mk' Try.underlying26 (by kernel_rfl)
theorem ti27 : TI Try.prog 27 (.slice 37) (.slice none 0 0) 1 24 := TI.mk' Try.underlying27 (by kernel_rfl)
theorem ti28 : TI Try.prog 28 (.slice 72) (.slice none 0 0) 1 24 := TI.mk' Try.underlying28 (by kernel_rfl)
theorem ti29 : TI Try.prog 29 (.slice 74) (.slice none 0 0) 1 24 := TI.mk' Try.underlying29 (by kernel_rfl)
theorem ti3 : TI Try.prog 3 (.int .i64) (.int .i64 0) 1 8 := TI.mk' Try.underlying3 (by kernel_rfl)
theorem ti30 : TI Try.prog 30 (.slice 3) (.slice none 0 0) 1 24 := TI.mk' Try.underlying30 (by kernel_rfl)
theorem ti32 : TI Try.prog 32 ds32 (.agg [(.slice none 0 0), (.slice none 0 0), (.slice none 0 0), (.slice none 0 0), (.slice none 0 0)].toArray) 5 120 := TI.mk' Try.underlying32 (by kernel_rfl)
theorem ti35 : TI Try.prog 35 ds35 (.agg [(.int .i64 0), (.int .i64 0)].toArray) 2 16 := TI.mk' Try.underlying35 (by kernel_rfl)
theorem ti37 : TI Try.prog 37 ds37 (.agg [(.int .i64 0), (.int .i64 0), (.int .i64 0), (.int .i64 0), (.int .i64 0), (.int .i64 0)].toArray) 6 48 := TI.mk' Try.underlying37 (by kernel_rfl)
theorem ti41 : TI Try.prog 41 ds41 (.agg [(.int .i64 0), (.int .i64 0), (.int .i64 0), (.int .i64 0), (.int .i64 0), (.int .i64 0), (.int .i64 0)].toArray) 7 56 := TI.mk' Try.underlying41 (by kernel_rfl)
theorem ti44 : TI Try.prog 44 ds44 (.agg [(.int .i64 0), (.int .i64 0), (.int .i64 0), (.int .i64 0), (.int .i64 0), (.int .i64 0), (.int .i64 0), (.int .i64 0), (.slice none 0 0), (.int .i64 0), (.slice none 0 0), (.slice none 0 0)].toArray) 12 144 := TI.mk' Try.underlying44 (by kernel_rfl)
theorem ti56 : TI Try.prog 56 ds56 (.agg [(.int .i64 0), (.int .i64 0), (.int .i64 0), (.int .i64 0)].toArray) 4 32 := TI.mk' Try.underlying56 (by kernel_rfl)
theorem ti59 : TI Try.prog 59 (.map 3 44) (.map none) 1 8 := TI.mk' Try.underlying59 (by kernel_rfl)
theorem ti61 : TI Try.prog 61 ds61 (.agg [(.slice none 0 0), (.slice none 0 0), (.map none), (.map none)].toArray) 4 64 := TI.mk' Try.underlying61 (by kernel_rfl)
theorem ti72 : TI Try.prog 72 ds72 (.agg [(.int .i64 0), (.int .i64 0), (.int .i64 0), (.int .i64 0)].toArray) 4 32 := TI.mk' Try.underlying72 (by kernel_rfl)
theorem ti74 : TI Try.prog 74 ds74 (.agg [(.int .i64 0), (.int .i64 0), (.int .i64 0), (.int .i64 0)].toArray) 4 32 := TI.mk' Try.underlying74 (by kernel_rfl)
theorem ti78 : TI Try.prog 78 ds78 (.agg [(.int .i64 0), (.int .i64 0), (.int .i64 0)].toArray) 3 24 := TI.mk' Try.underlying78 (by kernel_rfl)

/-! ### plenum/plenumlaw5.Great (function 28) -/
abbrev f_plenumlaw5_Great.R := Bool
noncomputable def f_plenumlaw5_Great (a0 : T_api_Lsa) : Option f_plenumlaw5_Great.R := (if 70 < (a0.f_Links.length : Int) then some true else (if 70 < (a0.f_Routers.length : Int) then some true else some (decide (70 < (a0.f_Verts.length : Int)))))
set_option maxHeartbeats 1000000 in
theorem f_plenumlaw5_Great.ok {z w : World} {F G : Hp} (hG : G ⊆ F) {a0 : T_api_Lsa} {A_a0_8 : Option Addr} {c_a0_8 : Nat} {X_a0_8 : Hp} {A_a0_10 : Option Addr} {c_a0_10 : Nat} {X_a0_10 : Hp} {A_a0_11 : Option Addr} {c_a0_11 : Nat} {X_a0_11 : Hp} {r : f_plenumlaw5_Great.R} (H : f_plenumlaw5_Great a0 = some r) (HF : Fits z w F) (hX_a0_8 : X_a0_8 ⊆ F) (hr_a0_8 : RdS k_T_api_Link X_a0_8 A_a0_8 c_a0_8 a0.f_Links) (hX_a0_10 : X_a0_10 ⊆ F) (hr_a0_10 : RdS (kInt .i64) X_a0_10 A_a0_10 c_a0_10 a0.f_Routers) (hX_a0_11 : X_a0_11 ⊆ F) (hr_a0_11 : RdS k_T_api_Vert X_a0_11 A_a0_11 c_a0_11 a0.f_Verts) :
    Calls Try.prog 28 [.agg [.int .i64 a0.f_Head.f_Age, .int .i64 a0.f_Head.f_Kind, .int .i64 a0.f_Head.f_Id, .int .i64 a0.f_Head.f_Adv, .int .i64 a0.f_Head.f_Seq, .int .i64 a0.f_Head.f_Sum, .int .i64 a0.f_Head.f_Len, .int .i64 a0.f_Flags, .slice A_a0_8 a0.f_Links.length c_a0_8, .int .i64 a0.f_Bits, .slice A_a0_10 a0.f_Routers.length c_a0_10, .slice A_a0_11 a0.f_Verts.length c_a0_11].toArray].toArray w fun e w' => e = .returned (.bool r) ∧ Fits z w' F := by
  unfold f_plenumlaw5_Great at H
  refine enter0 Try.func28 rfl Try.ntmps28 rfl (E := [(0, .agg [.int .i64 a0.f_Head.f_Age, .int .i64 a0.f_Head.f_Kind, .int .i64 a0.f_Head.f_Id, .int .i64 a0.f_Head.f_Adv, .int .i64 a0.f_Head.f_Seq, .int .i64 a0.f_Head.f_Sum, .int .i64 a0.f_Head.f_Len, .int .i64 a0.f_Flags, .slice A_a0_8 a0.f_Links.length c_a0_8, .int .i64 a0.f_Bits, .slice A_a0_10 a0.f_Routers.length c_a0_10, .slice A_a0_11 a0.f_Verts.length c_a0_11].toArray)]) rfl ?_
  refine cSeq (fun K1 hK1 => ?_)
  refine cRgn [] trivial ?_
  refine eW (oBox HF rfl) rfl ?_
  rintro _ w1 ⟨g1, rfl, HF1⟩
  refine sL (asg rfl) rfl ?_
  refine lEnd (K := fun _ _ => True) ?_
  refine kN (?_)
  refine hK1 _ _ ?_
  refine cSeq (fun K2 hK2 => ?_)
  refine cRgn [(4, 7), (10, 13)] ⟨rfl, rfl, trivial⟩ ?_
  refine sL (fa44_2 rfl) rfl ?_
  refine sL (ld rfl Try.underlying42 rfl (HF1.box (mem_h) rfl)) rfl ?_
  refine sL (lnS rfl Try.underlying42) rfl ?_
  refine sL (bGtr rfl rfl) rfl ?_
  refine sL (mv rfl) rfl ?_
  by_cases c1 : 70 < (a0.f_Links.length : Int)
  · replace H := itT c1 H
    refine lSet (i := 7) rfl (dT c1) ?_
    refine sN rfl rfl rfl rfl ?_
    refine sN rfl rfl rfl rfl ?_
    refine sN rfl rfl rfl rfl ?_
    refine sN rfl rfl rfl rfl ?_
    refine sL (pkT rfl rfl) rfl ?_
    refine sL (mv rfl) rfl ?_
    refine sN rfl rfl rfl rfl ?_
    refine sN rfl rfl rfl rfl ?_
    refine sN rfl rfl rfl rfl ?_
    refine sN rfl rfl rfl rfl ?_
    refine sL (pkT rfl rfl) rfl ?_
    refine sL (asg rfl) rfl ?_
    refine lEnd (K := fun _ _ => True) ?_
    refine kN (?_)
    refine hK2 _ _ ?_
    refine cRet ?_
    obtain rfl := Option.some.inj H
    refine ret1 rfl rfl ?_
    have HF2 := HF1.sublist (sl_dc (List.Sublist.refl _))
    exact ⟨rfl, HF2⟩
  · replace H := itF c1 H
    refine lSet (i := 7) rfl (dF c1) ?_
    refine sG rfl rfl (fa44_4 rfl) rfl ?_
    refine sG rfl rfl (ld rfl Try.underlying30 rfl (HF1.box (mem_h) rfl)) rfl ?_
    refine sG rfl rfl (lnS rfl Try.underlying30) rfl ?_
    refine sG rfl rfl (bGtr rfl rfl) rfl ?_
    refine sL (pkF rfl rfl) rfl ?_
    refine sL (mv rfl) rfl ?_
    by_cases c2 : 70 < (a0.f_Routers.length : Int)
    · replace H := itT c2 H
      refine lSet (i := 13) rfl (dT c2) ?_
      refine sN rfl rfl rfl rfl ?_
      refine sN rfl rfl rfl rfl ?_
      refine sN rfl rfl rfl rfl ?_
      refine sN rfl rfl rfl rfl ?_
      refine sL (pkT rfl rfl) rfl ?_
      refine sL (asg rfl) rfl ?_
      refine lEnd (K := fun _ _ => True) ?_
      refine kN (?_)
      refine hK2 _ _ ?_
      refine cRet ?_
      obtain rfl := Option.some.inj H
      refine ret1 rfl rfl ?_
      have HF3 := HF1.sublist (sl_dc (List.Sublist.refl _))
      exact ⟨rfl, HF3⟩
    · replace H := itF c2 H
      refine lSet (i := 13) rfl (dF c2) ?_
      refine sG rfl rfl (fa44_5 rfl) rfl ?_
      refine sG rfl rfl (ld rfl Try.underlying26 rfl (HF1.box (mem_h) rfl)) rfl ?_
      refine sG rfl rfl (lnS rfl Try.underlying26) rfl ?_
      refine sG rfl rfl (bGtr rfl rfl) rfl ?_
      refine sL (pkF rfl rfl) rfl ?_
      refine sL (asg rfl) rfl ?_
      refine lEnd (K := fun _ _ => True) ?_
      refine kN (?_)
      refine hK2 _ _ ?_
      refine cRet ?_
      obtain rfl := Option.some.inj H
      refine ret1 rfl rfl ?_
      have HF4 := HF1.sublist (sl_dc (List.Sublist.refl _))
      exact ⟨rfl, HF4⟩
/-! ### plenum/plenumref1.Kind (function 62) -/
abbrev f_plenumref1_Kind.R := Bool
noncomputable def f_plenumref1_Kind (a0 : Int) : Option f_plenumref1_Kind.R := (if a0 = 1 then some true else (if a0 = 2 then some true else some (decide (a0 = 6))))
set_option maxHeartbeats 1000000 in
theorem f_plenumref1_Kind.ok {z w : World} {F : Hp} {a0 : Int} {r : f_plenumref1_Kind.R} (H : f_plenumref1_Kind a0 = some r) (HF : Fits z w F) :
    Calls Try.prog 62 [.int .i64 a0].toArray w fun e w' => e = .returned (.bool r) ∧ Fits z w' F := by
  unfold f_plenumref1_Kind at H
  refine enter0 Try.func62 rfl Try.ntmps62 rfl (E := [(0, .int .i64 a0)]) rfl ?_
  refine cSeq (fun K1 hK1 => ?_)
  refine cRgn [] trivial ?_
  refine sL (asg rfl) rfl ?_
  refine lEnd (K := fun _ _ => True) ?_
  refine kN (?_)
  refine hK1 _ _ ?_
  refine cSeq (fun K2 hK2 => ?_)
  refine cRgn [(2, 5), (6, 9)] ⟨rfl, rfl, trivial⟩ ?_
  refine sL (mv rfl) rfl ?_
  refine sL (bEql rfl rfl) rfl ?_
  refine sL (mv rfl) rfl ?_
  by_cases c1 : a0 = 1
  · replace H := itT c1 H
    refine lSet (i := 5) rfl (dT c1) ?_
    refine sN rfl rfl rfl rfl ?_
    refine sN rfl rfl rfl rfl ?_
    refine sL (pkT rfl rfl) rfl ?_
    refine sL (mv rfl) rfl ?_
    refine sN rfl rfl rfl rfl ?_
    refine sN rfl rfl rfl rfl ?_
    refine sL (pkT rfl rfl) rfl ?_
    refine sL (asg rfl) rfl ?_
    refine lEnd (K := fun _ _ => True) ?_
    refine kN (?_)
    refine hK2 _ _ ?_
    refine cRet ?_
    obtain rfl := Option.some.inj H
    refine ret1 rfl rfl ?_
    exact ⟨rfl, HF⟩
  · replace H := itF c1 H
    refine lSet (i := 5) rfl (dF c1) ?_
    refine sG rfl rfl (mv rfl) rfl ?_
    refine sG rfl rfl (bEql rfl rfl) rfl ?_
    refine sL (pkF rfl rfl) rfl ?_
    refine sL (mv rfl) rfl ?_
    by_cases c2 : a0 = 2
    · replace H := itT c2 H
      refine lSet (i := 9) rfl (dT c2) ?_
      refine sN rfl rfl rfl rfl ?_
      refine sN rfl rfl rfl rfl ?_
      refine sL (pkT rfl rfl) rfl ?_
      refine sL (asg rfl) rfl ?_
      refine lEnd (K := fun _ _ => True) ?_
      refine kN (?_)
      refine hK2 _ _ ?_
      refine cRet ?_
      obtain rfl := Option.some.inj H
      refine ret1 rfl rfl ?_
      exact ⟨rfl, HF⟩
    · replace H := itF c2 H
      refine lSet (i := 9) rfl (dF c2) ?_
      refine sG rfl rfl (mv rfl) rfl ?_
      refine sG rfl rfl (bEql rfl rfl) rfl ?_
      refine sL (pkF rfl rfl) rfl ?_
      refine sL (asg rfl) rfl ?_
      refine lEnd (K := fun _ _ => True) ?_
      refine kN (?_)
      refine hK2 _ _ ?_
      refine cRet ?_
      obtain rfl := Option.some.inj H
      refine ret1 rfl rfl ?_
      exact ⟨rfl, HF⟩
/-! ### plenum/plenumref1.Right (function 55) -/
abbrev f_plenumref1_Right.R := Bool
noncomputable def f_plenumref1_Right (a0 : Int) : Option f_plenumref1_Right.R := (if 0 ≤ a0 then some (decide (a0 ≤ 4294967295)) else some false)
set_option maxHeartbeats 1000000 in
theorem f_plenumref1_Right.ok {z w : World} {F : Hp} {a0 : Int} {r : f_plenumref1_Right.R} (H : f_plenumref1_Right a0 = some r) (HF : Fits z w F) :
    Calls Try.prog 55 [.int .i64 a0].toArray w fun e w' => e = .returned (.bool r) ∧ Fits z w' F := by
  unfold f_plenumref1_Right at H
  refine enter0 Try.func55 rfl Try.ntmps55 rfl (E := [(0, .int .i64 a0)]) rfl ?_
  refine cSeq (fun K1 hK1 => ?_)
  refine cRgn [] trivial ?_
  refine sL (asg rfl) rfl ?_
  refine lEnd (K := fun _ _ => True) ?_
  refine kN (?_)
  refine hK1 _ _ ?_
  refine cSeq (fun K2 hK2 => ?_)
  refine cRgn [(2, 5)] ⟨rfl, trivial⟩ ?_
  refine sL (mv rfl) rfl ?_
  refine sL (bGeq rfl rfl) rfl ?_
  refine sL (mv rfl) rfl ?_
  by_cases c1 : 0 ≤ a0
  · replace H := itT c1 H
    refine lSet (i := 5) rfl (dT c1) ?_
    refine sG rfl rfl (mv rfl) rfl ?_
    refine sG rfl rfl (bLeq rfl rfl) rfl ?_
    refine sL (pkT rfl rfl) rfl ?_
    refine sL (asg rfl) rfl ?_
    refine lEnd (K := fun _ _ => True) ?_
    refine kN (?_)
    refine hK2 _ _ ?_
    refine cRet ?_
    obtain rfl := Option.some.inj H
    refine ret1 rfl rfl ?_
    exact ⟨rfl, HF⟩
  · replace H := itF c1 H
    refine lSet (i := 5) rfl (dF c1) ?_
    refine sN rfl rfl rfl rfl ?_
    refine sN rfl rfl rfl rfl ?_
    refine sL (pkF rfl rfl) rfl ?_
    refine sL (asg rfl) rfl ?_
    refine lEnd (K := fun _ _ => True) ?_
    refine kN (?_)
    refine hK2 _ _ ?_
    refine cRet ?_
    obtain rfl := Option.some.inj H
    refine ret1 rfl rfl ?_
    exact ⟨rfl, HF⟩
/-! ### plenum/plenumref1.headRight (function 54) -/
abbrev f_plenumref1_headRight.R := Bool
noncomputable def f_plenumref1_headRight (a0 : T_api_Head) : Option f_plenumref1_headRight.R := ((f_plenumref1_Kind a0.f_Kind).bind fun t1 => (if t1 = true then (if 0 ≤ a0.f_Age then (if a0.f_Age ≤ 3600 then ((f_plenumref1_Right a0.f_Id).bind fun t2 => (if t2 = true then ((f_plenumref1_Right a0.f_Adv).bind fun t3 => (if t3 = true then (if a0.f_Adv = 0 then some false else (if (-2147483647) ≤ a0.f_Seq then some (decide (a0.f_Seq ≤ 2147483647)) else some false)) else some false)) else some false)) else some false) else some false) else some false))
set_option maxHeartbeats 1000000 in
theorem f_plenumref1_headRight.ok {z w : World} {F : Hp} {a0 : T_api_Head} {r : f_plenumref1_headRight.R} (H : f_plenumref1_headRight a0 = some r) (HF : Fits z w F) :
    Calls Try.prog 54 [.agg [.int .i64 a0.f_Age, .int .i64 a0.f_Kind, .int .i64 a0.f_Id, .int .i64 a0.f_Adv, .int .i64 a0.f_Seq, .int .i64 a0.f_Sum, .int .i64 a0.f_Len].toArray].toArray w fun e w' => e = .returned (.bool r) ∧ Fits z w' F := by
  unfold f_plenumref1_headRight at H
  refine enter0 Try.func54 rfl Try.ntmps54 rfl (E := [(0, .agg [.int .i64 a0.f_Age, .int .i64 a0.f_Kind, .int .i64 a0.f_Id, .int .i64 a0.f_Adv, .int .i64 a0.f_Seq, .int .i64 a0.f_Sum, .int .i64 a0.f_Len].toArray)]) rfl ?_
  refine cSeq (fun K1 hK1 => ?_)
  refine cRgn [] trivial ?_
  refine eW (oBox HF rfl) rfl ?_
  rintro _ w1 ⟨g1, rfl, HF1⟩
  refine sL (asg rfl) rfl ?_
  refine lEnd (K := fun _ _ => True) ?_
  refine kN (?_)
  refine hK1 _ _ ?_
  refine cSeq (fun K2 hK2 => ?_)
  refine cRgn [(3, 6), (8, 11), (13, 16), (18, 21), (23, 26), (28, 31), (33, 36)] ⟨rfl, rfl, rfl, rfl, rfl, rfl, rfl, trivial⟩ ?_
  refine sL (fa41_1 rfl) rfl ?_
  refine sL (ld rfl Try.underlying3 rfl (HF1.box (mem_h) rfl)) rfl ?_
  replace H := bnd H; obtain ⟨t1, J1, H⟩ := H
  refine eCall isf62 rfl rfl rfl (f_plenumref1_Kind.ok J1 HF1) ?_
  rintro _ w2 ⟨rfl, HF2⟩
  refine ⟨_, rfl, ?_⟩
  refine sL (mv rfl) rfl ?_
  by_cases c1 : t1 = true
  · replace H := itT c1 H
    refine lSet (i := 6) rfl (vT c1) ?_
    refine sG rfl rfl (fa41_0 rfl) rfl ?_
    refine sG rfl rfl (ld rfl Try.underlying3 rfl (HF2.box (mem_h) rfl)) rfl ?_
    refine sG rfl rfl (bGeq rfl rfl) rfl ?_
    refine sL (pkT rfl rfl) rfl ?_
    refine sL (mv rfl) rfl ?_
    by_cases c2 : 0 ≤ a0.f_Age
    · replace H := itT c2 H
      refine lSet (i := 11) rfl (dT c2) ?_
      refine sG rfl rfl (fa41_0 rfl) rfl ?_
      refine sG rfl rfl (ld rfl Try.underlying3 rfl (HF2.box (mem_h) rfl)) rfl ?_
      refine sG rfl rfl (bLeq rfl rfl) rfl ?_
      refine sL (pkT rfl rfl) rfl ?_
      refine sL (mv rfl) rfl ?_
      by_cases c3 : a0.f_Age ≤ 3600
      · replace H := itT c3 H
        refine lSet (i := 16) rfl (dT c3) ?_
        refine sG rfl rfl (fa41_2 rfl) rfl ?_
        refine sG rfl rfl (ld rfl Try.underlying3 rfl (HF2.box (mem_h) rfl)) rfl ?_
        replace H := bnd H; obtain ⟨t2, J2, H⟩ := H
        refine eCallG rfl rfl isf55 rfl rfl rfl (f_plenumref1_Right.ok J2 HF2) ?_
        rintro _ w3 ⟨rfl, HF3⟩
        refine ⟨_, rfl, ?_⟩
        refine sL (pkT rfl rfl) rfl ?_
        refine sL (mv rfl) rfl ?_
        by_cases c4 : t2 = true
        · replace H := itT c4 H
          refine lSet (i := 21) rfl (vT c4) ?_
          refine sG rfl rfl (fa41_3 rfl) rfl ?_
          refine sG rfl rfl (ld rfl Try.underlying3 rfl (HF3.box (mem_h) rfl)) rfl ?_
          replace H := bnd H; obtain ⟨t3, J3, H⟩ := H
          refine eCallG rfl rfl isf55 rfl rfl rfl (f_plenumref1_Right.ok J3 HF3) ?_
          rintro _ w4 ⟨rfl, HF4⟩
          refine ⟨_, rfl, ?_⟩
          refine sL (pkT rfl rfl) rfl ?_
          refine sL (mv rfl) rfl ?_
          by_cases c5 : t3 = true
          · replace H := itT c5 H
            refine lSet (i := 26) rfl (vT c5) ?_
            refine sG rfl rfl (fa41_3 rfl) rfl ?_
            refine sG rfl rfl (ld rfl Try.underlying3 rfl (HF4.box (mem_h) rfl)) rfl ?_
            refine sG rfl rfl (bNeq rfl rfl) rfl ?_
            refine sL (pkT rfl rfl) rfl ?_
            refine sL (mv rfl) rfl ?_
            by_cases c6 : a0.f_Adv = 0
            · replace H := itT c6 H
              refine lSet (i := 31) rfl (nF c6) ?_
              refine sN rfl rfl rfl rfl ?_
              refine sN rfl rfl rfl rfl ?_
              refine sN rfl rfl rfl rfl ?_
              refine sL (pkF rfl rfl) rfl ?_
              refine sL (mv rfl) rfl ?_
              refine sN rfl rfl rfl rfl ?_
              refine sN rfl rfl rfl rfl ?_
              refine sN rfl rfl rfl rfl ?_
              refine sL (pkF rfl rfl) rfl ?_
              refine sL (asg rfl) rfl ?_
              refine lEnd (K := fun _ _ => True) ?_
              refine kN (?_)
              refine hK2 _ _ ?_
              refine cRet ?_
              obtain rfl := Option.some.inj H
              refine ret1 rfl rfl ?_
              have HF5 := HF4.sublist (sl_dc (List.Sublist.refl _))
              exact ⟨rfl, HF5⟩
            · replace H := itF c6 H
              refine lSet (i := 31) rfl (nT c6) ?_
              refine sG rfl rfl (fa41_4 rfl) rfl ?_
              refine sG rfl rfl (ld rfl Try.underlying3 rfl (HF4.box (mem_h) rfl)) rfl ?_
              refine sG rfl rfl (bGeq rfl rfl) rfl ?_
              refine sL (pkT rfl rfl) rfl ?_
              refine sL (mv rfl) rfl ?_
              by_cases c7 : (-2147483647) ≤ a0.f_Seq
              · replace H := itT c7 H
                refine lSet (i := 36) rfl (dT c7) ?_
                refine sG rfl rfl (fa41_4 rfl) rfl ?_
                refine sG rfl rfl (ld rfl Try.underlying3 rfl (HF4.box (mem_h) rfl)) rfl ?_
                refine sG rfl rfl (bLeq rfl rfl) rfl ?_
                refine sL (pkT rfl rfl) rfl ?_
                refine sL (asg rfl) rfl ?_
                refine lEnd (K := fun _ _ => True) ?_
                refine kN (?_)
                refine hK2 _ _ ?_
                refine cRet ?_
                obtain rfl := Option.some.inj H
                refine ret1 rfl rfl ?_
                have HF6 := HF4.sublist (sl_dc (List.Sublist.refl _))
                exact ⟨rfl, HF6⟩
              · replace H := itF c7 H
                refine lSet (i := 36) rfl (dF c7) ?_
                refine sN rfl rfl rfl rfl ?_
                refine sN rfl rfl rfl rfl ?_
                refine sN rfl rfl rfl rfl ?_
                refine sL (pkF rfl rfl) rfl ?_
                refine sL (asg rfl) rfl ?_
                refine lEnd (K := fun _ _ => True) ?_
                refine kN (?_)
                refine hK2 _ _ ?_
                refine cRet ?_
                obtain rfl := Option.some.inj H
                refine ret1 rfl rfl ?_
                have HF7 := HF4.sublist (sl_dc (List.Sublist.refl _))
                exact ⟨rfl, HF7⟩
          · replace H := itF c5 H
            refine lSet (i := 26) rfl (vF c5) ?_
            refine sN rfl rfl rfl rfl ?_
            refine sN rfl rfl rfl rfl ?_
            refine sN rfl rfl rfl rfl ?_
            refine sL (pkF rfl rfl) rfl ?_
            refine sL (mv rfl) rfl ?_
            refine sN rfl rfl rfl rfl ?_
            refine sN rfl rfl rfl rfl ?_
            refine sN rfl rfl rfl rfl ?_
            refine sL (pkF rfl rfl) rfl ?_
            refine sL (mv rfl) rfl ?_
            refine sN rfl rfl rfl rfl ?_
            refine sN rfl rfl rfl rfl ?_
            refine sN rfl rfl rfl rfl ?_
            refine sL (pkF rfl rfl) rfl ?_
            refine sL (asg rfl) rfl ?_
            refine lEnd (K := fun _ _ => True) ?_
            refine kN (?_)
            refine hK2 _ _ ?_
            refine cRet ?_
            obtain rfl := Option.some.inj H
            refine ret1 rfl rfl ?_
            have HF8 := HF4.sublist (sl_dc (List.Sublist.refl _))
            exact ⟨rfl, HF8⟩
        · replace H := itF c4 H
          refine lSet (i := 21) rfl (vF c4) ?_
          refine sN rfl rfl rfl rfl ?_
          refine sN rfl rfl rfl rfl ?_
          refine sN rfl rfl rfl rfl ?_
          refine sL (pkF rfl rfl) rfl ?_
          refine sL (mv rfl) rfl ?_
          refine sN rfl rfl rfl rfl ?_
          refine sN rfl rfl rfl rfl ?_
          refine sN rfl rfl rfl rfl ?_
          refine sL (pkF rfl rfl) rfl ?_
          refine sL (mv rfl) rfl ?_
          refine sN rfl rfl rfl rfl ?_
          refine sN rfl rfl rfl rfl ?_
          refine sN rfl rfl rfl rfl ?_
          refine sL (pkF rfl rfl) rfl ?_
          refine sL (mv rfl) rfl ?_
          refine sN rfl rfl rfl rfl ?_
          refine sN rfl rfl rfl rfl ?_
          refine sN rfl rfl rfl rfl ?_
          refine sL (pkF rfl rfl) rfl ?_
          refine sL (asg rfl) rfl ?_
          refine lEnd (K := fun _ _ => True) ?_
          refine kN (?_)
          refine hK2 _ _ ?_
          refine cRet ?_
          obtain rfl := Option.some.inj H
          refine ret1 rfl rfl ?_
          have HF9 := HF3.sublist (sl_dc (List.Sublist.refl _))
          exact ⟨rfl, HF9⟩
      · replace H := itF c3 H
        refine lSet (i := 16) rfl (dF c3) ?_
        refine sN rfl rfl rfl rfl ?_
        refine sN rfl rfl rfl rfl ?_
        refine sN rfl rfl rfl rfl ?_
        refine sL (pkF rfl rfl) rfl ?_
        refine sL (mv rfl) rfl ?_
        refine sN rfl rfl rfl rfl ?_
        refine sN rfl rfl rfl rfl ?_
        refine sN rfl rfl rfl rfl ?_
        refine sL (pkF rfl rfl) rfl ?_
        refine sL (mv rfl) rfl ?_
        refine sN rfl rfl rfl rfl ?_
        refine sN rfl rfl rfl rfl ?_
        refine sN rfl rfl rfl rfl ?_
        refine sL (pkF rfl rfl) rfl ?_
        refine sL (mv rfl) rfl ?_
        refine sN rfl rfl rfl rfl ?_
        refine sN rfl rfl rfl rfl ?_
        refine sN rfl rfl rfl rfl ?_
        refine sL (pkF rfl rfl) rfl ?_
        refine sL (mv rfl) rfl ?_
        refine sN rfl rfl rfl rfl ?_
        refine sN rfl rfl rfl rfl ?_
        refine sN rfl rfl rfl rfl ?_
        refine sL (pkF rfl rfl) rfl ?_
        refine sL (asg rfl) rfl ?_
        refine lEnd (K := fun _ _ => True) ?_
        refine kN (?_)
        refine hK2 _ _ ?_
        refine cRet ?_
        obtain rfl := Option.some.inj H
        refine ret1 rfl rfl ?_
        have HF10 := HF2.sublist (sl_dc (List.Sublist.refl _))
        exact ⟨rfl, HF10⟩
    · replace H := itF c2 H
      refine lSet (i := 11) rfl (dF c2) ?_
      refine sN rfl rfl rfl rfl ?_
      refine sN rfl rfl rfl rfl ?_
      refine sN rfl rfl rfl rfl ?_
      refine sL (pkF rfl rfl) rfl ?_
      refine sL (mv rfl) rfl ?_
      refine sN rfl rfl rfl rfl ?_
      refine sN rfl rfl rfl rfl ?_
      refine sN rfl rfl rfl rfl ?_
      refine sL (pkF rfl rfl) rfl ?_
      refine sL (mv rfl) rfl ?_
      refine sN rfl rfl rfl rfl ?_
      refine sN rfl rfl rfl rfl ?_
      refine sN rfl rfl rfl rfl ?_
      refine sL (pkF rfl rfl) rfl ?_
      refine sL (mv rfl) rfl ?_
      refine sN rfl rfl rfl rfl ?_
      refine sN rfl rfl rfl rfl ?_
      refine sN rfl rfl rfl rfl ?_
      refine sL (pkF rfl rfl) rfl ?_
      refine sL (mv rfl) rfl ?_
      refine sN rfl rfl rfl rfl ?_
      refine sN rfl rfl rfl rfl ?_
      refine sN rfl rfl rfl rfl ?_
      refine sL (pkF rfl rfl) rfl ?_
      refine sL (mv rfl) rfl ?_
      refine sN rfl rfl rfl rfl ?_
      refine sN rfl rfl rfl rfl ?_
      refine sN rfl rfl rfl rfl ?_
      refine sL (pkF rfl rfl) rfl ?_
      refine sL (asg rfl) rfl ?_
      refine lEnd (K := fun _ _ => True) ?_
      refine kN (?_)
      refine hK2 _ _ ?_
      refine cRet ?_
      obtain rfl := Option.some.inj H
      refine ret1 rfl rfl ?_
      have HF11 := HF2.sublist (sl_dc (List.Sublist.refl _))
      exact ⟨rfl, HF11⟩
  · replace H := itF c1 H
    refine lSet (i := 6) rfl (vF c1) ?_
    refine sN rfl rfl rfl rfl ?_
    refine sN rfl rfl rfl rfl ?_
    refine sN rfl rfl rfl rfl ?_
    refine sL (pkF rfl rfl) rfl ?_
    refine sL (mv rfl) rfl ?_
    refine sN rfl rfl rfl rfl ?_
    refine sN rfl rfl rfl rfl ?_
    refine sN rfl rfl rfl rfl ?_
    refine sL (pkF rfl rfl) rfl ?_
    refine sL (mv rfl) rfl ?_
    refine sN rfl rfl rfl rfl ?_
    refine sN rfl rfl rfl rfl ?_
    refine sN rfl rfl rfl rfl ?_
    refine sL (pkF rfl rfl) rfl ?_
    refine sL (mv rfl) rfl ?_
    refine sN rfl rfl rfl rfl ?_
    refine sN rfl rfl rfl rfl ?_
    refine sN rfl rfl rfl rfl ?_
    refine sL (pkF rfl rfl) rfl ?_
    refine sL (mv rfl) rfl ?_
    refine sN rfl rfl rfl rfl ?_
    refine sN rfl rfl rfl rfl ?_
    refine sN rfl rfl rfl rfl ?_
    refine sL (pkF rfl rfl) rfl ?_
    refine sL (mv rfl) rfl ?_
    refine sN rfl rfl rfl rfl ?_
    refine sN rfl rfl rfl rfl ?_
    refine sN rfl rfl rfl rfl ?_
    refine sL (pkF rfl rfl) rfl ?_
    refine sL (mv rfl) rfl ?_
    refine sN rfl rfl rfl rfl ?_
    refine sN rfl rfl rfl rfl ?_
    refine sN rfl rfl rfl rfl ?_
    refine sL (pkF rfl rfl) rfl ?_
    refine sL (asg rfl) rfl ?_
    refine lEnd (K := fun _ _ => True) ?_
    refine kN (?_)
    refine hK2 _ _ ?_
    refine cRet ?_
    obtain rfl := Option.some.inj H
    refine ret1 rfl rfl ?_
    have HF12 := HF2.sublist (sl_dc (List.Sublist.refl _))
    exact ⟨rfl, HF12⟩
/-! ### plenum/plenumref1.RightLsa (function 29) -/
abbrev f_plenumref1_RightLsa.R := Bool
noncomputable def f_plenumref1_RightLsa.b0 (a0 : T_api_Lsa) (s3 : Int) : Option (Sum (Int) (Sum (Int) f_plenumref1_RightLsa.R)) := (if s3 < (a0.f_Links.length : Int) then (if 0 ≤ s3 then (if ((rd a0.f_Links s3).f_Kind) < 1 then some (.inr (.inr false)) else (if 3 < ((rd a0.f_Links s3).f_Kind) then some (.inr (.inr false)) else ((f_plenumref1_Right ((rd a0.f_Links s3).f_Id)).bind fun t7 => (if t7 = true then ((f_plenumref1_Right ((rd a0.f_Links s3).f_Data)).bind fun t8 => (if t8 = true then (if ((rd a0.f_Links s3).f_Cost) < 0 then some (.inr (.inr false)) else (if 65535 < ((rd a0.f_Links s3).f_Cost) then some (.inr (.inr false)) else some (.inl (IntKind.i64.wrap (s3 + 1))))) else some (.inr (.inr false)))) else some (.inr (.inr false)))))) else none) else some (.inr (.inl s3)))
noncomputable def f_plenumref1_RightLsa.b1 (a0 : T_api_Lsa) (s4 : Int) : Option (Sum (Int) (Sum (Int) f_plenumref1_RightLsa.R)) := (if s4 < (a0.f_Routers.length : Int) then (if 0 ≤ s4 then ((f_plenumref1_Right (rd a0.f_Routers s4)).bind fun t11 => (if t11 = true then some (.inl (IntKind.i64.wrap (s4 + 1))) else some (.inr (.inr false)))) else none) else some (.inr (.inl s4)))
noncomputable def f_plenumref1_RightLsa.b2 (a0 : T_api_Lsa) (s5 : Int) : Option (Sum (Int) (Sum (Int) f_plenumref1_RightLsa.R)) := (if s5 < (a0.f_Verts.length : Int) then (if 0 ≤ s5 then (if ((rd a0.f_Verts s5).f_Kind) < 1 then some (.inr (.inr false)) else (if 2 < ((rd a0.f_Verts s5).f_Kind) then some (.inr (.inr false)) else ((f_plenumref1_Right ((rd a0.f_Verts s5).f_Id)).bind fun t14 => (if t14 = true then some (.inl (IntKind.i64.wrap (s5 + 1))) else some (.inr (.inr false)))))) else none) else some (.inr (.inl s5)))
noncomputable def f_plenumref1_RightLsa (a0 : T_api_Lsa) : Option f_plenumref1_RightLsa.R := (((((f_plenumref1_headRight a0.f_Head).bind fun t2 => (if t2 = true then (if a0.f_Flags < 0 then some (.inl true) else (if 255 < a0.f_Flags then some (.inl true) else (if 64 < (a0.f_Links.length : Int) then some (.inl true) else (if a0.f_Bits < 0 then some (.inl true) else (if 32 < a0.f_Bits then some (.inl true) else (if 64 < (a0.f_Routers.length : Int) then some (.inl true) else some (.inl (decide (64 < (a0.f_Verts.length : Int)))))))))) else some (.inl true))) : Option (Sum (Bool) f_plenumref1_RightLsa.R))).bind fun y1 => match y1 with | .inl s1 => (if s1 = true then some false else ((((if a0.f_Head.f_Kind = 1 then (if a0.f_Head.f_Kind = 2 then (if a0.f_Head.f_Kind = 6 then some (.inl false) else some (.inl (decide (0 < (a0.f_Verts.length : Int))))) else (if a0.f_Bits = 0 then (if 0 < (a0.f_Routers.length : Int) then some (.inl true) else (if a0.f_Head.f_Kind = 6 then some (.inl false) else some (.inl (decide (0 < (a0.f_Verts.length : Int)))))) else some (.inl true))) else (if a0.f_Flags = 0 then (if 0 < (a0.f_Links.length : Int) then some (.inl true) else (if a0.f_Head.f_Kind = 2 then (if a0.f_Head.f_Kind = 6 then some (.inl false) else some (.inl (decide (0 < (a0.f_Verts.length : Int))))) else (if a0.f_Bits = 0 then (if 0 < (a0.f_Routers.length : Int) then some (.inl true) else (if a0.f_Head.f_Kind = 6 then some (.inl false) else some (.inl (decide (0 < (a0.f_Verts.length : Int)))))) else some (.inl true)))) else some (.inl true))) : Option (Sum (Bool) f_plenumref1_RightLsa.R))).bind fun y2 => match y2 with | .inl s2 => (if s2 = true then some false else ((loopO (f_plenumref1_RightLsa.b0 a0) 0).bind fun y3 => match y3 with | .inl s3 => ((loopO (f_plenumref1_RightLsa.b1 a0) 0).bind fun y5 => match y5 with | .inl s4 => ((loopO (f_plenumref1_RightLsa.b2 a0) 0).bind fun y7 => match y7 with | .inl s5 => some true | .inr r_ => some r_) | .inr r_ => some r_) | .inr r_ => some r_)) | .inr r_ => some r_)) | .inr r_ => some r_)
set_option maxHeartbeats 1000000 in
theorem f_plenumref1_RightLsa.ok {z w : World} {F G : Hp} (hG : G ⊆ F) {a0 : T_api_Lsa} {A_a0_8 : Option Addr} {c_a0_8 : Nat} {X_a0_8 : Hp} {A_a0_10 : Option Addr} {c_a0_10 : Nat} {X_a0_10 : Hp} {A_a0_11 : Option Addr} {c_a0_11 : Nat} {X_a0_11 : Hp} {r : f_plenumref1_RightLsa.R} (H : f_plenumref1_RightLsa a0 = some r) (HF : Fits z w F) (hX_a0_8 : X_a0_8 ⊆ F) (hr_a0_8 : RdS k_T_api_Link X_a0_8 A_a0_8 c_a0_8 a0.f_Links) (hX_a0_10 : X_a0_10 ⊆ F) (hr_a0_10 : RdS (kInt .i64) X_a0_10 A_a0_10 c_a0_10 a0.f_Routers) (hX_a0_11 : X_a0_11 ⊆ F) (hr_a0_11 : RdS k_T_api_Vert X_a0_11 A_a0_11 c_a0_11 a0.f_Verts) :
    Calls Try.prog 29 [.agg [.int .i64 a0.f_Head.f_Age, .int .i64 a0.f_Head.f_Kind, .int .i64 a0.f_Head.f_Id, .int .i64 a0.f_Head.f_Adv, .int .i64 a0.f_Head.f_Seq, .int .i64 a0.f_Head.f_Sum, .int .i64 a0.f_Head.f_Len, .int .i64 a0.f_Flags, .slice A_a0_8 a0.f_Links.length c_a0_8, .int .i64 a0.f_Bits, .slice A_a0_10 a0.f_Routers.length c_a0_10, .slice A_a0_11 a0.f_Verts.length c_a0_11].toArray].toArray w fun e w' => e = .returned (.bool r) ∧ Fits z w' F := by
  unfold f_plenumref1_RightLsa at H
  refine enter0 Try.func29 rfl Try.ntmps29 rfl (E := [(0, .agg [.int .i64 a0.f_Head.f_Age, .int .i64 a0.f_Head.f_Kind, .int .i64 a0.f_Head.f_Id, .int .i64 a0.f_Head.f_Adv, .int .i64 a0.f_Head.f_Seq, .int .i64 a0.f_Head.f_Sum, .int .i64 a0.f_Head.f_Len, .int .i64 a0.f_Flags, .slice A_a0_8 a0.f_Links.length c_a0_8, .int .i64 a0.f_Bits, .slice A_a0_10 a0.f_Routers.length c_a0_10, .slice A_a0_11 a0.f_Verts.length c_a0_11].toArray)]) rfl ?_
  refine cSeq (fun K1 hK1 => ?_)
  refine cRgn [] trivial ?_
  refine eW (oBox HF rfl) rfl ?_
  rintro _ w1 ⟨g1, rfl, HF1⟩
  refine sL (asg rfl) rfl ?_
  refine lEnd (K := fun _ _ => True) ?_
  refine kN (?_)
  refine hK1 _ _ ?_
  refine cSeq (fun K2 hK2 => ?_)
  refine cSeq (fun K3 hK3 => ?_)
  replace H := bnd H; obtain ⟨y1, H, Ho1⟩ := H
  refine cJoin (y := y1) (fun (s1 : Bool) a w => Env 180 [(1, .pointer (some ⟨g1, 0, none⟩)), (2, .bool false), (49, .bool s1)] a ∧ Fits z w (bk g1 44 [.int .i64 a0.f_Head.f_Age, .int .i64 a0.f_Head.f_Kind, .int .i64 a0.f_Head.f_Id, .int .i64 a0.f_Head.f_Adv, .int .i64 a0.f_Head.f_Seq, .int .i64 a0.f_Head.f_Sum, .int .i64 a0.f_Head.f_Len, .int .i64 a0.f_Flags, .slice A_a0_8 a0.f_Links.length c_a0_8, .int .i64 a0.f_Bits, .slice A_a0_10 a0.f_Routers.length c_a0_10, .slice A_a0_11 a0.f_Verts.length c_a0_11] :: F)) ?_ ?_
  · refine cRgn [(4, 12), (9, 17), (14, 22), (20, 28), (25, 33), (30, 38), (36, 44)] ⟨rfl, rfl, rfl, rfl, rfl, rfl, rfl, trivial⟩ ?_
    refine sL (fa44_0 rfl) rfl ?_
    refine sL (ldA (cs := [.int .i64 a0.f_Head.f_Age, .int .i64 a0.f_Head.f_Kind, .int .i64 a0.f_Head.f_Id, .int .i64 a0.f_Head.f_Adv, .int .i64 a0.f_Head.f_Seq, .int .i64 a0.f_Head.f_Sum, .int .i64 a0.f_Head.f_Len]) rfl ti41 rfl rfl (HF1.boxes (o := 0) (n := 7) (mem_h) rfl)) rfl ?_
    replace H := bnd H; obtain ⟨t2, J2, H⟩ := H
    refine eCall isf54 rfl rfl rfl (f_plenumref1_headRight.ok (a0 := a0.f_Head) J2 HF1) ?_
    rintro _ w3 ⟨rfl, HF3⟩
    refine ⟨_, rfl, ?_⟩
    refine sL (uNot rfl) rfl ?_
    refine sL (mv rfl) rfl ?_
    by_cases c8 : t2 = true
    · replace H := itT c8 H
      refine lSet (i := 12) rfl (wF c8) ?_
      refine sG rfl rfl (fa44_1 rfl) rfl ?_
      refine sG rfl rfl (ld rfl Try.underlying3 rfl (HF3.box (mem_h) rfl)) rfl ?_
      refine sG rfl rfl (bLss rfl rfl) rfl ?_
      refine sL (pkF rfl rfl) rfl ?_
      refine sL (mv rfl) rfl ?_
      by_cases c9 : a0.f_Flags < 0
      · replace H := itT c9 H
        refine lSet (i := 17) rfl (dT c9) ?_
        refine sN rfl rfl rfl rfl ?_
        refine sN rfl rfl rfl rfl ?_
        refine sN rfl rfl rfl rfl ?_
        refine sL (pkT rfl rfl) rfl ?_
        refine sL (mv rfl) rfl ?_
        refine sN rfl rfl rfl rfl ?_
        refine sN rfl rfl rfl rfl ?_
        refine sN rfl rfl rfl rfl ?_
        refine sN rfl rfl rfl rfl ?_
        refine sL (pkT rfl rfl) rfl ?_
        refine sL (mv rfl) rfl ?_
        refine sN rfl rfl rfl rfl ?_
        refine sN rfl rfl rfl rfl ?_
        refine sN rfl rfl rfl rfl ?_
        refine sL (pkT rfl rfl) rfl ?_
        refine sL (mv rfl) rfl ?_
        refine sN rfl rfl rfl rfl ?_
        refine sN rfl rfl rfl rfl ?_
        refine sN rfl rfl rfl rfl ?_
        refine sL (pkT rfl rfl) rfl ?_
        refine sL (mv rfl) rfl ?_
        refine sN rfl rfl rfl rfl ?_
        refine sN rfl rfl rfl rfl ?_
        refine sN rfl rfl rfl rfl ?_
        refine sN rfl rfl rfl rfl ?_
        refine sL (pkT rfl rfl) rfl ?_
        refine sL (mv rfl) rfl ?_
        refine sN rfl rfl rfl rfl ?_
        refine sN rfl rfl rfl rfl ?_
        refine sN rfl rfl rfl rfl ?_
        refine sN rfl rfl rfl rfl ?_
        refine sL (pkT rfl rfl) rfl ?_
        refine lEnd (K := fun _ _ => True) ?_
        refine kN (?_)
        exact ofEnv (fun a hE => ⟨_, (Option.some.inj H).symm, ⟨hE.keep (Keep.cons rfl (Keep.cons rfl (Keep.cons rfl (Keep.nil)))), HF3⟩⟩)
      · replace H := itF c9 H
        refine lSet (i := 17) rfl (dF c9) ?_
        refine sG rfl rfl (fa44_1 rfl) rfl ?_
        refine sG rfl rfl (ld rfl Try.underlying3 rfl (HF3.box (mem_h) rfl)) rfl ?_
        refine sG rfl rfl (bGtr rfl rfl) rfl ?_
        refine sL (pkF rfl rfl) rfl ?_
        refine sL (mv rfl) rfl ?_
        by_cases c10 : 255 < a0.f_Flags
        · replace H := itT c10 H
          refine lSet (i := 22) rfl (dT c10) ?_
          refine sN rfl rfl rfl rfl ?_
          refine sN rfl rfl rfl rfl ?_
          refine sN rfl rfl rfl rfl ?_
          refine sN rfl rfl rfl rfl ?_
          refine sL (pkT rfl rfl) rfl ?_
          refine sL (mv rfl) rfl ?_
          refine sN rfl rfl rfl rfl ?_
          refine sN rfl rfl rfl rfl ?_
          refine sN rfl rfl rfl rfl ?_
          refine sL (pkT rfl rfl) rfl ?_
          refine sL (mv rfl) rfl ?_
          refine sN rfl rfl rfl rfl ?_
          refine sN rfl rfl rfl rfl ?_
          refine sN rfl rfl rfl rfl ?_
          refine sL (pkT rfl rfl) rfl ?_
          refine sL (mv rfl) rfl ?_
          refine sN rfl rfl rfl rfl ?_
          refine sN rfl rfl rfl rfl ?_
          refine sN rfl rfl rfl rfl ?_
          refine sN rfl rfl rfl rfl ?_
          refine sL (pkT rfl rfl) rfl ?_
          refine sL (mv rfl) rfl ?_
          refine sN rfl rfl rfl rfl ?_
          refine sN rfl rfl rfl rfl ?_
          refine sN rfl rfl rfl rfl ?_
          refine sN rfl rfl rfl rfl ?_
          refine sL (pkT rfl rfl) rfl ?_
          refine lEnd (K := fun _ _ => True) ?_
          refine kN (?_)
          exact ofEnv (fun a hE => ⟨_, (Option.some.inj H).symm, ⟨hE.keep (Keep.cons rfl (Keep.cons rfl (Keep.cons rfl (Keep.nil)))), HF3⟩⟩)
        · replace H := itF c10 H
          refine lSet (i := 22) rfl (dF c10) ?_
          refine sG rfl rfl (fa44_2 rfl) rfl ?_
          refine sG rfl rfl (ld rfl Try.underlying42 rfl (HF3.box (mem_h) rfl)) rfl ?_
          refine sG rfl rfl (lnS rfl Try.underlying42) rfl ?_
          refine sG rfl rfl (bGtr rfl rfl) rfl ?_
          refine sL (pkF rfl rfl) rfl ?_
          refine sL (mv rfl) rfl ?_
          by_cases c11 : 64 < (a0.f_Links.length : Int)
          · replace H := itT c11 H
            refine lSet (i := 28) rfl (dT c11) ?_
            refine sN rfl rfl rfl rfl ?_
            refine sN rfl rfl rfl rfl ?_
            refine sN rfl rfl rfl rfl ?_
            refine sL (pkT rfl rfl) rfl ?_
            refine sL (mv rfl) rfl ?_
            refine sN rfl rfl rfl rfl ?_
            refine sN rfl rfl rfl rfl ?_
            refine sN rfl rfl rfl rfl ?_
            refine sL (pkT rfl rfl) rfl ?_
            refine sL (mv rfl) rfl ?_
            refine sN rfl rfl rfl rfl ?_
            refine sN rfl rfl rfl rfl ?_
            refine sN rfl rfl rfl rfl ?_
            refine sN rfl rfl rfl rfl ?_
            refine sL (pkT rfl rfl) rfl ?_
            refine sL (mv rfl) rfl ?_
            refine sN rfl rfl rfl rfl ?_
            refine sN rfl rfl rfl rfl ?_
            refine sN rfl rfl rfl rfl ?_
            refine sN rfl rfl rfl rfl ?_
            refine sL (pkT rfl rfl) rfl ?_
            refine lEnd (K := fun _ _ => True) ?_
            refine kN (?_)
            exact ofEnv (fun a hE => ⟨_, (Option.some.inj H).symm, ⟨hE.keep (Keep.cons rfl (Keep.cons rfl (Keep.cons rfl (Keep.nil)))), HF3⟩⟩)
          · replace H := itF c11 H
            refine lSet (i := 28) rfl (dF c11) ?_
            refine sG rfl rfl (fa44_3 rfl) rfl ?_
            refine sG rfl rfl (ld rfl Try.underlying3 rfl (HF3.box (mem_h) rfl)) rfl ?_
            refine sG rfl rfl (bLss rfl rfl) rfl ?_
            refine sL (pkF rfl rfl) rfl ?_
            refine sL (mv rfl) rfl ?_
            by_cases c12 : a0.f_Bits < 0
            · replace H := itT c12 H
              refine lSet (i := 33) rfl (dT c12) ?_
              refine sN rfl rfl rfl rfl ?_
              refine sN rfl rfl rfl rfl ?_
              refine sN rfl rfl rfl rfl ?_
              refine sL (pkT rfl rfl) rfl ?_
              refine sL (mv rfl) rfl ?_
              refine sN rfl rfl rfl rfl ?_
              refine sN rfl rfl rfl rfl ?_
              refine sN rfl rfl rfl rfl ?_
              refine sN rfl rfl rfl rfl ?_
              refine sL (pkT rfl rfl) rfl ?_
              refine sL (mv rfl) rfl ?_
              refine sN rfl rfl rfl rfl ?_
              refine sN rfl rfl rfl rfl ?_
              refine sN rfl rfl rfl rfl ?_
              refine sN rfl rfl rfl rfl ?_
              refine sL (pkT rfl rfl) rfl ?_
              refine lEnd (K := fun _ _ => True) ?_
              refine kN (?_)
              exact ofEnv (fun a hE => ⟨_, (Option.some.inj H).symm, ⟨hE.keep (Keep.cons rfl (Keep.cons rfl (Keep.cons rfl (Keep.nil)))), HF3⟩⟩)
            · replace H := itF c12 H
              refine lSet (i := 33) rfl (dF c12) ?_
              refine sG rfl rfl (fa44_3 rfl) rfl ?_
              refine sG rfl rfl (ld rfl Try.underlying3 rfl (HF3.box (mem_h) rfl)) rfl ?_
              refine sG rfl rfl (bGtr rfl rfl) rfl ?_
              refine sL (pkF rfl rfl) rfl ?_
              refine sL (mv rfl) rfl ?_
              by_cases c13 : 32 < a0.f_Bits
              · replace H := itT c13 H
                refine lSet (i := 38) rfl (dT c13) ?_
                refine sN rfl rfl rfl rfl ?_
                refine sN rfl rfl rfl rfl ?_
                refine sN rfl rfl rfl rfl ?_
                refine sN rfl rfl rfl rfl ?_
                refine sL (pkT rfl rfl) rfl ?_
                refine sL (mv rfl) rfl ?_
                refine sN rfl rfl rfl rfl ?_
                refine sN rfl rfl rfl rfl ?_
                refine sN rfl rfl rfl rfl ?_
                refine sN rfl rfl rfl rfl ?_
                refine sL (pkT rfl rfl) rfl ?_
                refine lEnd (K := fun _ _ => True) ?_
                refine kN (?_)
                exact ofEnv (fun a hE => ⟨_, (Option.some.inj H).symm, ⟨hE.keep (Keep.cons rfl (Keep.cons rfl (Keep.cons rfl (Keep.nil)))), HF3⟩⟩)
              · replace H := itF c13 H
                refine lSet (i := 38) rfl (dF c13) ?_
                refine sG rfl rfl (fa44_4 rfl) rfl ?_
                refine sG rfl rfl (ld rfl Try.underlying30 rfl (HF3.box (mem_h) rfl)) rfl ?_
                refine sG rfl rfl (lnS rfl Try.underlying30) rfl ?_
                refine sG rfl rfl (bGtr rfl rfl) rfl ?_
                refine sL (pkF rfl rfl) rfl ?_
                refine sL (mv rfl) rfl ?_
                by_cases c14 : 64 < (a0.f_Routers.length : Int)
                · replace H := itT c14 H
                  refine lSet (i := 44) rfl (dT c14) ?_
                  refine sN rfl rfl rfl rfl ?_
                  refine sN rfl rfl rfl rfl ?_
                  refine sN rfl rfl rfl rfl ?_
                  refine sN rfl rfl rfl rfl ?_
                  refine sL (pkT rfl rfl) rfl ?_
                  refine lEnd (K := fun _ _ => True) ?_
                  refine kN (?_)
                  exact ofEnv (fun a hE => ⟨_, (Option.some.inj H).symm, ⟨hE.keep (Keep.cons rfl (Keep.cons rfl (Keep.cons rfl (Keep.nil)))), HF3⟩⟩)
                · replace H := itF c14 H
                  refine lSet (i := 44) rfl (dF c14) ?_
                  refine sG rfl rfl (fa44_5 rfl) rfl ?_
                  refine sG rfl rfl (ld rfl Try.underlying26 rfl (HF3.box (mem_h) rfl)) rfl ?_
                  refine sG rfl rfl (lnS rfl Try.underlying26) rfl ?_
                  refine sG rfl rfl (bGtr rfl rfl) rfl ?_
                  refine sL (pkF rfl rfl) rfl ?_
                  refine lEnd (K := fun _ _ => True) ?_
                  refine kN (?_)
                  exact ofEnv (fun a hE => ⟨_, (Option.some.inj H).symm, ⟨hE.keep (Keep.cons rfl (Keep.cons rfl (Keep.cons rfl (Keep.nil)))), HF3⟩⟩)
    · replace H := itF c8 H
      refine lSet (i := 12) rfl (wT c8) ?_
      refine sN rfl rfl rfl rfl ?_
      refine sN rfl rfl rfl rfl ?_
      refine sN rfl rfl rfl rfl ?_
      refine sL (pkT rfl rfl) rfl ?_
      refine sL (mv rfl) rfl ?_
      refine sN rfl rfl rfl rfl ?_
      refine sN rfl rfl rfl rfl ?_
      refine sN rfl rfl rfl rfl ?_
      refine sL (pkT rfl rfl) rfl ?_
      refine sL (mv rfl) rfl ?_
      refine sN rfl rfl rfl rfl ?_
      refine sN rfl rfl rfl rfl ?_
      refine sN rfl rfl rfl rfl ?_
      refine sN rfl rfl rfl rfl ?_
      refine sL (pkT rfl rfl) rfl ?_
      refine sL (mv rfl) rfl ?_
      refine sN rfl rfl rfl rfl ?_
      refine sN rfl rfl rfl rfl ?_
      refine sN rfl rfl rfl rfl ?_
      refine sL (pkT rfl rfl) rfl ?_
      refine sL (mv rfl) rfl ?_
      refine sN rfl rfl rfl rfl ?_
      refine sN rfl rfl rfl rfl ?_
      refine sN rfl rfl rfl rfl ?_
      refine sL (pkT rfl rfl) rfl ?_
      refine sL (mv rfl) rfl ?_
      refine sN rfl rfl rfl rfl ?_
      refine sN rfl rfl rfl rfl ?_
      refine sN rfl rfl rfl rfl ?_
      refine sN rfl rfl rfl rfl ?_
      refine sL (pkT rfl rfl) rfl ?_
      refine sL (mv rfl) rfl ?_
      refine sN rfl rfl rfl rfl ?_
      refine sN rfl rfl rfl rfl ?_
      refine sN rfl rfl rfl rfl ?_
      refine sN rfl rfl rfl rfl ?_
      refine sL (pkT rfl rfl) rfl ?_
      refine lEnd (K := fun _ _ => True) ?_
      refine kN (?_)
      exact ofEnv (fun a hE => ⟨_, (Option.some.inj H).symm, ⟨hE.keep (Keep.cons rfl (Keep.cons rfl (Keep.cons rfl (Keep.nil)))), HF3⟩⟩)
  · rintro s1 a w4 rfl ⟨hE, HF4⟩
    replace H := Ho1
    refine go_k hE ?_
    refine kN (?_)
    refine hK3 _ _ ?_
    by_cases c15 : s1 = true
    · replace H := itT c15 H
      refine cSet (i := 49) rfl (vT c15) ?_
      refine cT rfl ?_
      refine cSeq (fun K4 hK4 => ?_)
      refine cRgn [] trivial ?_
      refine sL (asg rfl) rfl ?_
      refine lEnd (K := fun _ _ => True) ?_
      refine kN (?_)
      refine hK4 _ _ ?_
      refine cRet ?_
      obtain rfl := Option.some.inj H
      refine kR (?_)
      refine ret1 rfl rfl ?_
      have HF5 := HF4.sublist (sl_dc (List.Sublist.refl _))
      exact ⟨rfl, HF5⟩
    · replace H := itF c15 H
      refine cSet (i := 49) rfl (vF c15) ?_
      refine cF rfl ?_
      refine cSkip ?_
      refine kN (?_)
      refine hK2 _ _ ?_
      refine cSeq (fun K5 hK5 => ?_)
      refine cRgn [] trivial ?_
      refine sL (fa44_0 rfl) rfl ?_
      refine sL (fa41_1 rfl) rfl ?_
      refine sL (ld rfl Try.underlying3 rfl (HF4.box (mem_h) rfl)) rfl ?_
      refine sL (asg rfl) rfl ?_
      refine lEnd (K := fun _ _ => True) ?_
      refine kN (?_)
      refine hK5 _ _ ?_
      refine cSeq (fun K6 hK6 => ?_)
      refine cSeq (fun K7 hK7 => ?_)
      replace H := bnd H; obtain ⟨y2, H, Ho2⟩ := H
      refine cJoin (y := y2) (fun (s2 : Bool) a w => Env 180 [(1, .pointer (some ⟨g1, 0, none⟩)), (2, .bool false), (90, .bool s2)] a ∧ Fits z w (bk g1 44 [.int .i64 a0.f_Head.f_Age, .int .i64 a0.f_Head.f_Kind, .int .i64 a0.f_Head.f_Id, .int .i64 a0.f_Head.f_Adv, .int .i64 a0.f_Head.f_Seq, .int .i64 a0.f_Head.f_Sum, .int .i64 a0.f_Head.f_Len, .int .i64 a0.f_Flags, .slice A_a0_8 a0.f_Links.length c_a0_8, .int .i64 a0.f_Bits, .slice A_a0_10 a0.f_Routers.length c_a0_10, .slice A_a0_11 a0.f_Verts.length c_a0_11] :: F)) ?_ ?_
      · refine cRgn [(2, 55), (6, 59), (13, 66), (16, 69), (20, 73), (28, 81), (31, 84)] ⟨rfl, rfl, rfl, rfl, rfl, rfl, rfl, trivial⟩ ?_
        refine sL (mv rfl) rfl ?_
        refine sL (bNeq rfl rfl) rfl ?_
        refine sL (mv rfl) rfl ?_
        by_cases c29 : a0.f_Head.f_Kind = 1
        · replace H := itT c29 H
          refine lSet (i := 55) rfl (nF c29) ?_
          refine sN rfl rfl rfl rfl ?_
          refine sN rfl rfl rfl rfl ?_
          refine sN rfl rfl rfl rfl ?_
          refine sN rfl rfl rfl rfl ?_
          refine sU rfl rfl rfl rfl ?_
          refine sU rfl rfl rfl rfl ?_
          refine sU rfl rfl rfl rfl ?_
          refine sU rfl rfl rfl rfl ?_
          refine sN rfl rfl rfl rfl ?_
          refine sL (pkF rfl rfl) rfl ?_
          refine sL (mv rfl) rfl ?_
          refine sG rfl rfl (mv rfl) rfl ?_
          refine sG rfl rfl (bNeq rfl rfl) rfl ?_
          refine sG rfl rfl (mv rfl) rfl ?_
          by_cases c30 : a0.f_Head.f_Kind = 2
          · replace H := itT c30 H
            refine lSet (i := 69) rfl (nF c30) ?_
            refine sN rfl rfl rfl rfl ?_
            refine sN rfl rfl rfl rfl ?_
            refine sN rfl rfl rfl rfl ?_
            refine sN rfl rfl rfl rfl ?_
            refine sU rfl rfl rfl rfl ?_
            refine sU rfl rfl rfl rfl ?_
            refine sU rfl rfl rfl rfl ?_
            refine sU rfl rfl rfl rfl ?_
            refine sN rfl rfl rfl rfl ?_
            refine sG rfl rfl (pkF rfl rfl) rfl ?_
            refine sL (pkF rfl rfl) rfl ?_
            refine sL (mv rfl) rfl ?_
            refine sG rfl rfl (mv rfl) rfl ?_
            refine sG rfl rfl (bNeq rfl rfl) rfl ?_
            refine sG rfl rfl (mv rfl) rfl ?_
            by_cases c31 : a0.f_Head.f_Kind = 6
            · replace H := itT c31 H
              refine lSet (i := 84) rfl (nF c31) ?_
              refine sN rfl rfl rfl rfl ?_
              refine sN rfl rfl rfl rfl ?_
              refine sN rfl rfl rfl rfl ?_
              refine sN rfl rfl rfl rfl ?_
              refine sG rfl rfl (pkF rfl rfl) rfl ?_
              refine sL (pkF rfl rfl) rfl ?_
              refine lEnd (K := fun _ _ => True) ?_
              refine kN (?_)
              exact ofEnv (fun a hE => ⟨_, (Option.some.inj H).symm, ⟨hE.keep (Keep.cons rfl (Keep.cons rfl (Keep.cons rfl (Keep.nil)))), HF4⟩⟩)
            · replace H := itF c31 H
              refine lSet (i := 84) rfl (nT c31) ?_
              refine sG rfl rfl (fa44_5 rfl) rfl ?_
              refine sG rfl rfl (ld rfl Try.underlying26 rfl (HF4.box (mem_h) rfl)) rfl ?_
              refine sG rfl rfl (lnS rfl Try.underlying26) rfl ?_
              refine sG rfl rfl (bGtr rfl rfl) rfl ?_
              refine sG rfl rfl (pkT rfl rfl) rfl ?_
              refine sL (pkF rfl rfl) rfl ?_
              refine lEnd (K := fun _ _ => True) ?_
              refine kN (?_)
              exact ofEnv (fun a hE => ⟨_, (Option.some.inj H).symm, ⟨hE.keep (Keep.cons rfl (Keep.cons rfl (Keep.cons rfl (Keep.nil)))), HF4⟩⟩)
          · replace H := itF c30 H
            refine lSet (i := 69) rfl (nT c30) ?_
            refine sG rfl rfl (fa44_3 rfl) rfl ?_
            refine sG rfl rfl (ld rfl Try.underlying3 rfl (HF4.box (mem_h) rfl)) rfl ?_
            refine sG rfl rfl (bNeq rfl rfl) rfl ?_
            refine sG rfl rfl (mv rfl) rfl ?_
            by_cases c32 : a0.f_Bits = 0
            · replace H := itT c32 H
              refine lSet (i := 73) rfl (nF c32) ?_
              refine sG rfl rfl (fa44_4 rfl) rfl ?_
              refine sG rfl rfl (ld rfl Try.underlying30 rfl (HF4.box (mem_h) rfl)) rfl ?_
              refine sG rfl rfl (lnS rfl Try.underlying30) rfl ?_
              refine sG rfl rfl (bGtr rfl rfl) rfl ?_
              refine sG rfl rfl (pkF rfl rfl) rfl ?_
              refine sG rfl rfl (pkT rfl rfl) rfl ?_
              refine sL (pkF rfl rfl) rfl ?_
              refine sL (mv rfl) rfl ?_
              by_cases c33 : 0 < (a0.f_Routers.length : Int)
              · replace H := itT c33 H
                refine lSet (i := 81) rfl (dT c33) ?_
                refine sN rfl rfl rfl rfl ?_
                refine sN rfl rfl rfl rfl ?_
                refine sN rfl rfl rfl rfl ?_
                refine sU rfl rfl rfl rfl ?_
                refine sU rfl rfl rfl rfl ?_
                refine sU rfl rfl rfl rfl ?_
                refine sU rfl rfl rfl rfl ?_
                refine sN rfl rfl rfl rfl ?_
                refine sL (pkT rfl rfl) rfl ?_
                refine lEnd (K := fun _ _ => True) ?_
                refine kN (?_)
                exact ofEnv (fun a hE => ⟨_, (Option.some.inj H).symm, ⟨hE.keep (Keep.cons rfl (Keep.cons rfl (Keep.cons rfl (Keep.nil)))), HF4⟩⟩)
              · replace H := itF c33 H
                refine lSet (i := 81) rfl (dF c33) ?_
                refine sG rfl rfl (mv rfl) rfl ?_
                refine sG rfl rfl (bNeq rfl rfl) rfl ?_
                refine sG rfl rfl (mv rfl) rfl ?_
                by_cases c34 : a0.f_Head.f_Kind = 6
                · replace H := itT c34 H
                  refine lSet (i := 84) rfl (nF c34) ?_
                  refine sN rfl rfl rfl rfl ?_
                  refine sN rfl rfl rfl rfl ?_
                  refine sN rfl rfl rfl rfl ?_
                  refine sN rfl rfl rfl rfl ?_
                  refine sG rfl rfl (pkF rfl rfl) rfl ?_
                  refine sL (pkF rfl rfl) rfl ?_
                  refine lEnd (K := fun _ _ => True) ?_
                  refine kN (?_)
                  exact ofEnv (fun a hE => ⟨_, (Option.some.inj H).symm, ⟨hE.keep (Keep.cons rfl (Keep.cons rfl (Keep.cons rfl (Keep.nil)))), HF4⟩⟩)
                · replace H := itF c34 H
                  refine lSet (i := 84) rfl (nT c34) ?_
                  refine sG rfl rfl (fa44_5 rfl) rfl ?_
                  refine sG rfl rfl (ld rfl Try.underlying26 rfl (HF4.box (mem_h) rfl)) rfl ?_
                  refine sG rfl rfl (lnS rfl Try.underlying26) rfl ?_
                  refine sG rfl rfl (bGtr rfl rfl) rfl ?_
                  refine sG rfl rfl (pkT rfl rfl) rfl ?_
                  refine sL (pkF rfl rfl) rfl ?_
                  refine lEnd (K := fun _ _ => True) ?_
                  refine kN (?_)
                  exact ofEnv (fun a hE => ⟨_, (Option.some.inj H).symm, ⟨hE.keep (Keep.cons rfl (Keep.cons rfl (Keep.cons rfl (Keep.nil)))), HF4⟩⟩)
            · replace H := itF c32 H
              refine lSet (i := 73) rfl (nT c32) ?_
              refine sN rfl rfl rfl rfl ?_
              refine sN rfl rfl rfl rfl ?_
              refine sN rfl rfl rfl rfl ?_
              refine sN rfl rfl rfl rfl ?_
              refine sG rfl rfl (pkT rfl rfl) rfl ?_
              refine sG rfl rfl (pkT rfl rfl) rfl ?_
              refine sL (pkF rfl rfl) rfl ?_
              refine sL (mv rfl) rfl ?_
              refine sN rfl rfl rfl rfl ?_
              refine sN rfl rfl rfl rfl ?_
              refine sN rfl rfl rfl rfl ?_
              refine sU rfl rfl rfl rfl ?_
              refine sU rfl rfl rfl rfl ?_
              refine sU rfl rfl rfl rfl ?_
              refine sU rfl rfl rfl rfl ?_
              refine sN rfl rfl rfl rfl ?_
              refine sL (pkT rfl rfl) rfl ?_
              refine lEnd (K := fun _ _ => True) ?_
              refine kN (?_)
              exact ofEnv (fun a hE => ⟨_, (Option.some.inj H).symm, ⟨hE.keep (Keep.cons rfl (Keep.cons rfl (Keep.cons rfl (Keep.nil)))), HF4⟩⟩)
        · replace H := itF c29 H
          refine lSet (i := 55) rfl (nT c29) ?_
          refine sG rfl rfl (fa44_1 rfl) rfl ?_
          refine sG rfl rfl (ld rfl Try.underlying3 rfl (HF4.box (mem_h) rfl)) rfl ?_
          refine sG rfl rfl (bNeq rfl rfl) rfl ?_
          refine sG rfl rfl (mv rfl) rfl ?_
          by_cases c35 : a0.f_Flags = 0
          · replace H := itT c35 H
            refine lSet (i := 59) rfl (nF c35) ?_
            refine sG rfl rfl (fa44_2 rfl) rfl ?_
            refine sG rfl rfl (ld rfl Try.underlying42 rfl (HF4.box (mem_h) rfl)) rfl ?_
            refine sG rfl rfl (lnS rfl Try.underlying42) rfl ?_
            refine sG rfl rfl (bGtr rfl rfl) rfl ?_
            refine sG rfl rfl (pkF rfl rfl) rfl ?_
            refine sL (pkT rfl rfl) rfl ?_
            refine sL (mv rfl) rfl ?_
            by_cases c36 : 0 < (a0.f_Links.length : Int)
            · replace H := itT c36 H
              refine lSet (i := 66) rfl (dT c36) ?_
              refine sN rfl rfl rfl rfl ?_
              refine sN rfl rfl rfl rfl ?_
              refine sN rfl rfl rfl rfl ?_
              refine sU rfl rfl rfl rfl ?_
              refine sU rfl rfl rfl rfl ?_
              refine sU rfl rfl rfl rfl ?_
              refine sU rfl rfl rfl rfl ?_
              refine sU rfl rfl rfl rfl ?_
              refine sU rfl rfl rfl rfl ?_
              refine sU rfl rfl rfl rfl ?_
              refine sU rfl rfl rfl rfl ?_
              refine sU rfl rfl rfl rfl ?_
              refine sN rfl rfl rfl rfl ?_
              refine sL (pkT rfl rfl) rfl ?_
              refine sL (mv rfl) rfl ?_
              refine sN rfl rfl rfl rfl ?_
              refine sN rfl rfl rfl rfl ?_
              refine sN rfl rfl rfl rfl ?_
              refine sU rfl rfl rfl rfl ?_
              refine sU rfl rfl rfl rfl ?_
              refine sU rfl rfl rfl rfl ?_
              refine sU rfl rfl rfl rfl ?_
              refine sN rfl rfl rfl rfl ?_
              refine sL (pkT rfl rfl) rfl ?_
              refine lEnd (K := fun _ _ => True) ?_
              refine kN (?_)
              exact ofEnv (fun a hE => ⟨_, (Option.some.inj H).symm, ⟨hE.keep (Keep.cons rfl (Keep.cons rfl (Keep.cons rfl (Keep.nil)))), HF4⟩⟩)
            · replace H := itF c36 H
              refine lSet (i := 66) rfl (dF c36) ?_
              refine sG rfl rfl (mv rfl) rfl ?_
              refine sG rfl rfl (bNeq rfl rfl) rfl ?_
              refine sG rfl rfl (mv rfl) rfl ?_
              by_cases c37 : a0.f_Head.f_Kind = 2
              · replace H := itT c37 H
                refine lSet (i := 69) rfl (nF c37) ?_
                refine sN rfl rfl rfl rfl ?_
                refine sN rfl rfl rfl rfl ?_
                refine sN rfl rfl rfl rfl ?_
                refine sN rfl rfl rfl rfl ?_
                refine sU rfl rfl rfl rfl ?_
                refine sU rfl rfl rfl rfl ?_
                refine sU rfl rfl rfl rfl ?_
                refine sU rfl rfl rfl rfl ?_
                refine sN rfl rfl rfl rfl ?_
                refine sG rfl rfl (pkF rfl rfl) rfl ?_
                refine sL (pkF rfl rfl) rfl ?_
                refine sL (mv rfl) rfl ?_
                refine sG rfl rfl (mv rfl) rfl ?_
                refine sG rfl rfl (bNeq rfl rfl) rfl ?_
                refine sG rfl rfl (mv rfl) rfl ?_
                by_cases c38 : a0.f_Head.f_Kind = 6
                · replace H := itT c38 H
                  refine lSet (i := 84) rfl (nF c38) ?_
                  refine sN rfl rfl rfl rfl ?_
                  refine sN rfl rfl rfl rfl ?_
                  refine sN rfl rfl rfl rfl ?_
                  refine sN rfl rfl rfl rfl ?_
                  refine sG rfl rfl (pkF rfl rfl) rfl ?_
                  refine sL (pkF rfl rfl) rfl ?_
                  refine lEnd (K := fun _ _ => True) ?_
                  refine kN (?_)
                  exact ofEnv (fun a hE => ⟨_, (Option.some.inj H).symm, ⟨hE.keep (Keep.cons rfl (Keep.cons rfl (Keep.cons rfl (Keep.nil)))), HF4⟩⟩)
                · replace H := itF c38 H
                  refine lSet (i := 84) rfl (nT c38) ?_
                  refine sG rfl rfl (fa44_5 rfl) rfl ?_
                  refine sG rfl rfl (ld rfl Try.underlying26 rfl (HF4.box (mem_h) rfl)) rfl ?_
                  refine sG rfl rfl (lnS rfl Try.underlying26) rfl ?_
                  refine sG rfl rfl (bGtr rfl rfl) rfl ?_
                  refine sG rfl rfl (pkT rfl rfl) rfl ?_
                  refine sL (pkF rfl rfl) rfl ?_
                  refine lEnd (K := fun _ _ => True) ?_
                  refine kN (?_)
                  exact ofEnv (fun a hE => ⟨_, (Option.some.inj H).symm, ⟨hE.keep (Keep.cons rfl (Keep.cons rfl (Keep.cons rfl (Keep.nil)))), HF4⟩⟩)
              · replace H := itF c37 H
                refine lSet (i := 69) rfl (nT c37) ?_
                refine sG rfl rfl (fa44_3 rfl) rfl ?_
                refine sG rfl rfl (ld rfl Try.underlying3 rfl (HF4.box (mem_h) rfl)) rfl ?_
                refine sG rfl rfl (bNeq rfl rfl) rfl ?_
                refine sG rfl rfl (mv rfl) rfl ?_
                by_cases c39 : a0.f_Bits = 0
                · replace H := itT c39 H
                  refine lSet (i := 73) rfl (nF c39) ?_
                  refine sG rfl rfl (fa44_4 rfl) rfl ?_
                  refine sG rfl rfl (ld rfl Try.underlying30 rfl (HF4.box (mem_h) rfl)) rfl ?_
                  refine sG rfl rfl (lnS rfl Try.underlying30) rfl ?_
                  refine sG rfl rfl (bGtr rfl rfl) rfl ?_
                  refine sG rfl rfl (pkF rfl rfl) rfl ?_
                  refine sG rfl rfl (pkT rfl rfl) rfl ?_
                  refine sL (pkF rfl rfl) rfl ?_
                  refine sL (mv rfl) rfl ?_
                  by_cases c40 : 0 < (a0.f_Routers.length : Int)
                  · replace H := itT c40 H
                    refine lSet (i := 81) rfl (dT c40) ?_
                    refine sN rfl rfl rfl rfl ?_
                    refine sN rfl rfl rfl rfl ?_
                    refine sN rfl rfl rfl rfl ?_
                    refine sU rfl rfl rfl rfl ?_
                    refine sU rfl rfl rfl rfl ?_
                    refine sU rfl rfl rfl rfl ?_
                    refine sU rfl rfl rfl rfl ?_
                    refine sN rfl rfl rfl rfl ?_
                    refine sL (pkT rfl rfl) rfl ?_
                    refine lEnd (K := fun _ _ => True) ?_
                    refine kN (?_)
                    exact ofEnv (fun a hE => ⟨_, (Option.some.inj H).symm, ⟨hE.keep (Keep.cons rfl (Keep.cons rfl (Keep.cons rfl (Keep.nil)))), HF4⟩⟩)
                  · replace H := itF c40 H
                    refine lSet (i := 81) rfl (dF c40) ?_
                    refine sG rfl rfl (mv rfl) rfl ?_
                    refine sG rfl rfl (bNeq rfl rfl) rfl ?_
                    refine sG rfl rfl (mv rfl) rfl ?_
                    by_cases c41 : a0.f_Head.f_Kind = 6
                    · replace H := itT c41 H
                      refine lSet (i := 84) rfl (nF c41) ?_
                      refine sN rfl rfl rfl rfl ?_
                      refine sN rfl rfl rfl rfl ?_
                      refine sN rfl rfl rfl rfl ?_
                      refine sN rfl rfl rfl rfl ?_
                      refine sG rfl rfl (pkF rfl rfl) rfl ?_
                      refine sL (pkF rfl rfl) rfl ?_
                      refine lEnd (K := fun _ _ => True) ?_
                      refine kN (?_)
                      exact ofEnv (fun a hE => ⟨_, (Option.some.inj H).symm, ⟨hE.keep (Keep.cons rfl (Keep.cons rfl (Keep.cons rfl (Keep.nil)))), HF4⟩⟩)
                    · replace H := itF c41 H
                      refine lSet (i := 84) rfl (nT c41) ?_
                      refine sG rfl rfl (fa44_5 rfl) rfl ?_
                      refine sG rfl rfl (ld rfl Try.underlying26 rfl (HF4.box (mem_h) rfl)) rfl ?_
                      refine sG rfl rfl (lnS rfl Try.underlying26) rfl ?_
                      refine sG rfl rfl (bGtr rfl rfl) rfl ?_
                      refine sG rfl rfl (pkT rfl rfl) rfl ?_
                      refine sL (pkF rfl rfl) rfl ?_
                      refine lEnd (K := fun _ _ => True) ?_
                      refine kN (?_)
                      exact ofEnv (fun a hE => ⟨_, (Option.some.inj H).symm, ⟨hE.keep (Keep.cons rfl (Keep.cons rfl (Keep.cons rfl (Keep.nil)))), HF4⟩⟩)
                · replace H := itF c39 H
                  refine lSet (i := 73) rfl (nT c39) ?_
                  refine sN rfl rfl rfl rfl ?_
                  refine sN rfl rfl rfl rfl ?_
                  refine sN rfl rfl rfl rfl ?_
                  refine sN rfl rfl rfl rfl ?_
                  refine sG rfl rfl (pkT rfl rfl) rfl ?_
                  refine sG rfl rfl (pkT rfl rfl) rfl ?_
                  refine sL (pkF rfl rfl) rfl ?_
                  refine sL (mv rfl) rfl ?_
                  refine sN rfl rfl rfl rfl ?_
                  refine sN rfl rfl rfl rfl ?_
                  refine sN rfl rfl rfl rfl ?_
                  refine sU rfl rfl rfl rfl ?_
                  refine sU rfl rfl rfl rfl ?_
                  refine sU rfl rfl rfl rfl ?_
                  refine sU rfl rfl rfl rfl ?_
                  refine sN rfl rfl rfl rfl ?_
                  refine sL (pkT rfl rfl) rfl ?_
                  refine lEnd (K := fun _ _ => True) ?_
                  refine kN (?_)
                  exact ofEnv (fun a hE => ⟨_, (Option.some.inj H).symm, ⟨hE.keep (Keep.cons rfl (Keep.cons rfl (Keep.cons rfl (Keep.nil)))), HF4⟩⟩)
          · replace H := itF c35 H
            refine lSet (i := 59) rfl (nT c35) ?_
            refine sN rfl rfl rfl rfl ?_
            refine sN rfl rfl rfl rfl ?_
            refine sN rfl rfl rfl rfl ?_
            refine sN rfl rfl rfl rfl ?_
            refine sG rfl rfl (pkT rfl rfl) rfl ?_
            refine sL (pkT rfl rfl) rfl ?_
            refine sL (mv rfl) rfl ?_
            refine sN rfl rfl rfl rfl ?_
            refine sN rfl rfl rfl rfl ?_
            refine sN rfl rfl rfl rfl ?_
            refine sU rfl rfl rfl rfl ?_
            refine sU rfl rfl rfl rfl ?_
            refine sU rfl rfl rfl rfl ?_
            refine sU rfl rfl rfl rfl ?_
            refine sU rfl rfl rfl rfl ?_
            refine sU rfl rfl rfl rfl ?_
            refine sU rfl rfl rfl rfl ?_
            refine sU rfl rfl rfl rfl ?_
            refine sU rfl rfl rfl rfl ?_
            refine sN rfl rfl rfl rfl ?_
            refine sL (pkT rfl rfl) rfl ?_
            refine sL (mv rfl) rfl ?_
            refine sN rfl rfl rfl rfl ?_
            refine sN rfl rfl rfl rfl ?_
            refine sN rfl rfl rfl rfl ?_
            refine sU rfl rfl rfl rfl ?_
            refine sU rfl rfl rfl rfl ?_
            refine sU rfl rfl rfl rfl ?_
            refine sU rfl rfl rfl rfl ?_
            refine sN rfl rfl rfl rfl ?_
            refine sL (pkT rfl rfl) rfl ?_
            refine lEnd (K := fun _ _ => True) ?_
            refine kN (?_)
            exact ofEnv (fun a hE => ⟨_, (Option.some.inj H).symm, ⟨hE.keep (Keep.cons rfl (Keep.cons rfl (Keep.cons rfl (Keep.nil)))), HF4⟩⟩)
      · rintro s2 a w5 rfl ⟨hE, HF6⟩
        replace H := Ho2
        refine go_k hE ?_
        refine kN (?_)
        refine hK7 _ _ ?_
        by_cases c42 : s2 = true
        · replace H := itT c42 H
          refine cSet (i := 90) rfl (vT c42) ?_
          refine cT rfl ?_
          refine cSeq (fun K8 hK8 => ?_)
          refine cRgn [] trivial ?_
          refine sL (asg rfl) rfl ?_
          refine lEnd (K := fun _ _ => True) ?_
          refine kN (?_)
          refine hK8 _ _ ?_
          refine cRet ?_
          obtain rfl := Option.some.inj H
          refine kR (?_)
          refine ret1 rfl rfl ?_
          have HF7 := HF6.sublist (sl_dc (List.Sublist.refl _))
          exact ⟨rfl, HF7⟩
        · replace H := itF c42 H
          refine cSet (i := 90) rfl (vF c42) ?_
          refine cF rfl ?_
          refine cSkip ?_
          refine kN (?_)
          refine hK6 _ _ ?_
          refine cSeq (fun K9 hK9 => ?_)
          refine cSeq (fun K10 hK10 => ?_)
          refine cRgn [] trivial ?_
          refine sL (asg rfl) rfl ?_
          refine lEnd (K := fun _ _ => True) ?_
          refine kN (?_)
          refine hK10 _ _ ?_
          replace H := bnd H; obtain ⟨y3, J17, Ho3⟩ := H
          refine cLoopB (f_plenumref1_RightLsa.b0 a0) (fun (s3 : Int) a w => Env 180 [(1, .pointer (some ⟨g1, 0, none⟩)), (2, .bool false), (4, .int .i64 s3)] a ∧ Fits z w (bk g1 44 [.int .i64 a0.f_Head.f_Age, .int .i64 a0.f_Head.f_Kind, .int .i64 a0.f_Head.f_Id, .int .i64 a0.f_Head.f_Adv, .int .i64 a0.f_Head.f_Seq, .int .i64 a0.f_Head.f_Sum, .int .i64 a0.f_Head.f_Len, .int .i64 a0.f_Flags, .slice A_a0_8 a0.f_Links.length c_a0_8, .int .i64 a0.f_Bits, .slice A_a0_10 a0.f_Routers.length c_a0_10, .slice A_a0_11 a0.f_Verts.length c_a0_11] :: F)) J17 (fun a hE => ⟨hE.keep (Keep.cons rfl (Keep.cons rfl (Keep.cons rfl (Keep.nil)))), HF6⟩) ?_ ?_
          · rintro s3 a w14 y4 ⟨hE, HF16⟩ H Hx1
            refine go_ hE ?_
            refine cSeq (fun K33 hK33 => ?_)
            refine cSeq (fun K34 hK34 => ?_)
            refine cRgn [] trivial ?_
            refine sL (mv rfl) rfl ?_
            refine sL (fa44_2 rfl) rfl ?_
            refine sL (ld rfl Try.underlying42 rfl (HF16.box (mem_h) rfl)) rfl ?_
            refine sL (lnS rfl Try.underlying42) rfl ?_
            refine sL (bLss rfl rfl) rfl ?_
            refine lEnd (K := fun _ _ => True) ?_
            refine kN (?_)
            refine hK34 _ _ ?_
            by_cases c58 : s3 < (a0.f_Links.length : Int)
            · replace H := itT c58 H
              refine cSet (i := 95) rfl (dT c58) ?_
              refine cT rfl ?_
              refine cSkip ?_
              refine kN (?_)
              refine hK33 _ _ ?_
              refine cSeq (fun K35 hK35 => ?_)
              refine cBlock ?_
              refine cSeq (fun K36 hK36 => ?_)
              refine cRgn [] trivial ?_
              refine sL (fa44_2 rfl) rfl ?_
              refine sL (ld rfl Try.underlying42 rfl (HF16.box (mem_h) rfl)) rfl ?_
              refine sL (mv rfl) rfl ?_
              replace H := chk H; obtain ⟨c59, H⟩ := H
              obtain ⟨g6, o3, _, rfl, rfl, q3⟩ := RdS.at_ hr_a0_8 c59 c58
              refine sL (ia rfl rfl Try.underlying42 ti56 c59 c58) rfl ?_
              refine sL (ldA rfl ti56 rfl rfl (fun j v hj => HF16.cells ((sub_c hX_a0_8)) (q3 j v hj))) rfl ?_
              refine eW (oAlloc HF16 ti56) rfl ?_
              rintro _ w15 ⟨g7, rfl, HF17⟩
              refine eS (oSt (l1 := [.int .i64 ((rd a0.f_Links s3).f_Kind), .int .i64 ((rd a0.f_Links s3).f_Id), .int .i64 ((rd a0.f_Links s3).f_Data), .int .i64 ((rd a0.f_Links s3).f_Cost)]) HF17 rfl rfl ti56 rfl (ones rfl) (Nat.le_of_ble_eq_true rfl) rfl) ?_
              rintro w16 HF18
              refine lEnd (K := fun _ _ => True) ?_
              refine kN (?_)
              refine hK36 _ _ ?_
              refine cSeq (fun K37 hK37 => ?_)
              refine cRgn [(3, 106), (8, 111), (14, 117), (20, 123), (25, 128)] ⟨rfl, rfl, rfl, rfl, rfl, trivial⟩ ?_
              refine sL (fa56_0 rfl) rfl ?_
              refine sL (ld rfl Try.underlying3 rfl (HF18.box (mem_h) rfl)) rfl ?_
              refine sL (bLss rfl rfl) rfl ?_
              refine sL (mv rfl) rfl ?_
              by_cases c60 : ((rd a0.f_Links s3).f_Kind) < 1
              · replace H := itT c60 H
                refine lSet (i := 106) rfl (dT c60) ?_
                refine sN rfl rfl rfl rfl ?_
                refine sN rfl rfl rfl rfl ?_
                refine sN rfl rfl rfl rfl ?_
                refine sL (pkT rfl rfl) rfl ?_
                refine sL (mv rfl) rfl ?_
                refine sN rfl rfl rfl rfl ?_
                refine sN rfl rfl rfl rfl ?_
                refine sN rfl rfl rfl rfl ?_
                refine sN rfl rfl rfl rfl ?_
                refine sL (pkT rfl rfl) rfl ?_
                refine sL (mv rfl) rfl ?_
                refine sN rfl rfl rfl rfl ?_
                refine sN rfl rfl rfl rfl ?_
                refine sN rfl rfl rfl rfl ?_
                refine sN rfl rfl rfl rfl ?_
                refine sL (pkT rfl rfl) rfl ?_
                refine sL (mv rfl) rfl ?_
                refine sN rfl rfl rfl rfl ?_
                refine sN rfl rfl rfl rfl ?_
                refine sN rfl rfl rfl rfl ?_
                refine sL (pkT rfl rfl) rfl ?_
                refine sL (mv rfl) rfl ?_
                refine sN rfl rfl rfl rfl ?_
                refine sN rfl rfl rfl rfl ?_
                refine sN rfl rfl rfl rfl ?_
                refine sL (pkT rfl rfl) rfl ?_
                refine lEnd (K := fun _ _ => True) ?_
                refine kN (?_)
                refine hK37 _ _ ?_
                refine cT rfl ?_
                refine cSeq (fun K38 hK38 => ?_)
                refine cRgn [] trivial ?_
                refine sL (asg rfl) rfl ?_
                refine lEnd (K := fun _ _ => True) ?_
                refine kN (?_)
                refine hK38 _ _ ?_
                refine cRet ?_
                have e_ := Hx1 _ (Option.some.inj H).symm
                subst e_
                replace H := Ho3
                obtain rfl := Option.some.inj H
                refine jR (kR (kR (jR (kR (kR (?_))))))
                refine ret1 rfl rfl ?_
                have HF19 := HF18.sublist (sl_dc (sl_dc (List.Sublist.refl _)))
                exact ⟨rfl, HF19⟩
              · replace H := itF c60 H
                refine lSet (i := 106) rfl (dF c60) ?_
                refine sG rfl rfl (fa56_0 rfl) rfl ?_
                refine sG rfl rfl (ld rfl Try.underlying3 rfl (HF18.box (mem_h) rfl)) rfl ?_
                refine sG rfl rfl (bGtr rfl rfl) rfl ?_
                refine sL (pkF rfl rfl) rfl ?_
                refine sL (mv rfl) rfl ?_
                by_cases c61 : 3 < ((rd a0.f_Links s3).f_Kind)
                · replace H := itT c61 H
                  refine lSet (i := 111) rfl (dT c61) ?_
                  refine sN rfl rfl rfl rfl ?_
                  refine sN rfl rfl rfl rfl ?_
                  refine sN rfl rfl rfl rfl ?_
                  refine sN rfl rfl rfl rfl ?_
                  refine sL (pkT rfl rfl) rfl ?_
                  refine sL (mv rfl) rfl ?_
                  refine sN rfl rfl rfl rfl ?_
                  refine sN rfl rfl rfl rfl ?_
                  refine sN rfl rfl rfl rfl ?_
                  refine sN rfl rfl rfl rfl ?_
                  refine sL (pkT rfl rfl) rfl ?_
                  refine sL (mv rfl) rfl ?_
                  refine sN rfl rfl rfl rfl ?_
                  refine sN rfl rfl rfl rfl ?_
                  refine sN rfl rfl rfl rfl ?_
                  refine sL (pkT rfl rfl) rfl ?_
                  refine sL (mv rfl) rfl ?_
                  refine sN rfl rfl rfl rfl ?_
                  refine sN rfl rfl rfl rfl ?_
                  refine sN rfl rfl rfl rfl ?_
                  refine sL (pkT rfl rfl) rfl ?_
                  refine lEnd (K := fun _ _ => True) ?_
                  refine kN (?_)
                  refine hK37 _ _ ?_
                  refine cT rfl ?_
                  refine cSeq (fun K39 hK39 => ?_)
                  refine cRgn [] trivial ?_
                  refine sL (asg rfl) rfl ?_
                  refine lEnd (K := fun _ _ => True) ?_
                  refine kN (?_)
                  refine hK39 _ _ ?_
                  refine cRet ?_
                  have e_ := Hx1 _ (Option.some.inj H).symm
                  subst e_
                  replace H := Ho3
                  obtain rfl := Option.some.inj H
                  refine jR (kR (kR (jR (kR (kR (?_))))))
                  refine ret1 rfl rfl ?_
                  have HF20 := HF18.sublist (sl_dc (sl_dc (List.Sublist.refl _)))
                  exact ⟨rfl, HF20⟩
                · replace H := itF c61 H
                  refine lSet (i := 111) rfl (dF c61) ?_
                  refine sG rfl rfl (fa56_1 rfl) rfl ?_
                  refine sG rfl rfl (ld rfl Try.underlying3 rfl (HF18.box (mem_h) rfl)) rfl ?_
                  replace H := bnd H; obtain ⟨t7, J7, H⟩ := H
                  refine eCallG rfl rfl isf55 rfl rfl rfl (f_plenumref1_Right.ok J7 HF18) ?_
                  rintro _ w17 ⟨rfl, HF21⟩
                  refine ⟨_, rfl, ?_⟩
                  refine sG rfl rfl (uNot rfl) rfl ?_
                  refine sL (pkF rfl rfl) rfl ?_
                  refine sL (mv rfl) rfl ?_
                  by_cases c62 : t7 = true
                  · replace H := itT c62 H
                    refine lSet (i := 117) rfl (wF c62) ?_
                    refine sG rfl rfl (fa56_2 rfl) rfl ?_
                    refine sG rfl rfl (ld rfl Try.underlying3 rfl (HF21.box (mem_h) rfl)) rfl ?_
                    replace H := bnd H; obtain ⟨t8, J8, H⟩ := H
                    refine eCallG rfl rfl isf55 rfl rfl rfl (f_plenumref1_Right.ok J8 HF21) ?_
                    rintro _ w18 ⟨rfl, HF22⟩
                    refine ⟨_, rfl, ?_⟩
                    refine sG rfl rfl (uNot rfl) rfl ?_
                    refine sL (pkF rfl rfl) rfl ?_
                    refine sL (mv rfl) rfl ?_
                    by_cases c63 : t8 = true
                    · replace H := itT c63 H
                      refine lSet (i := 123) rfl (wF c63) ?_
                      refine sG rfl rfl (fa56_3 rfl) rfl ?_
                      refine sG rfl rfl (ld rfl Try.underlying3 rfl (HF22.box (mem_h) rfl)) rfl ?_
                      refine sG rfl rfl (bLss rfl rfl) rfl ?_
                      refine sL (pkF rfl rfl) rfl ?_
                      refine sL (mv rfl) rfl ?_
                      by_cases c64 : ((rd a0.f_Links s3).f_Cost) < 0
                      · replace H := itT c64 H
                        refine lSet (i := 128) rfl (dT c64) ?_
                        refine sN rfl rfl rfl rfl ?_
                        refine sN rfl rfl rfl rfl ?_
                        refine sN rfl rfl rfl rfl ?_
                        refine sL (pkT rfl rfl) rfl ?_
                        refine lEnd (K := fun _ _ => True) ?_
                        refine kN (?_)
                        refine hK37 _ _ ?_
                        refine cT rfl ?_
                        refine cSeq (fun K40 hK40 => ?_)
                        refine cRgn [] trivial ?_
                        refine sL (asg rfl) rfl ?_
                        refine lEnd (K := fun _ _ => True) ?_
                        refine kN (?_)
                        refine hK40 _ _ ?_
                        refine cRet ?_
                        have e_ := Hx1 _ (Option.some.inj H).symm
                        subst e_
                        replace H := Ho3
                        obtain rfl := Option.some.inj H
                        refine jR (kR (kR (jR (kR (kR (?_))))))
                        refine ret1 rfl rfl ?_
                        have HF23 := HF22.sublist (sl_dc (sl_dc (List.Sublist.refl _)))
                        exact ⟨rfl, HF23⟩
                      · replace H := itF c64 H
                        refine lSet (i := 128) rfl (dF c64) ?_
                        refine sG rfl rfl (fa56_3 rfl) rfl ?_
                        refine sG rfl rfl (ld rfl Try.underlying3 rfl (HF22.box (mem_h) rfl)) rfl ?_
                        refine sG rfl rfl (bGtr rfl rfl) rfl ?_
                        refine sL (pkF rfl rfl) rfl ?_
                        refine lEnd (K := fun _ _ => True) ?_
                        refine kN (?_)
                        refine hK37 _ _ ?_
                        by_cases c65 : 65535 < ((rd a0.f_Links s3).f_Cost)
                        · replace H := itT c65 H
                          refine cSet (i := 132) rfl (dT c65) ?_
                          refine cT rfl ?_
                          refine cSeq (fun K41 hK41 => ?_)
                          refine cRgn [] trivial ?_
                          refine sL (asg rfl) rfl ?_
                          refine lEnd (K := fun _ _ => True) ?_
                          refine kN (?_)
                          refine hK41 _ _ ?_
                          refine cRet ?_
                          have e_ := Hx1 _ (Option.some.inj H).symm
                          subst e_
                          replace H := Ho3
                          obtain rfl := Option.some.inj H
                          refine jR (kR (kR (jR (kR (kR (?_))))))
                          refine ret1 rfl rfl ?_
                          have HF24 := HF22.sublist (sl_dc (sl_dc (List.Sublist.refl _)))
                          exact ⟨rfl, HF24⟩
                        · replace H := itF c65 H
                          refine cSet (i := 132) rfl (dF c65) ?_
                          refine cF rfl ?_
                          refine cSkip ?_
                          refine jN (kN (?_))
                          refine hK35 _ _ ?_
                          refine cRgn [] trivial ?_
                          refine sL (mv rfl) rfl ?_
                          refine sL (bAdd rfl rfl) rfl ?_
                          refine sL (asg rfl) rfl ?_
                          refine lEnd (K := fun _ _ => True) ?_
                          refine kN (?_)
                          have HF25 := HF22.sublist (sl_dc (sl_c (List.Sublist.refl _)))
                          exact ofEnv (fun a hE => ⟨_, (Option.some.inj H).symm, ⟨hE.keep (Keep.cons rfl (Keep.cons rfl (Keep.cons rfl (Keep.nil)))), HF25⟩⟩)
                    · replace H := itF c63 H
                      refine lSet (i := 123) rfl (wT c63) ?_
                      refine sN rfl rfl rfl rfl ?_
                      refine sN rfl rfl rfl rfl ?_
                      refine sN rfl rfl rfl rfl ?_
                      refine sL (pkT rfl rfl) rfl ?_
                      refine sL (mv rfl) rfl ?_
                      refine sN rfl rfl rfl rfl ?_
                      refine sN rfl rfl rfl rfl ?_
                      refine sN rfl rfl rfl rfl ?_
                      refine sL (pkT rfl rfl) rfl ?_
                      refine lEnd (K := fun _ _ => True) ?_
                      refine kN (?_)
                      refine hK37 _ _ ?_
                      refine cT rfl ?_
                      refine cSeq (fun K42 hK42 => ?_)
                      refine cRgn [] trivial ?_
                      refine sL (asg rfl) rfl ?_
                      refine lEnd (K := fun _ _ => True) ?_
                      refine kN (?_)
                      refine hK42 _ _ ?_
                      refine cRet ?_
                      have e_ := Hx1 _ (Option.some.inj H).symm
                      subst e_
                      replace H := Ho3
                      obtain rfl := Option.some.inj H
                      refine jR (kR (kR (jR (kR (kR (?_))))))
                      refine ret1 rfl rfl ?_
                      have HF26 := HF22.sublist (sl_dc (sl_dc (List.Sublist.refl _)))
                      exact ⟨rfl, HF26⟩
                  · replace H := itF c62 H
                    refine lSet (i := 117) rfl (wT c62) ?_
                    refine sN rfl rfl rfl rfl ?_
                    refine sN rfl rfl rfl rfl ?_
                    refine sN rfl rfl rfl rfl ?_
                    refine sN rfl rfl rfl rfl ?_
                    refine sL (pkT rfl rfl) rfl ?_
                    refine sL (mv rfl) rfl ?_
                    refine sN rfl rfl rfl rfl ?_
                    refine sN rfl rfl rfl rfl ?_
                    refine sN rfl rfl rfl rfl ?_
                    refine sL (pkT rfl rfl) rfl ?_
                    refine sL (mv rfl) rfl ?_
                    refine sN rfl rfl rfl rfl ?_
                    refine sN rfl rfl rfl rfl ?_
                    refine sN rfl rfl rfl rfl ?_
                    refine sL (pkT rfl rfl) rfl ?_
                    refine lEnd (K := fun _ _ => True) ?_
                    refine kN (?_)
                    refine hK37 _ _ ?_
                    refine cT rfl ?_
                    refine cSeq (fun K43 hK43 => ?_)
                    refine cRgn [] trivial ?_
                    refine sL (asg rfl) rfl ?_
                    refine lEnd (K := fun _ _ => True) ?_
                    refine kN (?_)
                    refine hK43 _ _ ?_
                    refine cRet ?_
                    have e_ := Hx1 _ (Option.some.inj H).symm
                    subst e_
                    replace H := Ho3
                    obtain rfl := Option.some.inj H
                    refine jR (kR (kR (jR (kR (kR (?_))))))
                    refine ret1 rfl rfl ?_
                    have HF27 := HF21.sublist (sl_dc (sl_dc (List.Sublist.refl _)))
                    exact ⟨rfl, HF27⟩
            · replace H := itF c58 H
              refine cSet (i := 95) rfl (dF c58) ?_
              refine cF rfl ?_
              refine cExit ?_
              refine kX (kX (jX (kN (?_))))
              exact ofEnv (fun a hE => ⟨_, (Option.some.inj H).symm, ⟨hE.keep (Keep.cons rfl (Keep.cons rfl (Keep.cons rfl (Keep.nil)))), HF16⟩⟩)
          · rintro s3 a w19 rfl ⟨hE, HF28⟩
            replace H := Ho3
            refine go_k hE ?_
            refine kN (?_)
            refine hK9 _ _ ?_
            refine cSeq (fun K44 hK44 => ?_)
            refine cSeq (fun K45 hK45 => ?_)
            refine cRgn [] trivial ?_
            refine sL (asg rfl) rfl ?_
            refine lEnd (K := fun _ _ => True) ?_
            refine kN (?_)
            refine hK45 _ _ ?_
            replace H := bnd H; obtain ⟨y5, J16, Ho4⟩ := H
            refine cLoopB (f_plenumref1_RightLsa.b1 a0) (fun (s4 : Int) a w => Env 180 [(1, .pointer (some ⟨g1, 0, none⟩)), (2, .bool false), (6, .int .i64 s4)] a ∧ Fits z w (bk g1 44 [.int .i64 a0.f_Head.f_Age, .int .i64 a0.f_Head.f_Kind, .int .i64 a0.f_Head.f_Id, .int .i64 a0.f_Head.f_Adv, .int .i64 a0.f_Head.f_Seq, .int .i64 a0.f_Head.f_Sum, .int .i64 a0.f_Head.f_Len, .int .i64 a0.f_Flags, .slice A_a0_8 a0.f_Links.length c_a0_8, .int .i64 a0.f_Bits, .slice A_a0_10 a0.f_Routers.length c_a0_10, .slice A_a0_11 a0.f_Verts.length c_a0_11] :: F)) J16 (fun a hE => ⟨hE.keep (Keep.cons rfl (Keep.cons rfl (Keep.cons rfl (Keep.nil)))), HF28⟩) ?_ ?_
            · rintro s4 a w22 y6 ⟨hE, HF31⟩ H Hx2
              refine go_ hE ?_
              refine cSeq (fun K56 hK56 => ?_)
              refine cSeq (fun K57 hK57 => ?_)
              refine cRgn [] trivial ?_
              refine sL (mv rfl) rfl ?_
              refine sL (fa44_4 rfl) rfl ?_
              refine sL (ld rfl Try.underlying30 rfl (HF31.box (mem_h) rfl)) rfl ?_
              refine sL (lnS rfl Try.underlying30) rfl ?_
              refine sL (bLss rfl rfl) rfl ?_
              refine lEnd (K := fun _ _ => True) ?_
              refine kN (?_)
              refine hK57 _ _ ?_
              by_cases c71 : s4 < (a0.f_Routers.length : Int)
              · replace H := itT c71 H
                refine cSet (i := 137) rfl (dT c71) ?_
                refine cT rfl ?_
                refine cSkip ?_
                refine kN (?_)
                refine hK56 _ _ ?_
                refine cSeq (fun K58 hK58 => ?_)
                refine cBlock ?_
                refine cSeq (fun K59 hK59 => ?_)
                refine cRgn [] trivial ?_
                refine sL (fa44_4 rfl) rfl ?_
                refine sL (ld rfl Try.underlying30 rfl (HF31.box (mem_h) rfl)) rfl ?_
                refine sL (mv rfl) rfl ?_
                replace H := chk H; obtain ⟨c72, H⟩ := H
                obtain ⟨g10, o6, _, rfl, rfl, q6⟩ := RdS.at_ hr_a0_10 c72 c71
                refine sL (ia rfl rfl Try.underlying30 ti3 c72 c71) rfl ?_
                refine sL (ld rfl Try.underlying3 rfl (HF31.cells ((sub_c hX_a0_10)) (q6 0 _ rfl))) rfl ?_
                replace H := bnd H; obtain ⟨t11, J11, H⟩ := H
                refine eCall isf55 rfl rfl rfl (f_plenumref1_Right.ok J11 HF31) ?_
                rintro _ w23 ⟨rfl, HF32⟩
                refine ⟨_, rfl, ?_⟩
                refine sL (uNot rfl) rfl ?_
                refine lEnd (K := fun _ _ => True) ?_
                refine kN (?_)
                refine hK59 _ _ ?_
                by_cases c73 : t11 = true
                · replace H := itT c73 H
                  refine cSet (i := 146) rfl (wF c73) ?_
                  refine cF rfl ?_
                  refine cSkip ?_
                  refine jN (kN (?_))
                  refine hK58 _ _ ?_
                  refine cRgn [] trivial ?_
                  refine sL (mv rfl) rfl ?_
                  refine sL (bAdd rfl rfl) rfl ?_
                  refine sL (asg rfl) rfl ?_
                  refine lEnd (K := fun _ _ => True) ?_
                  refine kN (?_)
                  exact ofEnv (fun a hE => ⟨_, (Option.some.inj H).symm, ⟨hE.keep (Keep.cons rfl (Keep.cons rfl (Keep.cons rfl (Keep.nil)))), HF32⟩⟩)
                · replace H := itF c73 H
                  refine cSet (i := 146) rfl (wT c73) ?_
                  refine cT rfl ?_
                  refine cSeq (fun K60 hK60 => ?_)
                  refine cRgn [] trivial ?_
                  refine sL (asg rfl) rfl ?_
                  refine lEnd (K := fun _ _ => True) ?_
                  refine kN (?_)
                  refine hK60 _ _ ?_
                  refine cRet ?_
                  have e_ := Hx2 _ (Option.some.inj H).symm
                  subst e_
                  replace H := Ho4
                  obtain rfl := Option.some.inj H
                  refine jR (kR (kR (jR (kR (kR (?_))))))
                  refine ret1 rfl rfl ?_
                  have HF33 := HF32.sublist (sl_dc (List.Sublist.refl _))
                  exact ⟨rfl, HF33⟩
              · replace H := itF c71 H
                refine cSet (i := 137) rfl (dF c71) ?_
                refine cF rfl ?_
                refine cExit ?_
                refine kX (kX (jX (kN (?_))))
                exact ofEnv (fun a hE => ⟨_, (Option.some.inj H).symm, ⟨hE.keep (Keep.cons rfl (Keep.cons rfl (Keep.cons rfl (Keep.nil)))), HF31⟩⟩)
            · rintro s4 a w24 rfl ⟨hE, HF34⟩
              replace H := Ho4
              refine go_k hE ?_
              refine kN (?_)
              refine hK44 _ _ ?_
              refine cSeq (fun K61 hK61 => ?_)
              refine cSeq (fun K62 hK62 => ?_)
              refine cRgn [] trivial ?_
              refine sL (asg rfl) rfl ?_
              refine lEnd (K := fun _ _ => True) ?_
              refine kN (?_)
              refine hK62 _ _ ?_
              replace H := bnd H; obtain ⟨y7, J15, Ho5⟩ := H
              refine cLoopB (f_plenumref1_RightLsa.b2 a0) (fun (s5 : Int) a w => Env 180 [(1, .pointer (some ⟨g1, 0, none⟩)), (2, .bool false), (7, .int .i64 s5)] a ∧ Fits z w (bk g1 44 [.int .i64 a0.f_Head.f_Age, .int .i64 a0.f_Head.f_Kind, .int .i64 a0.f_Head.f_Id, .int .i64 a0.f_Head.f_Adv, .int .i64 a0.f_Head.f_Seq, .int .i64 a0.f_Head.f_Sum, .int .i64 a0.f_Head.f_Len, .int .i64 a0.f_Flags, .slice A_a0_8 a0.f_Links.length c_a0_8, .int .i64 a0.f_Bits, .slice A_a0_10 a0.f_Routers.length c_a0_10, .slice A_a0_11 a0.f_Verts.length c_a0_11] :: F)) J15 (fun a hE => ⟨hE.keep (Keep.cons rfl (Keep.cons rfl (Keep.cons rfl (Keep.nil)))), HF34⟩) ?_ ?_
              · rintro s5 a w27 y8 ⟨hE, HF37⟩ H Hx3
                refine go_ hE ?_
                refine cSeq (fun K77 hK77 => ?_)
                refine cSeq (fun K78 hK78 => ?_)
                refine cRgn [] trivial ?_
                refine sL (mv rfl) rfl ?_
                refine sL (fa44_5 rfl) rfl ?_
                refine sL (ld rfl Try.underlying26 rfl (HF37.box (mem_h) rfl)) rfl ?_
                refine sL (lnS rfl Try.underlying26) rfl ?_
                refine sL (bLss rfl rfl) rfl ?_
                refine lEnd (K := fun _ _ => True) ?_
                refine kN (?_)
                refine hK78 _ _ ?_
                by_cases c83 : s5 < (a0.f_Verts.length : Int)
                · replace H := itT c83 H
                  refine cSet (i := 151) rfl (dT c83) ?_
                  refine cT rfl ?_
                  refine cSkip ?_
                  refine kN (?_)
                  refine hK77 _ _ ?_
                  refine cSeq (fun K79 hK79 => ?_)
                  refine cBlock ?_
                  refine cSeq (fun K80 hK80 => ?_)
                  refine cRgn [(7, 161), (16, 170)] ⟨rfl, rfl, trivial⟩ ?_
                  refine sL (fa44_5 rfl) rfl ?_
                  refine sL (ld rfl Try.underlying26 rfl (HF37.box (mem_h) rfl)) rfl ?_
                  refine sL (mv rfl) rfl ?_
                  replace H := chk H; obtain ⟨c84, H⟩ := H
                  obtain ⟨g13, o9, _, rfl, rfl, q13⟩ := RdS.at_ hr_a0_11 c84 c83
                  refine sL (ia rfl rfl Try.underlying26 ti35 c84 c83) rfl ?_
                  refine sL (fa35_0 rfl) rfl ?_
                  refine sL (ld rfl Try.underlying3 rfl (HF37.cells ((sub_c hX_a0_11)) (q13 0 _ rfl))) rfl ?_
                  refine sL (bLss rfl rfl) rfl ?_
                  refine sL (mv rfl) rfl ?_
                  by_cases c85 : ((rd a0.f_Verts s5).f_Kind) < 1
                  · replace H := itT c85 H
                    refine lSet (i := 161) rfl (dT c85) ?_
                    refine sN rfl rfl rfl rfl ?_
                    refine sN rfl rfl rfl rfl ?_
                    refine sN rfl rfl rfl rfl ?_
                    refine sN rfl rfl rfl rfl ?_
                    refine sN rfl rfl rfl rfl ?_
                    refine sN rfl rfl rfl rfl ?_
                    refine sN rfl rfl rfl rfl ?_
                    refine sL (pkT rfl rfl) rfl ?_
                    refine sL (mv rfl) rfl ?_
                    refine sN rfl rfl rfl rfl ?_
                    refine sN rfl rfl rfl rfl ?_
                    refine sN rfl rfl rfl rfl ?_
                    refine sN rfl rfl rfl rfl ?_
                    refine sN rfl rfl rfl rfl ?_
                    refine sN rfl rfl rfl rfl ?_
                    refine sN rfl rfl rfl rfl ?_
                    refine sN rfl rfl rfl rfl ?_
                    refine sL (pkT rfl rfl) rfl ?_
                    refine lEnd (K := fun _ _ => True) ?_
                    refine kN (?_)
                    refine hK80 _ _ ?_
                    refine cT rfl ?_
                    refine cSeq (fun K81 hK81 => ?_)
                    refine cRgn [] trivial ?_
                    refine sL (asg rfl) rfl ?_
                    refine lEnd (K := fun _ _ => True) ?_
                    refine kN (?_)
                    refine hK81 _ _ ?_
                    refine cRet ?_
                    have e_ := Hx3 _ (Option.some.inj H).symm
                    subst e_
                    replace H := Ho5
                    obtain rfl := Option.some.inj H
                    refine jR (kR (kR (jR (kR (kR (?_))))))
                    refine ret1 rfl rfl ?_
                    have HF38 := HF37.sublist (sl_dc (List.Sublist.refl _))
                    exact ⟨rfl, HF38⟩
                  · replace H := itF c85 H
                    refine lSet (i := 161) rfl (dF c85) ?_
                    refine sG rfl rfl (fa44_5 rfl) rfl ?_
                    refine sG rfl rfl (ld rfl Try.underlying26 rfl (HF37.box (mem_h) rfl)) rfl ?_
                    refine sG rfl rfl (mv rfl) rfl ?_
                    obtain ⟨_, rfl, q14⟩ := RdS.at' hr_a0_11 c84 c83
                    refine sG rfl rfl (ia rfl rfl Try.underlying26 ti35 c84 c83) rfl ?_
                    refine sG rfl rfl (fa35_0 rfl) rfl ?_
                    refine sG rfl rfl (ld rfl Try.underlying3 rfl (HF37.cells ((sub_c hX_a0_11)) (q14 0 _ rfl))) rfl ?_
                    refine sG rfl rfl (bGtr rfl rfl) rfl ?_
                    refine sL (pkF rfl rfl) rfl ?_
                    refine sL (mv rfl) rfl ?_
                    by_cases c86 : 2 < ((rd a0.f_Verts s5).f_Kind)
                    · replace H := itT c86 H
                      refine lSet (i := 170) rfl (dT c86) ?_
                      refine sN rfl rfl rfl rfl ?_
                      refine sN rfl rfl rfl rfl ?_
                      refine sN rfl rfl rfl rfl ?_
                      refine sN rfl rfl rfl rfl ?_
                      refine sN rfl rfl rfl rfl ?_
                      refine sN rfl rfl rfl rfl ?_
                      refine sN rfl rfl rfl rfl ?_
                      refine sN rfl rfl rfl rfl ?_
                      refine sL (pkT rfl rfl) rfl ?_
                      refine lEnd (K := fun _ _ => True) ?_
                      refine kN (?_)
                      refine hK80 _ _ ?_
                      refine cT rfl ?_
                      refine cSeq (fun K82 hK82 => ?_)
                      refine cRgn [] trivial ?_
                      refine sL (asg rfl) rfl ?_
                      refine lEnd (K := fun _ _ => True) ?_
                      refine kN (?_)
                      refine hK82 _ _ ?_
                      refine cRet ?_
                      have e_ := Hx3 _ (Option.some.inj H).symm
                      subst e_
                      replace H := Ho5
                      obtain rfl := Option.some.inj H
                      refine jR (kR (kR (jR (kR (kR (?_))))))
                      refine ret1 rfl rfl ?_
                      have HF39 := HF37.sublist (sl_dc (List.Sublist.refl _))
                      exact ⟨rfl, HF39⟩
                    · replace H := itF c86 H
                      refine lSet (i := 170) rfl (dF c86) ?_
                      refine sG rfl rfl (fa44_5 rfl) rfl ?_
                      refine sG rfl rfl (ld rfl Try.underlying26 rfl (HF37.box (mem_h) rfl)) rfl ?_
                      refine sG rfl rfl (mv rfl) rfl ?_
                      obtain ⟨_, rfl, q15⟩ := RdS.at' hr_a0_11 c84 c83
                      refine sG rfl rfl (ia rfl rfl Try.underlying26 ti35 c84 c83) rfl ?_
                      refine sG rfl rfl (fa35_1 rfl) rfl ?_
                      refine sG rfl rfl (ld rfl Try.underlying3 rfl (HF37.cells ((sub_c hX_a0_11)) (q15 1 _ rfl))) rfl ?_
                      replace H := bnd H; obtain ⟨t14, J14, H⟩ := H
                      refine eCallG rfl rfl isf55 rfl rfl rfl (f_plenumref1_Right.ok J14 HF37) ?_
                      rintro _ w28 ⟨rfl, HF40⟩
                      refine ⟨_, rfl, ?_⟩
                      refine sG rfl rfl (uNot rfl) rfl ?_
                      refine sL (pkF rfl rfl) rfl ?_
                      refine lEnd (K := fun _ _ => True) ?_
                      refine kN (?_)
                      refine hK80 _ _ ?_
                      by_cases c87 : t14 = true
                      · replace H := itT c87 H
                        refine cSet (i := 179) rfl (wF c87) ?_
                        refine cF rfl ?_
                        refine cSkip ?_
                        refine jN (kN (?_))
                        refine hK79 _ _ ?_
                        refine cRgn [] trivial ?_
                        refine sL (mv rfl) rfl ?_
                        refine sL (bAdd rfl rfl) rfl ?_
                        refine sL (asg rfl) rfl ?_
                        refine lEnd (K := fun _ _ => True) ?_
                        refine kN (?_)
                        exact ofEnv (fun a hE => ⟨_, (Option.some.inj H).symm, ⟨hE.keep (Keep.cons rfl (Keep.cons rfl (Keep.cons rfl (Keep.nil)))), HF40⟩⟩)
                      · replace H := itF c87 H
                        refine cSet (i := 179) rfl (wT c87) ?_
                        refine cT rfl ?_
                        refine cSeq (fun K83 hK83 => ?_)
                        refine cRgn [] trivial ?_
                        refine sL (asg rfl) rfl ?_
                        refine lEnd (K := fun _ _ => True) ?_
                        refine kN (?_)
                        refine hK83 _ _ ?_
                        refine cRet ?_
                        have e_ := Hx3 _ (Option.some.inj H).symm
                        subst e_
                        replace H := Ho5
                        obtain rfl := Option.some.inj H
                        refine jR (kR (kR (jR (kR (kR (?_))))))
                        refine ret1 rfl rfl ?_
                        have HF41 := HF40.sublist (sl_dc (List.Sublist.refl _))
                        exact ⟨rfl, HF41⟩
                · replace H := itF c83 H
                  refine cSet (i := 151) rfl (dF c83) ?_
                  refine cF rfl ?_
                  refine cExit ?_
                  refine kX (kX (jX (kN (?_))))
                  exact ofEnv (fun a hE => ⟨_, (Option.some.inj H).symm, ⟨hE.keep (Keep.cons rfl (Keep.cons rfl (Keep.cons rfl (Keep.nil)))), HF37⟩⟩)
              · rintro s5 a w29 rfl ⟨hE, HF42⟩
                replace H := Ho5
                refine go_k hE ?_
                refine kN (?_)
                refine hK61 _ _ ?_
                refine cSeq (fun K84 hK84 => ?_)
                refine cRgn [] trivial ?_
                refine sL (asg rfl) rfl ?_
                refine lEnd (K := fun _ _ => True) ?_
                refine kN (?_)
                refine hK84 _ _ ?_
                refine cRet ?_
                obtain rfl := Option.some.inj H
                refine ret1 rfl rfl ?_
                have HF43 := HF42.sublist (sl_dc (List.Sublist.refl _))
                exact ⟨rfl, HF43⟩
/-! ### plenum/plenumref1.KeyOf (function 30) -/
abbrev f_plenumref1_KeyOf.R := T_api_Key
noncomputable def f_plenumref1_KeyOf (a0 : T_api_Head) : Option f_plenumref1_KeyOf.R := some (⟨a0.f_Kind, a0.f_Id, a0.f_Adv⟩ : T_api_Key)
set_option maxHeartbeats 1000000 in
theorem f_plenumref1_KeyOf.ok {z w : World} {F : Hp} {a0 : T_api_Head} {r : f_plenumref1_KeyOf.R} (H : f_plenumref1_KeyOf a0 = some r) (HF : Fits z w F) :
    Calls Try.prog 30 [.agg [.int .i64 a0.f_Age, .int .i64 a0.f_Kind, .int .i64 a0.f_Id, .int .i64 a0.f_Adv, .int .i64 a0.f_Seq, .int .i64 a0.f_Sum, .int .i64 a0.f_Len].toArray].toArray w fun e w' => e = .returned (.agg [.int .i64 r.f_Kind, .int .i64 r.f_Id, .int .i64 r.f_Adv].toArray) ∧ Fits z w' F := by
  unfold f_plenumref1_KeyOf at H
  refine enter0 Try.func30 rfl Try.ntmps30 rfl (E := [(0, .agg [.int .i64 a0.f_Age, .int .i64 a0.f_Kind, .int .i64 a0.f_Id, .int .i64 a0.f_Adv, .int .i64 a0.f_Seq, .int .i64 a0.f_Sum, .int .i64 a0.f_Len].toArray)]) rfl ?_
  refine cSeq (fun K1 hK1 => ?_)
  refine cRgn [] trivial ?_
  refine eW (oBox HF rfl) rfl ?_
  rintro _ w1 ⟨g1, rfl, HF1⟩
  refine eW (oAlloc HF1 ti78) rfl ?_
  rintro _ w2 ⟨g2, rfl, HF2⟩
  refine lEnd (K := fun _ _ => True) ?_
  refine kN (?_)
  refine hK1 _ _ ?_
  refine cSeq (fun K2 hK2 => ?_)
  refine cRgn [] trivial ?_
  refine sL (fa41_1 rfl) rfl ?_
  refine sL (ld rfl Try.underlying3 rfl (HF2.box (mem_c mem_h) rfl)) rfl ?_
  refine sL (fa41_2 rfl) rfl ?_
  refine sL (ld rfl Try.underlying3 rfl (HF2.box (mem_c mem_h) rfl)) rfl ?_
  refine sL (fa41_3 rfl) rfl ?_
  refine sL (ld rfl Try.underlying3 rfl (HF2.box (mem_c mem_h) rfl)) rfl ?_
  refine sL (bd (r := [.int .i64 a0.f_Kind, .int .i64 a0.f_Id, .int .i64 a0.f_Adv]) pl78 ti78 rfl rfl) rfl ?_
  refine eS (oSt (l1 := [.int .i64 a0.f_Kind, .int .i64 a0.f_Id, .int .i64 a0.f_Adv]) HF2 rfl rfl ti78 rfl (ones rfl) (Nat.le_of_ble_eq_true rfl) rfl) ?_
  rintro w3 HF3
  refine lEnd (K := fun _ _ => True) ?_
  refine kN (?_)
  refine hK2 _ _ ?_
  refine cRet ?_
  obtain rfl := Option.some.inj H
  refine retA rfl (rvC rfl (lvA (cs := [.int .i64 a0.f_Kind, .int .i64 a0.f_Id, .int .i64 a0.f_Adv]) ti78 rfl rfl (HF3.boxes (o := 0) (n := 3) (mem_h) rfl))) ?_
  have HF4 := HF3.sublist (sl_dc (sl_dc (List.Sublist.refl _)))
  exact ⟨rfl, HF4⟩
/-! ### plenum/plenumlaw17.Right (function 13) -/
abbrev f_plenumlaw17_Right.R := Bool
noncomputable def f_plenumlaw17_Right.b0 (a0 : List T_api_Lsa) (s5 : Int) (s7 : Int) : Option (Sum (Int) (Sum (Int) f_plenumlaw17_Right.R)) := (if s7 < s5 then (if 0 ≤ s7 then (if s7 < (a0.length : Int) then (if 0 ≤ s5 then (if s5 < (a0.length : Int) then ((f_plenumref1_KeyOf (⟨(rd a0 s7).f_Head.f_Age, (rd a0 s7).f_Head.f_Kind, (rd a0 s7).f_Head.f_Id, (rd a0 s7).f_Head.f_Adv, (rd a0 s7).f_Head.f_Seq, (rd a0 s7).f_Head.f_Sum, (rd a0 s7).f_Head.f_Len⟩ : T_api_Head)).bind fun t35 => ((f_plenumref1_KeyOf (⟨(rd a0 s5).f_Head.f_Age, (rd a0 s5).f_Head.f_Kind, (rd a0 s5).f_Head.f_Id, (rd a0 s5).f_Head.f_Adv, (rd a0 s5).f_Head.f_Seq, (rd a0 s5).f_Head.f_Sum, (rd a0 s5).f_Head.f_Len⟩ : T_api_Head)).bind fun t36 => (if t35 = t36 then some (.inr (.inr false)) else some (.inl (IntKind.i64.wrap (s7 + 1)))))) else none) else none) else none) else none) else some (.inr (.inl s7)))
noncomputable def f_plenumlaw17_Right.b1 (a0 : List T_api_Lsa) (s5 : Int) : Option (Sum (Int) (Sum (Int) f_plenumlaw17_Right.R)) := (if s5 < (a0.length : Int) then ((((if 0 ≤ s5 then ((f_plenumlaw5_Great (rd a0 s5)).bind fun t23 => (if t23 = true then some (.inl true) else ((f_plenumref1_RightLsa (rd a0 s5)).bind fun t24 => some (.inl (!t24))))) else none) : Option (Sum (Bool) f_plenumlaw17_Right.R))).bind fun y9 => match y9 with | .inl s6 => (if s6 = true then some (.inr (.inr false)) else ((loopO (f_plenumlaw17_Right.b0 a0 s5) 0).bind fun y10 => match y10 with | .inl s7 => some (.inl (IntKind.i64.wrap (s5 + 1))) | .inr r_ => some (.inr (.inr r_)))) | .inr r_ => some (.inr (.inr r_))) else some (.inr (.inl s5)))
noncomputable def f_plenumlaw17_Right (a0 : List T_api_Lsa) : Option f_plenumlaw17_Right.R := (if 40 < (a0.length : Int) then some false else ((loopO (f_plenumlaw17_Right.b1 a0) 0).bind fun y7 => match y7 with | .inl s5 => some true | .inr r_ => some r_))
set_option maxHeartbeats 1000000 in
theorem f_plenumlaw17_Right.ok {z w : World} {F G : Hp} (hG : G ⊆ F) {a0 : List T_api_Lsa} {A_a0 : Option Addr} {c_a0 : Nat} {X_a0 : Hp} {r : f_plenumlaw17_Right.R} (H : f_plenumlaw17_Right a0 = some r) (HF : Fits z w F) (hX_a0 : X_a0 ⊆ F) (hr_a0 : RdS (kShr G k_T_api_Lsa) X_a0 A_a0 c_a0 a0) :
    Calls Try.prog 13 [.slice A_a0 a0.length c_a0].toArray w fun e w' => e = .returned (.bool r) ∧ Fits z w' F := by
  unfold f_plenumlaw17_Right at H
  refine enter0 Try.func13 rfl Try.ntmps13 rfl (E := [(0, .slice A_a0 a0.length c_a0)]) rfl ?_
  refine cSeq (fun K1 hK1 => ?_)
  refine cRgn [] trivial ?_
  refine sL (asg rfl) rfl ?_
  refine lEnd (K := fun _ _ => True) ?_
  refine kN (?_)
  refine hK1 _ _ ?_
  refine cSeq (fun K2 hK2 => ?_)
  refine cSeq (fun K3 hK3 => ?_)
  refine cRgn [] trivial ?_
  refine sL (mv rfl) rfl ?_
  refine sL (lnS rfl Try.underlying24) rfl ?_
  refine sL (bGtr rfl rfl) rfl ?_
  refine lEnd (K := fun _ _ => True) ?_
  refine kN (?_)
  refine hK3 _ _ ?_
  by_cases c1 : 40 < (a0.length : Int)
  · replace H := itT c1 H
    refine cSet (i := 7) rfl (dT c1) ?_
    refine cT rfl ?_
    refine cSeq (fun K4 hK4 => ?_)
    refine cRgn [] trivial ?_
    refine sL (asg rfl) rfl ?_
    refine lEnd (K := fun _ _ => True) ?_
    refine kN (?_)
    refine hK4 _ _ ?_
    refine cRet ?_
    obtain rfl := Option.some.inj H
    refine kR (?_)
    refine ret1 rfl rfl ?_
    exact ⟨rfl, HF⟩
  · replace H := itF c1 H
    refine cSet (i := 7) rfl (dF c1) ?_
    refine cF rfl ?_
    refine cSkip ?_
    refine kN (?_)
    refine hK2 _ _ ?_
    refine cSeq (fun K5 hK5 => ?_)
    refine cSeq (fun K6 hK6 => ?_)
    refine cRgn [] trivial ?_
    refine sL (asg rfl) rfl ?_
    refine lEnd (K := fun _ _ => True) ?_
    refine kN (?_)
    refine hK6 _ _ ?_
    replace H := bnd H; obtain ⟨y7, J40, Ho5⟩ := H
    refine cLoopB (f_plenumlaw17_Right.b1 a0) (fun (s5 : Int) a w => Env 45 [(0, .slice A_a0 a0.length c_a0), (2, .bool false), (3, .int .i64 s5)] a ∧ Fits z w F) J40 (fun a hE => ⟨hE.keep (Keep.cons rfl (Keep.cons rfl (Keep.cons rfl (Keep.nil)))), HF⟩) ?_ ?_
    · rintro s5 a w30 y8 ⟨hE, HF30⟩ H Hx3
      refine go_ hE ?_
      refine cSeq (fun K40 hK40 => ?_)
      refine cSeq (fun K41 hK41 => ?_)
      refine cRgn [] trivial ?_
      refine sL (mv rfl) rfl ?_
      refine sL (mv rfl) rfl ?_
      refine sL (lnS rfl Try.underlying24) rfl ?_
      refine sL (bLss rfl rfl) rfl ?_
      refine lEnd (K := fun _ _ => True) ?_
      refine kN (?_)
      refine hK41 _ _ ?_
      by_cases c96 : s5 < (a0.length : Int)
      · replace H := itT c96 H
        refine cSet (i := 11) rfl (dT c96) ?_
        refine cT rfl ?_
        refine cSkip ?_
        refine kN (?_)
        refine hK40 _ _ ?_
        refine cSeq (fun K42 hK42 => ?_)
        refine cBlock ?_
        refine cSeq (fun K43 hK43 => ?_)
        refine cSeq (fun K44 hK44 => ?_)
        replace H := bnd H; obtain ⟨y9, H, Ho6⟩ := H
        refine cJoin (y := y9) (fun (s6 : Bool) a w => Env 45 [(0, .slice A_a0 a0.length c_a0), (2, .bool false), (3, .int .i64 s5), (26, .bool s6)] a ∧ Fits z w F) ?_ ?_
        · refine cRgn [(5, 19)] ⟨rfl, trivial⟩ ?_
          refine sL (mv rfl) rfl ?_
          refine sL (mv rfl) rfl ?_
          replace H := chk H; obtain ⟨c105, H⟩ := H
          obtain ⟨g12, o12, e46, rfl, hk23, q23⟩ := RdS.at_ hr_a0 c105 c96
          obtain ⟨A67, c106, A68, c107, A69, c108, rfl, hr67, hr68, hr69⟩ := rd_T_api_Lsa hk23
          refine sL (ia rfl rfl Try.underlying24 ti44 c105 c96) rfl ?_
          refine sL (ldA rfl ti44 rfl rfl (fun j v hj => HF30.cells (hX_a0) (q23 j v hj))) rfl ?_
          replace H := bnd H; obtain ⟨t23, J25, H⟩ := H
          refine eCall isf28 rfl rfl rfl (f_plenumlaw5_Great.ok (a0 := (rd a0 s5)) hG J25 HF30 hG hr67 hG hr68 hG hr69) ?_
          rintro _ w33 ⟨rfl, HF33⟩
          refine ⟨_, rfl, ?_⟩
          refine sL (mv rfl) rfl ?_
          by_cases c109 : t23 = true
          · replace H := itT c109 H
            refine lSet (i := 19) rfl (vT c109) ?_
            refine sN rfl rfl rfl rfl ?_
            refine sN rfl rfl rfl rfl ?_
            refine sN rfl rfl rfl rfl ?_
            refine sN rfl rfl rfl rfl ?_
            refine sN rfl rfl rfl rfl ?_
            refine sN rfl rfl rfl rfl ?_
            refine sL (pkT rfl rfl) rfl ?_
            refine lEnd (K := fun _ _ => True) ?_
            refine kN (?_)
            exact ofEnv (fun a hE => ⟨_, (Option.some.inj H).symm, ⟨hE.keep (Keep.cons rfl (Keep.cons rfl (Keep.cons rfl (Keep.cons rfl (Keep.nil))))), HF33⟩⟩)
          · replace H := itF c109 H
            refine lSet (i := 19) rfl (vF c109) ?_
            refine sG rfl rfl (mv rfl) rfl ?_
            refine sG rfl rfl (mv rfl) rfl ?_
            obtain ⟨e48, hk24, q24⟩ := RdS.at' hr_a0 c105 c96
            obtain ⟨A70, c110, A71, c111, A72, c112, rfl, hr70, hr71, hr72⟩ := rd_T_api_Lsa hk24
            refine sG rfl rfl (ia rfl rfl Try.underlying24 ti44 c105 c96) rfl ?_
            refine sG rfl rfl (ldA rfl ti44 rfl rfl (fun j v hj => HF33.cells (hX_a0) (q24 j v hj))) rfl ?_
            replace H := bnd H; obtain ⟨t24, J26, H⟩ := H
            refine eCallG rfl rfl isf29 rfl rfl rfl (f_plenumref1_RightLsa.ok (a0 := (rd a0 s5)) hG J26 HF33 hG hr70 hG hr71 hG hr72) ?_
            rintro _ w34 ⟨rfl, HF34⟩
            refine ⟨_, rfl, ?_⟩
            refine sG rfl rfl (uNot rfl) rfl ?_
            refine sL (pkF rfl rfl) rfl ?_
            refine lEnd (K := fun _ _ => True) ?_
            refine kN (?_)
            exact ofEnv (fun a hE => ⟨_, (Option.some.inj H).symm, ⟨hE.keep (Keep.cons rfl (Keep.cons rfl (Keep.cons rfl (Keep.cons rfl (Keep.nil))))), HF34⟩⟩)
        · rintro s6 a w35 rfl ⟨hE, HF35⟩
          replace H := Ho6
          refine go_k hE ?_
          refine kN (?_)
          refine hK44 _ _ ?_
          by_cases c113 : s6 = true
          · replace H := itT c113 H
            refine cSet (i := 26) rfl (vT c113) ?_
            refine cT rfl ?_
            refine cSeq (fun K45 hK45 => ?_)
            refine cRgn [] trivial ?_
            refine sL (asg rfl) rfl ?_
            refine lEnd (K := fun _ _ => True) ?_
            refine kN (?_)
            refine hK45 _ _ ?_
            refine cRet ?_
            have e_ := Hx3 _ (Option.some.inj H).symm
            subst e_
            replace H := Ho5
            obtain rfl := Option.some.inj H
            refine kR (jR (kR (kR (jR (kR (kR (?_)))))))
            refine ret1 rfl rfl ?_
            exact ⟨rfl, HF35⟩
          · replace H := itF c113 H
            refine cSet (i := 26) rfl (vF c113) ?_
            refine cF rfl ?_
            refine cSkip ?_
            refine kN (?_)
            refine hK43 _ _ ?_
            refine cSeq (fun K46 hK46 => ?_)
            refine cRgn [] trivial ?_
            refine sL (asg rfl) rfl ?_
            refine lEnd (K := fun _ _ => True) ?_
            refine kN (?_)
            refine hK46 _ _ ?_
            replace H := bnd H; obtain ⟨y10, J39, Ho7⟩ := H
            refine cLoopB (f_plenumlaw17_Right.b0 a0 s5) (fun (s7 : Int) a w => Env 45 [(0, .slice A_a0 a0.length c_a0), (2, .bool false), (3, .int .i64 s5), (4, .int .i64 s7)] a ∧ Fits z w F) J39 (fun a hE => ⟨hE.keep (Keep.cons rfl (Keep.cons rfl (Keep.cons rfl (Keep.cons rfl (Keep.nil))))), HF35⟩) ?_ ?_
            · rintro s7 a w46 y11 ⟨hE, HF46⟩ H Hx4
              refine go_ hE ?_
              refine cSeq (fun K57 hK57 => ?_)
              refine cSeq (fun K58 hK58 => ?_)
              refine cRgn [] trivial ?_
              refine sL (mv rfl) rfl ?_
              refine sL (mv rfl) rfl ?_
              refine sL (bLss rfl rfl) rfl ?_
              refine lEnd (K := fun _ _ => True) ?_
              refine kN (?_)
              refine hK58 _ _ ?_
              by_cases c156 : s7 < s5
              · replace H := itT c156 H
                refine cSet (i := 29) rfl (dT c156) ?_
                refine cT rfl ?_
                refine cSkip ?_
                refine kN (?_)
                refine hK57 _ _ ?_
                refine cSeq (fun K59 hK59 => ?_)
                refine cBlock ?_
                refine cSeq (fun K60 hK60 => ?_)
                refine cDraw mo_ HF46 rfl (fun w => Fits z w F) (fun w49 HF49 => ?_)
                refine hTake 0 rfl (by kernel_rfl) (pThen (pBlock (pThen (pThen (pBlock (pThen (pBlock (pThen (pThen (pBlock (pThen (pThen pFn)))))))))))) (fun w_ hS_ => mv rfl) HF49 rfl rfl ?_
                refine hTake 1 rfl (by kernel_rfl) (pThen (pBlock (pThen (pThen (pBlock (pThen (pBlock (pThen (pThen (pBlock (pThen (pThen pFn)))))))))))) (fun w_ hS_ => mv rfl) HF49 rfl rfl ?_
                replace H := chk H; obtain ⟨c167, H⟩ := H
                replace H := chk H; obtain ⟨c168, H⟩ := H
                obtain ⟨g18, o18, e70, rfl, hk35, q35⟩ := RdS.at_ hr_a0 c167 c168
                obtain ⟨A103, c169, A104, c170, A105, c171, rfl, hr103, hr104, hr105⟩ := rd_T_api_Lsa hk35
                refine hTake 2 rfl (by kernel_rfl) (pThen (pBlock (pThen (pThen (pBlock (pThen (pBlock (pThen (pThen (pBlock (pThen (pThen pFn)))))))))))) (fun w_ hS_ => ia rfl rfl Try.underlying24 ti44 c167 c168) HF49 rfl rfl ?_
                refine hTake 3 rfl (by kernel_rfl) (pThen (pBlock (pThen (pThen (pBlock (pThen (pBlock (pThen (pThen (pBlock (pThen (pThen pFn)))))))))))) (fun w_ hS_ => fa44_0 rfl) HF49 rfl rfl ?_
                refine hTake 4 rfl (by kernel_rfl) (pThen (pBlock (pThen (pThen (pBlock (pThen (pBlock (pThen (pThen (pBlock (pThen (pThen pFn)))))))))))) (fun w_ hS_ => ldA (cs := [.int .i64 ((rd a0 s7).f_Head.f_Age), .int .i64 ((rd a0 s7).f_Head.f_Kind), .int .i64 ((rd a0 s7).f_Head.f_Id), .int .i64 ((rd a0 s7).f_Head.f_Adv), .int .i64 ((rd a0 s7).f_Head.f_Seq), .int .i64 ((rd a0 s7).f_Head.f_Sum), .int .i64 ((rd a0 s7).f_Head.f_Len)]) rfl ti41 rfl rfl (fun j v hj => hS_.cells (hX_a0) (el_part q35 (off := 0) (n := 7) rfl j v hj))) HF49 rfl rfl ?_
                refine hTake 6 rfl (by kernel_rfl) (pThen (pBlock (pThen (pThen (pBlock (pThen (pBlock (pThen (pThen (pBlock (pThen (pThen pFn)))))))))))) (fun w_ hS_ => mv rfl) HF49 rfl rfl ?_
                refine hTake 7 rfl (by kernel_rfl) (pThen (pBlock (pThen (pThen (pBlock (pThen (pBlock (pThen (pThen (pBlock (pThen (pThen pFn)))))))))))) (fun w_ hS_ => mv rfl) HF49 rfl rfl ?_
                replace H := chk H; obtain ⟨c172, H⟩ := H
                replace H := chk H; obtain ⟨c173, H⟩ := H
                obtain ⟨e72, hk36, q36⟩ := RdS.at' hr_a0 c172 c173
                obtain ⟨A106, c174, A107, c175, A108, c176, rfl, hr106, hr107, hr108⟩ := rd_T_api_Lsa hk36
                refine hTake 8 rfl (by kernel_rfl) (pThen (pBlock (pThen (pThen (pBlock (pThen (pBlock (pThen (pThen (pBlock (pThen (pThen pFn)))))))))))) (fun w_ hS_ => ia rfl rfl Try.underlying24 ti44 c172 c173) HF49 rfl rfl ?_
                refine hTake 9 rfl (by kernel_rfl) (pThen (pBlock (pThen (pThen (pBlock (pThen (pBlock (pThen (pThen (pBlock (pThen (pThen pFn)))))))))))) (fun w_ hS_ => fa44_0 rfl) HF49 rfl rfl ?_
                refine hTake 10 rfl (by kernel_rfl) (pThen (pBlock (pThen (pThen (pBlock (pThen (pBlock (pThen (pThen (pBlock (pThen (pThen pFn)))))))))))) (fun w_ hS_ => ldA (cs := [.int .i64 ((rd a0 s5).f_Head.f_Age), .int .i64 ((rd a0 s5).f_Head.f_Kind), .int .i64 ((rd a0 s5).f_Head.f_Id), .int .i64 ((rd a0 s5).f_Head.f_Adv), .int .i64 ((rd a0 s5).f_Head.f_Seq), .int .i64 ((rd a0 s5).f_Head.f_Sum), .int .i64 ((rd a0 s5).f_Head.f_Len)]) rfl ti41 rfl rfl (fun j v hj => hS_.cells (hX_a0) (el_part q36 (off := 0) (n := 7) rfl j v hj))) HF49 rfl rfl ?_
                refine h1 5 (by kernel_rfl) rfl ?_
                replace H := bnd H; obtain ⟨t35, J37, H⟩ := H
                refine qCall rfl gd0 isf30 rfl rfl rfl (f_plenumref1_KeyOf.ok (a0 := (⟨(rd a0 s7).f_Head.f_Age, (rd a0 s7).f_Head.f_Kind, (rd a0 s7).f_Head.f_Id, (rd a0 s7).f_Head.f_Adv, (rd a0 s7).f_Head.f_Seq, (rd a0 s7).f_Head.f_Sum, (rd a0 s7).f_Head.f_Len⟩ : T_api_Head)) J37 HF49) ?_
                rintro _ w50 ⟨rfl, HF50⟩
                refine ⟨_, rfl, HF50, ?_⟩
                refine h1 11 (by kernel_rfl) rfl ?_
                replace H := bnd H; obtain ⟨t36, J38, H⟩ := H
                refine qCall rfl gd0 isf30 rfl rfl rfl (f_plenumref1_KeyOf.ok (a0 := (⟨(rd a0 s5).f_Head.f_Age, (rd a0 s5).f_Head.f_Kind, (rd a0 s5).f_Head.f_Id, (rd a0 s5).f_Head.f_Adv, (rd a0 s5).f_Head.f_Seq, (rd a0 s5).f_Head.f_Sum, (rd a0 s5).f_Head.f_Len⟩ : T_api_Head)) J38 HF50) ?_
                rintro _ w51 ⟨rfl, HF51⟩
                refine ⟨_, rfl, HF51, ?_⟩
                refine hTake 12 rfl (by kernel_rfl) (pThen (pBlock (pThen (pThen (pBlock (pThen (pBlock (pThen (pThen (pBlock (pThen (pThen pFn)))))))))))) (fun w_ hS_ => bAggEql (xs := [.int .i64 t35.f_Kind, .int .i64 t35.f_Id, .int .i64 t35.f_Adv]) (ys := [.int .i64 t36.f_Kind, .int .i64 t36.f_Id, .int .i64 t36.f_Adv]) (n := 2) rfl rfl eg78 (eqStruct Try.underlying78 sh78 (eqFcons (by decide) (pt1 Try.underlying3 rfl rfl) (pt1 Try.underlying3 rfl rfl) (eqInt Try.underlying3) (eqFcons (by decide) (pt1 Try.underlying3 rfl rfl) (pt1 Try.underlying3 rfl rfl) (eqInt Try.underlying3) (eqFcons (by decide) (pt1 Try.underlying3 rfl rfl) (pt1 Try.underlying3 rfl rfl) (eqInt Try.underlying3) eqFnil)))) rfl (eq_T_api_Key t35 t36)) HF51 rfl rfl ?_
                refine hEnd (by kernel_rfl) ?_
                refine kN (?_)
                refine hK60 _ _ ?_
                by_cases c177 : t35 = t36
                · replace H := itT c177 H
                  refine cSet (i := 44) rfl (dT c177) ?_
                  refine cT rfl ?_
                  refine cSeq (fun K61 hK61 => ?_)
                  refine cRgn [] trivial ?_
                  refine sL (asg rfl) rfl ?_
                  refine lEnd (K := fun _ _ => True) ?_
                  refine kN (?_)
                  refine hK61 _ _ ?_
                  refine cRet ?_
                  have e_ := Hx4 _ (Option.some.inj H).symm
                  subst e_
                  replace H := Ho7
                  have e_ := Hx3 _ (Option.some.inj H).symm
                  subst e_
                  replace H := Ho5
                  obtain rfl := Option.some.inj H
                  refine jR (kR (kR (jR (kR (jR (kR (kR (jR (kR (kR (?_)))))))))))
                  refine ret1 rfl rfl ?_
                  exact ⟨rfl, HF51⟩
                · replace H := itF c177 H
                  refine cSet (i := 44) rfl (dF c177) ?_
                  refine cF rfl ?_
                  refine cSkip ?_
                  refine jN (kN (?_))
                  refine hK59 _ _ ?_
                  refine cRgn [] trivial ?_
                  refine sL (mv rfl) rfl ?_
                  refine sL (bAdd rfl rfl) rfl ?_
                  refine sL (asg rfl) rfl ?_
                  refine lEnd (K := fun _ _ => True) ?_
                  refine kN (?_)
                  exact ofEnv (fun a hE => ⟨_, (Option.some.inj H).symm, ⟨hE.keep (Keep.cons rfl (Keep.cons rfl (Keep.cons rfl (Keep.cons rfl (Keep.nil))))), HF51⟩⟩)
              · replace H := itF c156 H
                refine cSet (i := 29) rfl (dF c156) ?_
                refine cF rfl ?_
                refine cExit ?_
                refine kX (kX (jX (kN (?_))))
                exact ofEnv (fun a hE => ⟨_, (Option.some.inj H).symm, ⟨hE.keep (Keep.cons rfl (Keep.cons rfl (Keep.cons rfl (Keep.cons rfl (Keep.nil))))), HF46⟩⟩)
            · rintro s7 a w52 rfl ⟨hE, HF52⟩
              replace H := Ho7
              refine go_k hE ?_
              refine jN (kN (?_))
              refine hK42 _ _ ?_
              refine cRgn [] trivial ?_
              refine sL (mv rfl) rfl ?_
              refine sL (bAdd rfl rfl) rfl ?_
              refine sL (asg rfl) rfl ?_
              refine lEnd (K := fun _ _ => True) ?_
              refine kN (?_)
              exact ofEnv (fun a hE => ⟨_, (Option.some.inj H).symm, ⟨hE.keep (Keep.cons rfl (Keep.cons rfl (Keep.cons rfl (Keep.nil)))), HF52⟩⟩)
      · replace H := itF c96 H
        refine cSet (i := 11) rfl (dF c96) ?_
        refine cF rfl ?_
        refine cExit ?_
        refine kX (kX (jX (kN (?_))))
        exact ofEnv (fun a hE => ⟨_, (Option.some.inj H).symm, ⟨hE.keep (Keep.cons rfl (Keep.cons rfl (Keep.cons rfl (Keep.nil)))), HF30⟩⟩)
    · rintro s5 a w53 rfl ⟨hE, HF53⟩
      replace H := Ho5
      refine go_k hE ?_
      refine kN (?_)
      refine hK5 _ _ ?_
      refine cSeq (fun K62 hK62 => ?_)
      refine cRgn [] trivial ?_
      refine sL (asg rfl) rfl ?_
      refine lEnd (K := fun _ _ => True) ?_
      refine kN (?_)
      refine hK62 _ _ ?_
      refine cRet ?_
      obtain rfl := Option.some.inj H
      refine ret1 rfl rfl ?_
      exact ⟨rfl, HF53⟩
/-! ### cmp.isNaN[int] (function 60) -/
abbrev f_cmp_isNaN_int.R := Bool
noncomputable def f_cmp_isNaN_int (a0 : Int) : Option f_cmp_isNaN_int.R := some (!decide (a0 = a0))
set_option maxHeartbeats 1000000 in
theorem f_cmp_isNaN_int.ok {z w : World} {F : Hp} {a0 : Int} {r : f_cmp_isNaN_int.R} (H : f_cmp_isNaN_int a0 = some r) (HF : Fits z w F) :
    Calls Try.prog 60 [.int .i64 a0].toArray w fun e w' => e = .returned (.bool r) ∧ Fits z w' F := by
  unfold f_cmp_isNaN_int at H
  refine enter0 Try.func60 rfl Try.ntmps60 rfl (E := [(0, .int .i64 a0)]) rfl ?_
  refine cSeq (fun K1 hK1 => ?_)
  refine cRgn [] trivial ?_
  refine sL (asg rfl) rfl ?_
  refine lEnd (K := fun _ _ => True) ?_
  refine kN (?_)
  refine hK1 _ _ ?_
  refine cSeq (fun K2 hK2 => ?_)
  refine cRgn [] trivial ?_
  refine sL (mv rfl) rfl ?_
  refine sL (mv rfl) rfl ?_
  refine sL (bNeq rfl rfl) rfl ?_
  refine sL (asg rfl) rfl ?_
  refine lEnd (K := fun _ _ => True) ?_
  refine kN (?_)
  refine hK2 _ _ ?_
  refine cRet ?_
  obtain rfl := Option.some.inj H
  refine ret1 rfl rfl ?_
  exact ⟨rfl, HF⟩
/-! ### cmp.Compare[int] (function 41) -/
abbrev f_cmp_Compare_int.R := Int
noncomputable def f_cmp_Compare_int (a0 : Int) (a1 : Int) : Option f_cmp_Compare_int.R := ((f_cmp_isNaN_int a0).bind fun t1 => ((f_cmp_isNaN_int a1).bind fun t2 => (if t1 = true then (if t2 = true then some 0 else some (-1)) else (if t2 = true then some 1 else (if a0 < a1 then some (-1) else (if a1 < a0 then some 1 else some 0))))))
set_option maxHeartbeats 1000000 in
theorem f_cmp_Compare_int.ok {z w : World} {F : Hp} {a0 : Int} {a1 : Int} {r : f_cmp_Compare_int.R} (H : f_cmp_Compare_int a0 a1 = some r) (HF : Fits z w F) :
    Calls Try.prog 41 [.int .i64 a0, .int .i64 a1].toArray w fun e w' => e = .returned (.int .i64 r) ∧ Fits z w' F := by
  unfold f_cmp_Compare_int at H
  refine enter0 Try.func41 rfl Try.ntmps41 rfl (E := [(0, .int .i64 a0), (1, .int .i64 a1)]) rfl ?_
  refine cSeq (fun K1 hK1 => ?_)
  refine cRgn [] trivial ?_
  refine sL (asg rfl) rfl ?_
  refine lEnd (K := fun _ _ => True) ?_
  refine kN (?_)
  refine hK1 _ _ ?_
  refine cSeq (fun K2 hK2 => ?_)
  refine cRgn [] trivial ?_
  refine sL (mv rfl) rfl ?_
  replace H := bnd H; obtain ⟨t1, J1, H⟩ := H
  refine eCall isf60 rfl rfl rfl (f_cmp_isNaN_int.ok J1 HF) ?_
  rintro _ w1 ⟨rfl, HF1⟩
  refine ⟨_, rfl, ?_⟩
  refine sL (asg rfl) rfl ?_
  refine lEnd (K := fun _ _ => True) ?_
  refine kN (?_)
  refine hK2 _ _ ?_
  refine cSeq (fun K3 hK3 => ?_)
  refine cRgn [] trivial ?_
  refine sL (mv rfl) rfl ?_
  replace H := bnd H; obtain ⟨t2, J2, H⟩ := H
  refine eCall isf60 rfl rfl rfl (f_cmp_isNaN_int.ok J2 HF1) ?_
  rintro _ w2 ⟨rfl, HF2⟩
  refine ⟨_, rfl, ?_⟩
  refine sL (asg rfl) rfl ?_
  refine lEnd (K := fun _ _ => True) ?_
  refine kN (?_)
  refine hK3 _ _ ?_
  refine cSeq (fun K4 hK4 => ?_)
  refine cSeq (fun K5 hK5 => ?_)
  refine cRgn [] trivial ?_
  refine sL (mv rfl) rfl ?_
  refine lEnd (K := fun _ _ => True) ?_
  refine kN (?_)
  refine hK5 _ _ ?_
  by_cases c1 : t1 = true
  · replace H := itT c1 H
    refine cSet (i := 11) rfl (vT c1) ?_
    refine cT rfl ?_
    refine cSeq (fun K6 hK6 => ?_)
    refine cSeq (fun K7 hK7 => ?_)
    refine cRgn [] trivial ?_
    refine sL (mv rfl) rfl ?_
    refine lEnd (K := fun _ _ => True) ?_
    refine kN (?_)
    refine hK7 _ _ ?_
    by_cases c2 : t2 = true
    · replace H := itT c2 H
      refine cSet (i := 12) rfl (vT c2) ?_
      refine cT rfl ?_
      refine cSeq (fun K8 hK8 => ?_)
      refine cRgn [] trivial ?_
      refine sL (asg rfl) rfl ?_
      refine lEnd (K := fun _ _ => True) ?_
      refine kN (?_)
      refine hK8 _ _ ?_
      refine cRet ?_
      obtain rfl := Option.some.inj H
      refine kR (kR (?_))
      refine ret1 rfl rfl ?_
      exact ⟨rfl, HF2⟩
    · replace H := itF c2 H
      refine cSet (i := 12) rfl (vF c2) ?_
      refine cF rfl ?_
      refine cSkip ?_
      refine kN (?_)
      refine hK6 _ _ ?_
      refine cSeq (fun K9 hK9 => ?_)
      refine cRgn [] trivial ?_
      refine sL (asg rfl) rfl ?_
      refine lEnd (K := fun _ _ => True) ?_
      refine kN (?_)
      refine hK9 _ _ ?_
      refine cRet ?_
      obtain rfl := Option.some.inj H
      refine kR (?_)
      refine ret1 rfl rfl ?_
      exact ⟨rfl, HF2⟩
  · replace H := itF c1 H
    refine cSet (i := 11) rfl (vF c1) ?_
    refine cF rfl ?_
    refine cSkip ?_
    refine kN (?_)
    refine hK4 _ _ ?_
    refine cSeq (fun K10 hK10 => ?_)
    refine cSeq (fun K11 hK11 => ?_)
    refine cRgn [] trivial ?_
    refine sL (mv rfl) rfl ?_
    refine lEnd (K := fun _ _ => True) ?_
    refine kN (?_)
    refine hK11 _ _ ?_
    by_cases c3 : t2 = true
    · replace H := itT c3 H
      refine cSet (i := 13) rfl (vT c3) ?_
      refine cT rfl ?_
      refine cSeq (fun K12 hK12 => ?_)
      refine cRgn [] trivial ?_
      refine sL (asg rfl) rfl ?_
      refine lEnd (K := fun _ _ => True) ?_
      refine kN (?_)
      refine hK12 _ _ ?_
      refine cRet ?_
      obtain rfl := Option.some.inj H
      refine kR (?_)
      refine ret1 rfl rfl ?_
      exact ⟨rfl, HF2⟩
    · replace H := itF c3 H
      refine cSet (i := 13) rfl (vF c3) ?_
      refine cF rfl ?_
      refine cSkip ?_
      refine kN (?_)
      refine hK10 _ _ ?_
      refine cSeq (fun K13 hK13 => ?_)
      refine cSeq (fun K14 hK14 => ?_)
      refine cRgn [] trivial ?_
      refine sL (mv rfl) rfl ?_
      refine sL (mv rfl) rfl ?_
      refine sL (bLss rfl rfl) rfl ?_
      refine lEnd (K := fun _ _ => True) ?_
      refine kN (?_)
      refine hK14 _ _ ?_
      by_cases c4 : a0 < a1
      · replace H := itT c4 H
        refine cSet (i := 16) rfl (dT c4) ?_
        refine cT rfl ?_
        refine cSeq (fun K15 hK15 => ?_)
        refine cRgn [] trivial ?_
        refine sL (asg rfl) rfl ?_
        refine lEnd (K := fun _ _ => True) ?_
        refine kN (?_)
        refine hK15 _ _ ?_
        refine cRet ?_
        obtain rfl := Option.some.inj H
        refine kR (?_)
        refine ret1 rfl rfl ?_
        exact ⟨rfl, HF2⟩
      · replace H := itF c4 H
        refine cSet (i := 16) rfl (dF c4) ?_
        refine cF rfl ?_
        refine cSkip ?_
        refine kN (?_)
        refine hK13 _ _ ?_
        refine cSeq (fun K16 hK16 => ?_)
        refine cSeq (fun K17 hK17 => ?_)
        refine cRgn [] trivial ?_
        refine sL (mv rfl) rfl ?_
        refine sL (mv rfl) rfl ?_
        refine sL (bGtr rfl rfl) rfl ?_
        refine lEnd (K := fun _ _ => True) ?_
        refine kN (?_)
        refine hK17 _ _ ?_
        by_cases c5 : a1 < a0
        · replace H := itT c5 H
          refine cSet (i := 19) rfl (dT c5) ?_
          refine cT rfl ?_
          refine cSeq (fun K18 hK18 => ?_)
          refine cRgn [] trivial ?_
          refine sL (asg rfl) rfl ?_
          refine lEnd (K := fun _ _ => True) ?_
          refine kN (?_)
          refine hK18 _ _ ?_
          refine cRet ?_
          obtain rfl := Option.some.inj H
          refine kR (?_)
          refine ret1 rfl rfl ?_
          exact ⟨rfl, HF2⟩
        · replace H := itF c5 H
          refine cSet (i := 19) rfl (dF c5) ?_
          refine cF rfl ?_
          refine cSkip ?_
          refine kN (?_)
          refine hK16 _ _ ?_
          refine cSeq (fun K19 hK19 => ?_)
          refine cRgn [] trivial ?_
          refine sL (asg rfl) rfl ?_
          refine lEnd (K := fun _ _ => True) ?_
          refine kN (?_)
          refine hK19 _ _ ?_
          refine cRet ?_
          obtain rfl := Option.some.inj H
          refine ret1 rfl rfl ?_
          exact ⟨rfl, HF2⟩
/-! ### cmp.Or[int] (function 40) -/
abbrev f_cmp_Or_int.R := Int
noncomputable def f_cmp_Or_int.b0 (a0 : List Int) (s1 : Int) : Option (Sum (Int) (Sum (Int) f_cmp_Or_int.R)) := (if s1 < (a0.length : Int) then (if 0 ≤ s1 then (if (rd a0 s1) = 0 then some (.inl (IntKind.i64.wrap (s1 + 1))) else some (.inr (.inr (rd a0 s1)))) else none) else some (.inr (.inl s1)))
noncomputable def f_cmp_Or_int (a0 : List Int) : Option f_cmp_Or_int.R := ((loopO (f_cmp_Or_int.b0 a0) 0).bind fun y1 => match y1 with | .inl s1 => some 0 | .inr r_ => some r_)
set_option maxHeartbeats 1000000 in
theorem f_cmp_Or_int.ok {z w : World} {F G : Hp} (hG : G ⊆ F) {a0 : List Int} {A_a0 : Option Addr} {c_a0 : Nat} {X_a0 : Hp} {r : f_cmp_Or_int.R} (H : f_cmp_Or_int a0 = some r) (HF : Fits z w F) (hX_a0 : X_a0 ⊆ F) (hr_a0 : RdS (kInt .i64) X_a0 A_a0 c_a0 a0) :
    Calls Try.prog 40 [.slice A_a0 a0.length c_a0].toArray w fun e w' => e = .returned (.int .i64 r) ∧ Fits z w' F := by
  unfold f_cmp_Or_int at H
  refine enter0 Try.func40 rfl Try.ntmps40 rfl (E := [(0, .slice A_a0 a0.length c_a0)]) rfl ?_
  refine cSeq (fun K1 hK1 => ?_)
  refine cRgn [] trivial ?_
  refine sL (asg rfl) rfl ?_
  refine lEnd (K := fun _ _ => True) ?_
  refine kN (?_)
  refine hK1 _ _ ?_
  refine cSeq (fun K2 hK2 => ?_)
  refine cRgn [] trivial ?_
  refine sL (asg rfl) rfl ?_
  refine lEnd (K := fun _ _ => True) ?_
  refine kN (?_)
  refine hK2 _ _ ?_
  refine cSeq (fun K3 hK3 => ?_)
  refine cSeq (fun K4 hK4 => ?_)
  refine cRgn [] trivial ?_
  refine sL (mv rfl) rfl ?_
  refine sL (lnS rfl Try.underlying30) rfl ?_
  refine sL (mv rfl) rfl ?_
  refine lEnd (K := fun _ _ => True) ?_
  refine kN (?_)
  refine hK4 _ _ ?_
  replace H := bnd H; obtain ⟨y1, J1, Ho1⟩ := H
  refine cLoopB (f_cmp_Or_int.b0 a0) (fun (s1 : Int) a w => Env 18 [(2, .int .i64 0), (3, .int .i64 0), (6, .slice A_a0 a0.length c_a0), (7, .int .i64 (a0.length : Int)), (8, .int .i64 s1)] a ∧ Fits z w F) J1 (fun a hE => ⟨hE.keep (Keep.cons rfl (Keep.cons rfl (Keep.cons rfl (Keep.cons rfl (Keep.cons rfl (Keep.nil)))))), HF⟩) ?_ ?_
  · rintro s1 a w1 y2 ⟨hE, HF1⟩ H Hx1
    refine go_ hE ?_
    refine cSeq (fun K17 hK17 => ?_)
    refine cRgn [] trivial ?_
    refine sL (bLss rfl rfl) rfl ?_
    refine lEnd (K := fun _ _ => True) ?_
    refine kN (?_)
    refine hK17 _ _ ?_
    refine cSeq (fun K18 hK18 => ?_)
    by_cases c6 : s1 < (a0.length : Int)
    · replace H := itT c6 H
      refine cSet (i := 9) rfl (dT c6) ?_
      refine cT rfl ?_
      refine cSkip ?_
      refine kN (?_)
      refine hK18 _ _ ?_
      refine cSeq (fun K19 hK19 => ?_)
      refine cBlock ?_
      refine cSeq (fun K20 hK20 => ?_)
      refine cRgn [] trivial ?_
      replace H := chk H; obtain ⟨c7, H⟩ := H
      obtain ⟨g3, o3, _, rfl, rfl, q3⟩ := RdS.at_ hr_a0 c7 c6
      refine sL (ia rfl rfl Try.underlying30 ti3 c7 c6) rfl ?_
      refine sL (ld rfl Try.underlying3 rfl (HF1.cells (hX_a0) (q3 0 _ rfl))) rfl ?_
      refine sL (asg rfl) rfl ?_
      refine lEnd (K := fun _ _ => True) ?_
      refine kN (?_)
      refine hK20 _ _ ?_
      refine cSeq (fun K21 hK21 => ?_)
      refine cRgn [] trivial ?_
      refine sL (mv rfl) rfl ?_
      refine sL (mv rfl) rfl ?_
      refine sL (bNeq rfl rfl) rfl ?_
      refine lEnd (K := fun _ _ => True) ?_
      refine kN (?_)
      refine hK21 _ _ ?_
      by_cases c8 : (rd a0 s1) = 0
      · replace H := itT c8 H
        refine cSet (i := 14) rfl (nF c8) ?_
        refine cF rfl ?_
        refine cSkip ?_
        refine jN (kN (?_))
        refine hK19 _ _ ?_
        refine cRgn [] trivial ?_
        refine sL (bAdd rfl rfl) rfl ?_
        refine sL (mv rfl) rfl ?_
        refine lEnd (K := fun _ _ => True) ?_
        refine kN (?_)
        exact ofEnv (fun a hE => ⟨_, (Option.some.inj H).symm, ⟨hE.keep (Keep.cons rfl (Keep.cons rfl (Keep.cons rfl (Keep.cons rfl (Keep.cons rfl (Keep.nil)))))), HF1⟩⟩)
      · replace H := itF c8 H
        refine cSet (i := 14) rfl (nT c8) ?_
        refine cT rfl ?_
        refine cSeq (fun K22 hK22 => ?_)
        refine cRgn [] trivial ?_
        refine sL (mv rfl) rfl ?_
        refine sL (asg rfl) rfl ?_
        refine lEnd (K := fun _ _ => True) ?_
        refine kN (?_)
        refine hK22 _ _ ?_
        refine cRet ?_
        have e_ := Hx1 _ (Option.some.inj H).symm
        subst e_
        replace H := Ho1
        obtain rfl := Option.some.inj H
        refine jR (kR (kR (jR (kR (kR (?_))))))
        refine ret1 rfl rfl ?_
        exact ⟨rfl, HF1⟩
    · replace H := itF c6 H
      refine cSet (i := 9) rfl (dF c6) ?_
      refine cF rfl ?_
      refine cExit ?_
      refine kX (kX (jX (kN (?_))))
      exact ofEnv (fun a hE => ⟨_, (Option.some.inj H).symm, ⟨hE.keep (Keep.cons rfl (Keep.cons rfl (Keep.cons rfl (Keep.cons rfl (Keep.cons rfl (Keep.nil)))))), HF1⟩⟩)
  · rintro s1 a w2 rfl ⟨hE, HF2⟩
    replace H := Ho1
    refine go_k hE ?_
    refine kN (?_)
    refine hK3 _ _ ?_
    refine cSeq (fun K23 hK23 => ?_)
    refine cRgn [] trivial ?_
    refine sL (mv rfl) rfl ?_
    refine sL (asg rfl) rfl ?_
    refine lEnd (K := fun _ _ => True) ?_
    refine kN (?_)
    refine hK23 _ _ ?_
    refine cRet ?_
    obtain rfl := Option.some.inj H
    refine ret1 rfl rfl ?_
    exact ⟨rfl, HF2⟩
/-! ### plenum/topo.live$1 (function 49) -/
abbrev f_topo_live_1.R := Int
noncomputable def f_topo_live_1 (a0 : T_api_Lsa) (a1 : T_api_Lsa) : Option f_topo_live_1.R := ((f_cmp_Compare_int a0.f_Head.f_Id a1.f_Head.f_Id).bind fun t4 => ((f_cmp_Compare_int a0.f_Head.f_Adv a1.f_Head.f_Adv).bind fun t5 => ((f_cmp_Or_int ([t4, t5])).bind fun t6 => some t6)))
set_option maxHeartbeats 1000000 in
theorem f_topo_live_1.ok {z w : World} {F G : Hp} (hG : G ⊆ F) {a0 : T_api_Lsa} {A_a0_8 : Option Addr} {c_a0_8 : Nat} {X_a0_8 : Hp} {A_a0_10 : Option Addr} {c_a0_10 : Nat} {X_a0_10 : Hp} {A_a0_11 : Option Addr} {c_a0_11 : Nat} {X_a0_11 : Hp} {a1 : T_api_Lsa} {A_a1_8 : Option Addr} {c_a1_8 : Nat} {X_a1_8 : Hp} {A_a1_10 : Option Addr} {c_a1_10 : Nat} {X_a1_10 : Hp} {A_a1_11 : Option Addr} {c_a1_11 : Nat} {X_a1_11 : Hp} {r : f_topo_live_1.R} (H : f_topo_live_1 a0 a1 = some r) (HF : Fits z w F) (hX_a0_8 : X_a0_8 ⊆ F) (hr_a0_8 : RdS k_T_api_Link X_a0_8 A_a0_8 c_a0_8 a0.f_Links) (hX_a0_10 : X_a0_10 ⊆ F) (hr_a0_10 : RdS (kInt .i64) X_a0_10 A_a0_10 c_a0_10 a0.f_Routers) (hX_a0_11 : X_a0_11 ⊆ F) (hr_a0_11 : RdS k_T_api_Vert X_a0_11 A_a0_11 c_a0_11 a0.f_Verts) (hX_a1_8 : X_a1_8 ⊆ F) (hr_a1_8 : RdS k_T_api_Link X_a1_8 A_a1_8 c_a1_8 a1.f_Links) (hX_a1_10 : X_a1_10 ⊆ F) (hr_a1_10 : RdS (kInt .i64) X_a1_10 A_a1_10 c_a1_10 a1.f_Routers) (hX_a1_11 : X_a1_11 ⊆ F) (hr_a1_11 : RdS k_T_api_Vert X_a1_11 A_a1_11 c_a1_11 a1.f_Verts) :
    Calls Try.prog 49 [.agg [.int .i64 a0.f_Head.f_Age, .int .i64 a0.f_Head.f_Kind, .int .i64 a0.f_Head.f_Id, .int .i64 a0.f_Head.f_Adv, .int .i64 a0.f_Head.f_Seq, .int .i64 a0.f_Head.f_Sum, .int .i64 a0.f_Head.f_Len, .int .i64 a0.f_Flags, .slice A_a0_8 a0.f_Links.length c_a0_8, .int .i64 a0.f_Bits, .slice A_a0_10 a0.f_Routers.length c_a0_10, .slice A_a0_11 a0.f_Verts.length c_a0_11].toArray, .agg [.int .i64 a1.f_Head.f_Age, .int .i64 a1.f_Head.f_Kind, .int .i64 a1.f_Head.f_Id, .int .i64 a1.f_Head.f_Adv, .int .i64 a1.f_Head.f_Seq, .int .i64 a1.f_Head.f_Sum, .int .i64 a1.f_Head.f_Len, .int .i64 a1.f_Flags, .slice A_a1_8 a1.f_Links.length c_a1_8, .int .i64 a1.f_Bits, .slice A_a1_10 a1.f_Routers.length c_a1_10, .slice A_a1_11 a1.f_Verts.length c_a1_11].toArray].toArray w fun e w' => e = .returned (.int .i64 r) ∧ Fits z w' F := by
  unfold f_topo_live_1 at H
  refine enter0 Try.func49 rfl Try.ntmps49 rfl (E := [(0, .agg [.int .i64 a0.f_Head.f_Age, .int .i64 a0.f_Head.f_Kind, .int .i64 a0.f_Head.f_Id, .int .i64 a0.f_Head.f_Adv, .int .i64 a0.f_Head.f_Seq, .int .i64 a0.f_Head.f_Sum, .int .i64 a0.f_Head.f_Len, .int .i64 a0.f_Flags, .slice A_a0_8 a0.f_Links.length c_a0_8, .int .i64 a0.f_Bits, .slice A_a0_10 a0.f_Routers.length c_a0_10, .slice A_a0_11 a0.f_Verts.length c_a0_11].toArray), (1, .agg [.int .i64 a1.f_Head.f_Age, .int .i64 a1.f_Head.f_Kind, .int .i64 a1.f_Head.f_Id, .int .i64 a1.f_Head.f_Adv, .int .i64 a1.f_Head.f_Seq, .int .i64 a1.f_Head.f_Sum, .int .i64 a1.f_Head.f_Len, .int .i64 a1.f_Flags, .slice A_a1_8 a1.f_Links.length c_a1_8, .int .i64 a1.f_Bits, .slice A_a1_10 a1.f_Routers.length c_a1_10, .slice A_a1_11 a1.f_Verts.length c_a1_11].toArray)]) rfl ?_
  refine cSeq (fun K1 hK1 => ?_)
  refine cRgn [] trivial ?_
  refine eW (oBox HF rfl) rfl ?_
  rintro _ w1 ⟨g1, rfl, HF1⟩
  refine eW (oBox HF1 rfl) rfl ?_
  rintro _ w2 ⟨g2, rfl, HF2⟩
  refine sL (asg rfl) rfl ?_
  refine lEnd (K := fun _ _ => True) ?_
  refine kN (?_)
  refine hK1 _ _ ?_
  refine cSeq (fun K2 hK2 => ?_)
  refine cDraw mo_ HF2 rfl (fun w => Fits z w (bk g2 44 [.int .i64 a1.f_Head.f_Age, .int .i64 a1.f_Head.f_Kind, .int .i64 a1.f_Head.f_Id, .int .i64 a1.f_Head.f_Adv, .int .i64 a1.f_Head.f_Seq, .int .i64 a1.f_Head.f_Sum, .int .i64 a1.f_Head.f_Len, .int .i64 a1.f_Flags, .slice A_a1_8 a1.f_Links.length c_a1_8, .int .i64 a1.f_Bits, .slice A_a1_10 a1.f_Routers.length c_a1_10, .slice A_a1_11 a1.f_Verts.length c_a1_11] :: (bk g1 44 [.int .i64 a0.f_Head.f_Age, .int .i64 a0.f_Head.f_Kind, .int .i64 a0.f_Head.f_Id, .int .i64 a0.f_Head.f_Adv, .int .i64 a0.f_Head.f_Seq, .int .i64 a0.f_Head.f_Sum, .int .i64 a0.f_Head.f_Len, .int .i64 a0.f_Flags, .slice A_a0_8 a0.f_Links.length c_a0_8, .int .i64 a0.f_Bits, .slice A_a0_10 a0.f_Routers.length c_a0_10, .slice A_a0_11 a0.f_Verts.length c_a0_11] :: F))) (fun w7 HF9 => ?_)
  refine hTake 0 rfl (by kernel_rfl) (pThen pFn) (fun w_ hS_ => fa44_0 rfl) HF9 rfl rfl ?_
  refine hTake 1 rfl (by kernel_rfl) (pThen pFn) (fun w_ hS_ => fa41_2 rfl) HF9 rfl rfl ?_
  refine hTake 2 rfl (by kernel_rfl) (pThen pFn) (fun w_ hS_ => ld rfl Try.underlying3 rfl (hS_.box (mem_c mem_h) rfl)) HF9 rfl rfl ?_
  refine hTake 3 rfl (by kernel_rfl) (pThen pFn) (fun w_ hS_ => fa44_0 rfl) HF9 rfl rfl ?_
  refine hTake 4 rfl (by kernel_rfl) (pThen pFn) (fun w_ hS_ => fa41_2 rfl) HF9 rfl rfl ?_
  refine hTake 5 rfl (by kernel_rfl) (pThen pFn) (fun w_ hS_ => ld rfl Try.underlying3 rfl (hS_.box (mem_h) rfl)) HF9 rfl rfl ?_
  refine hTake 7 rfl (by kernel_rfl) (pThen pFn) (fun w_ hS_ => fa44_0 rfl) HF9 rfl rfl ?_
  refine hTake 8 rfl (by kernel_rfl) (pThen pFn) (fun w_ hS_ => fa41_3 rfl) HF9 rfl rfl ?_
  refine hTake 9 rfl (by kernel_rfl) (pThen pFn) (fun w_ hS_ => ld rfl Try.underlying3 rfl (hS_.box (mem_c mem_h) rfl)) HF9 rfl rfl ?_
  refine hTake 10 rfl (by kernel_rfl) (pThen pFn) (fun w_ hS_ => fa44_0 rfl) HF9 rfl rfl ?_
  refine hTake 11 rfl (by kernel_rfl) (pThen pFn) (fun w_ hS_ => fa41_3 rfl) HF9 rfl rfl ?_
  refine hTake 12 rfl (by kernel_rfl) (pThen pFn) (fun w_ hS_ => ld rfl Try.underlying3 rfl (hS_.box (mem_h) rfl)) HF9 rfl rfl ?_
  refine h1 6 (by kernel_rfl) rfl ?_
  replace H := bnd H; obtain ⟨t4, J4, H⟩ := H
  refine qCall rfl gd0 isf41 rfl rfl rfl (f_cmp_Compare_int.ok J4 HF9) ?_
  rintro _ w8 ⟨rfl, HF10⟩
  refine ⟨_, rfl, HF10, ?_⟩
  refine h1 13 (by kernel_rfl) rfl ?_
  replace H := bnd H; obtain ⟨t5, J5, H⟩ := H
  refine qCall rfl gd0 isf41 rfl rfl rfl (f_cmp_Compare_int.ok J5 HF10) ?_
  rintro _ w9 ⟨rfl, HF11⟩
  refine ⟨_, rfl, HF11, ?_⟩
  refine h1 14 (by kernel_rfl) rfl ?_
  refine qW rfl gd0 (oLit (r := [.int .i64 t4, .int .i64 t5]) (kInt .i64) [t4, t5] HF11 Try.underlying30 ti3 rfl rfl rfl rfl ⟨[], [], [.int .i64 t4], _, rfl, rfl, ⟨rfl, rfl⟩, ⟨[], [], [.int .i64 t5], _, rfl, rfl, ⟨rfl, rfl⟩, ⟨rfl, rfl⟩⟩⟩ rfl rfl) rfl ?_
  rintro _ w10 ⟨L2, A2, c2, rfl, HF12, ho2⟩
  have HF13 := HF12.sublist (sl_da (sl_c (sl_c (List.Sublist.refl _))))
  refine ⟨HF13, ?_⟩
  refine h1 15 (by kernel_rfl) rfl ?_
  replace H := bnd H; obtain ⟨t6, J6, H⟩ := H
  refine qCall rfl gd0 isf40 rfl rfl rfl (f_cmp_Or_int.ok (a0 := [t4, t5]) (sub_a (sub_c (sub_c hG))) J6 HF12 sub_h ho2.rd) ?_
  rintro _ w11 ⟨rfl, HF14⟩
  have HF15 := HF14.sublist (sl_da (sl_c (sl_c (List.Sublist.refl _))))
  refine ⟨_, rfl, HF15, ?_⟩
  refine hTake 16 rfl (by kernel_rfl) (pThen pFn) (fun w_ hS_ => asg rfl) HF15 rfl rfl ?_
  refine hEnd (by kernel_rfl) ?_
  refine kN (?_)
  refine hK2 _ _ ?_
  refine cRet ?_
  obtain rfl := Option.some.inj H
  refine ret1 rfl rfl ?_
  have HF16 := HF14.sublist (sl_da (sl_dc (sl_dc (List.Sublist.refl _))))
  exact ⟨rfl, HF16⟩
/-! ### slices.insertionSortCmpFunc[plenum/api.Lsa] (function 73) -/
abbrev f_slices_insertionSortCmpFunc_api_Lsa_fn49.R := List T_api_Lsa
noncomputable def f_slices_insertionSortCmpFunc_api_Lsa_fn49.b0 (a1 : Int) (s12 : Int × (List T_api_Lsa)) : Option (Sum (Int × (List T_api_Lsa)) (Sum (Int × (List T_api_Lsa)) f_slices_insertionSortCmpFunc_api_Lsa_fn49.R)) := ((((if a1 < s12.1 then (if 0 ≤ s12.1 then (if s12.1 < (s12.2.length : Int) then (if 0 ≤ (IntKind.i64.wrap (s12.1 - 1)) then (if (IntKind.i64.wrap (s12.1 - 1)) < (s12.2.length : Int) then ((f_topo_live_1 (rd s12.2 s12.1) (rd s12.2 (IntKind.i64.wrap (s12.1 - 1)))).bind fun t36 => some (.inl (decide (t36 < 0)))) else none) else none) else none) else none) else some (.inl false)) : Option (Sum (Bool) f_slices_insertionSortCmpFunc_api_Lsa_fn49.R))).bind fun y17 => match y17 with | .inl s13 => (if s13 = true then (if 0 ≤ (IntKind.i64.wrap (s12.1 - 1)) then (if (IntKind.i64.wrap (s12.1 - 1)) < (s12.2.length : Int) then (if 0 ≤ s12.1 then (if s12.1 < (s12.2.length : Int) then (if (IntKind.i64.wrap (s12.1 - 1)) < ((setI s12.2 s12.1 (rd s12.2 (IntKind.i64.wrap (s12.1 - 1)))).length : Int) then some (.inl (IntKind.i64.wrap (s12.1 - 1), setI (setI s12.2 s12.1 (rd s12.2 (IntKind.i64.wrap (s12.1 - 1)))) (IntKind.i64.wrap (s12.1 - 1)) (rd s12.2 s12.1))) else none) else none) else none) else none) else none) else some (.inr (.inl (s12.1, s12.2)))) | .inr r_ => some (.inr (.inr r_)))
noncomputable def f_slices_insertionSortCmpFunc_api_Lsa_fn49.b1 (a1 : Int) (a2 : Int) (s9 : Int × (List T_api_Lsa)) : Option (Sum (Int × (List T_api_Lsa)) (Sum (Int × (List T_api_Lsa)) f_slices_insertionSortCmpFunc_api_Lsa_fn49.R)) := (if s9.1 < a2 then ((loopO (f_slices_insertionSortCmpFunc_api_Lsa_fn49.b0 a1) (s9.1, s9.2)).bind fun y15 => match y15 with | .inl s12 => some (.inl (IntKind.i64.wrap (s9.1 + 1), s12.2)) | .inr r_ => some (.inr (.inr r_))) else some (.inr (.inl (s9.1, s9.2))))
noncomputable def f_slices_insertionSortCmpFunc_api_Lsa_fn49 (a0 : List T_api_Lsa) (a1 : Int) (a2 : Int) : Option f_slices_insertionSortCmpFunc_api_Lsa_fn49.R := ((loopO (f_slices_insertionSortCmpFunc_api_Lsa_fn49.b1 a1 a2) (IntKind.i64.wrap (a1 + 1), a0)).bind fun y11 => match y11 with | .inl s9 => some s9.2 | .inr r_ => some r_)
set_option maxHeartbeats 1000000 in
theorem f_slices_insertionSortCmpFunc_api_Lsa_fn49.ok {z w : World} {F G : Hp} (hG : G ⊆ F) {a0 : List T_api_Lsa} {A_a0 : Option Addr} {c_a0 : Nat} {L_a0 : Hp} {a1 : Int} {a2 : Int} {r : f_slices_insertionSortCmpFunc_api_Lsa_fn49.R} (H : f_slices_insertionSortCmpFunc_api_Lsa_fn49 a0 a1 a2 = some r) (HF : Fits z w (L_a0 ++ F)) (ho_a0 : OwnS (kShr G k_T_api_Lsa) L_a0 A_a0 c_a0 a0) :
    Calls Try.prog 73 [.slice A_a0 a0.length c_a0, .int .i64 a1, .int .i64 a2, .func (.func 49) [].toArray [].toArray].toArray w fun e w' => ∃ (N : Hp) (M0 : Hp), e = .returned (.tuple #[]) ∧ Fits z w' (M0 ++ (N ++ F)) ∧ OwnS (kShr (N ++ G) k_T_api_Lsa) M0 A_a0 c_a0 r := by
  unfold f_slices_insertionSortCmpFunc_api_Lsa_fn49 at H
  refine enter0 Try.func73 rfl Try.ntmps73 rfl (E := [(0, .slice A_a0 a0.length c_a0), (1, .int .i64 a1), (2, .int .i64 a2), (3, .func (.func 49) [].toArray [].toArray)]) rfl ?_
  refine cSeq (fun K1 hK1 => ?_)
  refine cRgn [] trivial ?_
  refine sL (mv rfl) rfl ?_
  refine sL (bAdd rfl rfl) rfl ?_
  refine sL (asg rfl) rfl ?_
  refine lEnd (K := fun _ _ => True) ?_
  refine kN (?_)
  refine hK1 _ _ ?_
  replace H := bnd H; obtain ⟨y11, J40, Ho9⟩ := H
  refine cLoopB (f_slices_insertionSortCmpFunc_api_Lsa_fn49.b1 a1 a2) (fun (s9 : Int × (List T_api_Lsa)) a w => ∃ (L30 : Hp), Env 53 [(0, .slice A_a0 s9.2.length c_a0), (1, .int .i64 a1), (2, .int .i64 a2), (3, .func (.func 49) [].toArray [].toArray), (8, .int .i64 s9.1)] a ∧ Fits z w (L30 ++ F) ∧ OwnS (kShr G k_T_api_Lsa) L30 A_a0 c_a0 s9.2) J40 (fun a hE => ⟨L_a0, hE.keep (Keep.cons rfl (Keep.cons rfl (Keep.cons rfl (Keep.cons rfl (Keep.cons rfl (Keep.nil)))))), HF, ho_a0⟩) ?_ ?_
  · rintro s9 a w77 y12 ⟨L30, hE, HF95, ho30⟩ H Hx3
    refine go_ hE ?_
    refine cSeq (fun K28 hK28 => ?_)
    refine cSeq (fun K29 hK29 => ?_)
    refine cRgn [] trivial ?_
    refine sL (mv rfl) rfl ?_
    refine sL (mv rfl) rfl ?_
    refine sL (bLss rfl rfl) rfl ?_
    refine lEnd (K := fun _ _ => True) ?_
    refine kN (?_)
    refine hK29 _ _ ?_
    by_cases c477 : s9.1 < a2
    · replace H := itT c477 H
      refine cSet (i := 14) rfl (dT c477) ?_
      refine cT rfl ?_
      refine cSkip ?_
      refine kN (?_)
      refine hK28 _ _ ?_
      refine cSeq (fun K30 hK30 => ?_)
      refine cBlock ?_
      refine cSeq (fun K31 hK31 => ?_)
      refine cRgn [] trivial ?_
      refine sL (mv rfl) rfl ?_
      refine sL (asg rfl) rfl ?_
      refine lEnd (K := fun _ _ => True) ?_
      refine kN (?_)
      refine hK31 _ _ ?_
      replace H := bnd H; obtain ⟨y15, J39, Ho12⟩ := H
      refine cLoopB (f_slices_insertionSortCmpFunc_api_Lsa_fn49.b0 a1) (fun (s12 : Int × (List T_api_Lsa)) a w => ∃ (L40 : Hp), Env 53 [(0, .slice A_a0 s12.2.length c_a0), (1, .int .i64 a1), (2, .int .i64 a2), (3, .func (.func 49) [].toArray [].toArray), (8, .int .i64 s9.1), (9, .int .i64 s12.1)] a ∧ Fits z w (L40 ++ F) ∧ OwnS (kShr G k_T_api_Lsa) L40 A_a0 c_a0 s12.2) J39 (fun a hE => ⟨L30, hE.keep (Keep.cons rfl (Keep.cons rfl (Keep.cons rfl (Keep.cons rfl (Keep.cons rfl (Keep.cons rfl (Keep.nil))))))), HF95, ho30⟩) ?_ ?_
      · rintro s12 a w102 y16 ⟨L40, hE, HF126, ho40⟩ H Hx4
        refine go_ hE ?_
        refine cSeq (fun K38 hK38 => ?_)
        refine cSeq (fun K39 hK39 => ?_)
        replace H := bnd H; obtain ⟨y17, H, Ho13⟩ := H
        refine cJoin (y := y17) (fun (s13 : Bool) a w => Env 53 [(0, .slice A_a0 s12.2.length c_a0), (1, .int .i64 a1), (2, .int .i64 a2), (3, .func (.func 49) [].toArray [].toArray), (8, .int .i64 s9.1), (9, .int .i64 s12.1), (34, .bool s13)] a ∧ Fits z w (L40 ++ F)) ?_ ?_
        · refine cDraw mo_ HF126 rfl (fun w => Fits z w (L40 ++ F)) (fun w107 HF131 => ?_)
          refine hTake 0 rfl (by kernel_rfl) (pThen (pThen (pThen (pThen (pBlock (pThen (pBlock (pThen (pThen (pBlock (pThen pFn))))))))))) (fun w_ hS_ => mv rfl) HF131 rfl rfl ?_
          refine hTake 1 rfl (by kernel_rfl) (pThen (pThen (pThen (pThen (pBlock (pThen (pBlock (pThen (pThen (pBlock (pThen pFn))))))))))) (fun w_ hS_ => mv rfl) HF131 rfl rfl ?_
          refine hTake 2 rfl (by kernel_rfl) (pThen (pThen (pThen (pThen (pBlock (pThen (pBlock (pThen (pThen (pBlock (pThen pFn))))))))))) (fun w_ hS_ => bGtr rfl rfl) HF131 rfl rfl ?_
          refine hTake 3 rfl (by kernel_rfl) (pThen (pThen (pThen (pThen (pBlock (pThen (pBlock (pThen (pThen (pBlock (pThen pFn))))))))))) (fun w_ hS_ => mv rfl) HF131 rfl rfl ?_
          by_cases c669 : a1 < s12.1
          · replace H := itT c669 H
            refine hSet (i := 21) rfl (dT c669) ?_
            refine hTakeG 4 rfl rfl rfl (by kernel_rfl) (pThen (pThen (pThen (pThen (pBlock (pThen (pBlock (pThen (pThen (pBlock (pThen pFn))))))))))) (fun w_ hS_ => mv rfl) HF131 rfl rfl ?_
            refine hTakeG 5 rfl rfl rfl (by kernel_rfl) (pThen (pThen (pThen (pThen (pBlock (pThen (pBlock (pThen (pThen (pBlock (pThen pFn))))))))))) (fun w_ hS_ => mv rfl) HF131 rfl rfl ?_
            refine hTakeG 6 rfl rfl rfl (by kernel_rfl) (pThen (pThen (pThen (pThen (pBlock (pThen (pBlock (pThen (pThen (pBlock (pThen pFn))))))))))) (fun w_ hS_ => mv rfl) HF131 rfl rfl ?_
            replace H := chk H; obtain ⟨c670, H⟩ := H
            replace H := chk H; obtain ⟨c671, H⟩ := H
            obtain ⟨g52, o52, e270, rfl, hk135, q135⟩ := RdS.at_ ho40.rd c670 c671
            obtain ⟨A403, c672, A404, c673, A405, c674, rfl, hr403, hr404, hr405⟩ := rd_T_api_Lsa hk135
            refine hTakeG 7 rfl rfl rfl (by kernel_rfl) (pThen (pThen (pThen (pThen (pBlock (pThen (pBlock (pThen (pThen (pBlock (pThen pFn))))))))))) (fun w_ hS_ => ia rfl rfl Try.underlying24 ti44 c670 c671) HF131 rfl rfl ?_
            refine hTakeG 8 rfl rfl rfl (by kernel_rfl) (pThen (pThen (pThen (pThen (pBlock (pThen (pBlock (pThen (pThen (pBlock (pThen pFn))))))))))) (fun w_ hS_ => ldA rfl ti44 rfl rfl (fun j v hj => hS_.cells (sub_h) (q135 j v hj))) HF131 rfl rfl ?_
            refine hTakeG 9 rfl rfl rfl (by kernel_rfl) (pThen (pThen (pThen (pThen (pBlock (pThen (pBlock (pThen (pThen (pBlock (pThen pFn))))))))))) (fun w_ hS_ => mv rfl) HF131 rfl rfl ?_
            refine hTakeG 10 rfl rfl rfl (by kernel_rfl) (pThen (pThen (pThen (pThen (pBlock (pThen (pBlock (pThen (pThen (pBlock (pThen pFn))))))))))) (fun w_ hS_ => mv rfl) HF131 rfl rfl ?_
            refine hTakeG 11 rfl rfl rfl (by kernel_rfl) (pThen (pThen (pThen (pThen (pBlock (pThen (pBlock (pThen (pThen (pBlock (pThen pFn))))))))))) (fun w_ hS_ => bSub rfl rfl) HF131 rfl rfl ?_
            replace H := chk H; obtain ⟨c675, H⟩ := H
            replace H := chk H; obtain ⟨c676, H⟩ := H
            obtain ⟨e272, hk136, q136⟩ := RdS.at' ho40.rd c675 c676
            obtain ⟨A406, c677, A407, c678, A408, c679, rfl, hr406, hr407, hr408⟩ := rd_T_api_Lsa hk136
            refine hTakeG 12 rfl rfl rfl (by kernel_rfl) (pThen (pThen (pThen (pThen (pBlock (pThen (pBlock (pThen (pThen (pBlock (pThen pFn))))))))))) (fun w_ hS_ => ia rfl rfl Try.underlying24 ti44 c675 c676) HF131 rfl rfl ?_
            refine hTakeG 13 rfl rfl rfl (by kernel_rfl) (pThen (pThen (pThen (pThen (pBlock (pThen (pBlock (pThen (pThen (pBlock (pThen pFn))))))))))) (fun w_ hS_ => ldA rfl ti44 rfl rfl (fun j v hj => hS_.cells (sub_h) (q136 j v hj))) HF131 rfl rfl ?_
            refine h1 14 (by kernel_rfl) rfl ?_
            replace H := bnd H; obtain ⟨t36, J38, H⟩ := H
            refine qCall rfl (gd1 rfl rfl) isf49 rfl rfl rfl (f_topo_live_1.ok (a0 := (rd s12.2 s12.1)) (a1 := (rd s12.2 (IntKind.i64.wrap (s12.1 - 1)))) (sub_a hG) J38 HF131 (sub_a hG) hr403 (sub_a hG) hr404 (sub_a hG) hr405 (sub_a hG) hr406 (sub_a hG) hr407 (sub_a hG) hr408) ?_
            rintro _ w108 ⟨rfl, HF132⟩
            refine ⟨_, rfl, HF132, ?_⟩
            refine hTakeG 15 rfl rfl rfl (by kernel_rfl) (pThen (pThen (pThen (pThen (pBlock (pThen (pBlock (pThen (pThen (pBlock (pThen pFn))))))))))) (fun w_ hS_ => bLss rfl rfl) HF132 rfl rfl ?_
            refine hTake 16 rfl (by kernel_rfl) (pThen (pThen (pThen (pThen (pBlock (pThen (pBlock (pThen (pThen (pBlock (pThen pFn))))))))))) (fun w_ hS_ => pkT rfl rfl) HF132 rfl rfl ?_
            refine hEnd (by kernel_rfl) ?_
            refine kN (?_)
            exact ofEnv (fun a hE => ⟨_, (Option.some.inj H).symm, ⟨hE.keep (Keep.cons rfl (Keep.cons rfl (Keep.cons rfl (Keep.cons rfl (Keep.cons rfl (Keep.cons rfl (Keep.cons rfl (Keep.nil)))))))), HF132⟩⟩)
          · replace H := itF c669 H
            refine hSet (i := 21) rfl (dF c669) ?_
            refine hTakeN 4 rfl rfl rfl (by kernel_rfl) (pThen (pThen (pThen (pThen (pBlock (pThen (pBlock (pThen (pThen (pBlock (pThen pFn))))))))))) HF131 rfl rfl ?_
            refine hTakeN 5 rfl rfl rfl (by kernel_rfl) (pThen (pThen (pThen (pThen (pBlock (pThen (pBlock (pThen (pThen (pBlock (pThen pFn))))))))))) HF131 rfl rfl ?_
            refine hTakeN 6 rfl rfl rfl (by kernel_rfl) (pThen (pThen (pThen (pThen (pBlock (pThen (pBlock (pThen (pThen (pBlock (pThen pFn))))))))))) HF131 rfl rfl ?_
            refine hTakeN 7 rfl rfl rfl (by kernel_rfl) (pThen (pThen (pThen (pThen (pBlock (pThen (pBlock (pThen (pThen (pBlock (pThen pFn))))))))))) HF131 rfl rfl ?_
            refine hTakeN 8 rfl rfl rfl (by kernel_rfl) (pThen (pThen (pThen (pThen (pBlock (pThen (pBlock (pThen (pThen (pBlock (pThen pFn))))))))))) HF131 rfl rfl ?_
            refine hTakeN 9 rfl rfl rfl (by kernel_rfl) (pThen (pThen (pThen (pThen (pBlock (pThen (pBlock (pThen (pThen (pBlock (pThen pFn))))))))))) HF131 rfl rfl ?_
            refine hTakeN 10 rfl rfl rfl (by kernel_rfl) (pThen (pThen (pThen (pThen (pBlock (pThen (pBlock (pThen (pThen (pBlock (pThen pFn))))))))))) HF131 rfl rfl ?_
            refine hTakeN 11 rfl rfl rfl (by kernel_rfl) (pThen (pThen (pThen (pThen (pBlock (pThen (pBlock (pThen (pThen (pBlock (pThen pFn))))))))))) HF131 rfl rfl ?_
            refine hTakeN 12 rfl rfl rfl (by kernel_rfl) (pThen (pThen (pThen (pThen (pBlock (pThen (pBlock (pThen (pThen (pBlock (pThen pFn))))))))))) HF131 rfl rfl ?_
            refine hTakeN 13 rfl rfl rfl (by kernel_rfl) (pThen (pThen (pThen (pThen (pBlock (pThen (pBlock (pThen (pThen (pBlock (pThen pFn))))))))))) HF131 rfl rfl ?_
            refine hTakeN 14 rfl rfl rfl (by kernel_rfl) (pThen (pThen (pThen (pThen (pBlock (pThen (pBlock (pThen (pThen (pBlock (pThen pFn))))))))))) HF131 rfl rfl ?_
            refine hTakeN 15 rfl rfl rfl (by kernel_rfl) (pThen (pThen (pThen (pThen (pBlock (pThen (pBlock (pThen (pThen (pBlock (pThen pFn))))))))))) HF131 rfl rfl ?_
            refine hTake 16 rfl (by kernel_rfl) (pThen (pThen (pThen (pThen (pBlock (pThen (pBlock (pThen (pThen (pBlock (pThen pFn))))))))))) (fun w_ hS_ => pkF rfl rfl) HF131 rfl rfl ?_
            refine hEnd (by kernel_rfl) ?_
            refine kN (?_)
            exact ofEnv (fun a hE => ⟨_, (Option.some.inj H).symm, ⟨hE.keep (Keep.cons rfl (Keep.cons rfl (Keep.cons rfl (Keep.cons rfl (Keep.cons rfl (Keep.cons rfl (Keep.cons rfl (Keep.nil)))))))), HF131⟩⟩)
        · rintro s13 a w109 rfl ⟨hE, HF133⟩
          replace H := Ho13
          refine go_k hE ?_
          refine kN (?_)
          refine hK39 _ _ ?_
          by_cases c680 : s13 = true
          · replace H := itT c680 H
            refine cSet (i := 34) rfl (vT c680) ?_
            refine cT rfl ?_
            refine cSkip ?_
            refine kN (?_)
            refine hK38 _ _ ?_
            refine cSeq (fun K40 hK40 => ?_)
            refine cBlock ?_
            refine cDraw mo_ HF133 rfl (fun w => Fits z w F) (fun w112 HF136 => ?_)
            have HF137 := HF136.sublist (sl_da (List.Sublist.refl _))
            refine hTake 0 rfl (by kernel_rfl) (pBlock (pThen (pThen (pBlock (pThen (pBlock (pThen (pThen (pBlock (pThen pFn)))))))))) (fun w_ hS_ => mv rfl) HF137 rfl rfl ?_
            refine hTake 1 rfl (by kernel_rfl) (pBlock (pThen (pThen (pBlock (pThen (pBlock (pThen (pThen (pBlock (pThen pFn)))))))))) (fun w_ hS_ => mv rfl) HF137 rfl rfl ?_
            refine hTake 2 rfl (by kernel_rfl) (pBlock (pThen (pThen (pBlock (pThen (pBlock (pThen (pThen (pBlock (pThen pFn)))))))))) (fun w_ hS_ => mv rfl) HF137 rfl rfl ?_
            refine hTake 3 rfl (by kernel_rfl) (pBlock (pThen (pThen (pBlock (pThen (pBlock (pThen (pThen (pBlock (pThen pFn)))))))))) (fun w_ hS_ => mv rfl) HF137 rfl rfl ?_
            refine hTake 4 rfl (by kernel_rfl) (pBlock (pThen (pThen (pBlock (pThen (pBlock (pThen (pThen (pBlock (pThen pFn)))))))))) (fun w_ hS_ => bSub rfl rfl) HF137 rfl rfl ?_
            refine hTake 5 rfl (by kernel_rfl) (pBlock (pThen (pThen (pBlock (pThen (pBlock (pThen (pThen (pBlock (pThen pFn)))))))))) (fun w_ hS_ => mv rfl) HF137 rfl rfl ?_
            refine hTake 6 rfl (by kernel_rfl) (pBlock (pThen (pThen (pBlock (pThen (pBlock (pThen (pThen (pBlock (pThen pFn)))))))))) (fun w_ hS_ => mv rfl) HF137 rfl rfl ?_
            refine hTake 7 rfl (by kernel_rfl) (pBlock (pThen (pThen (pBlock (pThen (pBlock (pThen (pThen (pBlock (pThen pFn)))))))))) (fun w_ hS_ => bSub rfl rfl) HF137 rfl rfl ?_
            replace H := chk H; obtain ⟨c698, H⟩ := H
            replace H := chk H; obtain ⟨c699, H⟩ := H
            obtain ⟨g54, o54, e282, rfl, hk141, q141⟩ := RdS.at_ ho40.rd c698 c699
            obtain ⟨A421, c700, A422, c701, A423, c702, rfl, hr421, hr422, hr423⟩ := rd_T_api_Lsa hk141
            refine hTake 8 rfl (by kernel_rfl) (pBlock (pThen (pThen (pBlock (pThen (pBlock (pThen (pThen (pBlock (pThen pFn)))))))))) (fun w_ hS_ => ia rfl rfl Try.underlying24 ti44 c698 c699) HF137 rfl rfl ?_
            refine hTake 10 rfl (by kernel_rfl) (pBlock (pThen (pThen (pBlock (pThen (pBlock (pThen (pThen (pBlock (pThen pFn)))))))))) (fun w_ hS_ => mv rfl) HF137 rfl rfl ?_
            refine hTake 11 rfl (by kernel_rfl) (pBlock (pThen (pThen (pBlock (pThen (pBlock (pThen (pThen (pBlock (pThen pFn)))))))))) (fun w_ hS_ => mv rfl) HF137 rfl rfl ?_
            replace H := chk H; obtain ⟨c703, H⟩ := H
            replace H := chk H; obtain ⟨c704, H⟩ := H
            obtain ⟨e284, hk142, q142⟩ := RdS.at' ho40.rd c703 c704
            obtain ⟨A424, c705, A425, c706, A426, c707, rfl, hr424, hr425, hr426⟩ := rd_T_api_Lsa hk142
            refine hTake 12 rfl (by kernel_rfl) (pBlock (pThen (pThen (pBlock (pThen (pBlock (pThen (pThen (pBlock (pThen pFn)))))))))) (fun w_ hS_ => ia rfl rfl Try.underlying24 ti44 c703 c704) HF137 rfl rfl ?_
            refine h2 9 13 (by kernel_rfl) rfl rfl ?_ ?_
            · refine qL rfl gd0 (ldA rfl ti44 rfl rfl (fun j v hj => HF136.cells (sub_h) (q141 j v hj))) rfl HF137 ?_
              refine h1 13 (by kernel_rfl) rfl ?_
              refine qL rfl gd0 (ldA rfl ti44 rfl rfl (fun j v hj => HF136.cells (sub_h) (q142 j v hj))) rfl HF137 ?_
              obtain ⟨e286, hk143, q143⟩ := RdS.at' ho40.rd c703 c704
              obtain ⟨A427, c708, A428, c709, A429, c710, rfl, hr427, hr428, hr429⟩ := rd_T_api_Lsa hk143
              refine hTake 14 rfl (by kernel_rfl) (pBlock (pThen (pThen (pBlock (pThen (pBlock (pThen (pThen (pBlock (pThen pFn)))))))))) (fun w_ hS_ => ia rfl rfl Try.underlying24 ti44 c703 c704) HF137 rfl rfl ?_
              refine h1 15 (by kernel_rfl) rfl ?_
              refine qS rfl gd0 (oStE (K := (kShr G k_T_api_Lsa)) (c := c_a0) (off := 0) (y' := (rd s12.2 (IntKind.i64.wrap (s12.1 - 1)))) shrS HF136 ho40 c703 c704 rfl rfl ti44 rfl (ones rfl) (Nat.le_of_ble_eq_true rfl) (fun ci hci => shrAll hci rfl (mk_T_api_Lsa (x := (rd s12.2 (IntKind.i64.wrap (s12.1 - 1)))) (hr421) (hr422) (hr423)))) ?_
              rintro w113 ⟨L43, HF138, ho43⟩
              have HF139 := HF138.sublist (sl_da (List.Sublist.refl _))
              refine ⟨HF139, ?_⟩
              refine hSet (i := 0) (v := .slice (some ⟨g54, o54, none⟩) (setI s12.2 s12.1 (rd s12.2 (IntKind.i64.wrap (s12.1 - 1)))).length c_a0) rfl (by simp only [len_setI]) ?_
              refine hSet (i := 37) (v := .slice (some ⟨g54, o54, none⟩) (setI s12.2 s12.1 (rd s12.2 (IntKind.i64.wrap (s12.1 - 1)))).length c_a0) rfl (by simp only [len_setI]) ?_
              refine hSet (i := 39) (v := .slice (some ⟨g54, o54, none⟩) (setI s12.2 s12.1 (rd s12.2 (IntKind.i64.wrap (s12.1 - 1)))).length c_a0) rfl (by simp only [len_setI]) ?_
              refine hSet (i := 42) (v := .slice (some ⟨g54, o54, none⟩) (setI s12.2 s12.1 (rd s12.2 (IntKind.i64.wrap (s12.1 - 1)))).length c_a0) rfl (by simp only [len_setI]) ?_
              refine hSet (i := 47) (v := .slice (some ⟨g54, o54, none⟩) (setI s12.2 s12.1 (rd s12.2 (IntKind.i64.wrap (s12.1 - 1)))).length c_a0) rfl (by simp only [len_setI]) ?_
              replace H := chk H; obtain ⟨c711, H⟩ := H
              obtain ⟨e288, hk144, q144⟩ := RdS.at' ho43.rd c698 c711
              obtain ⟨A430, c712, A431, c713, A432, c714, rfl, hr430, hr431, hr432⟩ := rd_T_api_Lsa hk144
              refine hTake 16 rfl (by kernel_rfl) (pBlock (pThen (pThen (pBlock (pThen (pBlock (pThen (pThen (pBlock (pThen pFn)))))))))) (fun w_ hS_ => ia rfl rfl Try.underlying24 ti44 c698 c711) HF139 rfl rfl ?_
              refine h1 17 (by kernel_rfl) rfl ?_
              refine qS rfl gd0 (oStE (K := (kShr G k_T_api_Lsa)) (c := c_a0) (off := 0) (y' := (rd s12.2 s12.1)) shrS HF138 ho43 c698 c711 rfl rfl ti44 rfl (ones rfl) (Nat.le_of_ble_eq_true rfl) (fun ci hci => shrAll hci rfl (mk_T_api_Lsa (x := (rd s12.2 s12.1)) (hr424) (hr425) (hr426)))) ?_
              rintro w114 ⟨L44, HF140, ho44⟩
              have HF141 := HF140.sublist (sl_da (List.Sublist.refl _))
              refine ⟨HF141, ?_⟩
              refine hSet (i := 0) (v := .slice (some ⟨g54, o54, none⟩) (setI (setI s12.2 s12.1 (rd s12.2 (IntKind.i64.wrap (s12.1 - 1)))) (IntKind.i64.wrap (s12.1 - 1)) (rd s12.2 s12.1)).length c_a0) rfl (by simp only [len_setI]) ?_
              refine hSet (i := 37) (v := .slice (some ⟨g54, o54, none⟩) (setI (setI s12.2 s12.1 (rd s12.2 (IntKind.i64.wrap (s12.1 - 1)))) (IntKind.i64.wrap (s12.1 - 1)) (rd s12.2 s12.1)).length c_a0) rfl (by simp only [len_setI]) ?_
              refine hSet (i := 39) (v := .slice (some ⟨g54, o54, none⟩) (setI (setI s12.2 s12.1 (rd s12.2 (IntKind.i64.wrap (s12.1 - 1)))) (IntKind.i64.wrap (s12.1 - 1)) (rd s12.2 s12.1)).length c_a0) rfl (by simp only [len_setI]) ?_
              refine hSet (i := 42) (v := .slice (some ⟨g54, o54, none⟩) (setI (setI s12.2 s12.1 (rd s12.2 (IntKind.i64.wrap (s12.1 - 1)))) (IntKind.i64.wrap (s12.1 - 1)) (rd s12.2 s12.1)).length c_a0) rfl (by simp only [len_setI]) ?_
              refine hSet (i := 47) (v := .slice (some ⟨g54, o54, none⟩) (setI (setI s12.2 s12.1 (rd s12.2 (IntKind.i64.wrap (s12.1 - 1)))) (IntKind.i64.wrap (s12.1 - 1)) (rd s12.2 s12.1)).length c_a0) rfl (by simp only [len_setI]) ?_
              refine hEnd (by kernel_rfl) ?_
              refine jN (kN (?_))
              refine hK40 _ _ ?_
              refine cRgn [] trivial ?_
              refine sL (mv rfl) rfl ?_
              refine sL (bSub rfl rfl) rfl ?_
              refine sL (asg rfl) rfl ?_
              refine lEnd (K := fun _ _ => True) ?_
              refine kN (?_)
              exact ofEnv (fun a hE => ⟨_, (Option.some.inj H).symm, ⟨L44, hE.keep (Keep.cons rfl (Keep.cons rfl (Keep.cons rfl (Keep.cons rfl (Keep.cons rfl (Keep.cons rfl (Keep.nil))))))), HF140, ho44⟩⟩)
            · refine qL rfl gd0 (ldA rfl ti44 rfl rfl (fun j v hj => HF136.cells (sub_h) (q142 j v hj))) rfl HF137 ?_
              refine h1 9 (by kernel_rfl) rfl ?_
              refine qL rfl gd0 (ldA rfl ti44 rfl rfl (fun j v hj => HF136.cells (sub_h) (q141 j v hj))) rfl HF137 ?_
              obtain ⟨e286, hk143, q143⟩ := RdS.at' ho40.rd c703 c704
              obtain ⟨A427, c708, A428, c709, A429, c710, rfl, hr427, hr428, hr429⟩ := rd_T_api_Lsa hk143
              refine hTake 14 rfl (by kernel_rfl) (pBlock (pThen (pThen (pBlock (pThen (pBlock (pThen (pThen (pBlock (pThen pFn)))))))))) (fun w_ hS_ => ia rfl rfl Try.underlying24 ti44 c703 c704) HF137 rfl rfl ?_
              refine h1 15 (by kernel_rfl) rfl ?_
              refine qS rfl gd0 (oStE (K := (kShr G k_T_api_Lsa)) (c := c_a0) (off := 0) (y' := (rd s12.2 (IntKind.i64.wrap (s12.1 - 1)))) shrS HF136 ho40 c703 c704 rfl rfl ti44 rfl (ones rfl) (Nat.le_of_ble_eq_true rfl) (fun ci hci => shrAll hci rfl (mk_T_api_Lsa (x := (rd s12.2 (IntKind.i64.wrap (s12.1 - 1)))) (hr421) (hr422) (hr423)))) ?_
              rintro w113 ⟨L43, HF138, ho43⟩
              have HF139 := HF138.sublist (sl_da (List.Sublist.refl _))
              refine ⟨HF139, ?_⟩
              refine hSet (i := 0) (v := .slice (some ⟨g54, o54, none⟩) (setI s12.2 s12.1 (rd s12.2 (IntKind.i64.wrap (s12.1 - 1)))).length c_a0) rfl (by simp only [len_setI]) ?_
              refine hSet (i := 37) (v := .slice (some ⟨g54, o54, none⟩) (setI s12.2 s12.1 (rd s12.2 (IntKind.i64.wrap (s12.1 - 1)))).length c_a0) rfl (by simp only [len_setI]) ?_
              refine hSet (i := 39) (v := .slice (some ⟨g54, o54, none⟩) (setI s12.2 s12.1 (rd s12.2 (IntKind.i64.wrap (s12.1 - 1)))).length c_a0) rfl (by simp only [len_setI]) ?_
              refine hSet (i := 42) (v := .slice (some ⟨g54, o54, none⟩) (setI s12.2 s12.1 (rd s12.2 (IntKind.i64.wrap (s12.1 - 1)))).length c_a0) rfl (by simp only [len_setI]) ?_
              refine hSet (i := 47) (v := .slice (some ⟨g54, o54, none⟩) (setI s12.2 s12.1 (rd s12.2 (IntKind.i64.wrap (s12.1 - 1)))).length c_a0) rfl (by simp only [len_setI]) ?_
              replace H := chk H; obtain ⟨c711, H⟩ := H
              obtain ⟨e288, hk144, q144⟩ := RdS.at' ho43.rd c698 c711
              obtain ⟨A430, c712, A431, c713, A432, c714, rfl, hr430, hr431, hr432⟩ := rd_T_api_Lsa hk144
              refine hTake 16 rfl (by kernel_rfl) (pBlock (pThen (pThen (pBlock (pThen (pBlock (pThen (pThen (pBlock (pThen pFn)))))))))) (fun w_ hS_ => ia rfl rfl Try.underlying24 ti44 c698 c711) HF139 rfl rfl ?_
              refine h1 17 (by kernel_rfl) rfl ?_
              refine qS rfl gd0 (oStE (K := (kShr G k_T_api_Lsa)) (c := c_a0) (off := 0) (y' := (rd s12.2 s12.1)) shrS HF138 ho43 c698 c711 rfl rfl ti44 rfl (ones rfl) (Nat.le_of_ble_eq_true rfl) (fun ci hci => shrAll hci rfl (mk_T_api_Lsa (x := (rd s12.2 s12.1)) (hr424) (hr425) (hr426)))) ?_
              rintro w114 ⟨L44, HF140, ho44⟩
              have HF141 := HF140.sublist (sl_da (List.Sublist.refl _))
              refine ⟨HF141, ?_⟩
              refine hSet (i := 0) (v := .slice (some ⟨g54, o54, none⟩) (setI (setI s12.2 s12.1 (rd s12.2 (IntKind.i64.wrap (s12.1 - 1)))) (IntKind.i64.wrap (s12.1 - 1)) (rd s12.2 s12.1)).length c_a0) rfl (by simp only [len_setI]) ?_
              refine hSet (i := 37) (v := .slice (some ⟨g54, o54, none⟩) (setI (setI s12.2 s12.1 (rd s12.2 (IntKind.i64.wrap (s12.1 - 1)))) (IntKind.i64.wrap (s12.1 - 1)) (rd s12.2 s12.1)).length c_a0) rfl (by simp only [len_setI]) ?_
              refine hSet (i := 39) (v := .slice (some ⟨g54, o54, none⟩) (setI (setI s12.2 s12.1 (rd s12.2 (IntKind.i64.wrap (s12.1 - 1)))) (IntKind.i64.wrap (s12.1 - 1)) (rd s12.2 s12.1)).length c_a0) rfl (by simp only [len_setI]) ?_
              refine hSet (i := 42) (v := .slice (some ⟨g54, o54, none⟩) (setI (setI s12.2 s12.1 (rd s12.2 (IntKind.i64.wrap (s12.1 - 1)))) (IntKind.i64.wrap (s12.1 - 1)) (rd s12.2 s12.1)).length c_a0) rfl (by simp only [len_setI]) ?_
              refine hSet (i := 47) (v := .slice (some ⟨g54, o54, none⟩) (setI (setI s12.2 s12.1 (rd s12.2 (IntKind.i64.wrap (s12.1 - 1)))) (IntKind.i64.wrap (s12.1 - 1)) (rd s12.2 s12.1)).length c_a0) rfl (by simp only [len_setI]) ?_
              refine hEnd (by kernel_rfl) ?_
              refine jN (kN (?_))
              refine hK40 _ _ ?_
              refine cRgn [] trivial ?_
              refine sL (mv rfl) rfl ?_
              refine sL (bSub rfl rfl) rfl ?_
              refine sL (asg rfl) rfl ?_
              refine lEnd (K := fun _ _ => True) ?_
              refine kN (?_)
              exact ofEnv (fun a hE => ⟨_, (Option.some.inj H).symm, ⟨L44, hE.keep (Keep.cons rfl (Keep.cons rfl (Keep.cons rfl (Keep.cons rfl (Keep.cons rfl (Keep.cons rfl (Keep.nil))))))), HF140, ho44⟩⟩)
          · replace H := itF c680 H
            refine cSet (i := 34) rfl (vF c680) ?_
            refine cF rfl ?_
            refine cExit ?_
            refine kX (kX (jX (kN (?_))))
            exact ofEnv (fun a hE => ⟨_, (Option.some.inj H).symm, ⟨L40, hE.keep (Keep.cons rfl (Keep.cons rfl (Keep.cons rfl (Keep.cons rfl (Keep.cons rfl (Keep.cons rfl (Keep.nil))))))), HF133, ho40⟩⟩)
      · rintro s12 a w115 rfl ⟨L40, hE, HF142, ho40⟩
        replace H := Ho12
        refine go_k hE ?_
        refine jN (kN (?_))
        refine hK30 _ _ ?_
        refine cRgn [] trivial ?_
        refine sL (mv rfl) rfl ?_
        refine sL (bAdd rfl rfl) rfl ?_
        refine sL (asg rfl) rfl ?_
        refine lEnd (K := fun _ _ => True) ?_
        refine kN (?_)
        exact ofEnv (fun a hE => ⟨_, (Option.some.inj H).symm, ⟨L40, hE.keep (Keep.cons rfl (Keep.cons rfl (Keep.cons rfl (Keep.cons rfl (Keep.cons rfl (Keep.nil)))))), HF142, ho40⟩⟩)
    · replace H := itF c477 H
      refine cSet (i := 14) rfl (dF c477) ?_
      refine cF rfl ?_
      refine cExit ?_
      refine kX (kX (jX (kN (?_))))
      exact ofEnv (fun a hE => ⟨_, (Option.some.inj H).symm, ⟨L30, hE.keep (Keep.cons rfl (Keep.cons rfl (Keep.cons rfl (Keep.cons rfl (Keep.cons rfl (Keep.nil)))))), HF95, ho30⟩⟩)
  · rintro s9 a w116 rfl ⟨L30, hE, HF143, ho30⟩
    replace H := Ho9
    refine go_k hE ?_
    obtain rfl := Option.some.inj H
    refine end0 rfl ?_
    exact ⟨[], L30, rfl, HF143, ho30⟩
/-! ### slices.swapRangeCmpFunc[plenum/api.Lsa] (function 82) -/
abbrev f_slices_swapRangeCmpFunc_api_Lsa_fn49.R := List T_api_Lsa
noncomputable def f_slices_swapRangeCmpFunc_api_Lsa_fn49.b0 (a1 : Int) (a2 : Int) (a3 : Int) (s1 : Int × (List T_api_Lsa)) : Option (Sum (Int × (List T_api_Lsa)) (Sum (Int × (List T_api_Lsa)) f_slices_swapRangeCmpFunc_api_Lsa_fn49.R)) := (if s1.1 < a3 then (if 0 ≤ (IntKind.i64.wrap (a2 + s1.1)) then (if (IntKind.i64.wrap (a2 + s1.1)) < (s1.2.length : Int) then (if 0 ≤ (IntKind.i64.wrap (a1 + s1.1)) then (if (IntKind.i64.wrap (a1 + s1.1)) < (s1.2.length : Int) then (if (IntKind.i64.wrap (a2 + s1.1)) < ((setI s1.2 (IntKind.i64.wrap (a1 + s1.1)) (rd s1.2 (IntKind.i64.wrap (a2 + s1.1)))).length : Int) then some (.inl (IntKind.i64.wrap (s1.1 + 1), setI (setI s1.2 (IntKind.i64.wrap (a1 + s1.1)) (rd s1.2 (IntKind.i64.wrap (a2 + s1.1)))) (IntKind.i64.wrap (a2 + s1.1)) (rd s1.2 (IntKind.i64.wrap (a1 + s1.1))))) else none) else none) else none) else none) else none) else some (.inr (.inl (s1.1, s1.2))))
noncomputable def f_slices_swapRangeCmpFunc_api_Lsa_fn49 (a0 : List T_api_Lsa) (a1 : Int) (a2 : Int) (a3 : Int) : Option f_slices_swapRangeCmpFunc_api_Lsa_fn49.R := ((loopO (f_slices_swapRangeCmpFunc_api_Lsa_fn49.b0 a1 a2 a3) (0, a0)).bind fun y1 => match y1 with | .inl s1 => some s1.2 | .inr r_ => some r_)
set_option maxHeartbeats 1000000 in
theorem f_slices_swapRangeCmpFunc_api_Lsa_fn49.ok {z w : World} {F G : Hp} (hG : G ⊆ F) {a0 : List T_api_Lsa} {A_a0 : Option Addr} {c_a0 : Nat} {L_a0 : Hp} {a1 : Int} {a2 : Int} {a3 : Int} {r : f_slices_swapRangeCmpFunc_api_Lsa_fn49.R} (H : f_slices_swapRangeCmpFunc_api_Lsa_fn49 a0 a1 a2 a3 = some r) (HF : Fits z w (L_a0 ++ F)) (ho_a0 : OwnS (kShr G k_T_api_Lsa) L_a0 A_a0 c_a0 a0) :
    Calls Try.prog 82 [.slice A_a0 a0.length c_a0, .int .i64 a1, .int .i64 a2, .int .i64 a3, .func (.func 49) [].toArray [].toArray].toArray w fun e w' => ∃ (N : Hp) (M0 : Hp), e = .returned (.tuple #[]) ∧ Fits z w' (M0 ++ (N ++ F)) ∧ OwnS (kShr (N ++ G) k_T_api_Lsa) M0 A_a0 c_a0 r := by
  unfold f_slices_swapRangeCmpFunc_api_Lsa_fn49 at H
  refine enter0 Try.func82 rfl Try.ntmps82 rfl (E := [(0, .slice A_a0 a0.length c_a0), (1, .int .i64 a1), (2, .int .i64 a2), (3, .int .i64 a3), (4, .func (.func 49) [].toArray [].toArray)]) rfl ?_
  refine cSeq (fun K1 hK1 => ?_)
  refine cRgn [] trivial ?_
  refine sL (asg rfl) rfl ?_
  refine lEnd (K := fun _ _ => True) ?_
  refine kN (?_)
  refine hK1 _ _ ?_
  replace H := bnd H; obtain ⟨y1, J1, Ho1⟩ := H
  refine cLoopB (f_slices_swapRangeCmpFunc_api_Lsa_fn49.b0 a1 a2 a3) (fun (s1 : Int × (List T_api_Lsa)) a w => ∃ (L10 : Hp), Env 38 [(0, .slice A_a0 s1.2.length c_a0), (1, .int .i64 a1), (2, .int .i64 a2), (3, .int .i64 a3), (10, .int .i64 s1.1)] a ∧ Fits z w (L10 ++ F) ∧ OwnS (kShr G k_T_api_Lsa) L10 A_a0 c_a0 s1.2) J1 (fun a hE => ⟨L_a0, hE.keep (Keep.cons rfl (Keep.cons rfl (Keep.cons rfl (Keep.cons rfl (Keep.cons rfl (Keep.nil)))))), HF, ho_a0⟩) ?_ ?_
  · rintro s1 a w11 y2 ⟨L10, hE, HF17, ho10⟩ H Hx1
    refine go_ hE ?_
    refine cSeq (fun K8 hK8 => ?_)
    refine cSeq (fun K9 hK9 => ?_)
    refine cRgn [] trivial ?_
    refine sL (mv rfl) rfl ?_
    refine sL (mv rfl) rfl ?_
    refine sL (bLss rfl rfl) rfl ?_
    refine lEnd (K := fun _ _ => True) ?_
    refine kN (?_)
    refine hK9 _ _ ?_
    by_cases c71 : s1.1 < a3
    · replace H := itT c71 H
      refine cSet (i := 13) rfl (dT c71) ?_
      refine cT rfl ?_
      refine cSkip ?_
      refine kN (?_)
      refine hK8 _ _ ?_
      refine cSeq (fun K10 hK10 => ?_)
      refine cBlock ?_
      refine cDraw mo_ HF17 rfl (fun w => Fits z w F) (fun w14 HF20 => ?_)
      have HF21 := HF20.sublist (sl_da (List.Sublist.refl _))
      refine hTake 0 rfl (by kernel_rfl) (pBlock (pThen (pThen (pBlock (pThen pFn))))) (fun w_ hS_ => mv rfl) HF21 rfl rfl ?_
      refine hTake 1 rfl (by kernel_rfl) (pBlock (pThen (pThen (pBlock (pThen pFn))))) (fun w_ hS_ => mv rfl) HF21 rfl rfl ?_
      refine hTake 2 rfl (by kernel_rfl) (pBlock (pThen (pThen (pBlock (pThen pFn))))) (fun w_ hS_ => mv rfl) HF21 rfl rfl ?_
      refine hTake 3 rfl (by kernel_rfl) (pBlock (pThen (pThen (pBlock (pThen pFn))))) (fun w_ hS_ => bAdd rfl rfl) HF21 rfl rfl ?_
      refine hTake 4 rfl (by kernel_rfl) (pBlock (pThen (pThen (pBlock (pThen pFn))))) (fun w_ hS_ => mv rfl) HF21 rfl rfl ?_
      refine hTake 5 rfl (by kernel_rfl) (pBlock (pThen (pThen (pBlock (pThen pFn))))) (fun w_ hS_ => mv rfl) HF21 rfl rfl ?_
      refine hTake 6 rfl (by kernel_rfl) (pBlock (pThen (pThen (pBlock (pThen pFn))))) (fun w_ hS_ => mv rfl) HF21 rfl rfl ?_
      refine hTake 7 rfl (by kernel_rfl) (pBlock (pThen (pThen (pBlock (pThen pFn))))) (fun w_ hS_ => bAdd rfl rfl) HF21 rfl rfl ?_
      refine hTake 8 rfl (by kernel_rfl) (pBlock (pThen (pThen (pBlock (pThen pFn))))) (fun w_ hS_ => mv rfl) HF21 rfl rfl ?_
      refine hTake 9 rfl (by kernel_rfl) (pBlock (pThen (pThen (pBlock (pThen pFn))))) (fun w_ hS_ => mv rfl) HF21 rfl rfl ?_
      refine hTake 10 rfl (by kernel_rfl) (pBlock (pThen (pThen (pBlock (pThen pFn))))) (fun w_ hS_ => mv rfl) HF21 rfl rfl ?_
      refine hTake 11 rfl (by kernel_rfl) (pBlock (pThen (pThen (pBlock (pThen pFn))))) (fun w_ hS_ => bAdd rfl rfl) HF21 rfl rfl ?_
      replace H := chk H; obtain ⟨c89, H⟩ := H
      replace H := chk H; obtain ⟨c90, H⟩ := H
      obtain ⟨g6, o6, e42, rfl, hk21, q21⟩ := RdS.at_ ho10.rd c89 c90
      obtain ⟨A61, c91, A62, c92, A63, c93, rfl, hr61, hr62, hr63⟩ := rd_T_api_Lsa hk21
      refine hTake 12 rfl (by kernel_rfl) (pBlock (pThen (pThen (pBlock (pThen pFn))))) (fun w_ hS_ => ia rfl rfl Try.underlying24 ti44 c89 c90) HF21 rfl rfl ?_
      refine hTake 14 rfl (by kernel_rfl) (pBlock (pThen (pThen (pBlock (pThen pFn))))) (fun w_ hS_ => mv rfl) HF21 rfl rfl ?_
      refine hTake 15 rfl (by kernel_rfl) (pBlock (pThen (pThen (pBlock (pThen pFn))))) (fun w_ hS_ => mv rfl) HF21 rfl rfl ?_
      refine hTake 16 rfl (by kernel_rfl) (pBlock (pThen (pThen (pBlock (pThen pFn))))) (fun w_ hS_ => mv rfl) HF21 rfl rfl ?_
      refine hTake 17 rfl (by kernel_rfl) (pBlock (pThen (pThen (pBlock (pThen pFn))))) (fun w_ hS_ => bAdd rfl rfl) HF21 rfl rfl ?_
      replace H := chk H; obtain ⟨c94, H⟩ := H
      replace H := chk H; obtain ⟨c95, H⟩ := H
      obtain ⟨e44, hk22, q22⟩ := RdS.at' ho10.rd c94 c95
      obtain ⟨A64, c96, A65, c97, A66, c98, rfl, hr64, hr65, hr66⟩ := rd_T_api_Lsa hk22
      refine hTake 18 rfl (by kernel_rfl) (pBlock (pThen (pThen (pBlock (pThen pFn))))) (fun w_ hS_ => ia rfl rfl Try.underlying24 ti44 c94 c95) HF21 rfl rfl ?_
      refine h2 13 19 (by kernel_rfl) rfl rfl ?_ ?_
      · refine qL rfl gd0 (ldA rfl ti44 rfl rfl (fun j v hj => HF20.cells (sub_h) (q21 j v hj))) rfl HF21 ?_
        refine h1 19 (by kernel_rfl) rfl ?_
        refine qL rfl gd0 (ldA rfl ti44 rfl rfl (fun j v hj => HF20.cells (sub_h) (q22 j v hj))) rfl HF21 ?_
        obtain ⟨e46, hk23, q23⟩ := RdS.at' ho10.rd c94 c95
        obtain ⟨A67, c99, A68, c100, A69, c101, rfl, hr67, hr68, hr69⟩ := rd_T_api_Lsa hk23
        refine hTake 20 rfl (by kernel_rfl) (pBlock (pThen (pThen (pBlock (pThen pFn))))) (fun w_ hS_ => ia rfl rfl Try.underlying24 ti44 c94 c95) HF21 rfl rfl ?_
        refine h1 21 (by kernel_rfl) rfl ?_
        refine qS rfl gd0 (oStE (K := (kShr G k_T_api_Lsa)) (c := c_a0) (off := 0) (y' := (rd s1.2 (IntKind.i64.wrap (a2 + s1.1)))) shrS HF20 ho10 c94 c95 rfl rfl ti44 rfl (ones rfl) (Nat.le_of_ble_eq_true rfl) (fun ci hci => shrAll hci rfl (mk_T_api_Lsa (x := (rd s1.2 (IntKind.i64.wrap (a2 + s1.1)))) (hr61) (hr62) (hr63)))) ?_
        rintro w15 ⟨L13, HF22, ho13⟩
        have HF23 := HF22.sublist (sl_da (List.Sublist.refl _))
        refine ⟨HF23, ?_⟩
        refine hSet (i := 0) (v := .slice (some ⟨g6, o6, none⟩) (setI s1.2 (IntKind.i64.wrap (a1 + s1.1)) (rd s1.2 (IntKind.i64.wrap (a2 + s1.1)))).length c_a0) rfl (by simp only [len_setI]) ?_
        refine hSet (i := 16) (v := .slice (some ⟨g6, o6, none⟩) (setI s1.2 (IntKind.i64.wrap (a1 + s1.1)) (rd s1.2 (IntKind.i64.wrap (a2 + s1.1)))).length c_a0) rfl (by simp only [len_setI]) ?_
        refine hSet (i := 20) (v := .slice (some ⟨g6, o6, none⟩) (setI s1.2 (IntKind.i64.wrap (a1 + s1.1)) (rd s1.2 (IntKind.i64.wrap (a2 + s1.1)))).length c_a0) rfl (by simp only [len_setI]) ?_
        refine hSet (i := 24) (v := .slice (some ⟨g6, o6, none⟩) (setI s1.2 (IntKind.i64.wrap (a1 + s1.1)) (rd s1.2 (IntKind.i64.wrap (a2 + s1.1)))).length c_a0) rfl (by simp only [len_setI]) ?_
        refine hSet (i := 30) (v := .slice (some ⟨g6, o6, none⟩) (setI s1.2 (IntKind.i64.wrap (a1 + s1.1)) (rd s1.2 (IntKind.i64.wrap (a2 + s1.1)))).length c_a0) rfl (by simp only [len_setI]) ?_
        replace H := chk H; obtain ⟨c102, H⟩ := H
        obtain ⟨e48, hk24, q24⟩ := RdS.at' ho13.rd c89 c102
        obtain ⟨A70, c103, A71, c104, A72, c105, rfl, hr70, hr71, hr72⟩ := rd_T_api_Lsa hk24
        refine hTake 22 rfl (by kernel_rfl) (pBlock (pThen (pThen (pBlock (pThen pFn))))) (fun w_ hS_ => ia rfl rfl Try.underlying24 ti44 c89 c102) HF23 rfl rfl ?_
        refine h1 23 (by kernel_rfl) rfl ?_
        refine qS rfl gd0 (oStE (K := (kShr G k_T_api_Lsa)) (c := c_a0) (off := 0) (y' := (rd s1.2 (IntKind.i64.wrap (a1 + s1.1)))) shrS HF22 ho13 c89 c102 rfl rfl ti44 rfl (ones rfl) (Nat.le_of_ble_eq_true rfl) (fun ci hci => shrAll hci rfl (mk_T_api_Lsa (x := (rd s1.2 (IntKind.i64.wrap (a1 + s1.1)))) (hr64) (hr65) (hr66)))) ?_
        rintro w16 ⟨L14, HF24, ho14⟩
        have HF25 := HF24.sublist (sl_da (List.Sublist.refl _))
        refine ⟨HF25, ?_⟩
        refine hSet (i := 0) (v := .slice (some ⟨g6, o6, none⟩) (setI (setI s1.2 (IntKind.i64.wrap (a1 + s1.1)) (rd s1.2 (IntKind.i64.wrap (a2 + s1.1)))) (IntKind.i64.wrap (a2 + s1.1)) (rd s1.2 (IntKind.i64.wrap (a1 + s1.1)))).length c_a0) rfl (by simp only [len_setI]) ?_
        refine hSet (i := 16) (v := .slice (some ⟨g6, o6, none⟩) (setI (setI s1.2 (IntKind.i64.wrap (a1 + s1.1)) (rd s1.2 (IntKind.i64.wrap (a2 + s1.1)))) (IntKind.i64.wrap (a2 + s1.1)) (rd s1.2 (IntKind.i64.wrap (a1 + s1.1)))).length c_a0) rfl (by simp only [len_setI]) ?_
        refine hSet (i := 20) (v := .slice (some ⟨g6, o6, none⟩) (setI (setI s1.2 (IntKind.i64.wrap (a1 + s1.1)) (rd s1.2 (IntKind.i64.wrap (a2 + s1.1)))) (IntKind.i64.wrap (a2 + s1.1)) (rd s1.2 (IntKind.i64.wrap (a1 + s1.1)))).length c_a0) rfl (by simp only [len_setI]) ?_
        refine hSet (i := 24) (v := .slice (some ⟨g6, o6, none⟩) (setI (setI s1.2 (IntKind.i64.wrap (a1 + s1.1)) (rd s1.2 (IntKind.i64.wrap (a2 + s1.1)))) (IntKind.i64.wrap (a2 + s1.1)) (rd s1.2 (IntKind.i64.wrap (a1 + s1.1)))).length c_a0) rfl (by simp only [len_setI]) ?_
        refine hSet (i := 30) (v := .slice (some ⟨g6, o6, none⟩) (setI (setI s1.2 (IntKind.i64.wrap (a1 + s1.1)) (rd s1.2 (IntKind.i64.wrap (a2 + s1.1)))) (IntKind.i64.wrap (a2 + s1.1)) (rd s1.2 (IntKind.i64.wrap (a1 + s1.1)))).length c_a0) rfl (by simp only [len_setI]) ?_
        refine hEnd (by kernel_rfl) ?_
        refine jN (kN (?_))
        refine hK10 _ _ ?_
        refine cRgn [] trivial ?_
        refine sL (mv rfl) rfl ?_
        refine sL (bAdd rfl rfl) rfl ?_
        refine sL (asg rfl) rfl ?_
        refine lEnd (K := fun _ _ => True) ?_
        refine kN (?_)
        exact ofEnv (fun a hE => ⟨_, (Option.some.inj H).symm, ⟨L14, hE.keep (Keep.cons rfl (Keep.cons rfl (Keep.cons rfl (Keep.cons rfl (Keep.cons rfl (Keep.nil)))))), HF24, ho14⟩⟩)
      · refine qL rfl gd0 (ldA rfl ti44 rfl rfl (fun j v hj => HF20.cells (sub_h) (q22 j v hj))) rfl HF21 ?_
        refine h1 13 (by kernel_rfl) rfl ?_
        refine qL rfl gd0 (ldA rfl ti44 rfl rfl (fun j v hj => HF20.cells (sub_h) (q21 j v hj))) rfl HF21 ?_
        obtain ⟨e46, hk23, q23⟩ := RdS.at' ho10.rd c94 c95
        obtain ⟨A67, c99, A68, c100, A69, c101, rfl, hr67, hr68, hr69⟩ := rd_T_api_Lsa hk23
        refine hTake 20 rfl (by kernel_rfl) (pBlock (pThen (pThen (pBlock (pThen pFn))))) (fun w_ hS_ => ia rfl rfl Try.underlying24 ti44 c94 c95) HF21 rfl rfl ?_
        refine h1 21 (by kernel_rfl) rfl ?_
        refine qS rfl gd0 (oStE (K := (kShr G k_T_api_Lsa)) (c := c_a0) (off := 0) (y' := (rd s1.2 (IntKind.i64.wrap (a2 + s1.1)))) shrS HF20 ho10 c94 c95 rfl rfl ti44 rfl (ones rfl) (Nat.le_of_ble_eq_true rfl) (fun ci hci => shrAll hci rfl (mk_T_api_Lsa (x := (rd s1.2 (IntKind.i64.wrap (a2 + s1.1)))) (hr61) (hr62) (hr63)))) ?_
        rintro w15 ⟨L13, HF22, ho13⟩
        have HF23 := HF22.sublist (sl_da (List.Sublist.refl _))
        refine ⟨HF23, ?_⟩
        refine hSet (i := 0) (v := .slice (some ⟨g6, o6, none⟩) (setI s1.2 (IntKind.i64.wrap (a1 + s1.1)) (rd s1.2 (IntKind.i64.wrap (a2 + s1.1)))).length c_a0) rfl (by simp only [len_setI]) ?_
        refine hSet (i := 16) (v := .slice (some ⟨g6, o6, none⟩) (setI s1.2 (IntKind.i64.wrap (a1 + s1.1)) (rd s1.2 (IntKind.i64.wrap (a2 + s1.1)))).length c_a0) rfl (by simp only [len_setI]) ?_
        refine hSet (i := 20) (v := .slice (some ⟨g6, o6, none⟩) (setI s1.2 (IntKind.i64.wrap (a1 + s1.1)) (rd s1.2 (IntKind.i64.wrap (a2 + s1.1)))).length c_a0) rfl (by simp only [len_setI]) ?_
        refine hSet (i := 24) (v := .slice (some ⟨g6, o6, none⟩) (setI s1.2 (IntKind.i64.wrap (a1 + s1.1)) (rd s1.2 (IntKind.i64.wrap (a2 + s1.1)))).length c_a0) rfl (by simp only [len_setI]) ?_
        refine hSet (i := 30) (v := .slice (some ⟨g6, o6, none⟩) (setI s1.2 (IntKind.i64.wrap (a1 + s1.1)) (rd s1.2 (IntKind.i64.wrap (a2 + s1.1)))).length c_a0) rfl (by simp only [len_setI]) ?_
        replace H := chk H; obtain ⟨c102, H⟩ := H
        obtain ⟨e48, hk24, q24⟩ := RdS.at' ho13.rd c89 c102
        obtain ⟨A70, c103, A71, c104, A72, c105, rfl, hr70, hr71, hr72⟩ := rd_T_api_Lsa hk24
        refine hTake 22 rfl (by kernel_rfl) (pBlock (pThen (pThen (pBlock (pThen pFn))))) (fun w_ hS_ => ia rfl rfl Try.underlying24 ti44 c89 c102) HF23 rfl rfl ?_
        refine h1 23 (by kernel_rfl) rfl ?_
        refine qS rfl gd0 (oStE (K := (kShr G k_T_api_Lsa)) (c := c_a0) (off := 0) (y' := (rd s1.2 (IntKind.i64.wrap (a1 + s1.1)))) shrS HF22 ho13 c89 c102 rfl rfl ti44 rfl (ones rfl) (Nat.le_of_ble_eq_true rfl) (fun ci hci => shrAll hci rfl (mk_T_api_Lsa (x := (rd s1.2 (IntKind.i64.wrap (a1 + s1.1)))) (hr64) (hr65) (hr66)))) ?_
        rintro w16 ⟨L14, HF24, ho14⟩
        have HF25 := HF24.sublist (sl_da (List.Sublist.refl _))
        refine ⟨HF25, ?_⟩
        refine hSet (i := 0) (v := .slice (some ⟨g6, o6, none⟩) (setI (setI s1.2 (IntKind.i64.wrap (a1 + s1.1)) (rd s1.2 (IntKind.i64.wrap (a2 + s1.1)))) (IntKind.i64.wrap (a2 + s1.1)) (rd s1.2 (IntKind.i64.wrap (a1 + s1.1)))).length c_a0) rfl (by simp only [len_setI]) ?_
        refine hSet (i := 16) (v := .slice (some ⟨g6, o6, none⟩) (setI (setI s1.2 (IntKind.i64.wrap (a1 + s1.1)) (rd s1.2 (IntKind.i64.wrap (a2 + s1.1)))) (IntKind.i64.wrap (a2 + s1.1)) (rd s1.2 (IntKind.i64.wrap (a1 + s1.1)))).length c_a0) rfl (by simp only [len_setI]) ?_
        refine hSet (i := 20) (v := .slice (some ⟨g6, o6, none⟩) (setI (setI s1.2 (IntKind.i64.wrap (a1 + s1.1)) (rd s1.2 (IntKind.i64.wrap (a2 + s1.1)))) (IntKind.i64.wrap (a2 + s1.1)) (rd s1.2 (IntKind.i64.wrap (a1 + s1.1)))).length c_a0) rfl (by simp only [len_setI]) ?_
        refine hSet (i := 24) (v := .slice (some ⟨g6, o6, none⟩) (setI (setI s1.2 (IntKind.i64.wrap (a1 + s1.1)) (rd s1.2 (IntKind.i64.wrap (a2 + s1.1)))) (IntKind.i64.wrap (a2 + s1.1)) (rd s1.2 (IntKind.i64.wrap (a1 + s1.1)))).length c_a0) rfl (by simp only [len_setI]) ?_
        refine hSet (i := 30) (v := .slice (some ⟨g6, o6, none⟩) (setI (setI s1.2 (IntKind.i64.wrap (a1 + s1.1)) (rd s1.2 (IntKind.i64.wrap (a2 + s1.1)))) (IntKind.i64.wrap (a2 + s1.1)) (rd s1.2 (IntKind.i64.wrap (a1 + s1.1)))).length c_a0) rfl (by simp only [len_setI]) ?_
        refine hEnd (by kernel_rfl) ?_
        refine jN (kN (?_))
        refine hK10 _ _ ?_
        refine cRgn [] trivial ?_
        refine sL (mv rfl) rfl ?_
        refine sL (bAdd rfl rfl) rfl ?_
        refine sL (asg rfl) rfl ?_
        refine lEnd (K := fun _ _ => True) ?_
        refine kN (?_)
        exact ofEnv (fun a hE => ⟨_, (Option.some.inj H).symm, ⟨L14, hE.keep (Keep.cons rfl (Keep.cons rfl (Keep.cons rfl (Keep.cons rfl (Keep.cons rfl (Keep.nil)))))), HF24, ho14⟩⟩)
    · replace H := itF c71 H
      refine cSet (i := 13) rfl (dF c71) ?_
      refine cF rfl ?_
      refine cExit ?_
      refine kX (kX (jX (kN (?_))))
      exact ofEnv (fun a hE => ⟨_, (Option.some.inj H).symm, ⟨L10, hE.keep (Keep.cons rfl (Keep.cons rfl (Keep.cons rfl (Keep.cons rfl (Keep.cons rfl (Keep.nil)))))), HF17, ho10⟩⟩)
  · rintro s1 a w17 rfl ⟨L10, hE, HF26, ho10⟩
    replace H := Ho1
    refine go_k hE ?_
    obtain rfl := Option.some.inj H
    refine end0 rfl ?_
    exact ⟨[], L10, rfl, HF26, ho10⟩
/-! ### slices.rotateCmpFunc[plenum/api.Lsa] (function 80) -/
abbrev f_slices_rotateCmpFunc_api_Lsa_fn49.R := List T_api_Lsa
noncomputable def f_slices_rotateCmpFunc_api_Lsa_fn49.b0 (a2 : Int) (s1 : Int × Int × (List T_api_Lsa)) : Option (Sum (Int × Int × (List T_api_Lsa)) (Sum (Int × Int × (List T_api_Lsa)) f_slices_rotateCmpFunc_api_Lsa_fn49.R)) := (if s1.1 = s1.2.1 then some (.inr (.inl (s1.1, s1.2.1, s1.2.2))) else (if s1.2.1 < s1.1 then ((f_slices_swapRangeCmpFunc_api_Lsa_fn49 s1.2.2 (IntKind.i64.wrap (a2 - s1.1)) a2 s1.2.1).bind fun t5 => (if t5.length = s1.2.2.length then some (.inl (IntKind.i64.wrap (s1.1 - s1.2.1), s1.2.1, t5)) else none)) else ((f_slices_swapRangeCmpFunc_api_Lsa_fn49 s1.2.2 (IntKind.i64.wrap (a2 - s1.1)) (IntKind.i64.wrap ((IntKind.i64.wrap (a2 + s1.2.1)) - s1.1)) s1.1).bind fun t6 => (if t6.length = s1.2.2.length then some (.inl (s1.1, IntKind.i64.wrap (s1.2.1 - s1.1), t6)) else none))))
noncomputable def f_slices_rotateCmpFunc_api_Lsa_fn49 (a0 : List T_api_Lsa) (a1 : Int) (a2 : Int) (a3 : Int) : Option f_slices_rotateCmpFunc_api_Lsa_fn49.R := ((loopO (f_slices_rotateCmpFunc_api_Lsa_fn49.b0 a2) (IntKind.i64.wrap (a2 - a1), IntKind.i64.wrap (a3 - a2), a0)).bind fun y1 => match y1 with | .inl s1 => ((f_slices_swapRangeCmpFunc_api_Lsa_fn49 s1.2.2 (IntKind.i64.wrap (a2 - s1.1)) a2 s1.1).bind fun t7 => (if t7.length = s1.2.2.length then some t7 else none)) | .inr r_ => some r_)
set_option maxHeartbeats 1000000 in
theorem f_slices_rotateCmpFunc_api_Lsa_fn49.ok {z w : World} {F G : Hp} (hG : G ⊆ F) {a0 : List T_api_Lsa} {A_a0 : Option Addr} {c_a0 : Nat} {L_a0 : Hp} {a1 : Int} {a2 : Int} {a3 : Int} {r : f_slices_rotateCmpFunc_api_Lsa_fn49.R} (H : f_slices_rotateCmpFunc_api_Lsa_fn49 a0 a1 a2 a3 = some r) (HF : Fits z w (L_a0 ++ F)) (ho_a0 : OwnS (kShr G k_T_api_Lsa) L_a0 A_a0 c_a0 a0) :
    Calls Try.prog 80 [.slice A_a0 a0.length c_a0, .int .i64 a1, .int .i64 a2, .int .i64 a3, .func (.func 49) [].toArray [].toArray].toArray w fun e w' => ∃ (N : Hp) (M0 : Hp), e = .returned (.tuple #[]) ∧ Fits z w' (M0 ++ (N ++ F)) ∧ OwnS (kShr (N ++ G) k_T_api_Lsa) M0 A_a0 c_a0 r := by
  unfold f_slices_rotateCmpFunc_api_Lsa_fn49 at H
  refine enter0 Try.func80 rfl Try.ntmps80 rfl (E := [(0, .slice A_a0 a0.length c_a0), (1, .int .i64 a1), (2, .int .i64 a2), (3, .int .i64 a3), (4, .func (.func 49) [].toArray [].toArray)]) rfl ?_
  refine cSeq (fun K1 hK1 => ?_)
  refine cRgn [] trivial ?_
  refine sL (mv rfl) rfl ?_
  refine sL (mv rfl) rfl ?_
  refine sL (bSub rfl rfl) rfl ?_
  refine sL (asg rfl) rfl ?_
  refine lEnd (K := fun _ _ => True) ?_
  refine kN (?_)
  refine hK1 _ _ ?_
  refine cSeq (fun K2 hK2 => ?_)
  refine cRgn [] trivial ?_
  refine sL (mv rfl) rfl ?_
  refine sL (mv rfl) rfl ?_
  refine sL (bSub rfl rfl) rfl ?_
  refine sL (asg rfl) rfl ?_
  refine lEnd (K := fun _ _ => True) ?_
  refine kN (?_)
  refine hK2 _ _ ?_
  refine cSeq (fun K3 hK3 => ?_)
  replace H := bnd H; obtain ⟨y1, J8, Ho1⟩ := H
  refine cLoopB (f_slices_rotateCmpFunc_api_Lsa_fn49.b0 a2) (fun (s1 : Int × Int × (List T_api_Lsa)) a w => ∃ (D2 : Hp) (L6 : Hp), Env 58 [(0, .slice A_a0 s1.2.2.length c_a0), (2, .int .i64 a2), (4, .func (.func 49) [].toArray [].toArray), (10, .int .i64 s1.1), (11, .int .i64 s1.2.1)] a ∧ Fits z w (L6 ++ (D2 ++ F)) ∧ OwnS (kShr (D2 ++ G) k_T_api_Lsa) L6 A_a0 c_a0 s1.2.2) J8 (fun a hE => ⟨[], L_a0, hE.keep (Keep.cons rfl (Keep.cons rfl (Keep.cons rfl (Keep.cons rfl (Keep.cons rfl (Keep.nil)))))), HF, ho_a0⟩) ?_ ?_
  · rintro s1 a w5 y2 ⟨D2, L6, hE, HF7, ho6⟩ H Hx1
    refine go_ hE ?_
    have hs6 : G ⊆ D2 ++ G := sub_a sub_r
    refine cSeq (fun K14 hK14 => ?_)
    refine cSeq (fun K15 hK15 => ?_)
    refine cRgn [] trivial ?_
    refine sL (mv rfl) rfl ?_
    refine sL (mv rfl) rfl ?_
    refine sL (bNeq rfl rfl) rfl ?_
    refine lEnd (K := fun _ _ => True) ?_
    refine kN (?_)
    refine hK15 _ _ ?_
    by_cases c9 : s1.1 = s1.2.1
    · replace H := itT c9 H
      refine cSet (i := 20) rfl (nF c9) ?_
      refine cF rfl ?_
      refine cExit ?_
      refine kX (kX (jX (kN (?_))))
      exact ofEnv (fun a hE => ⟨_, (Option.some.inj H).symm, ⟨D2, L6, hE.keep (Keep.cons rfl (Keep.cons rfl (Keep.cons rfl (Keep.cons rfl (Keep.cons rfl (Keep.nil)))))), HF7, ho6⟩⟩)
    · replace H := itF c9 H
      refine cSet (i := 20) rfl (nT c9) ?_
      refine cT rfl ?_
      refine cSkip ?_
      refine kN (?_)
      refine hK14 _ _ ?_
      refine cBlock ?_
      refine cSeq (fun K16 hK16 => ?_)
      refine cRgn [] trivial ?_
      refine sL (mv rfl) rfl ?_
      refine sL (mv rfl) rfl ?_
      refine sL (bGtr rfl rfl) rfl ?_
      refine lEnd (K := fun _ _ => True) ?_
      refine kN (?_)
      refine hK16 _ _ ?_
      by_cases c10 : s1.2.1 < s1.1
      · replace H := itT c10 H
        refine cSet (i := 23) rfl (dT c10) ?_
        refine cT rfl ?_
        refine cSeq (fun K17 hK17 => ?_)
        refine cRgn [] trivial ?_
        refine sL (mv rfl) rfl ?_
        refine sL (mv rfl) rfl ?_
        refine sL (mv rfl) rfl ?_
        refine sL (bSub rfl rfl) rfl ?_
        refine sL (mv rfl) rfl ?_
        refine sL (mv rfl) rfl ?_
        refine sL (mv rfl) rfl ?_
        replace H := bnd H; obtain ⟨t5, J5, H⟩ := H
        refine eCall isf82 rfl rfl rfl (f_slices_swapRangeCmpFunc_api_Lsa_fn49.ok (a0 := s1.2.2) (sub_n hG) J5 HF7 ho6) ?_
        rintro _ w6 ⟨N7, L7, rfl, HF8, ho7⟩
        obtain ⟨N8, hN3⟩ : ∃ N_, N_ = N7 ++ D2 := ⟨_, rfl⟩
        have HF9 := HF8; rw [← List.append_assoc N7 D2 F, ← hN3] at HF9
        have hs7 : D2 ++ G ⊆ N8 ++ G := frz_s hN3
        have hr3 := OwnS.lift (G' := (N8 ++ G)) ho7 (frz_c hN3)
        refine ⟨_, rfl, ?_⟩
        replace H := chk H; obtain ⟨c11, H⟩ := H
        refine lSet (i := 0) (v := .slice A_a0 t5.length c_a0) rfl (by rw [c11]) ?_
        refine lSet (i := 24) (v := .slice A_a0 t5.length c_a0) rfl (by rw [c11]) ?_
        refine lEnd (K := fun _ _ => True) ?_
        refine kN (?_)
        refine hK17 _ _ ?_
        refine cRgn [] trivial ?_
        refine sL (mv rfl) rfl ?_
        refine sL (mv rfl) rfl ?_
        refine sL (bSub rfl rfl) rfl ?_
        refine sL (asg rfl) rfl ?_
        refine lEnd (K := fun _ _ => True) ?_
        refine jN (kN (?_))
        exact ofEnv (fun a hE => ⟨_, (Option.some.inj H).symm, ⟨N8, L7, hE.keep (Keep.cons rfl (Keep.cons rfl (Keep.cons rfl (Keep.cons rfl (Keep.cons rfl (Keep.nil)))))), HF9, hr3⟩⟩)
      · replace H := itF c10 H
        refine cSet (i := 23) rfl (dF c10) ?_
        refine cF rfl ?_
        refine cSeq (fun K18 hK18 => ?_)
        refine cRgn [] trivial ?_
        refine sL (mv rfl) rfl ?_
        refine sL (mv rfl) rfl ?_
        refine sL (mv rfl) rfl ?_
        refine sL (bSub rfl rfl) rfl ?_
        refine sL (mv rfl) rfl ?_
        refine sL (mv rfl) rfl ?_
        refine sL (bAdd rfl rfl) rfl ?_
        refine sL (mv rfl) rfl ?_
        refine sL (bSub rfl rfl) rfl ?_
        refine sL (mv rfl) rfl ?_
        refine sL (mv rfl) rfl ?_
        replace H := bnd H; obtain ⟨t6, J6, H⟩ := H
        refine eCall isf82 rfl rfl rfl (f_slices_swapRangeCmpFunc_api_Lsa_fn49.ok (a0 := s1.2.2) (sub_n hG) J6 HF7 ho6) ?_
        rintro _ w7 ⟨N9, L8, rfl, HF10, ho8⟩
        obtain ⟨N10, hN4⟩ : ∃ N_, N_ = N9 ++ D2 := ⟨_, rfl⟩
        have HF11 := HF10; rw [← List.append_assoc N9 D2 F, ← hN4] at HF11
        have hs8 : D2 ++ G ⊆ N10 ++ G := frz_s hN4
        have hr4 := OwnS.lift (G' := (N10 ++ G)) ho8 (frz_c hN4)
        refine ⟨_, rfl, ?_⟩
        replace H := chk H; obtain ⟨c12, H⟩ := H
        refine lSet (i := 0) (v := .slice A_a0 t6.length c_a0) rfl (by rw [c12]) ?_
        refine lSet (i := 35) (v := .slice A_a0 t6.length c_a0) rfl (by rw [c12]) ?_
        refine lEnd (K := fun _ _ => True) ?_
        refine kN (?_)
        refine hK18 _ _ ?_
        refine cRgn [] trivial ?_
        refine sL (mv rfl) rfl ?_
        refine sL (mv rfl) rfl ?_
        refine sL (bSub rfl rfl) rfl ?_
        refine sL (asg rfl) rfl ?_
        refine lEnd (K := fun _ _ => True) ?_
        refine jN (kN (?_))
        exact ofEnv (fun a hE => ⟨_, (Option.some.inj H).symm, ⟨N10, L8, hE.keep (Keep.cons rfl (Keep.cons rfl (Keep.cons rfl (Keep.cons rfl (Keep.cons rfl (Keep.nil)))))), HF11, hr4⟩⟩)
  · rintro s1 a w8 rfl ⟨D2, L6, hE, HF12, ho6⟩
    replace H := Ho1
    refine go_k hE ?_
    have hs9 : G ⊆ D2 ++ G := sub_a sub_r
    refine kN (?_)
    refine hK3 _ _ ?_
    refine cRgn [] trivial ?_
    refine sL (mv rfl) rfl ?_
    refine sL (mv rfl) rfl ?_
    refine sL (mv rfl) rfl ?_
    refine sL (bSub rfl rfl) rfl ?_
    refine sL (mv rfl) rfl ?_
    refine sL (mv rfl) rfl ?_
    refine sL (mv rfl) rfl ?_
    replace H := bnd H; obtain ⟨t7, J7, H⟩ := H
    refine eCall isf82 rfl rfl rfl (f_slices_swapRangeCmpFunc_api_Lsa_fn49.ok (a0 := s1.2.2) (sub_n hG) J7 HF12 ho6) ?_
    rintro _ w9 ⟨N11, L9, rfl, HF13, ho9⟩
    obtain ⟨N12, hN5⟩ : ∃ N_, N_ = N11 ++ D2 := ⟨_, rfl⟩
    have HF14 := HF13; rw [← List.append_assoc N11 D2 F, ← hN5] at HF14
    have hs10 : D2 ++ G ⊆ N12 ++ G := frz_s hN5
    have hr5 := OwnS.lift (G' := (N12 ++ G)) ho9 (frz_c hN5)
    refine ⟨_, rfl, ?_⟩
    replace H := chk H; obtain ⟨c13, H⟩ := H
    refine lSet (i := 0) (v := .slice A_a0 t7.length c_a0) rfl (by rw [c13]) ?_
    refine lSet (i := 50) (v := .slice A_a0 t7.length c_a0) rfl (by rw [c13]) ?_
    refine lEnd (K := fun _ _ => True) ?_
    obtain rfl := Option.some.inj H
    refine end0 rfl ?_
    exact ⟨N12, L9, rfl, HF14, hr5⟩
end Go.Proofs.Ytbjnbjgiidcfjaa
