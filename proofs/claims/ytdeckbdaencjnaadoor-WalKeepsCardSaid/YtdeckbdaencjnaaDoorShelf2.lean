/-
  A contract of the library at this translation (bytes.Trim at one byte), laid by the shelf. Conditions: none.
-/
import Derived.Ground.SlbvProg
import Derived.Shelf.Bytes.SlTrim
import Derived.Shelf.Small.Utf8
import Derived.Shelf.Small.Bits
import Derived.Shelf.Small.Wraps
import Derived.Shelf.Strconv.Itoa0
import Derived.Shelf.Sort.Plain
import Derived.Shelf.Slices.In.SortNone
import Derived.Shelf.Bytes.SlSearch0
import Derived.Ground.SlbCloneProg
import Derived.Shelf.Bytes.SlClone
import Derived.Shelf.Bytes.SlSmallAll
import Derived.Shelf.Bytes.SlEqualAll
import Derived.Shelf.Bytes.Small
import Derived.Test.YtdeckbdaencjnaaDoorProg
namespace Go.Proofs
open Go.Shelf
def Tryd.laysTrim_ren : Go.Shelf.Ren := ⟨fun | 6 => 62 | 10 => 92 | 9 => 91 | 11 => 93 | 13 => 95 | 12 => 94 | 15 => 97 | 14 => 96 | 16 => 113 | 19 => 116 | 18 => 115 | 17 => 114 | 21 => 125 | 20 => 124 | n => n, fun | 22 => 24 | 9 => 9 | 3 => 3 | 4 => 4 | 5 => 5 | 28 => 149 | 27 => 148 | 0 => 0 | 31 => 152 | 21 => 21 | 33 => 173 | 36 => 193 | 37 => 33 | 40 => 196 | 39 => 195 | n => n, fun | 0 => 0 | 1 => 1 | n => n⟩
theorem Tryd.laysTrim : Go.Proofs.SlLaysV.n6 Tryd.prog Tryd.laysTrim_ren := {
  mixed := by kernel_rfl
  f6 := Tryd.func62.trans (congrArg some (by kernel_rfl))
  f9 := Tryd.func91.trans (congrArg some (by kernel_rfl))
  f10 := Tryd.func92.trans (congrArg some (by kernel_rfl))
  f11 := Tryd.func93.trans (congrArg some (by kernel_rfl))
  f12 := Tryd.func94.trans (congrArg some (by kernel_rfl))
  f13 := Tryd.func95.trans (congrArg some (by kernel_rfl))
  f14 := Tryd.func96.trans (congrArg some (by kernel_rfl))
  f15 := Tryd.func97.trans (congrArg some (by kernel_rfl))
  f16 := Tryd.func113.trans (congrArg some (by kernel_rfl))
  f17 := Tryd.func114.trans (congrArg some (by kernel_rfl))
  f18 := Tryd.func115.trans (congrArg some (by kernel_rfl))
  f19 := Tryd.func116.trans (congrArg some (by kernel_rfl))
  f20 := Tryd.func124.trans (congrArg some (by kernel_rfl))
  f21 := Tryd.func125.trans (congrArg some (by kernel_rfl))
  t0 := Tryd.underlying0
  a0 := Tryd.isAgg0
  z0 := Tryd.sizeOf0
  v0 := Tryd.zeroValue0
  t3 := Tryd.underlying3
  a3 := Tryd.isAgg3
  z3 := Tryd.sizeOf3
  v3 := Tryd.zeroValue3
  t4 := Tryd.underlying4
  a4 := Tryd.isAgg4
  z4 := Tryd.sizeOf4
  v4 := Tryd.zeroValue4
  t5 := Tryd.underlying5
  a5 := Tryd.isAgg5
  z5 := Tryd.sizeOf5
  v5 := Tryd.zeroValue5
  t9 := Tryd.underlying9
  a9 := Tryd.isAgg9
  z9 := Tryd.sizeOf9
  v9 := Tryd.zeroValue9
  t21 := Tryd.underlying21
  a21 := Tryd.isAgg21
  z21 := Tryd.sizeOf21
  v21 := Tryd.zeroValue21
  t22 := Tryd.underlying24
  a22 := Tryd.isAgg24
  z22 := Tryd.sizeOf24
  v22 := Tryd.zeroValue24
  t27 := Tryd.underlying148
  a27 := Tryd.isAgg148
  z27 := Tryd.sizeOf148
  t28 := Tryd.underlying149
  a28 := Tryd.isAgg149
  z28 := Tryd.sizeOf149
  v28 := Tryd.zeroValue149
  t31 := Tryd.underlying152
  a31 := Tryd.isAgg152
  z31 := Tryd.sizeOf152
  v31 := Tryd.zeroValue152
  t33 := Tryd.underlying173
  a33 := Tryd.isAgg173
  z33 := Tryd.sizeOf173
  v33 := Tryd.zeroValue173
  t36 := Tryd.underlying193
  a36 := Tryd.isAgg193
  z36 := Tryd.sizeOf193
  t37 := Tryd.underlying33
  a37 := Tryd.isAgg33
  z37 := Tryd.sizeOf33
  v37 := Tryd.zeroValue33
  t39 := Tryd.underlying195
  a39 := Tryd.isAgg195
  z39 := Tryd.sizeOf195
  v39 := Tryd.zeroValue195
  t40 := Tryd.underlying196
  a40 := Tryd.isAgg196
  z40 := Tryd.sizeOf196
  v40 := Tryd.zeroValue196 }
/-- bytes.Trim at one byte. -/
theorem Tryd.bytes_Trim_one (p : Option Addr) (n c : Nat) (bs : List UInt8) (cc : UInt8) (w : World) (hb : bs.length = n) (hnc : n ≤ c) (hbig : c ≤ 9223372036854775807) (h1 : Lib.BytesAt w p n bs) (h0 : 0 < n) (hc : cc.toNat < 128) :
    Calls Tryd.prog 62 #[.slice p n c, .string ⟨#[cc]⟩] w fun e w' => e = .returned (Lib.leftV p (Lib.trimRightS bs [cc]).length c ((Lib.trimRightS bs [cc]).length - (Lib.trimS bs [cc]).length)) ∧ ∃ q, w' = w.drewN q := Any.bytes_Trim_one Tryd.laysTrim p n c bs cc w hb hnc hbig h1 h0 hc
end Go.Proofs
