/-
  The functions that the statement reaches, each as a function of Lean (printed by a program of this work).
-/
import Derived.Test.YthdgncnbnallcaaGreatD1
set_option linter.unusedVariables false
set_option maxRecDepth 100000
namespace Go.Proofs.YthdgncnbnallcaaGreat
open Go.Gx
abbrev run_machine_write_9c77_Ty : Type 1 := {R : Type} → (Int) → (List (Int)) → (List (Int)) → (Int) → (Int) → (Int) → (List ((Int) × (Int))) → (List (ByteArray)) → (List (Int)) → (Int) → (List (Bool)) → (List (List (Int))) → (List ((Bool) × (Int))) → ((Int) → (List (Int)) → (List (Int)) → (Int) → (Int) → (Int) → (List ((Int) × (Int))) → (List (ByteArray)) → (Int) → (List (Bool)) → (List (List (Int))) → (List (Int)) → (List ((Bool) × (Int))) → Option R) → Option R
noncomputable def run_machine_write_9c77_T (N : Nat) (c0 : files_Files_Write_c4b4_Ty) (c1 : files_Files_Write_44ab_Ty) (c2 : files_Files_Write_56dc_Ty) (c3 : files_Files_Write_b195_Ty) (c4 : run_machine_answer_6121_Ty) (c5 : run_machine_answer_9b59_Ty) (c6 : run_machine_answer_c21d_Ty) (c7 : run_machine_answer_684b_Ty) (c8 : run_machine_end_5a2b_Ty) (c9 : run_machine_end_3f90_Ty) (c10 : run_machine_pop_9c77_Ty) (c11 : run_machine_pop_6326_Ty) {R : Type} (x0 : Int) (x1 : List (Int)) (x2 : List (Int)) (x3 : Int) (x4 : Int) (x5 : Int) (x6 : List ((Int) × (Int))) (x7 : List (ByteArray)) (x8 : List (Int)) (x9 : Int) (x10 : List (Bool)) (x11 : List (List (Int))) (x12 : List ((Bool) × (Int))) (k0 : (Int) → (List (Int)) → (List (Int)) → (Int) → (Int) → (Int) → (List ((Int) × (Int))) → (List (ByteArray)) → (Int) → (List (Bool)) → (List (List (Int))) → (List (Int)) → (List ((Bool) × (Int))) → Option R) : Option R :=
  c10 x0 x1 x2 x3 x4 x5 x6 x7 x8 x9 x10 x11 x12
  (fun i1809 i1810 l1811 l1812 i1813 i1814 i1815 l1816 l1817 i1818 l1819 l1820 l1821 l1822 => c10 i1810 l1811 l1812 i1813 i1814 i1815 l1816 l1817 l1822 i1818 l1819 l1820 l1821
   (fun i1823 i1824 l1825 l1826 i1827 i1828 i1829 l1830 l1831 i1832 l1833 l1834 l1835 l1836 => c10 i1824 l1825 l1826 i1827 i1828 i1829 l1830 l1831 l1836 i1832 l1833 l1834 l1835
    (fun i1837 i1838 l1839 l1840 i1841 i1842 i1843 l1844 l1845 i1846 l1847 l1848 l1849 l1850 => br (decide ((0 : Int) < i1809))
     (br (decide ((32 : Int) < (IntKind.wrap .i64 ((IntKind.wrap .i64 i1823) + (IntKind.wrap .i64 i1809)))))
      (c8 (3 : Int) (0 : Int) i1838 l1839 l1840 i1841 i1842 i1843 l1844 l1845 l1850 i1846 l1847 l1848 l1849
       (fun i1851 l1852 l1853 i1854 i1855 i1856 l1857 l1858 l1859 i1860 l1861 l1862 l1863 => k0 i1851 l1852 l1853 i1854 i1855 i1856 l1857 l1858 i1860 l1861 l1862 l1859 l1863))
      (br (decide ((0 : Int) < i1809))
       (br (leB (IntKind.wrap .u16 (i1823 + i1809)) (32 : Nat))
        (br (leB i1823 (Int.toNat (IntKind.wrap .u16 (i1823 + i1809))))
         (c0 i1837 (Int.toNat i1823) ((Int.toNat (IntKind.wrap .u16 (i1823 + i1809))) - (Int.toNat i1823)) ((32 : Nat) - (Int.toNat i1823)) i1838 l1839 l1840 i1841 i1842 i1843 l1844 l1845 l1850 i1846 l1847 l1848 l1849
          (fun i1864 i1865 l1866 l1867 i1868 i1869 i1870 l1871 l1872 l1873 i1874 l1875 l1876 l1877 => c5 i1864 i1865 l1866 l1867 i1868 i1869 i1870 l1871 l1872 l1873 i1874 l1875 l1876 l1877
           (fun i1878 l1879 l1880 i1881 i1882 i1883 l1884 l1885 i1886 l1887 l1888 l1889 l1890 => k0 i1878 l1879 l1880 i1881 i1882 i1883 l1884 l1885 i1886 l1887 l1888 l1889 l1890)))
         (none))
        (none))
       (c1 i1837
        (fun i1891 => c5 i1891 i1838 l1839 l1840 i1841 i1842 i1843 l1844 l1845 l1850 i1846 l1847 l1848 l1849
         (fun i1892 l1893 l1894 i1895 i1896 i1897 l1898 l1899 i1900 l1901 l1902 l1903 l1904 => k0 i1892 l1893 l1894 i1895 i1896 i1897 l1898 l1899 i1900 l1901 l1902 l1903 l1904)))))
     (br (decide ((0 : Int) < i1809))
      (br (leB (IntKind.wrap .u16 (i1823 + i1809)) (32 : Nat))
       (br (leB i1823 (Int.toNat (IntKind.wrap .u16 (i1823 + i1809))))
        (c0 i1837 (Int.toNat i1823) ((Int.toNat (IntKind.wrap .u16 (i1823 + i1809))) - (Int.toNat i1823)) ((32 : Nat) - (Int.toNat i1823)) i1838 l1839 l1840 i1841 i1842 i1843 l1844 l1845 l1850 i1846 l1847 l1848 l1849
         (fun i1905 i1906 l1907 l1908 i1909 i1910 i1911 l1912 l1913 l1914 i1915 l1916 l1917 l1918 => c5 i1905 i1906 l1907 l1908 i1909 i1910 i1911 l1912 l1913 l1914 i1915 l1916 l1917 l1918
          (fun i1919 l1920 l1921 i1922 i1923 i1924 l1925 l1926 i1927 l1928 l1929 l1930 l1931 => k0 i1919 l1920 l1921 i1922 i1923 i1924 l1925 l1926 i1927 l1928 l1929 l1930 l1931)))
        (none))
       (none))
      (c1 i1837
       (fun i1932 => c5 i1932 i1838 l1839 l1840 i1841 i1842 i1843 l1844 l1845 l1850 i1846 l1847 l1848 l1849
        (fun i1933 l1934 l1935 i1936 i1937 i1938 l1939 l1940 i1941 l1942 l1943 l1944 l1945 => k0 i1933 l1934 l1935 i1936 i1937 i1938 l1939 l1940 i1941 l1942 l1943 l1944 l1945)))))))
noncomputable def run_machine_write_9c77 (N : Nat) {R : Type} (x0 : Int) (x1 : List (Int)) (x2 : List (Int)) (x3 : Int) (x4 : Int) (x5 : Int) (x6 : List ((Int) × (Int))) (x7 : List (ByteArray)) (x8 : List (Int)) (x9 : Int) (x10 : List (Bool)) (x11 : List (List (Int))) (x12 : List ((Bool) × (Int))) (k0 : (Int) → (List (Int)) → (List (Int)) → (Int) → (Int) → (Int) → (List ((Int) × (Int))) → (List (ByteArray)) → (Int) → (List (Bool)) → (List (List (Int))) → (List (Int)) → (List ((Bool) × (Int))) → Option R) : Option R := run_machine_write_9c77_T N (@files_Files_Write_c4b4 N) (@files_Files_Write_44ab N) (@files_Files_Write_56dc N) (@files_Files_Write_b195 N) (@run_machine_answer_6121 N) (@run_machine_answer_9b59 N) (@run_machine_answer_c21d N) (@run_machine_answer_684b N) (@run_machine_end_5a2b N) (@run_machine_end_3f90 N) (@run_machine_pop_9c77 N) (@run_machine_pop_6326 N) x0 x1 x2 x3 x4 x5 x6 x7 x8 x9 x10 x11 x12 k0
abbrev run_machine_write_6326_Ty : Type 1 := {R : Type} → (Int) → (List (Int)) → (List (Int)) → (Int) → (Int) → (Int) → (List ((Int) × (Int))) → (List (ByteArray)) → (List (Int)) → (List (Int)) → (Int) → (List (((ByteArray) × (ByteArray)) × ((Int) × (Bool)))) → (List ((Int) × (List (Int)))) → (List ((Int) × (Int))) → (Int) → (List (Bool)) → (List (List (Int))) → (List ((Bool) × (Int))) → ((Int) → (List (Int)) → (List (Int)) → (Int) → (Int) → (Int) → (List ((Int) × (Int))) → (List (ByteArray)) → (List (Int)) → (Int) → (List (((ByteArray) × (ByteArray)) × ((Int) × (Bool)))) → (List ((Int) × (List (Int)))) → (List ((Int) × (Int))) → (Int) → (List (Bool)) → (List (List (Int))) → (List (Int)) → (List ((Bool) × (Int))) → Option R) → Option R
noncomputable def run_machine_write_6326_T (N : Nat) (c0 : files_Files_Write_c4b4_Ty) (c1 : files_Files_Write_44ab_Ty) (c2 : files_Files_Write_56dc_Ty) (c3 : files_Files_Write_b195_Ty) (c4 : run_machine_answer_6121_Ty) (c5 : run_machine_answer_9b59_Ty) (c6 : run_machine_answer_c21d_Ty) (c7 : run_machine_answer_684b_Ty) (c8 : run_machine_end_5a2b_Ty) (c9 : run_machine_end_3f90_Ty) (c10 : run_machine_pop_9c77_Ty) (c11 : run_machine_pop_6326_Ty) {R : Type} (x0 : Int) (x1 : List (Int)) (x2 : List (Int)) (x3 : Int) (x4 : Int) (x5 : Int) (x6 : List ((Int) × (Int))) (x7 : List (ByteArray)) (x8 : List (Int)) (x9 : List (Int)) (x10 : Int) (x11 : List (((ByteArray) × (ByteArray)) × ((Int) × (Bool)))) (x12 : List ((Int) × (List (Int)))) (x13 : List ((Int) × (Int))) (x14 : Int) (x15 : List (Bool)) (x16 : List (List (Int))) (x17 : List ((Bool) × (Int))) (k0 : (Int) → (List (Int)) → (List (Int)) → (Int) → (Int) → (Int) → (List ((Int) × (Int))) → (List (ByteArray)) → (List (Int)) → (Int) → (List (((ByteArray) × (ByteArray)) × ((Int) × (Bool)))) → (List ((Int) × (List (Int)))) → (List ((Int) × (Int))) → (Int) → (List (Bool)) → (List (List (Int))) → (List (Int)) → (List ((Bool) × (Int))) → Option R) : Option R :=
  c11 x0 x1 x2 x3 x4 x5 x6 x7 x8 x9 x10 x11 x12 x13 x14 x15 x16 x17
  (fun i5522 i5523 l5524 l5525 i5526 i5527 i5528 l5529 l5530 l5531 i5532 l5533 l5534 l5535 i5536 l5537 l5538 l5539 l5540 => c11 i5523 l5524 l5525 i5526 i5527 i5528 l5529 l5530 l5540 l5531 i5532 l5533 l5534 l5535 i5536 l5537 l5538 l5539
   (fun i5541 i5542 l5543 l5544 i5545 i5546 i5547 l5548 l5549 l5550 i5551 l5552 l5553 l5554 i5555 l5556 l5557 l5558 l5559 => c11 i5542 l5543 l5544 i5545 i5546 i5547 l5548 l5549 l5559 l5550 i5551 l5552 l5553 l5554 i5555 l5556 l5557 l5558
    (fun i5560 i5561 l5562 l5563 i5564 i5565 i5566 l5567 l5568 l5569 i5570 l5571 l5572 l5573 i5574 l5575 l5576 l5577 l5578 => br (decide ((0 : Int) < i5522))
     (br (decide ((32 : Int) < (IntKind.wrap .i64 ((IntKind.wrap .i64 i5541) + (IntKind.wrap .i64 i5522)))))
      (c9 (3 : Int) (0 : Int) i5561 l5562 l5563 i5564 i5565 i5566 l5567 l5568 l5578 l5569 i5570 l5571 l5572 l5573 i5574 l5575 l5576 l5577
       (fun i5579 l5580 l5581 i5582 i5583 i5584 l5585 l5586 l5587 l5588 i5589 l5590 l5591 l5592 i5593 l5594 l5595 l5596 => k0 i5579 l5580 l5581 i5582 i5583 i5584 l5585 l5586 l5588 i5589 l5590 l5591 l5592 i5593 l5594 l5595 l5587 l5596))
      (br (decide ((0 : Int) < i5522))
       (br (leB (IntKind.wrap .u16 (i5541 + i5522)) (32 : Nat))
        (br (leB i5541 (Int.toNat (IntKind.wrap .u16 (i5541 + i5522))))
         (c2 i5560 (Int.toNat i5541) ((Int.toNat (IntKind.wrap .u16 (i5541 + i5522))) - (Int.toNat i5541)) ((32 : Nat) - (Int.toNat i5541)) l5569 i5570 l5571 l5572 l5573 i5561 l5562 l5563 i5564 i5565 i5566 l5567 l5568 l5578 i5574 l5575 l5576 l5577
          (fun i5597 l5598 i5599 l5600 l5601 l5602 i5603 l5604 l5605 i5606 i5607 i5608 l5609 l5610 l5611 i5612 l5613 l5614 l5615 => c7 i5597 i5603 l5604 l5605 i5606 i5607 i5608 l5609 l5610 l5611 l5598 i5599 l5600 l5601 l5602 i5612 l5613 l5614 l5615
           (fun i5616 l5617 l5618 i5619 i5620 i5621 l5622 l5623 l5624 i5625 l5626 l5627 l5628 i5629 l5630 l5631 l5632 l5633 => k0 i5616 l5617 l5618 i5619 i5620 i5621 l5622 l5623 l5624 i5625 l5626 l5627 l5628 i5629 l5630 l5631 l5632 l5633)))
         (none))
        (none))
       (c3 i5560 l5569 i5570 l5571 l5572 l5573
        (fun i5645 l5646 i5647 l5648 l5649 l5650 => c7 i5645 i5561 l5562 l5563 i5564 i5565 i5566 l5567 l5568 l5578 l5646 i5647 l5648 l5649 l5650 i5574 l5575 l5576 l5577
         (fun i5651 l5652 l5653 i5654 i5655 i5656 l5657 l5658 l5659 i5660 l5661 l5662 l5663 i5664 l5665 l5666 l5667 l5668 => k0 i5651 l5652 l5653 i5654 i5655 i5656 l5657 l5658 l5659 i5660 l5661 l5662 l5663 i5664 l5665 l5666 l5667 l5668)))))
     (br (decide ((0 : Int) < i5522))
      (br (leB (IntKind.wrap .u16 (i5541 + i5522)) (32 : Nat))
       (br (leB i5541 (Int.toNat (IntKind.wrap .u16 (i5541 + i5522))))
        (c2 i5560 (Int.toNat i5541) ((Int.toNat (IntKind.wrap .u16 (i5541 + i5522))) - (Int.toNat i5541)) ((32 : Nat) - (Int.toNat i5541)) l5569 i5570 l5571 l5572 l5573 i5561 l5562 l5563 i5564 i5565 i5566 l5567 l5568 l5578 i5574 l5575 l5576 l5577
         (fun i5669 l5670 i5671 l5672 l5673 l5674 i5675 l5676 l5677 i5678 i5679 i5680 l5681 l5682 l5683 i5684 l5685 l5686 l5687 => c7 i5669 i5675 l5676 l5677 i5678 i5679 i5680 l5681 l5682 l5683 l5670 i5671 l5672 l5673 l5674 i5684 l5685 l5686 l5687
          (fun i5688 l5689 l5690 i5691 i5692 i5693 l5694 l5695 l5696 i5697 l5698 l5699 l5700 i5701 l5702 l5703 l5704 l5705 => k0 i5688 l5689 l5690 i5691 i5692 i5693 l5694 l5695 l5696 i5697 l5698 l5699 l5700 i5701 l5702 l5703 l5704 l5705)))
        (none))
       (none))
      (c3 i5560 l5569 i5570 l5571 l5572 l5573
       (fun i5706 l5707 i5708 l5709 l5710 l5711 => c7 i5706 i5561 l5562 l5563 i5564 i5565 i5566 l5567 l5568 l5578 l5707 i5708 l5709 l5710 l5711 i5574 l5575 l5576 l5577
        (fun i5712 l5713 l5714 i5715 i5716 i5717 l5718 l5719 l5720 i5721 l5722 l5723 l5724 i5725 l5726 l5727 l5728 l5729 => k0 i5712 l5713 l5714 i5715 i5716 i5717 l5718 l5719 l5720 i5721 l5722 l5723 l5724 i5725 l5726 l5727 l5728 l5729)))))))
noncomputable def run_machine_write_6326 (N : Nat) {R : Type} (x0 : Int) (x1 : List (Int)) (x2 : List (Int)) (x3 : Int) (x4 : Int) (x5 : Int) (x6 : List ((Int) × (Int))) (x7 : List (ByteArray)) (x8 : List (Int)) (x9 : List (Int)) (x10 : Int) (x11 : List (((ByteArray) × (ByteArray)) × ((Int) × (Bool)))) (x12 : List ((Int) × (List (Int)))) (x13 : List ((Int) × (Int))) (x14 : Int) (x15 : List (Bool)) (x16 : List (List (Int))) (x17 : List ((Bool) × (Int))) (k0 : (Int) → (List (Int)) → (List (Int)) → (Int) → (Int) → (Int) → (List ((Int) × (Int))) → (List (ByteArray)) → (List (Int)) → (Int) → (List (((ByteArray) × (ByteArray)) × ((Int) × (Bool)))) → (List ((Int) × (List (Int)))) → (List ((Int) × (Int))) → (Int) → (List (Bool)) → (List (List (Int))) → (List (Int)) → (List ((Bool) × (Int))) → Option R) : Option R := run_machine_write_6326_T N (@files_Files_Write_c4b4 N) (@files_Files_Write_44ab N) (@files_Files_Write_56dc N) (@files_Files_Write_b195 N) (@run_machine_answer_6121 N) (@run_machine_answer_9b59 N) (@run_machine_answer_c21d N) (@run_machine_answer_684b N) (@run_machine_end_5a2b N) (@run_machine_end_3f90 N) (@run_machine_pop_9c77 N) (@run_machine_pop_6326 N) x0 x1 x2 x3 x4 x5 x6 x7 x8 x9 x10 x11 x12 x13 x14 x15 x16 x17 k0
abbrev run_machine_call_3c75_Ty : Type 1 := {R : Type} → (Int) → (Int) → (List (Int)) → (List (Int)) → (Int) → (Int) → (Int) → (List ((Int) × (Int))) → (List (ByteArray)) → (List (Int)) → (Int) → (List (Bool)) → (List (List (Int))) → (List ((Bool) × (Int))) → ((Int) → (List (Int)) → (List (Int)) → (Int) → (Int) → (Int) → (List ((Int) × (Int))) → (List (ByteArray)) → (Int) → (List (Bool)) → (List (List (Int))) → (List (Int)) → (List ((Bool) × (Int))) → Option R) → Option R
noncomputable def run_machine_call_3c75_T (N : Nat) (c0 : run_machine_argument_9c77_Ty) (c1 : run_machine_argument_6326_Ty) (c2 : run_machine_push_6121_Ty) (c3 : run_machine_push_9b59_Ty) (c4 : run_machine_push_c21d_Ty) (c5 : run_machine_push_684b_Ty) (c6 : run_machine_write_9c77_Ty) (c7 : run_machine_write_6326_Ty) (c8 : run_machine_read_9c77_Ty) (c9 : run_machine_read_6326_Ty) (c10 : files_Files_Trunc_Ty) (c11 : files_Files_Trunc_0442_Ty) (c12 : files_Files_Seek_Ty) (c13 : files_Files_Seek_0442_Ty) (c14 : files_Files_Twin_Ty) (c15 : files_Files_Twin_b447_Ty) (c16 : files_Files_Size_Ty) (c17 : files_Files_Size_b447_Ty) (c18 : run_machine_answer_6121_Ty) (c19 : run_machine_answer_9b59_Ty) (c20 : run_machine_answer_c21d_Ty) (c21 : run_machine_answer_684b_Ty) (c22 : files_Files_Close_Ty) (c23 : files_Files_Close_b447_Ty) (c24 : run_machine_pop_9c77_Ty) (c25 : run_machine_pop_6326_Ty) {R : Type} (x0 : Int) (x1 : Int) (x2 : List (Int)) (x3 : List (Int)) (x4 : Int) (x5 : Int) (x6 : Int) (x7 : List ((Int) × (Int))) (x8 : List (ByteArray)) (x9 : List (Int)) (x10 : Int) (x11 : List (Bool)) (x12 : List (List (Int))) (x13 : List ((Bool) × (Int))) (k0 : (Int) → (List (Int)) → (List (Int)) → (Int) → (Int) → (Int) → (List ((Int) × (Int))) → (List (ByteArray)) → (Int) → (List (Bool)) → (List (List (Int))) → (List (Int)) → (List ((Bool) × (Int))) → Option R) : Option R :=
  br (decide (x0 = (28 : Int)))
  (c24 x1 x2 x3 x4 x5 x6 x7 x8 x9 x10 x11 x12 x13
   (fun i2259 i2260 l2261 l2262 i2263 i2264 i2265 l2266 l2267 i2268 l2269 l2270 l2271 l2272 => c22 i2259
    (fun i2273 => c19 i2273 i2260 l2261 l2262 i2263 i2264 i2265 l2266 l2267 l2272 i2268 l2269 l2270 l2271
     (fun i2274 l2275 l2276 i2277 i2278 i2279 l2280 l2281 i2282 l2283 l2284 l2285 l2286 => k0 i2274 l2275 l2276 i2277 i2278 i2279 l2280 l2281 i2282 l2283 l2284 l2285 l2286))))
  (br (decide (x0 = (32 : Int)))
   (c24 x1 x2 x3 x4 x5 x6 x7 x8 x9 x10 x11 x12 x13
    (fun i2287 i2288 l2289 l2290 i2291 i2292 i2293 l2294 l2295 i2296 l2297 l2298 l2299 l2300 => c16 i2287
     (fun i2301 => c19 i2301 i2288 l2289 l2290 i2291 i2292 i2293 l2294 l2295 l2300 i2296 l2297 l2298 l2299
      (fun i2302 l2303 l2304 i2305 i2306 i2307 l2308 l2309 i2310 l2311 l2312 l2313 l2314 => k0 i2302 l2303 l2304 i2305 i2306 i2307 l2308 l2309 i2310 l2311 l2312 l2313 l2314))))
   (br (decide (x0 = (39 : Int)))
    (c24 x1 x2 x3 x4 x5 x6 x7 x8 x9 x10 x11 x12 x13
     (fun i2315 i2316 l2317 l2318 i2319 i2320 i2321 l2322 l2323 i2324 l2325 l2326 l2327 l2328 => c14 i2315
      (fun i2329 => c19 i2329 i2316 l2317 l2318 i2319 i2320 i2321 l2322 l2323 l2328 i2324 l2325 l2326 l2327
       (fun i2330 l2331 l2332 i2333 i2334 i2335 l2336 l2337 i2338 l2339 l2340 l2341 l2342 => k0 i2330 l2331 l2332 i2333 i2334 i2335 l2336 l2337 i2338 l2339 l2340 l2341 l2342))))
    (br (decide (x0 = (31 : Int)))
     (c24 x1 x2 x3 x4 x5 x6 x7 x8 x9 x10 x11 x12 x13
      (fun i2343 i2344 l2345 l2346 i2347 i2348 i2349 l2350 l2351 i2352 l2353 l2354 l2355 l2356 => c24 i2344 l2345 l2346 i2347 i2348 i2349 l2350 l2351 l2356 i2352 l2353 l2354 l2355
       (fun i2357 i2358 l2359 l2360 i2361 i2362 i2363 l2364 l2365 i2366 l2367 l2368 l2369 l2370 => c12 i2357 i2343
        (fun i2371 => c19 i2371 i2358 l2359 l2360 i2361 i2362 i2363 l2364 l2365 l2370 i2366 l2367 l2368 l2369
         (fun i2372 l2373 l2374 i2375 i2376 i2377 l2378 l2379 i2380 l2381 l2382 l2383 l2384 => k0 i2372 l2373 l2374 i2375 i2376 i2377 l2378 l2379 i2380 l2381 l2382 l2383 l2384)))))
     (br (decide (x0 = (38 : Int)))
      (c24 x1 x2 x3 x4 x5 x6 x7 x8 x9 x10 x11 x12 x13
       (fun i2385 i2386 l2387 l2388 i2389 i2390 i2391 l2392 l2393 i2394 l2395 l2396 l2397 l2398 => c24 i2386 l2387 l2388 i2389 i2390 i2391 l2392 l2393 l2398 i2394 l2395 l2396 l2397
        (fun i2399 i2400 l2401 l2402 i2403 i2404 i2405 l2406 l2407 i2408 l2409 l2410 l2411 l2412 => c10 i2399 i2385
         (fun i2413 => c19 i2413 i2400 l2401 l2402 i2403 i2404 i2405 l2406 l2407 l2412 i2408 l2409 l2410 l2411
          (fun i2414 l2415 l2416 i2417 i2418 i2419 l2420 l2421 i2422 l2423 l2424 l2425 l2426 => k0 i2414 l2415 l2416 i2417 i2418 i2419 l2420 l2421 i2422 l2423 l2424 l2425 l2426)))))
      (br (decide (x0 = (29 : Int)))
       (c8 x1 x2 x3 x4 x5 x6 x7 x8 x9 x10 x11 x12 x13
        (fun i2427 l2428 l2429 i2430 i2431 i2432 l2433 l2434 i2435 l2436 l2437 l2438 l2439 => k0 i2427 l2428 l2429 i2430 i2431 i2432 l2433 l2434 i2435 l2436 l2437 l2438 l2439))
       (br (decide (x0 = (30 : Int)))
        (c6 x1 x2 x3 x4 x5 x6 x7 x8 x9 x10 x11 x12 x13
         (fun i2440 l2441 l2442 i2443 i2444 i2445 l2446 l2447 i2448 l2449 l2450 l2451 l2452 => k0 i2440 l2441 l2442 i2443 i2444 i2445 l2446 l2447 i2448 l2449 l2450 l2451 l2452))
        (br (decide (x0 = (40 : Int)))
         (c3 (IntKind.wrap .u16 (Nat.cast (List.length x12) : Int)) x1 x2 x3 x4 x5 x6 x7 x8 x9 x10 x11 x12 x13
          (fun i2453 l2454 l2455 i2456 i2457 i2458 l2459 l2460 i2461 l2462 l2463 l2464 l2465 => k0 i2453 l2454 l2455 i2456 i2457 i2458 l2459 l2460 i2461 l2462 l2463 l2465 l2464))
         (br (decide (x0 = (41 : Int)))
          (c0 x1 x2 x3 x4 x5 x6 x7 x8 x9 x10 x11 x12 x13
           (fun i2466 l2467 l2468 i2469 i2470 i2471 l2472 l2473 i2474 l2475 l2476 l2477 l2478 => k0 i2466 l2467 l2468 i2469 i2470 i2471 l2472 l2473 i2474 l2475 l2476 l2478 l2477))
          (k0 x1 x2 x3 x4 x5 x6 x7 x8 x10 x11 x12 x9 x13)))))))))
noncomputable def run_machine_call_3c75 (N : Nat) {R : Type} (x0 : Int) (x1 : Int) (x2 : List (Int)) (x3 : List (Int)) (x4 : Int) (x5 : Int) (x6 : Int) (x7 : List ((Int) × (Int))) (x8 : List (ByteArray)) (x9 : List (Int)) (x10 : Int) (x11 : List (Bool)) (x12 : List (List (Int))) (x13 : List ((Bool) × (Int))) (k0 : (Int) → (List (Int)) → (List (Int)) → (Int) → (Int) → (Int) → (List ((Int) × (Int))) → (List (ByteArray)) → (Int) → (List (Bool)) → (List (List (Int))) → (List (Int)) → (List ((Bool) × (Int))) → Option R) : Option R := run_machine_call_3c75_T N (@run_machine_argument_9c77 N) (@run_machine_argument_6326 N) (@run_machine_push_6121 N) (@run_machine_push_9b59 N) (@run_machine_push_c21d N) (@run_machine_push_684b N) (@run_machine_write_9c77 N) (@run_machine_write_6326 N) (@run_machine_read_9c77 N) (@run_machine_read_6326 N) (@files_Files_Trunc N) (@files_Files_Trunc_0442 N) (@files_Files_Seek N) (@files_Files_Seek_0442 N) (@files_Files_Twin N) (@files_Files_Twin_b447 N) (@files_Files_Size N) (@files_Files_Size_b447 N) (@run_machine_answer_6121 N) (@run_machine_answer_9b59 N) (@run_machine_answer_c21d N) (@run_machine_answer_684b N) (@files_Files_Close N) (@files_Files_Close_b447 N) (@run_machine_pop_9c77 N) (@run_machine_pop_6326 N) x0 x1 x2 x3 x4 x5 x6 x7 x8 x9 x10 x11 x12 x13 k0
abbrev run_machine_call_61a1_Ty : Type 1 := {R : Type} → (Int) → (Int) → (List (Int)) → (List (Int)) → (Int) → (Int) → (Int) → (List ((Int) × (Int))) → (List (ByteArray)) → (List (Int)) → (List (Int)) → (Int) → (List (((ByteArray) × (ByteArray)) × ((Int) × (Bool)))) → (List ((Int) × (List (Int)))) → (List ((Int) × (Int))) → (Int) → (List (Bool)) → (List (List (Int))) → (List ((Bool) × (Int))) → ((Int) → (List (Int)) → (List (Int)) → (Int) → (Int) → (Int) → (List ((Int) × (Int))) → (List (ByteArray)) → (List (Int)) → (Int) → (List (((ByteArray) × (ByteArray)) × ((Int) × (Bool)))) → (List ((Int) × (List (Int)))) → (List ((Int) × (Int))) → (Int) → (List (Bool)) → (List (List (Int))) → (List (Int)) → (List ((Bool) × (Int))) → Option R) → Option R
noncomputable def run_machine_call_61a1_T (N : Nat) (c0 : run_machine_argument_9c77_Ty) (c1 : run_machine_argument_6326_Ty) (c2 : run_machine_push_6121_Ty) (c3 : run_machine_push_9b59_Ty) (c4 : run_machine_push_c21d_Ty) (c5 : run_machine_push_684b_Ty) (c6 : run_machine_write_9c77_Ty) (c7 : run_machine_write_6326_Ty) (c8 : run_machine_read_9c77_Ty) (c9 : run_machine_read_6326_Ty) (c10 : files_Files_Trunc_Ty) (c11 : files_Files_Trunc_0442_Ty) (c12 : files_Files_Seek_Ty) (c13 : files_Files_Seek_0442_Ty) (c14 : files_Files_Twin_Ty) (c15 : files_Files_Twin_b447_Ty) (c16 : files_Files_Size_Ty) (c17 : files_Files_Size_b447_Ty) (c18 : run_machine_answer_6121_Ty) (c19 : run_machine_answer_9b59_Ty) (c20 : run_machine_answer_c21d_Ty) (c21 : run_machine_answer_684b_Ty) (c22 : files_Files_Close_Ty) (c23 : files_Files_Close_b447_Ty) (c24 : run_machine_pop_9c77_Ty) (c25 : run_machine_pop_6326_Ty) {R : Type} (x0 : Int) (x1 : Int) (x2 : List (Int)) (x3 : List (Int)) (x4 : Int) (x5 : Int) (x6 : Int) (x7 : List ((Int) × (Int))) (x8 : List (ByteArray)) (x9 : List (Int)) (x10 : List (Int)) (x11 : Int) (x12 : List (((ByteArray) × (ByteArray)) × ((Int) × (Bool)))) (x13 : List ((Int) × (List (Int)))) (x14 : List ((Int) × (Int))) (x15 : Int) (x16 : List (Bool)) (x17 : List (List (Int))) (x18 : List ((Bool) × (Int))) (k0 : (Int) → (List (Int)) → (List (Int)) → (Int) → (Int) → (Int) → (List ((Int) × (Int))) → (List (ByteArray)) → (List (Int)) → (Int) → (List (((ByteArray) × (ByteArray)) × ((Int) × (Bool)))) → (List ((Int) × (List (Int)))) → (List ((Int) × (Int))) → (Int) → (List (Bool)) → (List (List (Int))) → (List (Int)) → (List ((Bool) × (Int))) → Option R) : Option R :=
  br (decide (x0 = (28 : Int)))
  (c25 x1 x2 x3 x4 x5 x6 x7 x8 x9 x10 x11 x12 x13 x14 x15 x16 x17 x18
   (fun i6183 i6184 l6185 l6186 i6187 i6188 i6189 l6190 l6191 l6192 i6193 l6194 l6195 l6196 i6197 l6198 l6199 l6200 l6201 => c23 i6183 l6192 i6193 l6194 l6195 l6196
    (fun i6202 l6203 i6204 l6205 l6206 l6207 => c21 i6202 i6184 l6185 l6186 i6187 i6188 i6189 l6190 l6191 l6201 l6203 i6204 l6205 l6206 l6207 i6197 l6198 l6199 l6200
     (fun i6208 l6209 l6210 i6211 i6212 i6213 l6214 l6215 l6216 i6217 l6218 l6219 l6220 i6221 l6222 l6223 l6224 l6225 => k0 i6208 l6209 l6210 i6211 i6212 i6213 l6214 l6215 l6216 i6217 l6218 l6219 l6220 i6221 l6222 l6223 l6224 l6225))))
  (br (decide (x0 = (32 : Int)))
   (c25 x1 x2 x3 x4 x5 x6 x7 x8 x9 x10 x11 x12 x13 x14 x15 x16 x17 x18
    (fun i6226 i6227 l6228 l6229 i6230 i6231 i6232 l6233 l6234 l6235 i6236 l6237 l6238 l6239 i6240 l6241 l6242 l6243 l6244 => c17 i6226 l6235 i6236 l6237 l6238 l6239
     (fun i6245 l6246 i6247 l6248 l6249 l6250 => c21 i6245 i6227 l6228 l6229 i6230 i6231 i6232 l6233 l6234 l6244 l6246 i6247 l6248 l6249 l6250 i6240 l6241 l6242 l6243
      (fun i6251 l6252 l6253 i6254 i6255 i6256 l6257 l6258 l6259 i6260 l6261 l6262 l6263 i6264 l6265 l6266 l6267 l6268 => k0 i6251 l6252 l6253 i6254 i6255 i6256 l6257 l6258 l6259 i6260 l6261 l6262 l6263 i6264 l6265 l6266 l6267 l6268))))
   (br (decide (x0 = (39 : Int)))
    (c25 x1 x2 x3 x4 x5 x6 x7 x8 x9 x10 x11 x12 x13 x14 x15 x16 x17 x18
     (fun i6269 i6270 l6271 l6272 i6273 i6274 i6275 l6276 l6277 l6278 i6279 l6280 l6281 l6282 i6283 l6284 l6285 l6286 l6287 => c15 i6269 l6278 i6279 l6280 l6281 l6282
      (fun i6288 l6289 i6290 l6291 l6292 l6293 => c21 i6288 i6270 l6271 l6272 i6273 i6274 i6275 l6276 l6277 l6287 l6289 i6290 l6291 l6292 l6293 i6283 l6284 l6285 l6286
       (fun i6294 l6295 l6296 i6297 i6298 i6299 l6300 l6301 l6302 i6303 l6304 l6305 l6306 i6307 l6308 l6309 l6310 l6311 => k0 i6294 l6295 l6296 i6297 i6298 i6299 l6300 l6301 l6302 i6303 l6304 l6305 l6306 i6307 l6308 l6309 l6310 l6311))))
    (br (decide (x0 = (31 : Int)))
     (c25 x1 x2 x3 x4 x5 x6 x7 x8 x9 x10 x11 x12 x13 x14 x15 x16 x17 x18
      (fun i6312 i6313 l6314 l6315 i6316 i6317 i6318 l6319 l6320 l6321 i6322 l6323 l6324 l6325 i6326 l6327 l6328 l6329 l6330 => c25 i6313 l6314 l6315 i6316 i6317 i6318 l6319 l6320 l6330 l6321 i6322 l6323 l6324 l6325 i6326 l6327 l6328 l6329
       (fun i6331 i6332 l6333 l6334 i6335 i6336 i6337 l6338 l6339 l6340 i6341 l6342 l6343 l6344 i6345 l6346 l6347 l6348 l6349 => c13 i6331 i6312 l6340 i6341 l6342 l6343 l6344
        (fun i6350 l6351 i6352 l6353 l6354 l6355 => c21 i6350 i6332 l6333 l6334 i6335 i6336 i6337 l6338 l6339 l6349 l6351 i6352 l6353 l6354 l6355 i6345 l6346 l6347 l6348
         (fun i6356 l6357 l6358 i6359 i6360 i6361 l6362 l6363 l6364 i6365 l6366 l6367 l6368 i6369 l6370 l6371 l6372 l6373 => k0 i6356 l6357 l6358 i6359 i6360 i6361 l6362 l6363 l6364 i6365 l6366 l6367 l6368 i6369 l6370 l6371 l6372 l6373)))))
     (br (decide (x0 = (38 : Int)))
      (c25 x1 x2 x3 x4 x5 x6 x7 x8 x9 x10 x11 x12 x13 x14 x15 x16 x17 x18
       (fun i6374 i6375 l6376 l6377 i6378 i6379 i6380 l6381 l6382 l6383 i6384 l6385 l6386 l6387 i6388 l6389 l6390 l6391 l6392 => c25 i6375 l6376 l6377 i6378 i6379 i6380 l6381 l6382 l6392 l6383 i6384 l6385 l6386 l6387 i6388 l6389 l6390 l6391
        (fun i6393 i6394 l6395 l6396 i6397 i6398 i6399 l6400 l6401 l6402 i6403 l6404 l6405 l6406 i6407 l6408 l6409 l6410 l6411 => c11 i6393 i6374 l6402 i6403 l6404 l6405 l6406
         (fun i6412 l6413 i6414 l6415 l6416 l6417 => c21 i6412 i6394 l6395 l6396 i6397 i6398 i6399 l6400 l6401 l6411 l6413 i6414 l6415 l6416 l6417 i6407 l6408 l6409 l6410
          (fun i6418 l6419 l6420 i6421 i6422 i6423 l6424 l6425 l6426 i6427 l6428 l6429 l6430 i6431 l6432 l6433 l6434 l6435 => k0 i6418 l6419 l6420 i6421 i6422 i6423 l6424 l6425 l6426 i6427 l6428 l6429 l6430 i6431 l6432 l6433 l6434 l6435)))))
      (br (decide (x0 = (29 : Int)))
       (c9 x1 x2 x3 x4 x5 x6 x7 x8 x9 x10 x11 x12 x13 x14 x15 x16 x17 x18
        (fun i6436 l6437 l6438 i6439 i6440 i6441 l6442 l6443 l6444 i6445 l6446 l6447 l6448 i6449 l6450 l6451 l6452 l6453 => k0 i6436 l6437 l6438 i6439 i6440 i6441 l6442 l6443 l6444 i6445 l6446 l6447 l6448 i6449 l6450 l6451 l6452 l6453))
       (br (decide (x0 = (30 : Int)))
        (c7 x1 x2 x3 x4 x5 x6 x7 x8 x9 x10 x11 x12 x13 x14 x15 x16 x17 x18
         (fun i6454 l6455 l6456 i6457 i6458 i6459 l6460 l6461 l6462 i6463 l6464 l6465 l6466 i6467 l6468 l6469 l6470 l6471 => k0 i6454 l6455 l6456 i6457 i6458 i6459 l6460 l6461 l6462 i6463 l6464 l6465 l6466 i6467 l6468 l6469 l6470 l6471))
        (br (decide (x0 = (40 : Int)))
         (c5 (IntKind.wrap .u16 (Nat.cast (List.length x17) : Int)) x1 x2 x3 x4 x5 x6 x7 x8 x9 x10 x11 x12 x13 x14 x15 x16 x17 x18
          (fun i6472 l6473 l6474 i6475 i6476 i6477 l6478 l6479 l6480 i6481 l6482 l6483 l6484 i6485 l6486 l6487 l6488 l6489 => k0 i6472 l6473 l6474 i6475 i6476 i6477 l6478 l6479 l6480 i6481 l6482 l6483 l6484 i6485 l6486 l6487 l6489 l6488))
         (br (decide (x0 = (41 : Int)))
          (c1 x1 x2 x3 x4 x5 x6 x7 x8 x9 x10 x11 x12 x13 x14 x15 x16 x17 x18
           (fun i6490 l6491 l6492 i6493 i6494 i6495 l6496 l6497 l6498 i6499 l6500 l6501 l6502 i6503 l6504 l6505 l6506 l6507 => k0 i6490 l6491 l6492 i6493 i6494 i6495 l6496 l6497 l6498 i6499 l6500 l6501 l6502 i6503 l6504 l6505 l6507 l6506))
          (k0 x1 x2 x3 x4 x5 x6 x7 x8 x10 x11 x12 x13 x14 x15 x16 x17 x9 x18)))))))))
noncomputable def run_machine_call_61a1 (N : Nat) {R : Type} (x0 : Int) (x1 : Int) (x2 : List (Int)) (x3 : List (Int)) (x4 : Int) (x5 : Int) (x6 : Int) (x7 : List ((Int) × (Int))) (x8 : List (ByteArray)) (x9 : List (Int)) (x10 : List (Int)) (x11 : Int) (x12 : List (((ByteArray) × (ByteArray)) × ((Int) × (Bool)))) (x13 : List ((Int) × (List (Int)))) (x14 : List ((Int) × (Int))) (x15 : Int) (x16 : List (Bool)) (x17 : List (List (Int))) (x18 : List ((Bool) × (Int))) (k0 : (Int) → (List (Int)) → (List (Int)) → (Int) → (Int) → (Int) → (List ((Int) × (Int))) → (List (ByteArray)) → (List (Int)) → (Int) → (List (((ByteArray) × (ByteArray)) × ((Int) × (Bool)))) → (List ((Int) × (List (Int)))) → (List ((Int) × (Int))) → (Int) → (List (Bool)) → (List (List (Int))) → (List (Int)) → (List ((Bool) × (Int))) → Option R) : Option R := run_machine_call_61a1_T N (@run_machine_argument_9c77 N) (@run_machine_argument_6326 N) (@run_machine_push_6121 N) (@run_machine_push_9b59 N) (@run_machine_push_c21d N) (@run_machine_push_684b N) (@run_machine_write_9c77 N) (@run_machine_write_6326 N) (@run_machine_read_9c77 N) (@run_machine_read_6326 N) (@files_Files_Trunc N) (@files_Files_Trunc_0442 N) (@files_Files_Seek N) (@files_Files_Seek_0442 N) (@files_Files_Twin N) (@files_Files_Twin_b447 N) (@files_Files_Size N) (@files_Files_Size_b447 N) (@run_machine_answer_6121 N) (@run_machine_answer_9b59 N) (@run_machine_answer_c21d N) (@run_machine_answer_684b N) (@files_Files_Close N) (@files_Files_Close_b447 N) (@run_machine_pop_9c77 N) (@run_machine_pop_6326 N) x0 x1 x2 x3 x4 x5 x6 x7 x8 x9 x10 x11 x12 x13 x14 x15 x16 x17 x18 k0
abbrev run_machine_step_9c77_Ty : Type 1 := {R : Type} → (Int) → (List (Int)) → (List (Int)) → (Int) → (Int) → (Int) → (List ((Int) × (Int))) → (List (ByteArray)) → (List (Int)) → (Int) → (List (Bool)) → (List (List (Int))) → (List ((Bool) × (Int))) → ((Int) → (List (Int)) → (List (Int)) → (Int) → (Int) → (Int) → (List ((Int) × (Int))) → (List (ByteArray)) → (Int) → (List (Bool)) → (List (List (Int))) → (List (Int)) → (List ((Bool) × (Int))) → Option R) → Option R
noncomputable def run_machine_step_9c77_T (N : Nat) (c0 : run_machine_call_3c75_Ty) (c1 : run_machine_call_61a1_Ty) (c2 : run_machine_named_ffdd_Ty) (c3 : run_machine_named_e571_Ty) (c4 : run_machine_plain_ffdd_Ty) (c5 : run_machine_plain_e571_Ty) (c6 : run_machine_reckon_3c75_Ty) (c7 : run_machine_reckon_61a1_Ty) (c8 : run_machine_answer_6121_Ty) (c9 : run_machine_answer_9b59_Ty) (c10 : run_machine_answer_c21d_Ty) (c11 : run_machine_answer_684b_Ty) (c12 : inst_Takes_Ty) (c13 : fails_Fails_Next_054a_Ty) (c14 : inst_Falls_Ty) {R : Type} (x0 : Int) (x1 : List (Int)) (x2 : List (Int)) (x3 : Int) (x4 : Int) (x5 : Int) (x6 : List ((Int) × (Int))) (x7 : List (ByteArray)) (x8 : List (Int)) (x9 : Int) (x10 : List (Bool)) (x11 : List (List (Int))) (x12 : List ((Bool) × (Int))) (k0 : (Int) → (List (Int)) → (List (Int)) → (Int) → (Int) → (Int) → (List ((Int) × (Int))) → (List (ByteArray)) → (Int) → (List (Bool)) → (List (List (Int))) → (List (Int)) → (List ((Bool) × (Int))) → Option R) : Option R :=
  br (inB x0 (List.length x6))
  (br (decide ((Int.toNat x0) < (List.length x6)))
   (c14 (List.getD x6 (Int.toNat x0) ((0 : Int) , (0 : Int))).1
    (fun b323 => br b323
     (c13 x9 x10
      (fun b324 i325 l326 => br b324
       (c12 (List.getD x6 (Int.toNat x0) ((0 : Int) , (0 : Int))).1
        (fun i327 => br (decide ((Nat.cast (List.length x8) : Int) = (Nat.cast (List.length x8) : Int)))
         (br (leB (IntKind.wrap .i64 ((Nat.cast (List.length x8) : Int) - i327)) (List.length x8))
          (c8 (65285 : Int) (IntKind.wrap .i64 (x0 + (1 : Int))) ((Int.toNat (IntKind.wrap .i64 ((Nat.cast (List.length x8) : Int) - i327))) - (0 : Nat)) ((List.length x8) - (0 : Nat)) x1 x2 x3 x4 (IntKind.wrap .i64 (x5 + (1 : Int))) x6 x7 (List.length x8) x8 i325 l326 x11 x12
           (fun i328 l329 l330 i331 i332 i333 l334 l335 i336 l337 l338 l339 l340 => k0 i328 l329 l330 i331 i332 i333 l334 l335 i336 l337 l338 l339 l340))
          (none))
         (none)))
       (br (decide ((5 : Int) ≤ (List.getD x6 (Int.toNat x0) ((0 : Int) , (0 : Int))).1))
        (br (decide ((List.getD x6 (Int.toNat x0) ((0 : Int) , (0 : Int))).1 ≤ (16 : Int)))
         (c6 (List.getD x6 (Int.toNat x0) ((0 : Int) , (0 : Int))).1 (IntKind.wrap .i64 (x0 + (1 : Int))) x1 x2 x3 x4 (IntKind.wrap .i64 (x5 + (1 : Int))) x6 x7 x8 i325 l326 x11 x12
          (fun i341 l342 l343 i344 i345 i346 l347 l348 i349 l350 l351 l352 l353 => k0 i341 l342 l343 i344 i345 i346 l347 l348 i349 l350 l351 l353 l352))
         (c4 (List.getD x6 (Int.toNat x0) ((0 : Int) , (0 : Int))).1 (List.getD x6 (Int.toNat x0) ((0 : Int) , (0 : Int))).2 (IntKind.wrap .i64 (x0 + (1 : Int))) x1 x2 x3 x4 (IntKind.wrap .i64 (x5 + (1 : Int))) x6 x7 x8 i325 l326 x11 x12
          (fun b1086 i1087 l1088 l1089 i1090 i1091 i1092 l1093 l1094 i1095 l1096 l1097 l1098 l1099 => br b1086
           (k0 i1087 l1088 l1089 i1090 i1091 i1092 l1093 l1094 i1095 l1096 l1097 l1098 l1099)
           (c2 (List.getD x6 (Int.toNat x0) ((0 : Int) , (0 : Int))).1 (List.getD x6 (Int.toNat x0) ((0 : Int) , (0 : Int))).2 i1087 l1088 l1089 i1090 i1091 i1092 l1093 l1094 l1098 i1095 l1096 l1097 l1099
            (fun i1477 l1478 l1479 i1480 i1481 i1482 l1483 l1484 i1485 l1486 l1487 l1488 l1489 => c0 (List.getD x6 (Int.toNat x0) ((0 : Int) , (0 : Int))).1 i1477 l1478 l1479 i1480 i1481 i1482 l1483 l1484 l1488 i1485 l1486 l1487 l1489
             (fun i2479 l2480 l2481 i2482 i2483 i2484 l2485 l2486 i2487 l2488 l2489 l2490 l2491 => k0 i2479 l2480 l2481 i2482 i2483 i2484 l2485 l2486 i2487 l2488 l2489 l2490 l2491))))))
        (c4 (List.getD x6 (Int.toNat x0) ((0 : Int) , (0 : Int))).1 (List.getD x6 (Int.toNat x0) ((0 : Int) , (0 : Int))).2 (IntKind.wrap .i64 (x0 + (1 : Int))) x1 x2 x3 x4 (IntKind.wrap .i64 (x5 + (1 : Int))) x6 x7 x8 i325 l326 x11 x12
         (fun b2492 i2493 l2494 l2495 i2496 i2497 i2498 l2499 l2500 i2501 l2502 l2503 l2504 l2505 => br b2492
          (k0 i2493 l2494 l2495 i2496 i2497 i2498 l2499 l2500 i2501 l2502 l2503 l2504 l2505)
          (c2 (List.getD x6 (Int.toNat x0) ((0 : Int) , (0 : Int))).1 (List.getD x6 (Int.toNat x0) ((0 : Int) , (0 : Int))).2 i2493 l2494 l2495 i2496 i2497 i2498 l2499 l2500 l2504 i2501 l2502 l2503 l2505
           (fun i2506 l2507 l2508 i2509 i2510 i2511 l2512 l2513 i2514 l2515 l2516 l2517 l2518 => c0 (List.getD x6 (Int.toNat x0) ((0 : Int) , (0 : Int))).1 i2506 l2507 l2508 i2509 i2510 i2511 l2512 l2513 l2517 i2514 l2515 l2516 l2518
            (fun i2519 l2520 l2521 i2522 i2523 i2524 l2525 l2526 i2527 l2528 l2529 l2530 l2531 => k0 i2519 l2520 l2521 i2522 i2523 i2524 l2525 l2526 i2527 l2528 l2529 l2530 l2531))))))))
     (br (decide ((5 : Int) ≤ (List.getD x6 (Int.toNat x0) ((0 : Int) , (0 : Int))).1))
      (br (decide ((List.getD x6 (Int.toNat x0) ((0 : Int) , (0 : Int))).1 ≤ (16 : Int)))
       (c6 (List.getD x6 (Int.toNat x0) ((0 : Int) , (0 : Int))).1 (IntKind.wrap .i64 (x0 + (1 : Int))) x1 x2 x3 x4 (IntKind.wrap .i64 (x5 + (1 : Int))) x6 x7 x8 x9 x10 x11 x12
        (fun i2532 l2533 l2534 i2535 i2536 i2537 l2538 l2539 i2540 l2541 l2542 l2543 l2544 => k0 i2532 l2533 l2534 i2535 i2536 i2537 l2538 l2539 i2540 l2541 l2542 l2544 l2543))
       (c4 (List.getD x6 (Int.toNat x0) ((0 : Int) , (0 : Int))).1 (List.getD x6 (Int.toNat x0) ((0 : Int) , (0 : Int))).2 (IntKind.wrap .i64 (x0 + (1 : Int))) x1 x2 x3 x4 (IntKind.wrap .i64 (x5 + (1 : Int))) x6 x7 x8 x9 x10 x11 x12
        (fun b2545 i2546 l2547 l2548 i2549 i2550 i2551 l2552 l2553 i2554 l2555 l2556 l2557 l2558 => br b2545
         (k0 i2546 l2547 l2548 i2549 i2550 i2551 l2552 l2553 i2554 l2555 l2556 l2557 l2558)
         (c2 (List.getD x6 (Int.toNat x0) ((0 : Int) , (0 : Int))).1 (List.getD x6 (Int.toNat x0) ((0 : Int) , (0 : Int))).2 i2546 l2547 l2548 i2549 i2550 i2551 l2552 l2553 l2557 i2554 l2555 l2556 l2558
          (fun i2559 l2560 l2561 i2562 i2563 i2564 l2565 l2566 i2567 l2568 l2569 l2570 l2571 => c0 (List.getD x6 (Int.toNat x0) ((0 : Int) , (0 : Int))).1 i2559 l2560 l2561 i2562 i2563 i2564 l2565 l2566 l2570 i2567 l2568 l2569 l2571
           (fun i2572 l2573 l2574 i2575 i2576 i2577 l2578 l2579 i2580 l2581 l2582 l2583 l2584 => k0 i2572 l2573 l2574 i2575 i2576 i2577 l2578 l2579 i2580 l2581 l2582 l2583 l2584))))))
      (c4 (List.getD x6 (Int.toNat x0) ((0 : Int) , (0 : Int))).1 (List.getD x6 (Int.toNat x0) ((0 : Int) , (0 : Int))).2 (IntKind.wrap .i64 (x0 + (1 : Int))) x1 x2 x3 x4 (IntKind.wrap .i64 (x5 + (1 : Int))) x6 x7 x8 x9 x10 x11 x12
       (fun b2585 i2586 l2587 l2588 i2589 i2590 i2591 l2592 l2593 i2594 l2595 l2596 l2597 l2598 => br b2585
        (k0 i2586 l2587 l2588 i2589 i2590 i2591 l2592 l2593 i2594 l2595 l2596 l2597 l2598)
        (c2 (List.getD x6 (Int.toNat x0) ((0 : Int) , (0 : Int))).1 (List.getD x6 (Int.toNat x0) ((0 : Int) , (0 : Int))).2 i2586 l2587 l2588 i2589 i2590 i2591 l2592 l2593 l2597 i2594 l2595 l2596 l2598
         (fun i2599 l2600 l2601 i2602 i2603 i2604 l2605 l2606 i2607 l2608 l2609 l2610 l2611 => c0 (List.getD x6 (Int.toNat x0) ((0 : Int) , (0 : Int))).1 i2599 l2600 l2601 i2602 i2603 i2604 l2605 l2606 l2610 i2607 l2608 l2609 l2611
          (fun i2612 l2613 l2614 i2615 i2616 i2617 l2618 l2619 i2620 l2621 l2622 l2623 l2624 => k0 i2612 l2613 l2614 i2615 i2616 i2617 l2618 l2619 i2620 l2621 l2622 l2623 l2624))))))))
   (none))
  (none)
noncomputable def run_machine_step_9c77 (N : Nat) {R : Type} (x0 : Int) (x1 : List (Int)) (x2 : List (Int)) (x3 : Int) (x4 : Int) (x5 : Int) (x6 : List ((Int) × (Int))) (x7 : List (ByteArray)) (x8 : List (Int)) (x9 : Int) (x10 : List (Bool)) (x11 : List (List (Int))) (x12 : List ((Bool) × (Int))) (k0 : (Int) → (List (Int)) → (List (Int)) → (Int) → (Int) → (Int) → (List ((Int) × (Int))) → (List (ByteArray)) → (Int) → (List (Bool)) → (List (List (Int))) → (List (Int)) → (List ((Bool) × (Int))) → Option R) : Option R := run_machine_step_9c77_T N (@run_machine_call_3c75 N) (@run_machine_call_61a1 N) (@run_machine_named_ffdd N) (@run_machine_named_e571 N) (@run_machine_plain_ffdd N) (@run_machine_plain_e571 N) (@run_machine_reckon_3c75 N) (@run_machine_reckon_61a1 N) (@run_machine_answer_6121 N) (@run_machine_answer_9b59 N) (@run_machine_answer_c21d N) (@run_machine_answer_684b N) (@inst_Takes N) (@fails_Fails_Next_054a N) (@inst_Falls N) x0 x1 x2 x3 x4 x5 x6 x7 x8 x9 x10 x11 x12 k0
abbrev run_machine_step_6326_Ty : Type 1 := {R : Type} → (Int) → (List (Int)) → (List (Int)) → (Int) → (Int) → (Int) → (List ((Int) × (Int))) → (List (ByteArray)) → (List (Int)) → (List (Int)) → (Int) → (List (((ByteArray) × (ByteArray)) × ((Int) × (Bool)))) → (List ((Int) × (List (Int)))) → (List ((Int) × (Int))) → (Int) → (List (Bool)) → (List (List (Int))) → (List ((Bool) × (Int))) → ((Int) → (List (Int)) → (List (Int)) → (Int) → (Int) → (Int) → (List ((Int) × (Int))) → (List (ByteArray)) → (List (Int)) → (Int) → (List (((ByteArray) × (ByteArray)) × ((Int) × (Bool)))) → (List ((Int) × (List (Int)))) → (Int) → (List (Bool)) → (List (List (Int))) → (List (Int)) → (List ((Bool) × (Int))) → (List ((Int) × (Int))) → Option R) → Option R
noncomputable def run_machine_step_6326_T (N : Nat) (c0 : run_machine_call_3c75_Ty) (c1 : run_machine_call_61a1_Ty) (c2 : run_machine_named_ffdd_Ty) (c3 : run_machine_named_e571_Ty) (c4 : run_machine_plain_ffdd_Ty) (c5 : run_machine_plain_e571_Ty) (c6 : run_machine_reckon_3c75_Ty) (c7 : run_machine_reckon_61a1_Ty) (c8 : run_machine_answer_6121_Ty) (c9 : run_machine_answer_9b59_Ty) (c10 : run_machine_answer_c21d_Ty) (c11 : run_machine_answer_684b_Ty) (c12 : inst_Takes_Ty) (c13 : fails_Fails_Next_054a_Ty) (c14 : inst_Falls_Ty) {R : Type} (x0 : Int) (x1 : List (Int)) (x2 : List (Int)) (x3 : Int) (x4 : Int) (x5 : Int) (x6 : List ((Int) × (Int))) (x7 : List (ByteArray)) (x8 : List (Int)) (x9 : List (Int)) (x10 : Int) (x11 : List (((ByteArray) × (ByteArray)) × ((Int) × (Bool)))) (x12 : List ((Int) × (List (Int)))) (x13 : List ((Int) × (Int))) (x14 : Int) (x15 : List (Bool)) (x16 : List (List (Int))) (x17 : List ((Bool) × (Int))) (k0 : (Int) → (List (Int)) → (List (Int)) → (Int) → (Int) → (Int) → (List ((Int) × (Int))) → (List (ByteArray)) → (List (Int)) → (Int) → (List (((ByteArray) × (ByteArray)) × ((Int) × (Bool)))) → (List ((Int) × (List (Int)))) → (Int) → (List (Bool)) → (List (List (Int))) → (List (Int)) → (List ((Bool) × (Int))) → (List ((Int) × (Int))) → Option R) : Option R :=
  br (inB x0 (List.length x6))
  (br (decide ((Int.toNat x0) < (List.length x6)))
   (c14 (List.getD x6 (Int.toNat x0) ((0 : Int) , (0 : Int))).1
    (fun b6526 => br b6526
     (c13 x14 x15
      (fun b6527 i6528 l6529 => br b6527
       (c12 (List.getD x6 (Int.toNat x0) ((0 : Int) , (0 : Int))).1
        (fun i6530 => br (decide ((Nat.cast (List.length x8) : Int) = (Nat.cast (List.length x8) : Int)))
         (br (leB (IntKind.wrap .i64 ((Nat.cast (List.length x8) : Int) - i6530)) (List.length x8))
          (c10 (65285 : Int) (IntKind.wrap .i64 (x0 + (1 : Int))) ((Int.toNat (IntKind.wrap .i64 ((Nat.cast (List.length x8) : Int) - i6530))) - (0 : Nat)) ((List.length x8) - (0 : Nat)) x1 x2 x3 x4 (IntKind.wrap .i64 (x5 + (1 : Int))) x6 x7 (List.length x8) x8 x9 x10 x11 x12 x13 i6528 l6529 x16 x17
           (fun i6531 l6532 l6533 i6534 i6535 i6536 l6537 l6538 l6539 i6540 l6541 l6542 l6543 i6544 l6545 l6546 l6547 l6548 => k0 i6531 l6532 l6533 i6534 i6535 i6536 l6537 l6538 l6539 i6540 l6541 l6542 i6544 l6545 l6546 l6547 l6548 l6543))
          (none))
         (none)))
       (br (decide ((5 : Int) ≤ (List.getD x6 (Int.toNat x0) ((0 : Int) , (0 : Int))).1))
        (br (decide ((List.getD x6 (Int.toNat x0) ((0 : Int) , (0 : Int))).1 ≤ (16 : Int)))
         (c7 (List.getD x6 (Int.toNat x0) ((0 : Int) , (0 : Int))).1 (IntKind.wrap .i64 (x0 + (1 : Int))) x1 x2 x3 x4 (IntKind.wrap .i64 (x5 + (1 : Int))) x6 x7 x8 x9 x10 x11 x12 x13 i6528 l6529 x16 x17
          (fun i6549 l6550 l6551 i6552 i6553 i6554 l6555 l6556 l6557 i6558 l6559 l6560 l6561 i6562 l6563 l6564 l6565 l6566 => k0 i6549 l6550 l6551 i6552 i6553 i6554 l6555 l6556 l6557 i6558 l6559 l6560 i6562 l6563 l6564 l6566 l6565 l6561))
         (c5 (List.getD x6 (Int.toNat x0) ((0 : Int) , (0 : Int))).1 (List.getD x6 (Int.toNat x0) ((0 : Int) , (0 : Int))).2 (IntKind.wrap .i64 (x0 + (1 : Int))) x1 x2 x3 x4 (IntKind.wrap .i64 (x5 + (1 : Int))) x6 x7 x8 x9 x10 x11 x12 x13 i6528 l6529 x16 x17
          (fun b6567 i6568 l6569 l6570 i6571 i6572 i6573 l6574 l6575 l6576 i6577 l6578 l6579 l6580 i6581 l6582 l6583 l6584 l6585 => br b6567
           (k0 i6568 l6569 l6570 i6571 i6572 i6573 l6574 l6575 l6576 i6577 l6578 l6579 i6581 l6582 l6583 l6584 l6585 l6580)
           (c3 (List.getD x6 (Int.toNat x0) ((0 : Int) , (0 : Int))).1 (List.getD x6 (Int.toNat x0) ((0 : Int) , (0 : Int))).2 i6568 l6569 l6570 i6571 i6572 i6573 l6574 l6575 l6584 l6576 i6577 l6578 l6579 l6580 i6581 l6582 l6583 l6585
            (fun i6586 l6587 l6588 i6589 i6590 i6591 l6592 l6593 l6594 i6595 l6596 l6597 i6598 l6599 l6600 l6601 l6602 l6603 => c1 (List.getD x6 (Int.toNat x0) ((0 : Int) , (0 : Int))).1 i6586 l6587 l6588 i6589 i6590 i6591 l6592 l6593 l6601 l6594 i6595 l6596 l6597 l6603 i6598 l6599 l6600 l6602
             (fun i6604 l6605 l6606 i6607 i6608 i6609 l6610 l6611 l6612 i6613 l6614 l6615 l6616 i6617 l6618 l6619 l6620 l6621 => k0 i6604 l6605 l6606 i6607 i6608 i6609 l6610 l6611 l6612 i6613 l6614 l6615 i6617 l6618 l6619 l6620 l6621 l6616))))))
        (c5 (List.getD x6 (Int.toNat x0) ((0 : Int) , (0 : Int))).1 (List.getD x6 (Int.toNat x0) ((0 : Int) , (0 : Int))).2 (IntKind.wrap .i64 (x0 + (1 : Int))) x1 x2 x3 x4 (IntKind.wrap .i64 (x5 + (1 : Int))) x6 x7 x8 x9 x10 x11 x12 x13 i6528 l6529 x16 x17
         (fun b6622 i6623 l6624 l6625 i6626 i6627 i6628 l6629 l6630 l6631 i6632 l6633 l6634 l6635 i6636 l6637 l6638 l6639 l6640 => br b6622
          (k0 i6623 l6624 l6625 i6626 i6627 i6628 l6629 l6630 l6631 i6632 l6633 l6634 i6636 l6637 l6638 l6639 l6640 l6635)
          (c3 (List.getD x6 (Int.toNat x0) ((0 : Int) , (0 : Int))).1 (List.getD x6 (Int.toNat x0) ((0 : Int) , (0 : Int))).2 i6623 l6624 l6625 i6626 i6627 i6628 l6629 l6630 l6639 l6631 i6632 l6633 l6634 l6635 i6636 l6637 l6638 l6640
           (fun i6641 l6642 l6643 i6644 i6645 i6646 l6647 l6648 l6649 i6650 l6651 l6652 i6653 l6654 l6655 l6656 l6657 l6658 => c1 (List.getD x6 (Int.toNat x0) ((0 : Int) , (0 : Int))).1 i6641 l6642 l6643 i6644 i6645 i6646 l6647 l6648 l6656 l6649 i6650 l6651 l6652 l6658 i6653 l6654 l6655 l6657
            (fun i6659 l6660 l6661 i6662 i6663 i6664 l6665 l6666 l6667 i6668 l6669 l6670 l6671 i6672 l6673 l6674 l6675 l6676 => k0 i6659 l6660 l6661 i6662 i6663 i6664 l6665 l6666 l6667 i6668 l6669 l6670 i6672 l6673 l6674 l6675 l6676 l6671))))))))
     (br (decide ((5 : Int) ≤ (List.getD x6 (Int.toNat x0) ((0 : Int) , (0 : Int))).1))
      (br (decide ((List.getD x6 (Int.toNat x0) ((0 : Int) , (0 : Int))).1 ≤ (16 : Int)))
       (c7 (List.getD x6 (Int.toNat x0) ((0 : Int) , (0 : Int))).1 (IntKind.wrap .i64 (x0 + (1 : Int))) x1 x2 x3 x4 (IntKind.wrap .i64 (x5 + (1 : Int))) x6 x7 x8 x9 x10 x11 x12 x13 x14 x15 x16 x17
        (fun i6677 l6678 l6679 i6680 i6681 i6682 l6683 l6684 l6685 i6686 l6687 l6688 l6689 i6690 l6691 l6692 l6693 l6694 => k0 i6677 l6678 l6679 i6680 i6681 i6682 l6683 l6684 l6685 i6686 l6687 l6688 i6690 l6691 l6692 l6694 l6693 l6689))
       (c5 (List.getD x6 (Int.toNat x0) ((0 : Int) , (0 : Int))).1 (List.getD x6 (Int.toNat x0) ((0 : Int) , (0 : Int))).2 (IntKind.wrap .i64 (x0 + (1 : Int))) x1 x2 x3 x4 (IntKind.wrap .i64 (x5 + (1 : Int))) x6 x7 x8 x9 x10 x11 x12 x13 x14 x15 x16 x17
        (fun b6695 i6696 l6697 l6698 i6699 i6700 i6701 l6702 l6703 l6704 i6705 l6706 l6707 l6708 i6709 l6710 l6711 l6712 l6713 => br b6695
         (k0 i6696 l6697 l6698 i6699 i6700 i6701 l6702 l6703 l6704 i6705 l6706 l6707 i6709 l6710 l6711 l6712 l6713 l6708)
         (c3 (List.getD x6 (Int.toNat x0) ((0 : Int) , (0 : Int))).1 (List.getD x6 (Int.toNat x0) ((0 : Int) , (0 : Int))).2 i6696 l6697 l6698 i6699 i6700 i6701 l6702 l6703 l6712 l6704 i6705 l6706 l6707 l6708 i6709 l6710 l6711 l6713
          (fun i6714 l6715 l6716 i6717 i6718 i6719 l6720 l6721 l6722 i6723 l6724 l6725 i6726 l6727 l6728 l6729 l6730 l6731 => c1 (List.getD x6 (Int.toNat x0) ((0 : Int) , (0 : Int))).1 i6714 l6715 l6716 i6717 i6718 i6719 l6720 l6721 l6729 l6722 i6723 l6724 l6725 l6731 i6726 l6727 l6728 l6730
           (fun i6732 l6733 l6734 i6735 i6736 i6737 l6738 l6739 l6740 i6741 l6742 l6743 l6744 i6745 l6746 l6747 l6748 l6749 => k0 i6732 l6733 l6734 i6735 i6736 i6737 l6738 l6739 l6740 i6741 l6742 l6743 i6745 l6746 l6747 l6748 l6749 l6744))))))
      (c5 (List.getD x6 (Int.toNat x0) ((0 : Int) , (0 : Int))).1 (List.getD x6 (Int.toNat x0) ((0 : Int) , (0 : Int))).2 (IntKind.wrap .i64 (x0 + (1 : Int))) x1 x2 x3 x4 (IntKind.wrap .i64 (x5 + (1 : Int))) x6 x7 x8 x9 x10 x11 x12 x13 x14 x15 x16 x17
       (fun b6750 i6751 l6752 l6753 i6754 i6755 i6756 l6757 l6758 l6759 i6760 l6761 l6762 l6763 i6764 l6765 l6766 l6767 l6768 => br b6750
        (k0 i6751 l6752 l6753 i6754 i6755 i6756 l6757 l6758 l6759 i6760 l6761 l6762 i6764 l6765 l6766 l6767 l6768 l6763)
        (c3 (List.getD x6 (Int.toNat x0) ((0 : Int) , (0 : Int))).1 (List.getD x6 (Int.toNat x0) ((0 : Int) , (0 : Int))).2 i6751 l6752 l6753 i6754 i6755 i6756 l6757 l6758 l6767 l6759 i6760 l6761 l6762 l6763 i6764 l6765 l6766 l6768
         (fun i6769 l6770 l6771 i6772 i6773 i6774 l6775 l6776 l6777 i6778 l6779 l6780 i6781 l6782 l6783 l6784 l6785 l6786 => c1 (List.getD x6 (Int.toNat x0) ((0 : Int) , (0 : Int))).1 i6769 l6770 l6771 i6772 i6773 i6774 l6775 l6776 l6784 l6777 i6778 l6779 l6780 l6786 i6781 l6782 l6783 l6785
          (fun i6787 l6788 l6789 i6790 i6791 i6792 l6793 l6794 l6795 i6796 l6797 l6798 l6799 i6800 l6801 l6802 l6803 l6804 => k0 i6787 l6788 l6789 i6790 i6791 i6792 l6793 l6794 l6795 i6796 l6797 l6798 i6800 l6801 l6802 l6803 l6804 l6799))))))))
   (none))
  (none)
noncomputable def run_machine_step_6326 (N : Nat) {R : Type} (x0 : Int) (x1 : List (Int)) (x2 : List (Int)) (x3 : Int) (x4 : Int) (x5 : Int) (x6 : List ((Int) × (Int))) (x7 : List (ByteArray)) (x8 : List (Int)) (x9 : List (Int)) (x10 : Int) (x11 : List (((ByteArray) × (ByteArray)) × ((Int) × (Bool)))) (x12 : List ((Int) × (List (Int)))) (x13 : List ((Int) × (Int))) (x14 : Int) (x15 : List (Bool)) (x16 : List (List (Int))) (x17 : List ((Bool) × (Int))) (k0 : (Int) → (List (Int)) → (List (Int)) → (Int) → (Int) → (Int) → (List ((Int) × (Int))) → (List (ByteArray)) → (List (Int)) → (Int) → (List (((ByteArray) × (ByteArray)) × ((Int) × (Bool)))) → (List ((Int) × (List (Int)))) → (Int) → (List (Bool)) → (List (List (Int))) → (List (Int)) → (List ((Bool) × (Int))) → (List ((Int) × (Int))) → Option R) : Option R := run_machine_step_6326_T N (@run_machine_call_3c75 N) (@run_machine_call_61a1 N) (@run_machine_named_ffdd N) (@run_machine_named_e571 N) (@run_machine_plain_ffdd N) (@run_machine_plain_e571 N) (@run_machine_reckon_3c75 N) (@run_machine_reckon_61a1 N) (@run_machine_answer_6121 N) (@run_machine_answer_9b59 N) (@run_machine_answer_c21d N) (@run_machine_answer_684b N) (@inst_Takes N) (@fails_Fails_Next_054a N) (@inst_Falls N) x0 x1 x2 x3 x4 x5 x6 x7 x8 x9 x10 x11 x12 x13 x14 x15 x16 x17 k0
inductive run_all_32d2_S0 where
  | v0 (x0 : Int) (x1 : List ((Int) × (Int))) (x2 : List (ByteArray)) (x3 : List (List (Int))) (x4 : List (List (Int))) (x5 : List (Bool))
  | v1 (x0 : Int) (x1 : List ((Int) × (Int))) (x2 : List (ByteArray)) (x3 : List (List (Int))) (x4 : List (List (Int))) (x5 : List (Bool)) (x6 : Int) (x7 : List (Int)) (x8 : List (Int)) (x9 : Int) (x10 : Int) (x11 : Int) (x12 : List (Int)) (x13 : Int) (x14 : List (Bool)) (x15 : List ((Bool) × (Int)))
  | v2 (x0 : Int) (x1 : List ((Int) × (Int))) (x2 : List (ByteArray)) (x3 : List (List (Int))) (x4 : List (List (Int))) (x5 : List (Bool)) (x6 : Int) (x7 : List (Int)) (x8 : List (Int)) (x9 : Int) (x10 : Int) (x11 : Int) (x12 : List (Int)) (x13 : List (Int)) (x14 : Int) (x15 : List (((ByteArray) × (ByteArray)) × ((Int) × (Bool)))) (x16 : List ((Int) × (List (Int)))) (x17 : List ((Int) × (Int))) (x18 : Int) (x19 : List (Bool)) (x20 : List ((Bool) × (Int)))
abbrev run_all_32d2_l0_Ty : Type 1 := {R : Type} → ((List ((Int) × (Int))) → (List (ByteArray)) → (List (List (Int))) → (List (List (Int))) → (List (Bool)) → (Int) → (List (Int)) → (List (Int)) → (Int) → (Int) → (Int) → (List (Int)) → (Int) → (List (Bool)) → (List ((Bool) × (Int))) → Option R) → ((List ((Int) × (Int))) → (List (ByteArray)) → (List (List (Int))) → (List (List (Int))) → (List (Bool)) → (Int) → (List (Int)) → (List (Int)) → (Int) → (Int) → (Int) → (List (Int)) → (List (Int)) → (Int) → (List (((ByteArray) × (ByteArray)) × ((Int) × (Bool)))) → (List ((Int) × (List (Int)))) → (List ((Int) × (Int))) → (Int) → (List (Bool)) → (List ((Bool) × (Int))) → Option R) → Nat → run_all_32d2_S0 → Option R
abbrev run_all_32d2_Ty : Type 1 := {R : Type} → (Int) → (List ((Int) × (Int))) → (List (ByteArray)) → (List (List (Int))) → (List (List (Int))) → (List (Bool)) → ((Int) → (List ((Int) × (Int))) → (List (ByteArray)) → (List (List (Int))) → (List (List (Int))) → (List (Bool)) → Option R) → ((Int) → (List ((Int) × (Int))) → (List (ByteArray)) → (List (List (Int))) → (List (List (Int))) → (List (Bool)) → (Int) → (List (Int)) → (List (Int)) → (Int) → (Int) → (Int) → (List (Int)) → (Int) → (List (Bool)) → (List ((Bool) × (Int))) → Option R) → ((Int) → (List ((Int) × (Int))) → (List (ByteArray)) → (List (List (Int))) → (List (List (Int))) → (List (Bool)) → (Int) → (List (Int)) → (List (Int)) → (Int) → (Int) → (Int) → (List (Int)) → (List (Int)) → (Int) → (List (((ByteArray) × (ByteArray)) × ((Int) × (Bool)))) → (List ((Int) × (List (Int)))) → (List ((Int) × (Int))) → (Int) → (List (Bool)) → (List ((Bool) × (Int))) → Option R) → Option R
noncomputable def run_all_32d2_l0_T0 (N : Nat) (c0 : run_machine_step_9c77_Ty) (c1 : run_machine_step_6326_Ty) (c2 : run_machine_end_5a2b_Ty) (c3 : run_machine_end_3f90_Ty) (c4 : run_made_32d2_Ty) {R : Type} (nx : run_all_32d2_S0 → Option R) (k0 : (List ((Int) × (Int))) → (List (ByteArray)) → (List (List (Int))) → (List (List (Int))) → (List (Bool)) → (Int) → (List (Int)) → (List (Int)) → (Int) → (Int) → (Int) → (List (Int)) → (Int) → (List (Bool)) → (List ((Bool) × (Int))) → Option R) (k1 : (List ((Int) × (Int))) → (List (ByteArray)) → (List (List (Int))) → (List (List (Int))) → (List (Bool)) → (Int) → (List (Int)) → (List (Int)) → (Int) → (Int) → (Int) → (List (Int)) → (List (Int)) → (Int) → (List (((ByteArray) × (ByteArray)) × ((Int) × (Bool)))) → (List ((Int) × (List (Int)))) → (List ((Int) × (Int))) → (Int) → (List (Bool)) → (List ((Bool) × (Int))) → Option R) (x0 : Int) (x1 : List ((Int) × (Int))) (x2 : List (ByteArray)) (x3 : List (List (Int))) (x4 : List (List (Int))) (x5 : List (Bool)) : Option R :=
  none
noncomputable def run_all_32d2_l0_T1 (N : Nat) (c0 : run_machine_step_9c77_Ty) (c1 : run_machine_step_6326_Ty) (c2 : run_machine_end_5a2b_Ty) (c3 : run_machine_end_3f90_Ty) (c4 : run_made_32d2_Ty) {R : Type} (nx : run_all_32d2_S0 → Option R) (k0 : (List ((Int) × (Int))) → (List (ByteArray)) → (List (List (Int))) → (List (List (Int))) → (List (Bool)) → (Int) → (List (Int)) → (List (Int)) → (Int) → (Int) → (Int) → (List (Int)) → (Int) → (List (Bool)) → (List ((Bool) × (Int))) → Option R) (k1 : (List ((Int) × (Int))) → (List (ByteArray)) → (List (List (Int))) → (List (List (Int))) → (List (Bool)) → (Int) → (List (Int)) → (List (Int)) → (Int) → (Int) → (Int) → (List (Int)) → (List (Int)) → (Int) → (List (((ByteArray) × (ByteArray)) × ((Int) × (Bool)))) → (List ((Int) × (List (Int)))) → (List ((Int) × (Int))) → (Int) → (List (Bool)) → (List ((Bool) × (Int))) → Option R) (x0 : Int) (x1 : List ((Int) × (Int))) (x2 : List (ByteArray)) (x3 : List (List (Int))) (x4 : List (List (Int))) (x5 : List (Bool)) (x6 : Int) (x7 : List (Int)) (x8 : List (Int)) (x9 : Int) (x10 : Int) (x11 : Int) (x12 : List (Int)) (x13 : Int) (x14 : List (Bool)) (x15 : List ((Bool) × (Int))) : Option R :=
  br (decide (x9 = (0 : Int)))
  (br (decide (x11 = x0))
   (c2 (5 : Int) (0 : Int) x6 x7 x8 x9 x10 x11 x1 x2 x12 x13 x14 x4 x15
    (fun i6864 l6865 l6866 i6867 i6868 i6869 l6870 l6871 l6872 i6873 l6874 l6875 l6876 => k0 l6870 l6871 x3 l6875 x5 i6864 l6865 l6866 i6867 i6868 i6869 l6872 i6873 l6874 l6876))
   (c0 x6 x7 x8 x9 x10 x11 x1 x2 x12 x13 x14 x4 x15
    (fun i6877 l6878 l6879 i6880 i6881 i6882 l6883 l6884 i6885 l6886 l6887 l6888 l6889 => nx (.v1 x0 l6883 l6884 x3 l6887 x5 i6877 l6878 l6879 i6880 i6881 i6882 l6888 i6885 l6886 l6889))))
  (k0 x1 x2 x3 x4 x5 x6 x7 x8 x9 x10 x11 x12 x13 x14 x15)
noncomputable def run_all_32d2_l0_T2 (N : Nat) (c0 : run_machine_step_9c77_Ty) (c1 : run_machine_step_6326_Ty) (c2 : run_machine_end_5a2b_Ty) (c3 : run_machine_end_3f90_Ty) (c4 : run_made_32d2_Ty) {R : Type} (nx : run_all_32d2_S0 → Option R) (k0 : (List ((Int) × (Int))) → (List (ByteArray)) → (List (List (Int))) → (List (List (Int))) → (List (Bool)) → (Int) → (List (Int)) → (List (Int)) → (Int) → (Int) → (Int) → (List (Int)) → (Int) → (List (Bool)) → (List ((Bool) × (Int))) → Option R) (k1 : (List ((Int) × (Int))) → (List (ByteArray)) → (List (List (Int))) → (List (List (Int))) → (List (Bool)) → (Int) → (List (Int)) → (List (Int)) → (Int) → (Int) → (Int) → (List (Int)) → (List (Int)) → (Int) → (List (((ByteArray) × (ByteArray)) × ((Int) × (Bool)))) → (List ((Int) × (List (Int)))) → (List ((Int) × (Int))) → (Int) → (List (Bool)) → (List ((Bool) × (Int))) → Option R) (x0 : Int) (x1 : List ((Int) × (Int))) (x2 : List (ByteArray)) (x3 : List (List (Int))) (x4 : List (List (Int))) (x5 : List (Bool)) (x6 : Int) (x7 : List (Int)) (x8 : List (Int)) (x9 : Int) (x10 : Int) (x11 : Int) (x12 : List (Int)) (x13 : List (Int)) (x14 : Int) (x15 : List (((ByteArray) × (ByteArray)) × ((Int) × (Bool)))) (x16 : List ((Int) × (List (Int)))) (x17 : List ((Int) × (Int))) (x18 : Int) (x19 : List (Bool)) (x20 : List ((Bool) × (Int))) : Option R :=
  br (decide (x9 = (0 : Int)))
  (br (decide (x11 = x0))
   (c3 (5 : Int) (0 : Int) x6 x7 x8 x9 x10 x11 x1 x2 x12 x13 x14 x15 x16 x17 x18 x19 x4 x20
    (fun i6890 l6891 l6892 i6893 i6894 i6895 l6896 l6897 l6898 l6899 i6900 l6901 l6902 l6903 i6904 l6905 l6906 l6907 => k1 l6896 l6897 x3 l6906 x5 i6890 l6891 l6892 i6893 i6894 i6895 l6898 l6899 i6900 l6901 l6902 l6903 i6904 l6905 l6907))
   (c1 x6 x7 x8 x9 x10 x11 x1 x2 x12 x13 x14 x15 x16 x17 x18 x19 x4 x20
    (fun i6908 l6909 l6910 i6911 i6912 i6913 l6914 l6915 l6916 i6917 l6918 l6919 i6920 l6921 l6922 l6923 l6924 l6925 => nx (.v2 x0 l6914 l6915 x3 l6922 x5 i6908 l6909 l6910 i6911 i6912 i6913 l6923 l6916 i6917 l6918 l6919 l6925 i6920 l6921 l6924))))
  (k1 x1 x2 x3 x4 x5 x6 x7 x8 x9 x10 x11 x12 x13 x14 x15 x16 x17 x18 x19 x20)
noncomputable def run_all_32d2_l0 (N : Nat) {R : Type} (k0 : (List ((Int) × (Int))) → (List (ByteArray)) → (List (List (Int))) → (List (List (Int))) → (List (Bool)) → (Int) → (List (Int)) → (List (Int)) → (Int) → (Int) → (Int) → (List (Int)) → (Int) → (List (Bool)) → (List ((Bool) × (Int))) → Option R) (k1 : (List ((Int) × (Int))) → (List (ByteArray)) → (List (List (Int))) → (List (List (Int))) → (List (Bool)) → (Int) → (List (Int)) → (List (Int)) → (Int) → (Int) → (Int) → (List (Int)) → (List (Int)) → (Int) → (List (((ByteArray) × (ByteArray)) × ((Int) × (Bool)))) → (List ((Int) × (List (Int)))) → (List ((Int) × (Int))) → (Int) → (List (Bool)) → (List ((Bool) × (Int))) → Option R) : Nat → run_all_32d2_S0 → Option R
  | 0, _ => none
  | n + 1, .v0 x0 x1 x2 x3 x4 x5 => run_all_32d2_l0_T0 N (@run_machine_step_9c77 N) (@run_machine_step_6326 N) (@run_machine_end_5a2b N) (@run_machine_end_3f90 N) (@run_made_32d2 N) (fun s => run_all_32d2_l0 N k0 k1 n s) k0 k1 x0 x1 x2 x3 x4 x5
  | n + 1, .v1 x0 x1 x2 x3 x4 x5 x6 x7 x8 x9 x10 x11 x12 x13 x14 x15 => run_all_32d2_l0_T1 N (@run_machine_step_9c77 N) (@run_machine_step_6326 N) (@run_machine_end_5a2b N) (@run_machine_end_3f90 N) (@run_made_32d2 N) (fun s => run_all_32d2_l0 N k0 k1 n s) k0 k1 x0 x1 x2 x3 x4 x5 x6 x7 x8 x9 x10 x11 x12 x13 x14 x15
  | n + 1, .v2 x0 x1 x2 x3 x4 x5 x6 x7 x8 x9 x10 x11 x12 x13 x14 x15 x16 x17 x18 x19 x20 => run_all_32d2_l0_T2 N (@run_machine_step_9c77 N) (@run_machine_step_6326 N) (@run_machine_end_5a2b N) (@run_machine_end_3f90 N) (@run_made_32d2 N) (fun s => run_all_32d2_l0 N k0 k1 n s) k0 k1 x0 x1 x2 x3 x4 x5 x6 x7 x8 x9 x10 x11 x12 x13 x14 x15 x16 x17 x18 x19 x20
noncomputable def run_all_32d2_T (N : Nat) (c0 : run_machine_step_9c77_Ty) (c1 : run_machine_step_6326_Ty) (c2 : run_machine_end_5a2b_Ty) (c3 : run_machine_end_3f90_Ty) (c4 : run_made_32d2_Ty) (w0 : run_all_32d2_l0_Ty) {R : Type} (x0 : Int) (x1 : List ((Int) × (Int))) (x2 : List (ByteArray)) (x3 : List (List (Int))) (x4 : List (List (Int))) (x5 : List (Bool)) (k0 : (Int) → (List ((Int) × (Int))) → (List (ByteArray)) → (List (List (Int))) → (List (List (Int))) → (List (Bool)) → Option R) (k1 : (Int) → (List ((Int) × (Int))) → (List (ByteArray)) → (List (List (Int))) → (List (List (Int))) → (List (Bool)) → (Int) → (List (Int)) → (List (Int)) → (Int) → (Int) → (Int) → (List (Int)) → (Int) → (List (Bool)) → (List ((Bool) × (Int))) → Option R) (k2 : (Int) → (List ((Int) × (Int))) → (List (ByteArray)) → (List (List (Int))) → (List (List (Int))) → (List (Bool)) → (Int) → (List (Int)) → (List (Int)) → (Int) → (Int) → (Int) → (List (Int)) → (List (Int)) → (Int) → (List (((ByteArray) × (ByteArray)) × ((Int) × (Bool)))) → (List ((Int) × (List (Int)))) → (List ((Int) × (Int))) → (Int) → (List (Bool)) → (List ((Bool) × (Int))) → Option R) : Option R :=
  c4 x0 x1 x2 x3 x4 x5
  (fun i6858 l6859 l6860 l6861 l6862 l6863 => br (!(decide (i6858 = (0 : Int))))
   (k0 i6858 l6859 l6860 l6861 l6862 l6863)
   (w0
    (fun l6926 l6927 l6928 l6929 l6930 i6931 l6932 l6933 i6934 i6935 i6936 l6937 i6938 l6939 l6940 => k1 (0 : Int) l6926 l6927 l6928 l6929 l6930 i6931 l6932 l6933 i6934 i6935 i6936 l6937 i6938 l6939 l6940)
    (fun l6941 l6942 l6943 l6944 l6945 i6946 l6947 l6948 i6949 i6950 i6951 l6952 l6953 i6954 l6955 l6956 l6957 i6958 l6959 l6960 => k2 (0 : Int) l6941 l6942 l6943 l6944 l6945 i6946 l6947 l6948 i6949 i6950 i6951 l6952 l6953 i6954 l6955 l6956 l6957 i6958 l6959 l6960)
    N (.v0 x0 l6859 l6860 l6861 l6862 l6863)))
  (fun i6961 l6962 l6963 l6964 l6965 l6966 i6967 l6968 l6969 i6970 i6971 i6972 l6973 i6974 l6975 l6976 => br (!(decide (i6961 = (0 : Int))))
   (k0 i6961 l6962 l6963 l6964 l6965 l6966)
   (w0
    (fun l6977 l6978 l6979 l6980 l6981 i6982 l6983 l6984 i6985 i6986 i6987 l6988 i6989 l6990 l6991 => k1 (0 : Int) l6977 l6978 l6979 l6980 l6981 i6982 l6983 l6984 i6985 i6986 i6987 l6988 i6989 l6990 l6991)
    (fun l6992 l6993 l6994 l6995 l6996 i6997 l6998 l6999 i7000 i7001 i7002 l7003 l7004 i7005 l7006 l7007 l7008 i7009 l7010 l7011 => k2 (0 : Int) l6992 l6993 l6994 l6995 l6996 i6997 l6998 l6999 i7000 i7001 i7002 l7003 l7004 i7005 l7006 l7007 l7008 i7009 l7010 l7011)
    N (.v1 x0 l6962 l6963 l6964 l6965 l6966 i6967 l6968 l6969 i6970 i6971 i6972 l6973 i6974 l6975 l6976)))
  (fun i7012 l7013 l7014 l7015 l7016 l7017 i7018 l7019 l7020 i7021 i7022 i7023 l7024 l7025 i7026 l7027 l7028 l7029 i7030 l7031 l7032 => br (!(decide (i7012 = (0 : Int))))
   (k0 i7012 l7013 l7014 l7015 l7016 l7017)
   (w0
    (fun l7033 l7034 l7035 l7036 l7037 i7038 l7039 l7040 i7041 i7042 i7043 l7044 i7045 l7046 l7047 => k1 (0 : Int) l7033 l7034 l7035 l7036 l7037 i7038 l7039 l7040 i7041 i7042 i7043 l7044 i7045 l7046 l7047)
    (fun l7048 l7049 l7050 l7051 l7052 i7053 l7054 l7055 i7056 i7057 i7058 l7059 l7060 i7061 l7062 l7063 l7064 i7065 l7066 l7067 => k2 (0 : Int) l7048 l7049 l7050 l7051 l7052 i7053 l7054 l7055 i7056 i7057 i7058 l7059 l7060 i7061 l7062 l7063 l7064 i7065 l7066 l7067)
    N (.v2 x0 l7013 l7014 l7015 l7016 l7017 i7018 l7019 l7020 i7021 i7022 i7023 l7024 l7025 i7026 l7027 l7028 l7029 i7030 l7031 l7032)))
noncomputable def run_all_32d2 (N : Nat) {R : Type} (x0 : Int) (x1 : List ((Int) × (Int))) (x2 : List (ByteArray)) (x3 : List (List (Int))) (x4 : List (List (Int))) (x5 : List (Bool)) (k0 : (Int) → (List ((Int) × (Int))) → (List (ByteArray)) → (List (List (Int))) → (List (List (Int))) → (List (Bool)) → Option R) (k1 : (Int) → (List ((Int) × (Int))) → (List (ByteArray)) → (List (List (Int))) → (List (List (Int))) → (List (Bool)) → (Int) → (List (Int)) → (List (Int)) → (Int) → (Int) → (Int) → (List (Int)) → (Int) → (List (Bool)) → (List ((Bool) × (Int))) → Option R) (k2 : (Int) → (List ((Int) × (Int))) → (List (ByteArray)) → (List (List (Int))) → (List (List (Int))) → (List (Bool)) → (Int) → (List (Int)) → (List (Int)) → (Int) → (Int) → (Int) → (List (Int)) → (List (Int)) → (Int) → (List (((ByteArray) × (ByteArray)) × ((Int) × (Bool)))) → (List ((Int) × (List (Int)))) → (List ((Int) × (Int))) → (Int) → (List (Bool)) → (List ((Bool) × (Int))) → Option R) : Option R := run_all_32d2_T N (@run_machine_step_9c77 N) (@run_machine_step_6326 N) (@run_machine_end_5a2b N) (@run_machine_end_3f90 N) (@run_made_32d2 N) (@run_all_32d2_l0 N) x0 x1 x2 x3 x4 x5 k0 k1 k2
abbrev run_Run_bc75_Ty : Type 1 := {R : Type} → (Int) → (List ((Int) × (Int))) → ((Int) → (Int) → (Int) → (List ((Int) × (Int))) → (List ((Bool) × (Int))) → Option R) → Option R
noncomputable def run_Run_bc75_T (N : Nat) (c0 : run_all_32d2_Ty) {R : Type} (x0 : Int) (x1 : List ((Int) × (Int))) (k0 : (Int) → (Int) → (Int) → (List ((Int) × (Int))) → (List ((Bool) × (Int))) → Option R) : Option R :=
  c0 x0 x1 ([] : List (Sh.str.T)) ([] : List ((Sh.int IntKind.u8).isl.T)) ([] : List ((Sh.int IntKind.u8).isl.T)) ([] : List (Sh.bool.T))
  (fun i7068 l7069 l7070 l7071 l7072 l7073 => br (!(decide (i7068 = (0 : Int))))
   (k0 (0 : Int) (0 : Int) i7068 l7069 ([] : List ((Sh.bool.pair (Sh.int IntKind.u16)).T)))
   (none))
  (fun i7074 l7075 l7076 l7077 l7078 l7079 i7080 l7081 l7082 i7083 i7084 i7085 l7086 i7087 l7088 l7089 => br (!(decide (i7074 = (0 : Int))))
   (k0 (0 : Int) (0 : Int) i7074 l7075 ([] : List ((Sh.bool.pair (Sh.int IntKind.u16)).T)))
   (k0 i7083 i7084 (0 : Int) l7075 l7089))
  (fun i7090 l7091 l7092 l7093 l7094 l7095 i7096 l7097 l7098 i7099 i7100 i7101 l7102 l7103 i7104 l7105 l7106 l7107 i7108 l7109 l7110 => br (!(decide (i7090 = (0 : Int))))
   (k0 (0 : Int) (0 : Int) i7090 l7091 ([] : List ((Sh.bool.pair (Sh.int IntKind.u16)).T)))
   (k0 i7099 i7100 (0 : Int) l7091 l7110))
noncomputable def run_Run_bc75 (N : Nat) {R : Type} (x0 : Int) (x1 : List ((Int) × (Int))) (k0 : (Int) → (Int) → (Int) → (List ((Int) × (Int))) → (List ((Bool) × (Int))) → Option R) : Option R := run_Run_bc75_T N (@run_all_32d2 N) x0 x1 k0
abbrev run_Run_99d4_Ty : Type 1 := {R : Type} → (Int) → (List ((Int) × (Int))) → (List (ByteArray)) → ((Int) → (Int) → (Int) → (List ((Int) × (Int))) → (List (ByteArray)) → (List ((Bool) × (Int))) → Option R) → Option R
noncomputable def run_Run_99d4_T (N : Nat) (c0 : run_all_32d2_Ty) {R : Type} (x0 : Int) (x1 : List ((Int) × (Int))) (x2 : List (ByteArray)) (k0 : (Int) → (Int) → (Int) → (List ((Int) × (Int))) → (List (ByteArray)) → (List ((Bool) × (Int))) → Option R) : Option R :=
  c0 x0 x1 x2 ([] : List ((Sh.int IntKind.u8).isl.T)) ([] : List ((Sh.int IntKind.u8).isl.T)) ([] : List (Sh.bool.T))
  (fun i7162 l7163 l7164 l7165 l7166 l7167 => br (!(decide (i7162 = (0 : Int))))
   (k0 (0 : Int) (0 : Int) i7162 l7163 l7164 ([] : List ((Sh.bool.pair (Sh.int IntKind.u16)).T)))
   (none))
  (fun i7168 l7169 l7170 l7171 l7172 l7173 i7174 l7175 l7176 i7177 i7178 i7179 l7180 i7181 l7182 l7183 => br (!(decide (i7168 = (0 : Int))))
   (k0 (0 : Int) (0 : Int) i7168 l7169 l7170 ([] : List ((Sh.bool.pair (Sh.int IntKind.u16)).T)))
   (k0 i7177 i7178 (0 : Int) l7169 l7170 l7183))
  (fun i7184 l7185 l7186 l7187 l7188 l7189 i7190 l7191 l7192 i7193 i7194 i7195 l7196 l7197 i7198 l7199 l7200 l7201 i7202 l7203 l7204 => br (!(decide (i7184 = (0 : Int))))
   (k0 (0 : Int) (0 : Int) i7184 l7185 l7186 ([] : List ((Sh.bool.pair (Sh.int IntKind.u16)).T)))
   (k0 i7193 i7194 (0 : Int) l7185 l7186 l7204))
noncomputable def run_Run_99d4 (N : Nat) {R : Type} (x0 : Int) (x1 : List ((Int) × (Int))) (x2 : List (ByteArray)) (k0 : (Int) → (Int) → (Int) → (List ((Int) × (Int))) → (List (ByteArray)) → (List ((Bool) × (Int))) → Option R) : Option R := run_Run_99d4_T N (@run_all_32d2 N) x0 x1 x2 k0
abbrev run_Steps_bc75_Ty : Type 1 := {R : Type} → (Int) → (List ((Int) × (Int))) → ((Int) → (List ((Int) × (Int))) → Option R) → Option R
noncomputable def run_Steps_bc75_T (N : Nat) (c0 : run_all_32d2_Ty) {R : Type} (x0 : Int) (x1 : List ((Int) × (Int))) (k0 : (Int) → (List ((Int) × (Int))) → Option R) : Option R :=
  c0 x0 x1 ([] : List (Sh.str.T)) ([] : List ((Sh.int IntKind.u8).isl.T)) ([] : List ((Sh.int IntKind.u8).isl.T)) ([] : List (Sh.bool.T))
  (fun i7116 l7117 l7118 l7119 l7120 l7121 => br (!(decide (i7116 = (0 : Int))))
   (k0 (0 : Int) l7117)
   (none))
  (fun i7122 l7123 l7124 l7125 l7126 l7127 i7128 l7129 l7130 i7131 i7132 i7133 l7134 i7135 l7136 l7137 => br (!(decide (i7122 = (0 : Int))))
   (k0 (0 : Int) l7123)
   (k0 i7133 l7123))
  (fun i7138 l7139 l7140 l7141 l7142 l7143 i7144 l7145 l7146 i7147 i7148 i7149 l7150 l7151 i7152 l7153 l7154 l7155 i7156 l7157 l7158 => br (!(decide (i7138 = (0 : Int))))
   (k0 (0 : Int) l7139)
   (k0 i7149 l7139))
noncomputable def run_Steps_bc75 (N : Nat) {R : Type} (x0 : Int) (x1 : List ((Int) × (Int))) (k0 : (Int) → (List ((Int) × (Int))) → Option R) : Option R := run_Steps_bc75_T N (@run_all_32d2 N) x0 x1 k0
abbrev law16_awake_Ty : Type 1 := {R : Type} → ((Bool) → Option R) → Option R
noncomputable def law16_awake_T (N : Nat) (c0 : run_Steps_bc75_Ty) (c1 : run_Run_bc75_Ty) (c2 : run_Run_99d4_Ty) {R : Type} (k0 : (Bool) → Option R) : Option R :=
  c1 (9 : Int) (((1 : Int) , (7 : Int)) :: (((26 : Int) , (0 : Int)) :: ([] : List (((Sh.int IntKind.i64).pair (Sh.int IntKind.i64)).T))))
  (fun i7111 i7112 i7113 l7114 l7115 => br (decide (i7113 = (0 : Int)))
   (br (decide (i7111 = (1 : Int)))
    (br (decide (i7112 = (7 : Int)))
     (c0 (9 : Int) (((1 : Int) , (7 : Int)) :: (((26 : Int) , (0 : Int)) :: ([] : List (((Sh.int IntKind.i64).pair (Sh.int IntKind.i64)).T))))
      (fun i7159 l7160 => k0 (decide (i7159 = (2 : Int)))))
     (k0 false))
    (k0 false))
   (k0 false))
noncomputable def law16_awake (N : Nat) {R : Type} (k0 : (Bool) → Option R) : Option R := law16_awake_T N (@run_Steps_bc75 N) (@run_Run_bc75 N) (@run_Run_99d4 N) k0
abbrev ref1_May_Ty : Type 1 := {R : Type} → (Int) → ((Bool) → Option R) → Option R
noncomputable def ref1_May_T (N : Nat) {R : Type} (x0 : Int) (k0 : (Bool) → Option R) : Option R :=
  br (!(decide (x0 = (1 : Int))))
  (br (!(decide (x0 = (8 : Int))))
   (k0 (decide (x0 = (16 : Int))))
   (k0 true))
  (k0 true)
noncomputable def ref1_May (N : Nat) {R : Type} (x0 : Int) (k0 : (Bool) → Option R) : Option R := ref1_May_T N x0 k0
abbrev ref1_Mask_Ty : Type 1 := {R : Type} → (Int) → ((Int) → Option R) → Option R
noncomputable def ref1_Mask_T (N : Nat) (c0 : ref1_May_Ty) {R : Type} (x0 : Int) (k0 : (Int) → Option R) : Option R :=
  c0 x0
  (fun b7212 => br (!b7212)
   (k0 (0 : Int))
   (br (decide ((IntKind.wrap .u64 x0) < (0 : Int)))
    (none)
    (k0 (IntKind.wrap .u16 ((shlI .u16 (1 : Int) (IntKind.wrap .u64 x0)) - (1 : Int))))))
noncomputable def ref1_Mask (N : Nat) {R : Type} (x0 : Int) (k0 : (Int) → Option R) : Option R := ref1_Mask_T N (@ref1_May N) x0 k0
abbrev ref1_bit_Ty : Type 1 := {R : Type} → (Bool) → ((Int) → Option R) → Option R
noncomputable def ref1_bit_T (N : Nat) {R : Type} (x0 : Bool) (k0 : (Int) → Option R) : Option R :=
  br x0
  (k0 (1 : Int))
  (k0 (0 : Int))
noncomputable def ref1_bit (N : Nat) {R : Type} (x0 : Bool) (k0 : (Int) → Option R) : Option R := ref1_bit_T N x0 k0
abbrev ref1_Do_Ty : Type 1 := {R : Type} → (Int) → (Int) → (Int) → (Int) → ((Int) → (Int) → Option R) → Option R
noncomputable def ref1_Do_T (N : Nat) (c0 : ref1_bit_Ty) (c1 : ref1_Mask_Ty) (c2 : ref1_May_Ty) {R : Type} (x0 : Int) (x1 : Int) (x2 : Int) (x3 : Int) (k0 : (Int) → (Int) → Option R) : Option R :=
  c2 x1
  (fun b7211 => br (!b7211)
   (k0 (0 : Int) (2 : Int))
   (c1 x1
    (fun i7213 => br (decide (x0 = (3 : Int)))
     (k0 (band .u16 (bxor .u16 (if ((IntKind.signed .u16) = true) then (-1 : Int) else (IntKind.max .u16)) x2) i7213) (0 : Int))
     (br (decide (x0 = (4 : Int)))
      (k0 (band .u16 (band .u16 x2 x3) i7213) (0 : Int))
      (br (decide (x0 = (5 : Int)))
       (k0 (band .u16 (bor .u16 x2 x3) i7213) (0 : Int))
       (br (decide (x0 = (6 : Int)))
        (k0 (band .u16 (bxor .u16 x2 x3) i7213) (0 : Int))
        (br (decide (x0 = (7 : Int)))
         (k0 (IntKind.wrap .u16 (band .i64 (IntKind.wrap .i64 ((IntKind.wrap .i64 (band .u16 x2 i7213)) + (IntKind.wrap .i64 (band .u16 x3 i7213)))) (IntKind.wrap .i64 i7213))) (0 : Int))
         (br (decide (x0 = (8 : Int)))
          (k0 (IntKind.wrap .u16 (band .i64 (IntKind.wrap .i64 ((IntKind.wrap .i64 (band .u16 x2 i7213)) - (IntKind.wrap .i64 (band .u16 x3 i7213)))) (IntKind.wrap .i64 i7213))) (0 : Int))
          (br (decide (x0 = (9 : Int)))
           (k0 (IntKind.wrap .u16 (band .i64 (IntKind.wrap .i64 ((IntKind.wrap .i64 (band .u16 x2 i7213)) * (IntKind.wrap .i64 (band .u16 x3 i7213)))) (IntKind.wrap .i64 i7213))) (0 : Int))
           (br (decide (x0 = (10 : Int)))
            (br (decide ((IntKind.wrap .i64 (band .u16 x3 i7213)) = (0 : Int)))
             (k0 i7213 (0 : Int))
             (br (decide ((IntKind.wrap .i64 (band .u16 x3 i7213)) = (0 : Int)))
              (none)
              (k0 (IntKind.wrap .u16 (IntKind.wrap .i64 (Int.tdiv (IntKind.wrap .i64 (band .u16 x2 i7213)) (IntKind.wrap .i64 (band .u16 x3 i7213))))) (0 : Int))))
            (br (decide (x0 = (11 : Int)))
             (br (decide ((IntKind.wrap .i64 (band .u16 x3 i7213)) = (0 : Int)))
              (k0 (IntKind.wrap .u16 (IntKind.wrap .i64 (band .u16 x2 i7213))) (0 : Int))
              (br (decide ((IntKind.wrap .i64 (band .u16 x3 i7213)) = (0 : Int)))
               (none)
               (k0 (IntKind.wrap .u16 (Int.tmod (IntKind.wrap .i64 (band .u16 x2 i7213)) (IntKind.wrap .i64 (band .u16 x3 i7213)))) (0 : Int))))
             (br (decide (x0 = (12 : Int)))
              (br (decide (x1 ≤ (IntKind.wrap .i64 (band .u16 x3 i7213))))
               (k0 (0 : Int) (0 : Int))
               (br (decide ((IntKind.wrap .u64 (IntKind.wrap .i64 (band .u16 x3 i7213))) < (0 : Int)))
                (none)
                (k0 (IntKind.wrap .u16 (band .i64 (shlI .i64 (IntKind.wrap .i64 (band .u16 x2 i7213)) (IntKind.wrap .u64 (IntKind.wrap .i64 (band .u16 x3 i7213)))) (IntKind.wrap .i64 i7213))) (0 : Int))))
              (br (decide (x0 = (13 : Int)))
               (br (decide (x1 ≤ (IntKind.wrap .i64 (band .u16 x3 i7213))))
                (k0 (0 : Int) (0 : Int))
                (br (decide ((IntKind.wrap .u64 (IntKind.wrap .i64 (band .u16 x3 i7213))) < (0 : Int)))
                 (none)
                 (k0 (IntKind.wrap .u16 (shrI .i64 (IntKind.wrap .i64 (band .u16 x2 i7213)) (IntKind.wrap .u64 (IntKind.wrap .i64 (band .u16 x3 i7213))))) (0 : Int))))
               (br (decide (x0 = (14 : Int)))
                (c0 (decide ((IntKind.wrap .i64 (band .u16 x2 i7213)) = (IntKind.wrap .i64 (band .u16 x3 i7213))))
                 (fun i7214 => k0 i7214 (0 : Int)))
                (br (decide (x0 = (15 : Int)))
                 (c0 (decide ((IntKind.wrap .i64 (band .u16 x2 i7213)) < (IntKind.wrap .i64 (band .u16 x3 i7213))))
                  (fun i7215 => k0 i7215 (0 : Int)))
                 (k0 (0 : Int) (5 : Int)))))))))))))))))
noncomputable def ref1_Do (N : Nat) {R : Type} (x0 : Int) (x1 : Int) (x2 : Int) (x3 : Int) (k0 : (Int) → (Int) → Option R) : Option R := ref1_Do_T N (@ref1_bit N) (@ref1_Mask N) (@ref1_May N) x0 x1 x2 x3 k0
abbrev law16_RunSums_Ty : Type 1 := {R : Type} → (Int) → (Int) → (Int) → (Int) → ((Bool) → Option R) → Option R
noncomputable def law16_RunSums_T (N : Nat) (c0 : ref1_Do_Ty) (c1 : run_Run_bc75_Ty) (c2 : run_Run_99d4_Ty) (c3 : law16_awake_Ty) {R : Type} (x0 : Int) (x1 : Int) (x2 : Int) (x3 : Int) (k0 : (Bool) → Option R) : Option R :=
  c3
  (fun b7161 => br (!b7161)
   (k0 false)
   (c2 (IntKind.wrap .i64 ((IntKind.wrap .i64 x3) + (8 : Int))) (((1 : Int) , (IntKind.wrap .i64 x1)) :: (((1 : Int) , (IntKind.wrap .i64 x2)) :: (((IntKind.wrap .i64 ((5 : Int) + (Int.tmod (IntKind.wrap .i64 x0) (12 : Int)))) , (0 : Int)) :: (((3 : Int) , (0 : Int)) :: (((24 : Int) , (0 : Int)) :: (((1 : Int) , (8 : Int)) :: (((14 : Int) , (0 : Int)) :: (((26 : Int) , (0 : Int)) :: ([] : List (((Sh.int IntKind.i64).pair (Sh.int IntKind.i64)).T)))))))))) ([] : List (Sh.str.T))
    (fun i7205 i7206 i7207 l7208 l7209 l7210 => br (!(decide (i7207 = (0 : Int))))
     (br (decide ((400 : Int) < (IntKind.wrap .i64 ((IntKind.wrap .i64 x3) + (8 : Int)))))
      (k0 (decide (i7207 = (1 : Int))))
      (k0 false))
     (br (!(decide ((IntKind.wrap .i64 ((5 : Int) + (Int.tmod (IntKind.wrap .i64 x0) (12 : Int)))) = (8 : Int))))
      (br (decide ((IntKind.wrap .i64 ((5 : Int) + (Int.tmod (IntKind.wrap .i64 x0) (12 : Int)))) = (9 : Int)))
       (br (decide (x2 = (0 : Int)))
        (br (decide (i7205 = (2 : Int)))
         (k0 (decide ((Nat.cast (List.length l7210) : Int) = (0 : Int))))
         (k0 false))
        (br (inB (IntKind.wrap .i64 ((IntKind.wrap .i64 ((5 : Int) + (Int.tmod (IntKind.wrap .i64 x0) (12 : Int)))) - (5 : Int))) (12 : Nat))
         (br (decide ((Int.toNat (IntKind.wrap .i64 ((IntKind.wrap .i64 ((5 : Int) + (Int.tmod (IntKind.wrap .i64 x0) (12 : Int)))) - (5 : Int)))) < (12 : Nat)))
          (c0 (List.getD ((7 : Int) :: ((8 : Int) :: ((9 : Int) :: ((10 : Int) :: ((11 : Int) :: ((4 : Int) :: ((5 : Int) :: ((6 : Int) :: ((12 : Int) :: ((13 : Int) :: ((14 : Int) :: ((15 : Int) :: ([] : List ((Sh.int IntKind.i64).T)))))))))))))) (Int.toNat (IntKind.wrap .i64 ((IntKind.wrap .i64 ((5 : Int) + (Int.tmod (IntKind.wrap .i64 x0) (12 : Int)))) - (5 : Int)))) (0 : Int)) (16 : Int) x1 x2
           (fun i7216 i7217 => br (decide (i7205 = (1 : Int)))
            (br (decide ((Nat.cast (List.length l7210) : Int) = (1 : Int)))
             (br (inB (0 : Int) (List.length l7210))
              (br (decide ((0 : Nat) < (List.length l7210)))
               (br ((decide ((List.getD l7210 (0 : Nat) (false , (0 : Int))).1 = true)) && (decide ((List.getD l7210 (0 : Nat) (false , (0 : Int))).2 = (band .u16 i7216 (255 : Int)))))
                (k0 (decide (i7206 = (shrI .u16 i7216 (8 : Int)))))
                (k0 false))
               (none))
              (none))
             (k0 false))
            (k0 false)))
          (none))
         (none)))
       (br (inB (IntKind.wrap .i64 ((IntKind.wrap .i64 ((5 : Int) + (Int.tmod (IntKind.wrap .i64 x0) (12 : Int)))) - (5 : Int))) (12 : Nat))
        (br (decide ((Int.toNat (IntKind.wrap .i64 ((IntKind.wrap .i64 ((5 : Int) + (Int.tmod (IntKind.wrap .i64 x0) (12 : Int)))) - (5 : Int)))) < (12 : Nat)))
         (c0 (List.getD ((7 : Int) :: ((8 : Int) :: ((9 : Int) :: ((10 : Int) :: ((11 : Int) :: ((4 : Int) :: ((5 : Int) :: ((6 : Int) :: ((12 : Int) :: ((13 : Int) :: ((14 : Int) :: ((15 : Int) :: ([] : List ((Sh.int IntKind.i64).T)))))))))))))) (Int.toNat (IntKind.wrap .i64 ((IntKind.wrap .i64 ((5 : Int) + (Int.tmod (IntKind.wrap .i64 x0) (12 : Int)))) - (5 : Int)))) (0 : Int)) (16 : Int) x1 x2
          (fun i7218 i7219 => br (decide (i7205 = (1 : Int)))
           (br (decide ((Nat.cast (List.length l7210) : Int) = (1 : Int)))
            (br (inB (0 : Int) (List.length l7210))
             (br (decide ((0 : Nat) < (List.length l7210)))
              (br ((decide ((List.getD l7210 (0 : Nat) (false , (0 : Int))).1 = true)) && (decide ((List.getD l7210 (0 : Nat) (false , (0 : Int))).2 = (band .u16 i7218 (255 : Int)))))
               (k0 (decide (i7206 = (shrI .u16 i7218 (8 : Int)))))
               (k0 false))
              (none))
             (none))
            (k0 false))
           (k0 false)))
         (none))
        (none)))
      (br (decide (x2 = (0 : Int)))
       (br (decide (i7205 = (2 : Int)))
        (k0 (decide ((Nat.cast (List.length l7210) : Int) = (0 : Int))))
        (k0 false))
       (br (inB (IntKind.wrap .i64 ((IntKind.wrap .i64 ((5 : Int) + (Int.tmod (IntKind.wrap .i64 x0) (12 : Int)))) - (5 : Int))) (12 : Nat))
        (br (decide ((Int.toNat (IntKind.wrap .i64 ((IntKind.wrap .i64 ((5 : Int) + (Int.tmod (IntKind.wrap .i64 x0) (12 : Int)))) - (5 : Int)))) < (12 : Nat)))
         (c0 (List.getD ((7 : Int) :: ((8 : Int) :: ((9 : Int) :: ((10 : Int) :: ((11 : Int) :: ((4 : Int) :: ((5 : Int) :: ((6 : Int) :: ((12 : Int) :: ((13 : Int) :: ((14 : Int) :: ((15 : Int) :: ([] : List ((Sh.int IntKind.i64).T)))))))))))))) (Int.toNat (IntKind.wrap .i64 ((IntKind.wrap .i64 ((5 : Int) + (Int.tmod (IntKind.wrap .i64 x0) (12 : Int)))) - (5 : Int)))) (0 : Int)) (16 : Int) x1 x2
          (fun i7220 i7221 => br (decide (i7205 = (1 : Int)))
           (br (decide ((Nat.cast (List.length l7210) : Int) = (1 : Int)))
            (br (inB (0 : Int) (List.length l7210))
             (br (decide ((0 : Nat) < (List.length l7210)))
              (br ((decide ((List.getD l7210 (0 : Nat) (false , (0 : Int))).1 = true)) && (decide ((List.getD l7210 (0 : Nat) (false , (0 : Int))).2 = (band .u16 i7220 (255 : Int)))))
               (k0 (decide (i7206 = (shrI .u16 i7220 (8 : Int)))))
               (k0 false))
              (none))
             (none))
            (k0 false))
           (k0 false)))
         (none))
        (none)))))))
noncomputable def law16_RunSums (N : Nat) {R : Type} (x0 : Int) (x1 : Int) (x2 : Int) (x3 : Int) (k0 : (Bool) → Option R) : Option R := law16_RunSums_T N (@ref1_Do N) (@run_Run_bc75 N) (@run_Run_99d4 N) (@law16_awake N) x0 x1 x2 x3 k0
end Go.Proofs.YthdgncnbnallcaaGreat
